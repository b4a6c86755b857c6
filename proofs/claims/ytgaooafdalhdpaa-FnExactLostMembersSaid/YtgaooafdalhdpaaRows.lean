/-
  No cell of these rows narrows 'for every input' (looked for: loops, veiled, ifaces, maps, wideKeys, modest, calm, conditions, laid).
  DERIVED. THE GIVEN ROWS OF THIS SEAT. 14 by the template 'for every input the law returns true; each argument reads behind the call as it read before'; 0 by the template 'total and deterministic' (their statements: YtgaooafdalhdpaaTotals.lean).
  GIVEN WITH THE SEED: the statements are not yours to turn. If you find one false, say at which input.
  Laid BY PROGRAM, IN A SANDBOX (cutbox-rows.mjs): the forced cells as the released guide's own fill.sh prints them over the translation ad09dbbb2406c416… (all of the seat's roots in one cut). By AI agents, Wed Nov 11 2026. No macro, syntax, notation, axiom, sorry.
-/
import Derived.Test.YtgaooafdalhdpaaChecked
import GoSem.Claim
import GoSem.ClaimJoined
import GoSem.ClaimMapViews
import Derived.JoinedTies
import Derived.KernelRfl
namespace Go.Proofs.Ytgaooafdalhdpaa
/- THE CELL 'sum', in the pinned program and in every row, IS THE sha256 OF THE DUMP (.gsa) THAT YtgaooafdalhdpaaProg.lean LOADS. Nothing in Lean hashes anything: it is a label: what it is worth is what the hold of that sum in a sandbox is worth. -/
noncomputable def Try.pinned : Pinned := { name := "ytgaooafdalhdpaa", sum := "ad09dbbb2406c416fb9f7504371e922ed477762f453d81d228c6059ca9d46ca2", checked := Try.checked }
namespace Rows
def none {H : Type} : Left H := { results := [], args := [] }

/-- 'laws.FnExactValidVoices': WHATEVER THE INPUT: true; the input reads as it did. -/
def fnExactValidVoicesSpec : ChangeSpec := { name := "fnExactValidVoices", fn := fun _ => fun
  | [d] => { results := [.lit (.bool true)], args := [d] }
  | _ => none }
def fnExactValidVoicesRow : OpenClaim := { program := "ytgaooafdalhdpaa", sum := "ad09dbbb2406c416fb9f7504371e922ed477762f453d81d228c6059ca9d46ca2", func := "loop.example/g01095/laws.FnExactValidVoices", spec := "fnExactValidVoices", apart := false }
def FnExactValidVoicesSaid : Prop := fnExactValidVoicesRow.holds Try.pinned (OpenSpec.ofChange fnExactValidVoicesSpec)

/-- ITS FALSE NEIGHBOUR: 'it returns false'. Refute it at one input. -/
def fnExactValidVoicesWrong : ChangeSpec := { name := "fnExactValidVoices", fn := fun _ => fun
  | [d] => { results := [.lit (.bool false)], args := [d] }
  | _ => none }
def FnExactValidVoicesWrongFalsely : Prop := fnExactValidVoicesRow.holds Try.pinned (OpenSpec.ofChange fnExactValidVoicesWrong)

/-- 'laws.FnExactIsPath': WHATEVER THE INPUT: true; the input reads as it did. -/
def fnExactIsPathSpec : ChangeSpec := { name := "fnExactIsPath", fn := fun _ => fun
  | [d1, d2] => { results := [.lit (.bool true)], args := [d1, d2] }
  | _ => none }
def fnExactIsPathRow : OpenClaim := { program := "ytgaooafdalhdpaa", sum := "ad09dbbb2406c416fb9f7504371e922ed477762f453d81d228c6059ca9d46ca2", func := "loop.example/g01095/laws.FnExactIsPath", spec := "fnExactIsPath", apart := false }
def FnExactIsPathSaid : Prop := fnExactIsPathRow.holds Try.pinned (OpenSpec.ofChange fnExactIsPathSpec)

/-- ITS FALSE NEIGHBOUR: 'it returns false'. Refute it at one input. -/
def fnExactIsPathWrong : ChangeSpec := { name := "fnExactIsPath", fn := fun _ => fun
  | [d1, d2] => { results := [.lit (.bool false)], args := [d1, d2] }
  | _ => none }
def FnExactIsPathWrongFalsely : Prop := fnExactIsPathRow.holds Try.pinned (OpenSpec.ofChange fnExactIsPathWrong)

/-- 'laws.FnExactSilenceMember': WHATEVER THE INPUT: true; the input reads as it did. -/
def fnExactSilenceMemberSpec : ChangeSpec := { name := "fnExactSilenceMember", fn := fun _ => fun
  | [d1, d2] => { results := [.lit (.bool true)], args := [d1, d2] }
  | _ => none }
def fnExactSilenceMemberRow : OpenClaim := { program := "ytgaooafdalhdpaa", sum := "ad09dbbb2406c416fb9f7504371e922ed477762f453d81d228c6059ca9d46ca2", func := "loop.example/g01095/laws.FnExactSilenceMember", spec := "fnExactSilenceMember", apart := false }
def FnExactSilenceMemberSaid : Prop := fnExactSilenceMemberRow.holds Try.pinned (OpenSpec.ofChange fnExactSilenceMemberSpec)

/-- ITS FALSE NEIGHBOUR: 'it returns false'. Refute it at one input. -/
def fnExactSilenceMemberWrong : ChangeSpec := { name := "fnExactSilenceMember", fn := fun _ => fun
  | [d1, d2] => { results := [.lit (.bool false)], args := [d1, d2] }
  | _ => none }
def FnExactSilenceMemberWrongFalsely : Prop := fnExactSilenceMemberRow.holds Try.pinned (OpenSpec.ofChange fnExactSilenceMemberWrong)

/-- 'laws.FnExactRanksOf': WHATEVER THE INPUT: true; the input reads as it did. -/
def fnExactRanksOfSpec : ChangeSpec := { name := "fnExactRanksOf", fn := fun _ => fun
  | [d1, d2] => { results := [.lit (.bool true)], args := [d1, d2] }
  | _ => none }
def fnExactRanksOfRow : OpenClaim := { program := "ytgaooafdalhdpaa", sum := "ad09dbbb2406c416fb9f7504371e922ed477762f453d81d228c6059ca9d46ca2", func := "loop.example/g01095/laws.FnExactRanksOf", spec := "fnExactRanksOf", apart := false }
def FnExactRanksOfSaid : Prop := fnExactRanksOfRow.holds Try.pinned (OpenSpec.ofChange fnExactRanksOfSpec)

/-- ITS FALSE NEIGHBOUR: 'it returns false'. Refute it at one input. -/
def fnExactRanksOfWrong : ChangeSpec := { name := "fnExactRanksOf", fn := fun _ => fun
  | [d1, d2] => { results := [.lit (.bool false)], args := [d1, d2] }
  | _ => none }
def FnExactRanksOfWrongFalsely : Prop := fnExactRanksOfRow.holds Try.pinned (OpenSpec.ofChange fnExactRanksOfWrong)

/-- 'laws.FnExactFirstCircles': WHATEVER THE INPUT: true; the input reads as it did. -/
def fnExactFirstCirclesSpec : ChangeSpec := { name := "fnExactFirstCircles", fn := fun _ => fun
  | [d] => { results := [.lit (.bool true)], args := [d] }
  | _ => none }
def fnExactFirstCirclesRow : OpenClaim := { program := "ytgaooafdalhdpaa", sum := "ad09dbbb2406c416fb9f7504371e922ed477762f453d81d228c6059ca9d46ca2", func := "loop.example/g01095/laws.FnExactFirstCircles", spec := "fnExactFirstCircles", apart := false }
def FnExactFirstCirclesSaid : Prop := fnExactFirstCirclesRow.holds Try.pinned (OpenSpec.ofChange fnExactFirstCirclesSpec)

/-- ITS FALSE NEIGHBOUR: 'it returns false'. Refute it at one input. -/
def fnExactFirstCirclesWrong : ChangeSpec := { name := "fnExactFirstCircles", fn := fun _ => fun
  | [d] => { results := [.lit (.bool false)], args := [d] }
  | _ => none }
def FnExactFirstCirclesWrongFalsely : Prop := fnExactFirstCirclesRow.holds Try.pinned (OpenSpec.ofChange fnExactFirstCirclesWrong)

/-- 'laws.FnExactPathsOf': WHATEVER THE INPUT: true; the input reads as it did. -/
def fnExactPathsOfSpec : ChangeSpec := { name := "fnExactPathsOf", fn := fun _ => fun
  | [d1, d2] => { results := [.lit (.bool true)], args := [d1, d2] }
  | _ => none }
def fnExactPathsOfRow : OpenClaim := { program := "ytgaooafdalhdpaa", sum := "ad09dbbb2406c416fb9f7504371e922ed477762f453d81d228c6059ca9d46ca2", func := "loop.example/g01095/laws.FnExactPathsOf", spec := "fnExactPathsOf", recurses := true, apart := false }
def FnExactPathsOfSaid : Prop := fnExactPathsOfRow.holds Try.pinned (OpenSpec.ofChange fnExactPathsOfSpec)

/-- ITS FALSE NEIGHBOUR: 'it returns false'. Refute it at one input. -/
def fnExactPathsOfWrong : ChangeSpec := { name := "fnExactPathsOf", fn := fun _ => fun
  | [d1, d2] => { results := [.lit (.bool false)], args := [d1, d2] }
  | _ => none }
def FnExactPathsOfWrongFalsely : Prop := fnExactPathsOfRow.holds Try.pinned (OpenSpec.ofChange fnExactPathsOfWrong)

/-- 'laws.FnExactComparePaths': WHATEVER THE INPUT: true; the input reads as it did. -/
def fnExactComparePathsSpec : ChangeSpec := { name := "fnExactComparePaths", fn := fun _ => fun
  | [d1, d2, d3, d4] => { results := [.lit (.bool true)], args := [d1, d2, d3, d4] }
  | _ => none }
def fnExactComparePathsRow : OpenClaim := { program := "ytgaooafdalhdpaa", sum := "ad09dbbb2406c416fb9f7504371e922ed477762f453d81d228c6059ca9d46ca2", func := "loop.example/g01095/laws.FnExactComparePaths", spec := "fnExactComparePaths", apart := false }
def FnExactComparePathsSaid : Prop := fnExactComparePathsRow.holds Try.pinned (OpenSpec.ofChange fnExactComparePathsSpec)

/-- ITS FALSE NEIGHBOUR: 'it returns false'. Refute it at one input. -/
def fnExactComparePathsWrong : ChangeSpec := { name := "fnExactComparePaths", fn := fun _ => fun
  | [d1, d2, d3, d4] => { results := [.lit (.bool false)], args := [d1, d2, d3, d4] }
  | _ => none }
def FnExactComparePathsWrongFalsely : Prop := fnExactComparePathsRow.holds Try.pinned (OpenSpec.ofChange fnExactComparePathsWrong)

/-- 'laws.FnExactLostMembers': WHATEVER THE INPUT: true; the input reads as it did. -/
def fnExactLostMembersSpec : ChangeSpec := { name := "fnExactLostMembers", fn := fun _ => fun
  | [d] => { results := [.lit (.bool true)], args := [d] }
  | _ => none }
def fnExactLostMembersRow : OpenClaim := { program := "ytgaooafdalhdpaa", sum := "ad09dbbb2406c416fb9f7504371e922ed477762f453d81d228c6059ca9d46ca2", func := "loop.example/g01095/laws.FnExactLostMembers", spec := "fnExactLostMembers", recurses := true, apart := false }
def FnExactLostMembersSaid : Prop := fnExactLostMembersRow.holds Try.pinned (OpenSpec.ofChange fnExactLostMembersSpec)

/-- ITS FALSE NEIGHBOUR: 'it returns false'. Refute it at one input. -/
def fnExactLostMembersWrong : ChangeSpec := { name := "fnExactLostMembers", fn := fun _ => fun
  | [d] => { results := [.lit (.bool false)], args := [d] }
  | _ => none }
def FnExactLostMembersWrongFalsely : Prop := fnExactLostMembersRow.holds Try.pinned (OpenSpec.ofChange fnExactLostMembersWrong)

/-- 'laws.FnExactPathOf': WHATEVER THE INPUT: true; the input reads as it did. -/
def fnExactPathOfSpec : ChangeSpec := { name := "fnExactPathOf", fn := fun _ => fun
  | [d1, d2, d3] => { results := [.lit (.bool true)], args := [d1, d2, d3] }
  | _ => none }
def fnExactPathOfRow : OpenClaim := { program := "ytgaooafdalhdpaa", sum := "ad09dbbb2406c416fb9f7504371e922ed477762f453d81d228c6059ca9d46ca2", func := "loop.example/g01095/laws.FnExactPathOf", spec := "fnExactPathOf", unfollowed := true, recurses := true, apart := false }
def FnExactPathOfSaid : Prop := fnExactPathOfRow.holds Try.pinned (OpenSpec.ofChange fnExactPathOfSpec)

/-- ITS FALSE NEIGHBOUR: 'it returns false'. Refute it at one input. -/
def fnExactPathOfWrong : ChangeSpec := { name := "fnExactPathOf", fn := fun _ => fun
  | [d1, d2, d3] => { results := [.lit (.bool false)], args := [d1, d2, d3] }
  | _ => none }
def FnExactPathOfWrongFalsely : Prop := fnExactPathOfRow.holds Try.pinned (OpenSpec.ofChange fnExactPathOfWrong)

/-- 'laws.FnExactPassingThrough': WHATEVER THE INPUT: true; the input reads as it did. -/
def fnExactPassingThroughSpec : ChangeSpec := { name := "fnExactPassingThrough", fn := fun _ => fun
  | [d1, d2, d3] => { results := [.lit (.bool true)], args := [d1, d2, d3] }
  | _ => none }
def fnExactPassingThroughRow : OpenClaim := { program := "ytgaooafdalhdpaa", sum := "ad09dbbb2406c416fb9f7504371e922ed477762f453d81d228c6059ca9d46ca2", func := "loop.example/g01095/laws.FnExactPassingThrough", spec := "fnExactPassingThrough", unfollowed := true, recurses := true, apart := false }
def FnExactPassingThroughSaid : Prop := fnExactPassingThroughRow.holds Try.pinned (OpenSpec.ofChange fnExactPassingThroughSpec)

/-- ITS FALSE NEIGHBOUR: 'it returns false'. Refute it at one input. -/
def fnExactPassingThroughWrong : ChangeSpec := { name := "fnExactPassingThrough", fn := fun _ => fun
  | [d1, d2, d3] => { results := [.lit (.bool false)], args := [d1, d2, d3] }
  | _ => none }
def FnExactPassingThroughWrongFalsely : Prop := fnExactPassingThroughRow.holds Try.pinned (OpenSpec.ofChange fnExactPassingThroughWrong)

/-- 'laws.FnExactSettleVoices': WHATEVER THE INPUT: true; the input reads as it did. -/
def fnExactSettleVoicesSpec : ChangeSpec := { name := "fnExactSettleVoices", fn := fun _ => fun
  | [d1, d2] => { results := [.lit (.bool true)], args := [d1, d2] }
  | _ => none }
def fnExactSettleVoicesRow : OpenClaim := { program := "ytgaooafdalhdpaa", sum := "ad09dbbb2406c416fb9f7504371e922ed477762f453d81d228c6059ca9d46ca2", func := "loop.example/g01095/laws.FnExactSettleVoices", spec := "fnExactSettleVoices", unfollowed := true, recurses := true, apart := false }
def FnExactSettleVoicesSaid : Prop := fnExactSettleVoicesRow.holds Try.pinned (OpenSpec.ofChange fnExactSettleVoicesSpec)

/-- ITS FALSE NEIGHBOUR: 'it returns false'. Refute it at one input. -/
def fnExactSettleVoicesWrong : ChangeSpec := { name := "fnExactSettleVoices", fn := fun _ => fun
  | [d1, d2] => { results := [.lit (.bool false)], args := [d1, d2] }
  | _ => none }
def FnExactSettleVoicesWrongFalsely : Prop := fnExactSettleVoicesRow.holds Try.pinned (OpenSpec.ofChange fnExactSettleVoicesWrong)

/-- 'laws.FnExactWeightsOf': WHATEVER THE INPUT: true; the input reads as it did. -/
def fnExactWeightsOfSpec : ChangeSpec := { name := "fnExactWeightsOf", fn := fun _ => fun
  | [d1, d2] => { results := [.lit (.bool true)], args := [d1, d2] }
  | _ => none }
def fnExactWeightsOfRow : OpenClaim := { program := "ytgaooafdalhdpaa", sum := "ad09dbbb2406c416fb9f7504371e922ed477762f453d81d228c6059ca9d46ca2", func := "loop.example/g01095/laws.FnExactWeightsOf", spec := "fnExactWeightsOf", unfollowed := true, recurses := true, apart := false }
def FnExactWeightsOfSaid : Prop := fnExactWeightsOfRow.holds Try.pinned (OpenSpec.ofChange fnExactWeightsOfSpec)

/-- ITS FALSE NEIGHBOUR: 'it returns false'. Refute it at one input. -/
def fnExactWeightsOfWrong : ChangeSpec := { name := "fnExactWeightsOf", fn := fun _ => fun
  | [d1, d2] => { results := [.lit (.bool false)], args := [d1, d2] }
  | _ => none }
def FnExactWeightsOfWrongFalsely : Prop := fnExactWeightsOfRow.holds Try.pinned (OpenSpec.ofChange fnExactWeightsOfWrong)

/-- 'laws.FnExactCapProof': WHATEVER THE INPUT: true; the input reads as it did. -/
def fnExactCapProofSpec : ChangeSpec := { name := "fnExactCapProof", fn := fun _ => fun
  | [d1, d2] => { results := [.lit (.bool true)], args := [d1, d2] }
  | _ => none }
def fnExactCapProofRow : OpenClaim := { program := "ytgaooafdalhdpaa", sum := "ad09dbbb2406c416fb9f7504371e922ed477762f453d81d228c6059ca9d46ca2", func := "loop.example/g01095/laws.FnExactCapProof", spec := "fnExactCapProof", recurses := true, apart := false }
def FnExactCapProofSaid : Prop := fnExactCapProofRow.holds Try.pinned (OpenSpec.ofChange fnExactCapProofSpec)

/-- ITS FALSE NEIGHBOUR: 'it returns false'. Refute it at one input. -/
def fnExactCapProofWrong : ChangeSpec := { name := "fnExactCapProof", fn := fun _ => fun
  | [d1, d2] => { results := [.lit (.bool false)], args := [d1, d2] }
  | _ => none }
def FnExactCapProofWrongFalsely : Prop := fnExactCapProofRow.holds Try.pinned (OpenSpec.ofChange fnExactCapProofWrong)

/-- 'laws.FnExactCappedSettlement': WHATEVER THE INPUT: true; the input reads as it did. -/
def fnExactCappedSettlementSpec : ChangeSpec := { name := "fnExactCappedSettlement", fn := fun _ => fun
  | [d1, d2] => { results := [.lit (.bool true)], args := [d1, d2] }
  | _ => none }
def fnExactCappedSettlementRow : OpenClaim := { program := "ytgaooafdalhdpaa", sum := "ad09dbbb2406c416fb9f7504371e922ed477762f453d81d228c6059ca9d46ca2", func := "loop.example/g01095/laws.FnExactCappedSettlement", spec := "fnExactCappedSettlement", unfollowed := true, recurses := true, apart := false }
def FnExactCappedSettlementSaid : Prop := fnExactCappedSettlementRow.holds Try.pinned (OpenSpec.ofChange fnExactCappedSettlementSpec)

/-- ITS FALSE NEIGHBOUR: 'it returns false'. Refute it at one input. -/
def fnExactCappedSettlementWrong : ChangeSpec := { name := "fnExactCappedSettlement", fn := fun _ => fun
  | [d1, d2] => { results := [.lit (.bool false)], args := [d1, d2] }
  | _ => none }
def FnExactCappedSettlementWrongFalsely : Prop := fnExactCappedSettlementRow.holds Try.pinned (OpenSpec.ofChange fnExactCappedSettlementWrong)

/- THE SECOND FORM. 'bulk': how many values and letters a reading holds, each counted each time it is reached (what is shared counts as often as it is met; a slice's spare places count too). A statement '..UptoSaid' is the law's where the arguments, and the package variables that the reading takes, are together of bulk at most 1048576: NARROWER than '..Said'. Prove '..Said' where nothing that the law and all that it calls make is longer than what came in: it says more and counts as full. Else prove '..UptoSaid'. A law counts once. -/
mutual
def uptoBulk {H : Type} : DataW H → Nat
  | .lit (.string bytes) => bytes.length + 1
  | .lit _ => 1
  | .nil => 1
  | .ptr d => uptoBulk d + 1
  | .slice elems spare => uptoBulkAll elems + uptoBulkAll spare + 1
  | .agg parts => uptoBulkAll parts + 1
  | .iface _ d => uptoBulk d + 1
  | .map entries => uptoBulkEntries entries + 1
  | .held _ => 1
def uptoBulkAll {H : Type} : List (DataW H) → Nat
  | [] => 0
  | d :: r => uptoBulk d + uptoBulkAll r
def uptoBulkEntries {H : Type} : List (Lit × DataW H) → Nat
  | [] => 0
  | x :: r => uptoBulkEntry x + uptoBulkEntries r
def uptoBulkEntry {H : Type} : Lit × DataW H → Nat
  | (.string bytes, d) => bytes.length + uptoBulk d + 1
  | (_, d) => uptoBulk d + 1
 end
def uptoSmall : (H : Type) → List (DataW H) → Bool := fun _ ds => decide (uptoBulkAll ds ≤ 1048576)
def OpenSpec.upto (s : _root_.Go.ChangeSpec) : _root_.Go.OpenSpec := { _root_.Go.OpenSpec.ofChange s with cond := some uptoSmall }

/-- 'laws.FnExactValidVoices', WHERE WHAT IT READS IS OF BULK AT MOST 1048576: true; the input reads as it did. -/
def fnExactValidVoicesUptoRow : OpenClaim := { program := "ytgaooafdalhdpaa", sum := "ad09dbbb2406c416fb9f7504371e922ed477762f453d81d228c6059ca9d46ca2", func := "loop.example/g01095/laws.FnExactValidVoices", spec := "fnExactValidVoices", apart := false, narrowed := true }
def FnExactValidVoicesUptoSaid : Prop := fnExactValidVoicesUptoRow.holds Try.pinned (OpenSpec.upto fnExactValidVoicesSpec)

/-- 'laws.FnExactIsPath', WHERE WHAT IT READS IS OF BULK AT MOST 1048576: true; the input reads as it did. -/
def fnExactIsPathUptoRow : OpenClaim := { program := "ytgaooafdalhdpaa", sum := "ad09dbbb2406c416fb9f7504371e922ed477762f453d81d228c6059ca9d46ca2", func := "loop.example/g01095/laws.FnExactIsPath", spec := "fnExactIsPath", apart := false, narrowed := true }
def FnExactIsPathUptoSaid : Prop := fnExactIsPathUptoRow.holds Try.pinned (OpenSpec.upto fnExactIsPathSpec)

/-- 'laws.FnExactSilenceMember', WHERE WHAT IT READS IS OF BULK AT MOST 1048576: true; the input reads as it did. -/
def fnExactSilenceMemberUptoRow : OpenClaim := { program := "ytgaooafdalhdpaa", sum := "ad09dbbb2406c416fb9f7504371e922ed477762f453d81d228c6059ca9d46ca2", func := "loop.example/g01095/laws.FnExactSilenceMember", spec := "fnExactSilenceMember", apart := false, narrowed := true }
def FnExactSilenceMemberUptoSaid : Prop := fnExactSilenceMemberUptoRow.holds Try.pinned (OpenSpec.upto fnExactSilenceMemberSpec)

/-- 'laws.FnExactRanksOf', WHERE WHAT IT READS IS OF BULK AT MOST 1048576: true; the input reads as it did. -/
def fnExactRanksOfUptoRow : OpenClaim := { program := "ytgaooafdalhdpaa", sum := "ad09dbbb2406c416fb9f7504371e922ed477762f453d81d228c6059ca9d46ca2", func := "loop.example/g01095/laws.FnExactRanksOf", spec := "fnExactRanksOf", apart := false, narrowed := true }
def FnExactRanksOfUptoSaid : Prop := fnExactRanksOfUptoRow.holds Try.pinned (OpenSpec.upto fnExactRanksOfSpec)

/-- 'laws.FnExactFirstCircles', WHERE WHAT IT READS IS OF BULK AT MOST 1048576: true; the input reads as it did. -/
def fnExactFirstCirclesUptoRow : OpenClaim := { program := "ytgaooafdalhdpaa", sum := "ad09dbbb2406c416fb9f7504371e922ed477762f453d81d228c6059ca9d46ca2", func := "loop.example/g01095/laws.FnExactFirstCircles", spec := "fnExactFirstCircles", apart := false, narrowed := true }
def FnExactFirstCirclesUptoSaid : Prop := fnExactFirstCirclesUptoRow.holds Try.pinned (OpenSpec.upto fnExactFirstCirclesSpec)

/-- 'laws.FnExactPathsOf', WHERE WHAT IT READS IS OF BULK AT MOST 1048576: true; the input reads as it did. -/
def fnExactPathsOfUptoRow : OpenClaim := { program := "ytgaooafdalhdpaa", sum := "ad09dbbb2406c416fb9f7504371e922ed477762f453d81d228c6059ca9d46ca2", func := "loop.example/g01095/laws.FnExactPathsOf", spec := "fnExactPathsOf", recurses := true, apart := false, narrowed := true }
def FnExactPathsOfUptoSaid : Prop := fnExactPathsOfUptoRow.holds Try.pinned (OpenSpec.upto fnExactPathsOfSpec)

/-- 'laws.FnExactComparePaths', WHERE WHAT IT READS IS OF BULK AT MOST 1048576: true; the input reads as it did. -/
def fnExactComparePathsUptoRow : OpenClaim := { program := "ytgaooafdalhdpaa", sum := "ad09dbbb2406c416fb9f7504371e922ed477762f453d81d228c6059ca9d46ca2", func := "loop.example/g01095/laws.FnExactComparePaths", spec := "fnExactComparePaths", apart := false, narrowed := true }
def FnExactComparePathsUptoSaid : Prop := fnExactComparePathsUptoRow.holds Try.pinned (OpenSpec.upto fnExactComparePathsSpec)

/-- 'laws.FnExactLostMembers', WHERE WHAT IT READS IS OF BULK AT MOST 1048576: true; the input reads as it did. -/
def fnExactLostMembersUptoRow : OpenClaim := { program := "ytgaooafdalhdpaa", sum := "ad09dbbb2406c416fb9f7504371e922ed477762f453d81d228c6059ca9d46ca2", func := "loop.example/g01095/laws.FnExactLostMembers", spec := "fnExactLostMembers", recurses := true, apart := false, narrowed := true }
def FnExactLostMembersUptoSaid : Prop := fnExactLostMembersUptoRow.holds Try.pinned (OpenSpec.upto fnExactLostMembersSpec)

/-- 'laws.FnExactPathOf', WHERE WHAT IT READS IS OF BULK AT MOST 1048576: true; the input reads as it did. -/
def fnExactPathOfUptoRow : OpenClaim := { program := "ytgaooafdalhdpaa", sum := "ad09dbbb2406c416fb9f7504371e922ed477762f453d81d228c6059ca9d46ca2", func := "loop.example/g01095/laws.FnExactPathOf", spec := "fnExactPathOf", unfollowed := true, recurses := true, apart := false, narrowed := true }
def FnExactPathOfUptoSaid : Prop := fnExactPathOfUptoRow.holds Try.pinned (OpenSpec.upto fnExactPathOfSpec)

/-- 'laws.FnExactPassingThrough', WHERE WHAT IT READS IS OF BULK AT MOST 1048576: true; the input reads as it did. -/
def fnExactPassingThroughUptoRow : OpenClaim := { program := "ytgaooafdalhdpaa", sum := "ad09dbbb2406c416fb9f7504371e922ed477762f453d81d228c6059ca9d46ca2", func := "loop.example/g01095/laws.FnExactPassingThrough", spec := "fnExactPassingThrough", unfollowed := true, recurses := true, apart := false, narrowed := true }
def FnExactPassingThroughUptoSaid : Prop := fnExactPassingThroughUptoRow.holds Try.pinned (OpenSpec.upto fnExactPassingThroughSpec)

/-- 'laws.FnExactSettleVoices', WHERE WHAT IT READS IS OF BULK AT MOST 1048576: true; the input reads as it did. -/
def fnExactSettleVoicesUptoRow : OpenClaim := { program := "ytgaooafdalhdpaa", sum := "ad09dbbb2406c416fb9f7504371e922ed477762f453d81d228c6059ca9d46ca2", func := "loop.example/g01095/laws.FnExactSettleVoices", spec := "fnExactSettleVoices", unfollowed := true, recurses := true, apart := false, narrowed := true }
def FnExactSettleVoicesUptoSaid : Prop := fnExactSettleVoicesUptoRow.holds Try.pinned (OpenSpec.upto fnExactSettleVoicesSpec)

/-- 'laws.FnExactWeightsOf', WHERE WHAT IT READS IS OF BULK AT MOST 1048576: true; the input reads as it did. -/
def fnExactWeightsOfUptoRow : OpenClaim := { program := "ytgaooafdalhdpaa", sum := "ad09dbbb2406c416fb9f7504371e922ed477762f453d81d228c6059ca9d46ca2", func := "loop.example/g01095/laws.FnExactWeightsOf", spec := "fnExactWeightsOf", unfollowed := true, recurses := true, apart := false, narrowed := true }
def FnExactWeightsOfUptoSaid : Prop := fnExactWeightsOfUptoRow.holds Try.pinned (OpenSpec.upto fnExactWeightsOfSpec)

/-- 'laws.FnExactCapProof', WHERE WHAT IT READS IS OF BULK AT MOST 1048576: true; the input reads as it did. -/
def fnExactCapProofUptoRow : OpenClaim := { program := "ytgaooafdalhdpaa", sum := "ad09dbbb2406c416fb9f7504371e922ed477762f453d81d228c6059ca9d46ca2", func := "loop.example/g01095/laws.FnExactCapProof", spec := "fnExactCapProof", recurses := true, apart := false, narrowed := true }
def FnExactCapProofUptoSaid : Prop := fnExactCapProofUptoRow.holds Try.pinned (OpenSpec.upto fnExactCapProofSpec)

/-- 'laws.FnExactCappedSettlement', WHERE WHAT IT READS IS OF BULK AT MOST 1048576: true; the input reads as it did. -/
def fnExactCappedSettlementUptoRow : OpenClaim := { program := "ytgaooafdalhdpaa", sum := "ad09dbbb2406c416fb9f7504371e922ed477762f453d81d228c6059ca9d46ca2", func := "loop.example/g01095/laws.FnExactCappedSettlement", spec := "fnExactCappedSettlement", unfollowed := true, recurses := true, apart := false, narrowed := true }
def FnExactCappedSettlementUptoSaid : Prop := fnExactCappedSettlementUptoRow.holds Try.pinned (OpenSpec.upto fnExactCappedSettlementSpec)

end Rows
end Go.Proofs.Ytgaooafdalhdpaa
