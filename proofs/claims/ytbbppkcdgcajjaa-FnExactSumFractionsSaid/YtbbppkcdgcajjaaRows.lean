/-
  No cell of these rows narrows 'for every input' (looked for: loops, veiled, ifaces, maps, wideKeys, modest, calm, conditions, laid).
  DERIVED. THE GIVEN ROWS OF THIS SEAT. 17 by the template 'for every input the law returns true; each argument reads behind the call as it read before'; 0 by the template 'total and deterministic' (their statements: YtbbppkcdgcajjaaTotals.lean).
  GIVEN WITH THE SEED: the statements are not yours to turn. If you find one false, say at which input.
  Laid BY PROGRAM, IN A SANDBOX (cutbox-rows.mjs): the forced cells as the released guide's own fill.sh prints them over the translation 133c2c1111a77cc7… (all of the seat's roots in one cut). By AI agents, Wed Nov 11 2026. No macro, syntax, notation, axiom, sorry.
-/
import Derived.Test.YtbbppkcdgcajjaaChecked
import GoSem.Claim
import GoSem.ClaimJoined
import GoSem.ClaimMapViews
import Derived.JoinedTies
import Derived.KernelRfl
namespace Go.Proofs.Ytbbppkcdgcajjaa
/- THE CELL 'sum', in the pinned program and in every row, IS THE sha256 OF THE DUMP (.gsa) THAT YtbbppkcdgcajjaaProg.lean LOADS. Nothing in Lean hashes anything: it is a label: what it is worth is what the hold of that sum in a sandbox is worth. -/
noncomputable def Try.pinned : Pinned := { name := "ytbbppkcdgcajjaa", sum := "133c2c1111a77cc78feb5c5380bbf0220e0f7fc0c40555c8f8afac3b580a8c53", checked := Try.checked }
namespace Rows
def none {H : Type} : Left H := { results := [], args := [] }

/-- 'laws.FnExactPathOf': WHATEVER THE INPUT: true; the input reads as it did. -/
def fnExactPathOfSpec : ChangeSpec := { name := "fnExactPathOf", fn := fun _ => fun
  | [d1, d2, d3] => { results := [.lit (.bool true)], args := [d1, d2, d3] }
  | _ => none }
def fnExactPathOfRow : OpenClaim := { program := "ytbbppkcdgcajjaa", sum := "133c2c1111a77cc78feb5c5380bbf0220e0f7fc0c40555c8f8afac3b580a8c53", func := "loop.example/g01095/laws.FnExactPathOf", spec := "fnExactPathOf", unfollowed := true, recurses := true, apart := false }
def FnExactPathOfSaid : Prop := fnExactPathOfRow.holds Try.pinned (OpenSpec.ofChange fnExactPathOfSpec)

/-- ITS FALSE NEIGHBOUR: 'it returns false'. Refute it at one input. -/
def fnExactPathOfWrong : ChangeSpec := { name := "fnExactPathOf", fn := fun _ => fun
  | [d1, d2, d3] => { results := [.lit (.bool false)], args := [d1, d2, d3] }
  | _ => none }
def FnExactPathOfWrongFalsely : Prop := fnExactPathOfRow.holds Try.pinned (OpenSpec.ofChange fnExactPathOfWrong)

/-- 'laws.FnExactPassingThrough': WHATEVER THE INPUT: true; the input reads as it did. -/
def fnExactPassingThroughSpec : ChangeSpec := { name := "fnExactPassingThrough", fn := fun _ => fun
  | [d1, d2, d3] => { results := [.lit (.bool true)], args := [d1, d2, d3] }
  | _ => none }
def fnExactPassingThroughRow : OpenClaim := { program := "ytbbppkcdgcajjaa", sum := "133c2c1111a77cc78feb5c5380bbf0220e0f7fc0c40555c8f8afac3b580a8c53", func := "loop.example/g01095/laws.FnExactPassingThrough", spec := "fnExactPassingThrough", unfollowed := true, recurses := true, apart := false }
def FnExactPassingThroughSaid : Prop := fnExactPassingThroughRow.holds Try.pinned (OpenSpec.ofChange fnExactPassingThroughSpec)

/-- ITS FALSE NEIGHBOUR: 'it returns false'. Refute it at one input. -/
def fnExactPassingThroughWrong : ChangeSpec := { name := "fnExactPassingThrough", fn := fun _ => fun
  | [d1, d2, d3] => { results := [.lit (.bool false)], args := [d1, d2, d3] }
  | _ => none }
def FnExactPassingThroughWrongFalsely : Prop := fnExactPassingThroughRow.holds Try.pinned (OpenSpec.ofChange fnExactPassingThroughWrong)

/-- 'laws.FnExactSettleVoices': WHATEVER THE INPUT: true; the input reads as it did. -/
def fnExactSettleVoicesSpec : ChangeSpec := { name := "fnExactSettleVoices", fn := fun _ => fun
  | [d1, d2] => { results := [.lit (.bool true)], args := [d1, d2] }
  | _ => none }
def fnExactSettleVoicesRow : OpenClaim := { program := "ytbbppkcdgcajjaa", sum := "133c2c1111a77cc78feb5c5380bbf0220e0f7fc0c40555c8f8afac3b580a8c53", func := "loop.example/g01095/laws.FnExactSettleVoices", spec := "fnExactSettleVoices", unfollowed := true, recurses := true, apart := false }
def FnExactSettleVoicesSaid : Prop := fnExactSettleVoicesRow.holds Try.pinned (OpenSpec.ofChange fnExactSettleVoicesSpec)

/-- ITS FALSE NEIGHBOUR: 'it returns false'. Refute it at one input. -/
def fnExactSettleVoicesWrong : ChangeSpec := { name := "fnExactSettleVoices", fn := fun _ => fun
  | [d1, d2] => { results := [.lit (.bool false)], args := [d1, d2] }
  | _ => none }
def FnExactSettleVoicesWrongFalsely : Prop := fnExactSettleVoicesRow.holds Try.pinned (OpenSpec.ofChange fnExactSettleVoicesWrong)

/-- 'laws.FnExactWeightsOf': WHATEVER THE INPUT: true; the input reads as it did. -/
def fnExactWeightsOfSpec : ChangeSpec := { name := "fnExactWeightsOf", fn := fun _ => fun
  | [d1, d2] => { results := [.lit (.bool true)], args := [d1, d2] }
  | _ => none }
def fnExactWeightsOfRow : OpenClaim := { program := "ytbbppkcdgcajjaa", sum := "133c2c1111a77cc78feb5c5380bbf0220e0f7fc0c40555c8f8afac3b580a8c53", func := "loop.example/g01095/laws.FnExactWeightsOf", spec := "fnExactWeightsOf", unfollowed := true, recurses := true, apart := false }
def FnExactWeightsOfSaid : Prop := fnExactWeightsOfRow.holds Try.pinned (OpenSpec.ofChange fnExactWeightsOfSpec)

/-- ITS FALSE NEIGHBOUR: 'it returns false'. Refute it at one input. -/
def fnExactWeightsOfWrong : ChangeSpec := { name := "fnExactWeightsOf", fn := fun _ => fun
  | [d1, d2] => { results := [.lit (.bool false)], args := [d1, d2] }
  | _ => none }
def FnExactWeightsOfWrongFalsely : Prop := fnExactWeightsOfRow.holds Try.pinned (OpenSpec.ofChange fnExactWeightsOfWrong)

/-- 'laws.FnExactCapProof': WHATEVER THE INPUT: true; the input reads as it did. -/
def fnExactCapProofSpec : ChangeSpec := { name := "fnExactCapProof", fn := fun _ => fun
  | [d1, d2] => { results := [.lit (.bool true)], args := [d1, d2] }
  | _ => none }
def fnExactCapProofRow : OpenClaim := { program := "ytbbppkcdgcajjaa", sum := "133c2c1111a77cc78feb5c5380bbf0220e0f7fc0c40555c8f8afac3b580a8c53", func := "loop.example/g01095/laws.FnExactCapProof", spec := "fnExactCapProof", recurses := true, apart := false }
def FnExactCapProofSaid : Prop := fnExactCapProofRow.holds Try.pinned (OpenSpec.ofChange fnExactCapProofSpec)

/-- ITS FALSE NEIGHBOUR: 'it returns false'. Refute it at one input. -/
def fnExactCapProofWrong : ChangeSpec := { name := "fnExactCapProof", fn := fun _ => fun
  | [d1, d2] => { results := [.lit (.bool false)], args := [d1, d2] }
  | _ => none }
def FnExactCapProofWrongFalsely : Prop := fnExactCapProofRow.holds Try.pinned (OpenSpec.ofChange fnExactCapProofWrong)

/-- 'laws.FnExactCappedSettlement': WHATEVER THE INPUT: true; the input reads as it did. -/
def fnExactCappedSettlementSpec : ChangeSpec := { name := "fnExactCappedSettlement", fn := fun _ => fun
  | [d1, d2] => { results := [.lit (.bool true)], args := [d1, d2] }
  | _ => none }
def fnExactCappedSettlementRow : OpenClaim := { program := "ytbbppkcdgcajjaa", sum := "133c2c1111a77cc78feb5c5380bbf0220e0f7fc0c40555c8f8afac3b580a8c53", func := "loop.example/g01095/laws.FnExactCappedSettlement", spec := "fnExactCappedSettlement", unfollowed := true, recurses := true, apart := false }
def FnExactCappedSettlementSaid : Prop := fnExactCappedSettlementRow.holds Try.pinned (OpenSpec.ofChange fnExactCappedSettlementSpec)

/-- ITS FALSE NEIGHBOUR: 'it returns false'. Refute it at one input. -/
def fnExactCappedSettlementWrong : ChangeSpec := { name := "fnExactCappedSettlement", fn := fun _ => fun
  | [d1, d2] => { results := [.lit (.bool false)], args := [d1, d2] }
  | _ => none }
def FnExactCappedSettlementWrongFalsely : Prop := fnExactCappedSettlementRow.holds Try.pinned (OpenSpec.ofChange fnExactCappedSettlementWrong)

/-- 'laws.FnExactValidElection': WHATEVER THE INPUT: true; the input reads as it did. -/
def fnExactValidElectionSpec : ChangeSpec := { name := "fnExactValidElection", fn := fun _ => fun
  | [d] => { results := [.lit (.bool true)], args := [d] }
  | _ => none }
def fnExactValidElectionRow : OpenClaim := { program := "ytbbppkcdgcajjaa", sum := "133c2c1111a77cc78feb5c5380bbf0220e0f7fc0c40555c8f8afac3b580a8c53", func := "loop.example/g01095/laws.FnExactValidElection", spec := "fnExactValidElection", unfollowed := true, recurses := true, apart := false }
def FnExactValidElectionSaid : Prop := fnExactValidElectionRow.holds Try.pinned (OpenSpec.ofChange fnExactValidElectionSpec)

/-- ITS FALSE NEIGHBOUR: 'it returns false'. Refute it at one input. -/
def fnExactValidElectionWrong : ChangeSpec := { name := "fnExactValidElection", fn := fun _ => fun
  | [d] => { results := [.lit (.bool false)], args := [d] }
  | _ => none }
def FnExactValidElectionWrongFalsely : Prop := fnExactValidElectionRow.holds Try.pinned (OpenSpec.ofChange fnExactValidElectionWrong)

/-- 'laws.FnExactCostOf': WHATEVER THE INPUT: true; the input reads as it did. -/
def fnExactCostOfSpec : ChangeSpec := { name := "fnExactCostOf", fn := fun _ => fun
  | [d1, d2] => { results := [.lit (.bool true)], args := [d1, d2] }
  | _ => none }
def fnExactCostOfRow : OpenClaim := { program := "ytbbppkcdgcajjaa", sum := "133c2c1111a77cc78feb5c5380bbf0220e0f7fc0c40555c8f8afac3b580a8c53", func := "loop.example/g01095/laws.FnExactCostOf", spec := "fnExactCostOf", unfollowed := true, recurses := true, apart := false }
def FnExactCostOfSaid : Prop := fnExactCostOfRow.holds Try.pinned (OpenSpec.ofChange fnExactCostOfSpec)

/-- ITS FALSE NEIGHBOUR: 'it returns false'. Refute it at one input. -/
def fnExactCostOfWrong : ChangeSpec := { name := "fnExactCostOf", fn := fun _ => fun
  | [d1, d2] => { results := [.lit (.bool false)], args := [d1, d2] }
  | _ => none }
def FnExactCostOfWrongFalsely : Prop := fnExactCostOfRow.holds Try.pinned (OpenSpec.ofChange fnExactCostOfWrong)

/-- 'laws.FnExactTakeBack': WHATEVER THE INPUT: true; the input reads as it did. -/
def fnExactTakeBackSpec : ChangeSpec := { name := "fnExactTakeBack", fn := fun _ => fun
  | [d1, d2] => { results := [.lit (.bool true)], args := [d1, d2] }
  | _ => none }
def fnExactTakeBackRow : OpenClaim := { program := "ytbbppkcdgcajjaa", sum := "133c2c1111a77cc78feb5c5380bbf0220e0f7fc0c40555c8f8afac3b580a8c53", func := "loop.example/g01095/laws.FnExactTakeBack", spec := "fnExactTakeBack", apart := false }
def FnExactTakeBackSaid : Prop := fnExactTakeBackRow.holds Try.pinned (OpenSpec.ofChange fnExactTakeBackSpec)

/-- ITS FALSE NEIGHBOUR: 'it returns false'. Refute it at one input. -/
def fnExactTakeBackWrong : ChangeSpec := { name := "fnExactTakeBack", fn := fun _ => fun
  | [d1, d2] => { results := [.lit (.bool false)], args := [d1, d2] }
  | _ => none }
def FnExactTakeBackWrongFalsely : Prop := fnExactTakeBackRow.holds Try.pinned (OpenSpec.ofChange fnExactTakeBackWrong)

/-- 'laws.FnExactKeptParts': WHATEVER THE INPUT: true; the input reads as it did. -/
def fnExactKeptPartsSpec : ChangeSpec := { name := "fnExactKeptParts", fn := fun _ => fun
  | [d] => { results := [.lit (.bool true)], args := [d] }
  | _ => none }
def fnExactKeptPartsRow : OpenClaim := { program := "ytbbppkcdgcajjaa", sum := "133c2c1111a77cc78feb5c5380bbf0220e0f7fc0c40555c8f8afac3b580a8c53", func := "loop.example/g01095/laws.FnExactKeptParts", spec := "fnExactKeptParts", apart := false }
def FnExactKeptPartsSaid : Prop := fnExactKeptPartsRow.holds Try.pinned (OpenSpec.ofChange fnExactKeptPartsSpec)

/-- ITS FALSE NEIGHBOUR: 'it returns false'. Refute it at one input. -/
def fnExactKeptPartsWrong : ChangeSpec := { name := "fnExactKeptParts", fn := fun _ => fun
  | [d] => { results := [.lit (.bool false)], args := [d] }
  | _ => none }
def FnExactKeptPartsWrongFalsely : Prop := fnExactKeptPartsRow.holds Try.pinned (OpenSpec.ofChange fnExactKeptPartsWrong)

/-- 'laws.FnExactShareOf': WHATEVER THE INPUT: true; the input reads as it did. -/
def fnExactShareOfSpec : ChangeSpec := { name := "fnExactShareOf", fn := fun _ => fun
  | [d] => { results := [.lit (.bool true)], args := [d] }
  | _ => none }
def fnExactShareOfRow : OpenClaim := { program := "ytbbppkcdgcajjaa", sum := "133c2c1111a77cc78feb5c5380bbf0220e0f7fc0c40555c8f8afac3b580a8c53", func := "loop.example/g01095/laws.FnExactShareOf", spec := "fnExactShareOf", unfollowed := true, recurses := true, apart := false }
def FnExactShareOfSaid : Prop := fnExactShareOfRow.holds Try.pinned (OpenSpec.ofChange fnExactShareOfSpec)

/-- ITS FALSE NEIGHBOUR: 'it returns false'. Refute it at one input. -/
def fnExactShareOfWrong : ChangeSpec := { name := "fnExactShareOf", fn := fun _ => fun
  | [d] => { results := [.lit (.bool false)], args := [d] }
  | _ => none }
def FnExactShareOfWrongFalsely : Prop := fnExactShareOfRow.holds Try.pinned (OpenSpec.ofChange fnExactShareOfWrong)

/-- 'laws.FnExactSupportersOf': WHATEVER THE INPUT: true; the input reads as it did. -/
def fnExactSupportersOfSpec : ChangeSpec := { name := "fnExactSupportersOf", fn := fun _ => fun
  | [d1, d2] => { results := [.lit (.bool true)], args := [d1, d2] }
  | _ => none }
def fnExactSupportersOfRow : OpenClaim := { program := "ytbbppkcdgcajjaa", sum := "133c2c1111a77cc78feb5c5380bbf0220e0f7fc0c40555c8f8afac3b580a8c53", func := "loop.example/g01095/laws.FnExactSupportersOf", spec := "fnExactSupportersOf", unfollowed := true, recurses := true, apart := false }
def FnExactSupportersOfSaid : Prop := fnExactSupportersOfRow.holds Try.pinned (OpenSpec.ofChange fnExactSupportersOfSpec)

/-- ITS FALSE NEIGHBOUR: 'it returns false'. Refute it at one input. -/
def fnExactSupportersOfWrong : ChangeSpec := { name := "fnExactSupportersOf", fn := fun _ => fun
  | [d1, d2] => { results := [.lit (.bool false)], args := [d1, d2] }
  | _ => none }
def FnExactSupportersOfWrongFalsely : Prop := fnExactSupportersOfRow.holds Try.pinned (OpenSpec.ofChange fnExactSupportersOfWrong)

/-- 'laws.FnExactUnitShares': WHATEVER THE INPUT: true; the input reads as it did. -/
def fnExactUnitSharesSpec : ChangeSpec := { name := "fnExactUnitShares", fn := fun _ => fun
  | [d] => { results := [.lit (.bool true)], args := [d] }
  | _ => none }
def fnExactUnitSharesRow : OpenClaim := { program := "ytbbppkcdgcajjaa", sum := "133c2c1111a77cc78feb5c5380bbf0220e0f7fc0c40555c8f8afac3b580a8c53", func := "loop.example/g01095/laws.FnExactUnitShares", spec := "fnExactUnitShares", apart := false }
def FnExactUnitSharesSaid : Prop := fnExactUnitSharesRow.holds Try.pinned (OpenSpec.ofChange fnExactUnitSharesSpec)

/-- ITS FALSE NEIGHBOUR: 'it returns false'. Refute it at one input. -/
def fnExactUnitSharesWrong : ChangeSpec := { name := "fnExactUnitShares", fn := fun _ => fun
  | [d] => { results := [.lit (.bool false)], args := [d] }
  | _ => none }
def FnExactUnitSharesWrongFalsely : Prop := fnExactUnitSharesRow.holds Try.pinned (OpenSpec.ofChange fnExactUnitSharesWrong)

/-- 'laws.FnExactReachedFrom': WHATEVER THE INPUT: true; the input reads as it did. -/
def fnExactReachedFromSpec : ChangeSpec := { name := "fnExactReachedFrom", fn := fun _ => fun
  | [d1, d2] => { results := [.lit (.bool true)], args := [d1, d2] }
  | _ => none }
def fnExactReachedFromRow : OpenClaim := { program := "ytbbppkcdgcajjaa", sum := "133c2c1111a77cc78feb5c5380bbf0220e0f7fc0c40555c8f8afac3b580a8c53", func := "loop.example/g01095/laws.FnExactReachedFrom", spec := "fnExactReachedFrom", recurses := true, apart := false }
def FnExactReachedFromSaid : Prop := fnExactReachedFromRow.holds Try.pinned (OpenSpec.ofChange fnExactReachedFromSpec)

/-- ITS FALSE NEIGHBOUR: 'it returns false'. Refute it at one input. -/
def fnExactReachedFromWrong : ChangeSpec := { name := "fnExactReachedFrom", fn := fun _ => fun
  | [d1, d2] => { results := [.lit (.bool false)], args := [d1, d2] }
  | _ => none }
def FnExactReachedFromWrongFalsely : Prop := fnExactReachedFromRow.holds Try.pinned (OpenSpec.ofChange fnExactReachedFromWrong)

/-- 'laws.FnExactTrappedMembers': WHATEVER THE INPUT: true; the input reads as it did. -/
def fnExactTrappedMembersSpec : ChangeSpec := { name := "fnExactTrappedMembers", fn := fun _ => fun
  | [d] => { results := [.lit (.bool true)], args := [d] }
  | _ => none }
def fnExactTrappedMembersRow : OpenClaim := { program := "ytbbppkcdgcajjaa", sum := "133c2c1111a77cc78feb5c5380bbf0220e0f7fc0c40555c8f8afac3b580a8c53", func := "loop.example/g01095/laws.FnExactTrappedMembers", spec := "fnExactTrappedMembers", unfollowed := true, recurses := true, apart := false }
def FnExactTrappedMembersSaid : Prop := fnExactTrappedMembersRow.holds Try.pinned (OpenSpec.ofChange fnExactTrappedMembersSpec)

/-- ITS FALSE NEIGHBOUR: 'it returns false'. Refute it at one input. -/
def fnExactTrappedMembersWrong : ChangeSpec := { name := "fnExactTrappedMembers", fn := fun _ => fun
  | [d] => { results := [.lit (.bool false)], args := [d] }
  | _ => none }
def FnExactTrappedMembersWrongFalsely : Prop := fnExactTrappedMembersRow.holds Try.pinned (OpenSpec.ofChange fnExactTrappedMembersWrong)

/-- 'laws.FnExactSumFractions': WHATEVER THE INPUT: true; the input reads as it did. -/
def fnExactSumFractionsSpec : ChangeSpec := { name := "fnExactSumFractions", fn := fun _ => fun
  | [d] => { results := [.lit (.bool true)], args := [d] }
  | _ => none }
def fnExactSumFractionsRow : OpenClaim := { program := "ytbbppkcdgcajjaa", sum := "133c2c1111a77cc78feb5c5380bbf0220e0f7fc0c40555c8f8afac3b580a8c53", func := "loop.example/g01095/laws.FnExactSumFractions", spec := "fnExactSumFractions", unfollowed := true, recurses := true, apart := false }
def FnExactSumFractionsSaid : Prop := fnExactSumFractionsRow.holds Try.pinned (OpenSpec.ofChange fnExactSumFractionsSpec)

/-- ITS FALSE NEIGHBOUR: 'it returns false'. Refute it at one input. -/
def fnExactSumFractionsWrong : ChangeSpec := { name := "fnExactSumFractions", fn := fun _ => fun
  | [d] => { results := [.lit (.bool false)], args := [d] }
  | _ => none }
def FnExactSumFractionsWrongFalsely : Prop := fnExactSumFractionsRow.holds Try.pinned (OpenSpec.ofChange fnExactSumFractionsWrong)

/-- 'laws.FnExactShareOut': WHATEVER THE INPUT: true; the input reads as it did. -/
def fnExactShareOutSpec : ChangeSpec := { name := "fnExactShareOut", fn := fun _ => fun
  | [d1, d2] => { results := [.lit (.bool true)], args := [d1, d2] }
  | _ => none }
def fnExactShareOutRow : OpenClaim := { program := "ytbbppkcdgcajjaa", sum := "133c2c1111a77cc78feb5c5380bbf0220e0f7fc0c40555c8f8afac3b580a8c53", func := "loop.example/g01095/laws.FnExactShareOut", spec := "fnExactShareOut", unfollowed := true, recurses := true, apart := false }
def FnExactShareOutSaid : Prop := fnExactShareOutRow.holds Try.pinned (OpenSpec.ofChange fnExactShareOutSpec)

/-- ITS FALSE NEIGHBOUR: 'it returns false'. Refute it at one input. -/
def fnExactShareOutWrong : ChangeSpec := { name := "fnExactShareOut", fn := fun _ => fun
  | [d1, d2] => { results := [.lit (.bool false)], args := [d1, d2] }
  | _ => none }
def FnExactShareOutWrongFalsely : Prop := fnExactShareOutRow.holds Try.pinned (OpenSpec.ofChange fnExactShareOutWrong)

/- THE SECOND FORM. 'bulk': how many values and letters a reading holds, each counted each time it is reached (what is shared counts as often as it is met; a slice's spare places count too). A statement '..UptoSaid' is the law's where the arguments, and the package variables that the reading takes, are together of bulk at most 1048576: NARROWER than '..Said'. Prove '..Said' where nothing that the law and all that it calls make is longer than what came in: it says more and counts as full. Else prove '..UptoSaid'. A law counts once. -/
mutual
def uptoBulk {H : Type} : DataW H → Nat
  | .lit (.string bytes) => bytes.length + 1
  | .lit _ => 1
  | .nil => 1
  | .ptr d => uptoBulk d + 1
  | .slice elems spare => uptoBulkAll elems + uptoBulkAll spare + 1
  | .agg parts => uptoBulkAll parts + 1
  | .iface _ d => uptoBulk d + 1
  | .map entries => uptoBulkEntries entries + 1
  | .held _ => 1
def uptoBulkAll {H : Type} : List (DataW H) → Nat
  | [] => 0
  | d :: r => uptoBulk d + uptoBulkAll r
def uptoBulkEntries {H : Type} : List (Lit × DataW H) → Nat
  | [] => 0
  | x :: r => uptoBulkEntry x + uptoBulkEntries r
def uptoBulkEntry {H : Type} : Lit × DataW H → Nat
  | (.string bytes, d) => bytes.length + uptoBulk d + 1
  | (_, d) => uptoBulk d + 1
 end
def uptoSmall : (H : Type) → List (DataW H) → Bool := fun _ ds => decide (uptoBulkAll ds ≤ 1048576)
def OpenSpec.upto (s : _root_.Go.ChangeSpec) : _root_.Go.OpenSpec := { _root_.Go.OpenSpec.ofChange s with cond := some uptoSmall }

/-- 'laws.FnExactPathOf', WHERE WHAT IT READS IS OF BULK AT MOST 1048576: true; the input reads as it did. -/
def fnExactPathOfUptoRow : OpenClaim := { program := "ytbbppkcdgcajjaa", sum := "133c2c1111a77cc78feb5c5380bbf0220e0f7fc0c40555c8f8afac3b580a8c53", func := "loop.example/g01095/laws.FnExactPathOf", spec := "fnExactPathOf", unfollowed := true, recurses := true, apart := false, narrowed := true }
def FnExactPathOfUptoSaid : Prop := fnExactPathOfUptoRow.holds Try.pinned (OpenSpec.upto fnExactPathOfSpec)

/-- 'laws.FnExactPassingThrough', WHERE WHAT IT READS IS OF BULK AT MOST 1048576: true; the input reads as it did. -/
def fnExactPassingThroughUptoRow : OpenClaim := { program := "ytbbppkcdgcajjaa", sum := "133c2c1111a77cc78feb5c5380bbf0220e0f7fc0c40555c8f8afac3b580a8c53", func := "loop.example/g01095/laws.FnExactPassingThrough", spec := "fnExactPassingThrough", unfollowed := true, recurses := true, apart := false, narrowed := true }
def FnExactPassingThroughUptoSaid : Prop := fnExactPassingThroughUptoRow.holds Try.pinned (OpenSpec.upto fnExactPassingThroughSpec)

/-- 'laws.FnExactSettleVoices', WHERE WHAT IT READS IS OF BULK AT MOST 1048576: true; the input reads as it did. -/
def fnExactSettleVoicesUptoRow : OpenClaim := { program := "ytbbppkcdgcajjaa", sum := "133c2c1111a77cc78feb5c5380bbf0220e0f7fc0c40555c8f8afac3b580a8c53", func := "loop.example/g01095/laws.FnExactSettleVoices", spec := "fnExactSettleVoices", unfollowed := true, recurses := true, apart := false, narrowed := true }
def FnExactSettleVoicesUptoSaid : Prop := fnExactSettleVoicesUptoRow.holds Try.pinned (OpenSpec.upto fnExactSettleVoicesSpec)

/-- 'laws.FnExactWeightsOf', WHERE WHAT IT READS IS OF BULK AT MOST 1048576: true; the input reads as it did. -/
def fnExactWeightsOfUptoRow : OpenClaim := { program := "ytbbppkcdgcajjaa", sum := "133c2c1111a77cc78feb5c5380bbf0220e0f7fc0c40555c8f8afac3b580a8c53", func := "loop.example/g01095/laws.FnExactWeightsOf", spec := "fnExactWeightsOf", unfollowed := true, recurses := true, apart := false, narrowed := true }
def FnExactWeightsOfUptoSaid : Prop := fnExactWeightsOfUptoRow.holds Try.pinned (OpenSpec.upto fnExactWeightsOfSpec)

/-- 'laws.FnExactCapProof', WHERE WHAT IT READS IS OF BULK AT MOST 1048576: true; the input reads as it did. -/
def fnExactCapProofUptoRow : OpenClaim := { program := "ytbbppkcdgcajjaa", sum := "133c2c1111a77cc78feb5c5380bbf0220e0f7fc0c40555c8f8afac3b580a8c53", func := "loop.example/g01095/laws.FnExactCapProof", spec := "fnExactCapProof", recurses := true, apart := false, narrowed := true }
def FnExactCapProofUptoSaid : Prop := fnExactCapProofUptoRow.holds Try.pinned (OpenSpec.upto fnExactCapProofSpec)

/-- 'laws.FnExactCappedSettlement', WHERE WHAT IT READS IS OF BULK AT MOST 1048576: true; the input reads as it did. -/
def fnExactCappedSettlementUptoRow : OpenClaim := { program := "ytbbppkcdgcajjaa", sum := "133c2c1111a77cc78feb5c5380bbf0220e0f7fc0c40555c8f8afac3b580a8c53", func := "loop.example/g01095/laws.FnExactCappedSettlement", spec := "fnExactCappedSettlement", unfollowed := true, recurses := true, apart := false, narrowed := true }
def FnExactCappedSettlementUptoSaid : Prop := fnExactCappedSettlementUptoRow.holds Try.pinned (OpenSpec.upto fnExactCappedSettlementSpec)

/-- 'laws.FnExactValidElection', WHERE WHAT IT READS IS OF BULK AT MOST 1048576: true; the input reads as it did. -/
def fnExactValidElectionUptoRow : OpenClaim := { program := "ytbbppkcdgcajjaa", sum := "133c2c1111a77cc78feb5c5380bbf0220e0f7fc0c40555c8f8afac3b580a8c53", func := "loop.example/g01095/laws.FnExactValidElection", spec := "fnExactValidElection", unfollowed := true, recurses := true, apart := false, narrowed := true }
def FnExactValidElectionUptoSaid : Prop := fnExactValidElectionUptoRow.holds Try.pinned (OpenSpec.upto fnExactValidElectionSpec)

/-- 'laws.FnExactCostOf', WHERE WHAT IT READS IS OF BULK AT MOST 1048576: true; the input reads as it did. -/
def fnExactCostOfUptoRow : OpenClaim := { program := "ytbbppkcdgcajjaa", sum := "133c2c1111a77cc78feb5c5380bbf0220e0f7fc0c40555c8f8afac3b580a8c53", func := "loop.example/g01095/laws.FnExactCostOf", spec := "fnExactCostOf", unfollowed := true, recurses := true, apart := false, narrowed := true }
def FnExactCostOfUptoSaid : Prop := fnExactCostOfUptoRow.holds Try.pinned (OpenSpec.upto fnExactCostOfSpec)

/-- 'laws.FnExactTakeBack', WHERE WHAT IT READS IS OF BULK AT MOST 1048576: true; the input reads as it did. -/
def fnExactTakeBackUptoRow : OpenClaim := { program := "ytbbppkcdgcajjaa", sum := "133c2c1111a77cc78feb5c5380bbf0220e0f7fc0c40555c8f8afac3b580a8c53", func := "loop.example/g01095/laws.FnExactTakeBack", spec := "fnExactTakeBack", apart := false, narrowed := true }
def FnExactTakeBackUptoSaid : Prop := fnExactTakeBackUptoRow.holds Try.pinned (OpenSpec.upto fnExactTakeBackSpec)

/-- 'laws.FnExactKeptParts', WHERE WHAT IT READS IS OF BULK AT MOST 1048576: true; the input reads as it did. -/
def fnExactKeptPartsUptoRow : OpenClaim := { program := "ytbbppkcdgcajjaa", sum := "133c2c1111a77cc78feb5c5380bbf0220e0f7fc0c40555c8f8afac3b580a8c53", func := "loop.example/g01095/laws.FnExactKeptParts", spec := "fnExactKeptParts", apart := false, narrowed := true }
def FnExactKeptPartsUptoSaid : Prop := fnExactKeptPartsUptoRow.holds Try.pinned (OpenSpec.upto fnExactKeptPartsSpec)

/-- 'laws.FnExactShareOf', WHERE WHAT IT READS IS OF BULK AT MOST 1048576: true; the input reads as it did. -/
def fnExactShareOfUptoRow : OpenClaim := { program := "ytbbppkcdgcajjaa", sum := "133c2c1111a77cc78feb5c5380bbf0220e0f7fc0c40555c8f8afac3b580a8c53", func := "loop.example/g01095/laws.FnExactShareOf", spec := "fnExactShareOf", unfollowed := true, recurses := true, apart := false, narrowed := true }
def FnExactShareOfUptoSaid : Prop := fnExactShareOfUptoRow.holds Try.pinned (OpenSpec.upto fnExactShareOfSpec)

/-- 'laws.FnExactSupportersOf', WHERE WHAT IT READS IS OF BULK AT MOST 1048576: true; the input reads as it did. -/
def fnExactSupportersOfUptoRow : OpenClaim := { program := "ytbbppkcdgcajjaa", sum := "133c2c1111a77cc78feb5c5380bbf0220e0f7fc0c40555c8f8afac3b580a8c53", func := "loop.example/g01095/laws.FnExactSupportersOf", spec := "fnExactSupportersOf", unfollowed := true, recurses := true, apart := false, narrowed := true }
def FnExactSupportersOfUptoSaid : Prop := fnExactSupportersOfUptoRow.holds Try.pinned (OpenSpec.upto fnExactSupportersOfSpec)

/-- 'laws.FnExactUnitShares', WHERE WHAT IT READS IS OF BULK AT MOST 1048576: true; the input reads as it did. -/
def fnExactUnitSharesUptoRow : OpenClaim := { program := "ytbbppkcdgcajjaa", sum := "133c2c1111a77cc78feb5c5380bbf0220e0f7fc0c40555c8f8afac3b580a8c53", func := "loop.example/g01095/laws.FnExactUnitShares", spec := "fnExactUnitShares", apart := false, narrowed := true }
def FnExactUnitSharesUptoSaid : Prop := fnExactUnitSharesUptoRow.holds Try.pinned (OpenSpec.upto fnExactUnitSharesSpec)

/-- 'laws.FnExactReachedFrom', WHERE WHAT IT READS IS OF BULK AT MOST 1048576: true; the input reads as it did. -/
def fnExactReachedFromUptoRow : OpenClaim := { program := "ytbbppkcdgcajjaa", sum := "133c2c1111a77cc78feb5c5380bbf0220e0f7fc0c40555c8f8afac3b580a8c53", func := "loop.example/g01095/laws.FnExactReachedFrom", spec := "fnExactReachedFrom", recurses := true, apart := false, narrowed := true }
def FnExactReachedFromUptoSaid : Prop := fnExactReachedFromUptoRow.holds Try.pinned (OpenSpec.upto fnExactReachedFromSpec)

/-- 'laws.FnExactTrappedMembers', WHERE WHAT IT READS IS OF BULK AT MOST 1048576: true; the input reads as it did. -/
def fnExactTrappedMembersUptoRow : OpenClaim := { program := "ytbbppkcdgcajjaa", sum := "133c2c1111a77cc78feb5c5380bbf0220e0f7fc0c40555c8f8afac3b580a8c53", func := "loop.example/g01095/laws.FnExactTrappedMembers", spec := "fnExactTrappedMembers", unfollowed := true, recurses := true, apart := false, narrowed := true }
def FnExactTrappedMembersUptoSaid : Prop := fnExactTrappedMembersUptoRow.holds Try.pinned (OpenSpec.upto fnExactTrappedMembersSpec)

/-- 'laws.FnExactSumFractions', WHERE WHAT IT READS IS OF BULK AT MOST 1048576: true; the input reads as it did. -/
def fnExactSumFractionsUptoRow : OpenClaim := { program := "ytbbppkcdgcajjaa", sum := "133c2c1111a77cc78feb5c5380bbf0220e0f7fc0c40555c8f8afac3b580a8c53", func := "loop.example/g01095/laws.FnExactSumFractions", spec := "fnExactSumFractions", unfollowed := true, recurses := true, apart := false, narrowed := true }
def FnExactSumFractionsUptoSaid : Prop := fnExactSumFractionsUptoRow.holds Try.pinned (OpenSpec.upto fnExactSumFractionsSpec)

/-- 'laws.FnExactShareOut', WHERE WHAT IT READS IS OF BULK AT MOST 1048576: true; the input reads as it did. -/
def fnExactShareOutUptoRow : OpenClaim := { program := "ytbbppkcdgcajjaa", sum := "133c2c1111a77cc78feb5c5380bbf0220e0f7fc0c40555c8f8afac3b580a8c53", func := "loop.example/g01095/laws.FnExactShareOut", spec := "fnExactShareOut", unfollowed := true, recurses := true, apart := false, narrowed := true }
def FnExactShareOutUptoSaid : Prop := fnExactShareOutUptoRow.holds Try.pinned (OpenSpec.upto fnExactShareOutSpec)

end Rows
end Go.Proofs.Ytbbppkcdgcajjaa
