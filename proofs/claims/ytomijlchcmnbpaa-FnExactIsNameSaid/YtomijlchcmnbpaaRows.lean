/-
  No cell of these rows narrows 'for every input' (looked for: loops, veiled, ifaces, maps, wideKeys, modest, calm, conditions, laid).
  DERIVED. THE GIVEN ROWS OF THIS SEAT. 12 by the template 'for every input the law returns true; each argument reads behind the call as it read before'; 0 by the template 'total and deterministic' (their statements: YtomijlchcmnbpaaTotals.lean).
  GIVEN WITH THE SEED: the statements are not yours to turn. If you find one false, say at which input.
  Laid BY PROGRAM, IN A SANDBOX (cutbox-rows.mjs): the forced cells as the released guide's own fill.sh prints them over the translation 1b4cfe59ccaac618… (all of the seat's roots in one cut). By AI agents, Wed Nov 11 2026. No macro, syntax, notation, axiom, sorry.
-/
import Derived.Test.YtomijlchcmnbpaaChecked
import GoSem.Claim
import GoSem.ClaimJoined
import GoSem.ClaimMapViews
import Derived.JoinedTies
import Derived.KernelRfl
namespace Go.Proofs.Ytomijlchcmnbpaa
/- THE CELL 'sum', in the pinned program and in every row, IS THE sha256 OF THE DUMP (.gsa) THAT YtomijlchcmnbpaaProg.lean LOADS. Nothing in Lean hashes anything: it is a label: what it is worth is what the hold of that sum in a sandbox is worth. -/
noncomputable def Try.pinned : Pinned := { name := "ytomijlchcmnbpaa", sum := "1b4cfe59ccaac61851b92f582a41118e3249ce392ab1c9a6579ad34fd1d7cb49", checked := Try.checked }
namespace Rows
def none {H : Type} : Left H := { results := [], args := [] }

/-- 'laws.FnExactConstants': WHATEVER THE INPUT: true; the input reads as it did. -/
def fnExactConstantsSpec : ChangeSpec := { name := "fnExactConstants", fn := fun _ => fun
  | [] => { results := [.lit (.bool true)], args := [] }
  | _ => none }
def fnExactConstantsRow : OpenClaim := { program := "ytomijlchcmnbpaa", sum := "1b4cfe59ccaac61851b92f582a41118e3249ce392ab1c9a6579ad34fd1d7cb49", func := "loop.example/g01095/laws.FnExactConstants", spec := "fnExactConstants", apart := false }
def FnExactConstantsSaid : Prop := fnExactConstantsRow.holds Try.pinned (OpenSpec.ofChange fnExactConstantsSpec)

/-- ITS FALSE NEIGHBOUR: 'it returns false'. Refute it at one input. -/
def fnExactConstantsWrong : ChangeSpec := { name := "fnExactConstants", fn := fun _ => fun
  | [] => { results := [.lit (.bool false)], args := [] }
  | _ => none }
def FnExactConstantsWrongFalsely : Prop := fnExactConstantsRow.holds Try.pinned (OpenSpec.ofChange fnExactConstantsWrong)

/-- 'laws.FnExactIsName': WHATEVER THE INPUT: true; the input reads as it did. -/
def fnExactIsNameSpec : ChangeSpec := { name := "fnExactIsName", fn := fun _ => fun
  | [d] => { results := [.lit (.bool true)], args := [d] }
  | _ => none }
def fnExactIsNameRow : OpenClaim := { program := "ytomijlchcmnbpaa", sum := "1b4cfe59ccaac61851b92f582a41118e3249ce392ab1c9a6579ad34fd1d7cb49", func := "loop.example/g01095/laws.FnExactIsName", spec := "fnExactIsName", apart := false }
def FnExactIsNameSaid : Prop := fnExactIsNameRow.holds Try.pinned (OpenSpec.ofChange fnExactIsNameSpec)

/-- ITS FALSE NEIGHBOUR: 'it returns false'. Refute it at one input. -/
def fnExactIsNameWrong : ChangeSpec := { name := "fnExactIsName", fn := fun _ => fun
  | [d] => { results := [.lit (.bool false)], args := [d] }
  | _ => none }
def FnExactIsNameWrongFalsely : Prop := fnExactIsNameRow.holds Try.pinned (OpenSpec.ofChange fnExactIsNameWrong)

/-- 'laws.FnExactValidFraction': WHATEVER THE INPUT: true; the input reads as it did. -/
def fnExactValidFractionSpec : ChangeSpec := { name := "fnExactValidFraction", fn := fun _ => fun
  | [d] => { results := [.lit (.bool true)], args := [d] }
  | _ => none }
def fnExactValidFractionRow : OpenClaim := { program := "ytomijlchcmnbpaa", sum := "1b4cfe59ccaac61851b92f582a41118e3249ce392ab1c9a6579ad34fd1d7cb49", func := "loop.example/g01095/laws.FnExactValidFraction", spec := "fnExactValidFraction", apart := false }
def FnExactValidFractionSaid : Prop := fnExactValidFractionRow.holds Try.pinned (OpenSpec.ofChange fnExactValidFractionSpec)

/-- ITS FALSE NEIGHBOUR: 'it returns false'. Refute it at one input. -/
def fnExactValidFractionWrong : ChangeSpec := { name := "fnExactValidFraction", fn := fun _ => fun
  | [d] => { results := [.lit (.bool false)], args := [d] }
  | _ => none }
def FnExactValidFractionWrongFalsely : Prop := fnExactValidFractionRow.holds Try.pinned (OpenSpec.ofChange fnExactValidFractionWrong)

/-- 'laws.FnExactFloorOf': WHATEVER THE INPUT: true; the input reads as it did. -/
def fnExactFloorOfSpec : ChangeSpec := { name := "fnExactFloorOf", fn := fun _ => fun
  | [d] => { results := [.lit (.bool true)], args := [d] }
  | _ => none }
def fnExactFloorOfRow : OpenClaim := { program := "ytomijlchcmnbpaa", sum := "1b4cfe59ccaac61851b92f582a41118e3249ce392ab1c9a6579ad34fd1d7cb49", func := "loop.example/g01095/laws.FnExactFloorOf", spec := "fnExactFloorOf", apart := false }
def FnExactFloorOfSaid : Prop := fnExactFloorOfRow.holds Try.pinned (OpenSpec.ofChange fnExactFloorOfSpec)

/-- ITS FALSE NEIGHBOUR: 'it returns false'. Refute it at one input. -/
def fnExactFloorOfWrong : ChangeSpec := { name := "fnExactFloorOf", fn := fun _ => fun
  | [d] => { results := [.lit (.bool false)], args := [d] }
  | _ => none }
def FnExactFloorOfWrongFalsely : Prop := fnExactFloorOfRow.holds Try.pinned (OpenSpec.ofChange fnExactFloorOfWrong)

/-- 'laws.FnExactCompareFractions': WHATEVER THE INPUT: true; the input reads as it did. -/
def fnExactCompareFractionsSpec : ChangeSpec := { name := "fnExactCompareFractions", fn := fun _ => fun
  | [d1, d2] => { results := [.lit (.bool true)], args := [d1, d2] }
  | _ => none }
def fnExactCompareFractionsRow : OpenClaim := { program := "ytomijlchcmnbpaa", sum := "1b4cfe59ccaac61851b92f582a41118e3249ce392ab1c9a6579ad34fd1d7cb49", func := "loop.example/g01095/laws.FnExactCompareFractions", spec := "fnExactCompareFractions", apart := false }
def FnExactCompareFractionsSaid : Prop := fnExactCompareFractionsRow.holds Try.pinned (OpenSpec.ofChange fnExactCompareFractionsSpec)

/-- ITS FALSE NEIGHBOUR: 'it returns false'. Refute it at one input. -/
def fnExactCompareFractionsWrong : ChangeSpec := { name := "fnExactCompareFractions", fn := fun _ => fun
  | [d1, d2] => { results := [.lit (.bool false)], args := [d1, d2] }
  | _ => none }
def FnExactCompareFractionsWrongFalsely : Prop := fnExactCompareFractionsRow.holds Try.pinned (OpenSpec.ofChange fnExactCompareFractionsWrong)

/-- 'laws.FnExactFractionOf': WHATEVER THE INPUT: true; the input reads as it did. -/
def fnExactFractionOfSpec : ChangeSpec := { name := "fnExactFractionOf", fn := fun _ => fun
  | [d1, d2] => { results := [.lit (.bool true)], args := [d1, d2] }
  | _ => none }
def fnExactFractionOfRow : OpenClaim := { program := "ytomijlchcmnbpaa", sum := "1b4cfe59ccaac61851b92f582a41118e3249ce392ab1c9a6579ad34fd1d7cb49", func := "loop.example/g01095/laws.FnExactFractionOf", spec := "fnExactFractionOf", apart := false }
def FnExactFractionOfSaid : Prop := fnExactFractionOfRow.holds Try.pinned (OpenSpec.ofChange fnExactFractionOfSpec)

/-- ITS FALSE NEIGHBOUR: 'it returns false'. Refute it at one input. -/
def fnExactFractionOfWrong : ChangeSpec := { name := "fnExactFractionOf", fn := fun _ => fun
  | [d1, d2] => { results := [.lit (.bool false)], args := [d1, d2] }
  | _ => none }
def FnExactFractionOfWrongFalsely : Prop := fnExactFractionOfRow.holds Try.pinned (OpenSpec.ofChange fnExactFractionOfWrong)

/-- 'laws.FnExactMulFractions': WHATEVER THE INPUT: true; the input reads as it did. -/
def fnExactMulFractionsSpec : ChangeSpec := { name := "fnExactMulFractions", fn := fun _ => fun
  | [d1, d2] => { results := [.lit (.bool true)], args := [d1, d2] }
  | _ => none }
def fnExactMulFractionsRow : OpenClaim := { program := "ytomijlchcmnbpaa", sum := "1b4cfe59ccaac61851b92f582a41118e3249ce392ab1c9a6579ad34fd1d7cb49", func := "loop.example/g01095/laws.FnExactMulFractions", spec := "fnExactMulFractions", apart := false }
def FnExactMulFractionsSaid : Prop := fnExactMulFractionsRow.holds Try.pinned (OpenSpec.ofChange fnExactMulFractionsSpec)

/-- ITS FALSE NEIGHBOUR: 'it returns false'. Refute it at one input. -/
def fnExactMulFractionsWrong : ChangeSpec := { name := "fnExactMulFractions", fn := fun _ => fun
  | [d1, d2] => { results := [.lit (.bool false)], args := [d1, d2] }
  | _ => none }
def FnExactMulFractionsWrongFalsely : Prop := fnExactMulFractionsRow.holds Try.pinned (OpenSpec.ofChange fnExactMulFractionsWrong)

/-- 'laws.FnExactAddFractions': WHATEVER THE INPUT: true; the input reads as it did. -/
def fnExactAddFractionsSpec : ChangeSpec := { name := "fnExactAddFractions", fn := fun _ => fun
  | [d1, d2] => { results := [.lit (.bool true)], args := [d1, d2] }
  | _ => none }
def fnExactAddFractionsRow : OpenClaim := { program := "ytomijlchcmnbpaa", sum := "1b4cfe59ccaac61851b92f582a41118e3249ce392ab1c9a6579ad34fd1d7cb49", func := "loop.example/g01095/laws.FnExactAddFractions", spec := "fnExactAddFractions", apart := false }
def FnExactAddFractionsSaid : Prop := fnExactAddFractionsRow.holds Try.pinned (OpenSpec.ofChange fnExactAddFractionsSpec)

/-- ITS FALSE NEIGHBOUR: 'it returns false'. Refute it at one input. -/
def fnExactAddFractionsWrong : ChangeSpec := { name := "fnExactAddFractions", fn := fun _ => fun
  | [d1, d2] => { results := [.lit (.bool false)], args := [d1, d2] }
  | _ => none }
def FnExactAddFractionsWrongFalsely : Prop := fnExactAddFractionsRow.holds Try.pinned (OpenSpec.ofChange fnExactAddFractionsWrong)

/-- 'laws.FnExactSubFractions': WHATEVER THE INPUT: true; the input reads as it did. -/
def fnExactSubFractionsSpec : ChangeSpec := { name := "fnExactSubFractions", fn := fun _ => fun
  | [d1, d2] => { results := [.lit (.bool true)], args := [d1, d2] }
  | _ => none }
def fnExactSubFractionsRow : OpenClaim := { program := "ytomijlchcmnbpaa", sum := "1b4cfe59ccaac61851b92f582a41118e3249ce392ab1c9a6579ad34fd1d7cb49", func := "loop.example/g01095/laws.FnExactSubFractions", spec := "fnExactSubFractions", apart := false }
def FnExactSubFractionsSaid : Prop := fnExactSubFractionsRow.holds Try.pinned (OpenSpec.ofChange fnExactSubFractionsSpec)

/-- ITS FALSE NEIGHBOUR: 'it returns false'. Refute it at one input. -/
def fnExactSubFractionsWrong : ChangeSpec := { name := "fnExactSubFractions", fn := fun _ => fun
  | [d1, d2] => { results := [.lit (.bool false)], args := [d1, d2] }
  | _ => none }
def FnExactSubFractionsWrongFalsely : Prop := fnExactSubFractionsRow.holds Try.pinned (OpenSpec.ofChange fnExactSubFractionsWrong)

/-- 'laws.FnExactDivFractions': WHATEVER THE INPUT: true; the input reads as it did. -/
def fnExactDivFractionsSpec : ChangeSpec := { name := "fnExactDivFractions", fn := fun _ => fun
  | [d1, d2] => { results := [.lit (.bool true)], args := [d1, d2] }
  | _ => none }
def fnExactDivFractionsRow : OpenClaim := { program := "ytomijlchcmnbpaa", sum := "1b4cfe59ccaac61851b92f582a41118e3249ce392ab1c9a6579ad34fd1d7cb49", func := "loop.example/g01095/laws.FnExactDivFractions", spec := "fnExactDivFractions", apart := false }
def FnExactDivFractionsSaid : Prop := fnExactDivFractionsRow.holds Try.pinned (OpenSpec.ofChange fnExactDivFractionsSpec)

/-- ITS FALSE NEIGHBOUR: 'it returns false'. Refute it at one input. -/
def fnExactDivFractionsWrong : ChangeSpec := { name := "fnExactDivFractions", fn := fun _ => fun
  | [d1, d2] => { results := [.lit (.bool false)], args := [d1, d2] }
  | _ => none }
def FnExactDivFractionsWrongFalsely : Prop := fnExactDivFractionsRow.holds Try.pinned (OpenSpec.ofChange fnExactDivFractionsWrong)

/-- 'laws.FnExactSumFractions': WHATEVER THE INPUT: true; the input reads as it did. -/
def fnExactSumFractionsSpec : ChangeSpec := { name := "fnExactSumFractions", fn := fun _ => fun
  | [d] => { results := [.lit (.bool true)], args := [d] }
  | _ => none }
def fnExactSumFractionsRow : OpenClaim := { program := "ytomijlchcmnbpaa", sum := "1b4cfe59ccaac61851b92f582a41118e3249ce392ab1c9a6579ad34fd1d7cb49", func := "loop.example/g01095/laws.FnExactSumFractions", spec := "fnExactSumFractions", unfollowed := true, recurses := true, apart := false }
def FnExactSumFractionsSaid : Prop := fnExactSumFractionsRow.holds Try.pinned (OpenSpec.ofChange fnExactSumFractionsSpec)

/-- ITS FALSE NEIGHBOUR: 'it returns false'. Refute it at one input. -/
def fnExactSumFractionsWrong : ChangeSpec := { name := "fnExactSumFractions", fn := fun _ => fun
  | [d] => { results := [.lit (.bool false)], args := [d] }
  | _ => none }
def FnExactSumFractionsWrongFalsely : Prop := fnExactSumFractionsRow.holds Try.pinned (OpenSpec.ofChange fnExactSumFractionsWrong)

/-- 'laws.FnExactShareOut': WHATEVER THE INPUT: true; the input reads as it did. -/
def fnExactShareOutSpec : ChangeSpec := { name := "fnExactShareOut", fn := fun _ => fun
  | [d1, d2] => { results := [.lit (.bool true)], args := [d1, d2] }
  | _ => none }
def fnExactShareOutRow : OpenClaim := { program := "ytomijlchcmnbpaa", sum := "1b4cfe59ccaac61851b92f582a41118e3249ce392ab1c9a6579ad34fd1d7cb49", func := "loop.example/g01095/laws.FnExactShareOut", spec := "fnExactShareOut", unfollowed := true, recurses := true, apart := false }
def FnExactShareOutSaid : Prop := fnExactShareOutRow.holds Try.pinned (OpenSpec.ofChange fnExactShareOutSpec)

/-- ITS FALSE NEIGHBOUR: 'it returns false'. Refute it at one input. -/
def fnExactShareOutWrong : ChangeSpec := { name := "fnExactShareOut", fn := fun _ => fun
  | [d1, d2] => { results := [.lit (.bool false)], args := [d1, d2] }
  | _ => none }
def FnExactShareOutWrongFalsely : Prop := fnExactShareOutRow.holds Try.pinned (OpenSpec.ofChange fnExactShareOutWrong)

/- THE SECOND FORM. 'bulk': how many values and letters a reading holds, each counted each time it is reached (what is shared counts as often as it is met; a slice's spare places count too). A statement '..UptoSaid' is the law's where the arguments, and the package variables that the reading takes, are together of bulk at most 1048576: NARROWER than '..Said'. Prove '..Said' where nothing that the law and all that it calls make is longer than what came in: it says more and counts as full. Else prove '..UptoSaid'. A law counts once. -/
mutual
def uptoBulk {H : Type} : DataW H → Nat
  | .lit (.string bytes) => bytes.length + 1
  | .lit _ => 1
  | .nil => 1
  | .ptr d => uptoBulk d + 1
  | .slice elems spare => uptoBulkAll elems + uptoBulkAll spare + 1
  | .agg parts => uptoBulkAll parts + 1
  | .iface _ d => uptoBulk d + 1
  | .map entries => uptoBulkEntries entries + 1
  | .held _ => 1
def uptoBulkAll {H : Type} : List (DataW H) → Nat
  | [] => 0
  | d :: r => uptoBulk d + uptoBulkAll r
def uptoBulkEntries {H : Type} : List (Lit × DataW H) → Nat
  | [] => 0
  | x :: r => uptoBulkEntry x + uptoBulkEntries r
def uptoBulkEntry {H : Type} : Lit × DataW H → Nat
  | (.string bytes, d) => bytes.length + uptoBulk d + 1
  | (_, d) => uptoBulk d + 1
 end
def uptoSmall : (H : Type) → List (DataW H) → Bool := fun _ ds => decide (uptoBulkAll ds ≤ 1048576)
def OpenSpec.upto (s : _root_.Go.ChangeSpec) : _root_.Go.OpenSpec := { _root_.Go.OpenSpec.ofChange s with cond := some uptoSmall }

/-- 'laws.FnExactConstants', WHERE WHAT IT READS IS OF BULK AT MOST 1048576: true; the input reads as it did. -/
def fnExactConstantsUptoRow : OpenClaim := { program := "ytomijlchcmnbpaa", sum := "1b4cfe59ccaac61851b92f582a41118e3249ce392ab1c9a6579ad34fd1d7cb49", func := "loop.example/g01095/laws.FnExactConstants", spec := "fnExactConstants", apart := false, narrowed := true }
def FnExactConstantsUptoSaid : Prop := fnExactConstantsUptoRow.holds Try.pinned (OpenSpec.upto fnExactConstantsSpec)

/-- 'laws.FnExactIsName', WHERE WHAT IT READS IS OF BULK AT MOST 1048576: true; the input reads as it did. -/
def fnExactIsNameUptoRow : OpenClaim := { program := "ytomijlchcmnbpaa", sum := "1b4cfe59ccaac61851b92f582a41118e3249ce392ab1c9a6579ad34fd1d7cb49", func := "loop.example/g01095/laws.FnExactIsName", spec := "fnExactIsName", apart := false, narrowed := true }
def FnExactIsNameUptoSaid : Prop := fnExactIsNameUptoRow.holds Try.pinned (OpenSpec.upto fnExactIsNameSpec)

/-- 'laws.FnExactValidFraction', WHERE WHAT IT READS IS OF BULK AT MOST 1048576: true; the input reads as it did. -/
def fnExactValidFractionUptoRow : OpenClaim := { program := "ytomijlchcmnbpaa", sum := "1b4cfe59ccaac61851b92f582a41118e3249ce392ab1c9a6579ad34fd1d7cb49", func := "loop.example/g01095/laws.FnExactValidFraction", spec := "fnExactValidFraction", apart := false, narrowed := true }
def FnExactValidFractionUptoSaid : Prop := fnExactValidFractionUptoRow.holds Try.pinned (OpenSpec.upto fnExactValidFractionSpec)

/-- 'laws.FnExactFloorOf', WHERE WHAT IT READS IS OF BULK AT MOST 1048576: true; the input reads as it did. -/
def fnExactFloorOfUptoRow : OpenClaim := { program := "ytomijlchcmnbpaa", sum := "1b4cfe59ccaac61851b92f582a41118e3249ce392ab1c9a6579ad34fd1d7cb49", func := "loop.example/g01095/laws.FnExactFloorOf", spec := "fnExactFloorOf", apart := false, narrowed := true }
def FnExactFloorOfUptoSaid : Prop := fnExactFloorOfUptoRow.holds Try.pinned (OpenSpec.upto fnExactFloorOfSpec)

/-- 'laws.FnExactCompareFractions', WHERE WHAT IT READS IS OF BULK AT MOST 1048576: true; the input reads as it did. -/
def fnExactCompareFractionsUptoRow : OpenClaim := { program := "ytomijlchcmnbpaa", sum := "1b4cfe59ccaac61851b92f582a41118e3249ce392ab1c9a6579ad34fd1d7cb49", func := "loop.example/g01095/laws.FnExactCompareFractions", spec := "fnExactCompareFractions", apart := false, narrowed := true }
def FnExactCompareFractionsUptoSaid : Prop := fnExactCompareFractionsUptoRow.holds Try.pinned (OpenSpec.upto fnExactCompareFractionsSpec)

/-- 'laws.FnExactFractionOf', WHERE WHAT IT READS IS OF BULK AT MOST 1048576: true; the input reads as it did. -/
def fnExactFractionOfUptoRow : OpenClaim := { program := "ytomijlchcmnbpaa", sum := "1b4cfe59ccaac61851b92f582a41118e3249ce392ab1c9a6579ad34fd1d7cb49", func := "loop.example/g01095/laws.FnExactFractionOf", spec := "fnExactFractionOf", apart := false, narrowed := true }
def FnExactFractionOfUptoSaid : Prop := fnExactFractionOfUptoRow.holds Try.pinned (OpenSpec.upto fnExactFractionOfSpec)

/-- 'laws.FnExactMulFractions', WHERE WHAT IT READS IS OF BULK AT MOST 1048576: true; the input reads as it did. -/
def fnExactMulFractionsUptoRow : OpenClaim := { program := "ytomijlchcmnbpaa", sum := "1b4cfe59ccaac61851b92f582a41118e3249ce392ab1c9a6579ad34fd1d7cb49", func := "loop.example/g01095/laws.FnExactMulFractions", spec := "fnExactMulFractions", apart := false, narrowed := true }
def FnExactMulFractionsUptoSaid : Prop := fnExactMulFractionsUptoRow.holds Try.pinned (OpenSpec.upto fnExactMulFractionsSpec)

/-- 'laws.FnExactAddFractions', WHERE WHAT IT READS IS OF BULK AT MOST 1048576: true; the input reads as it did. -/
def fnExactAddFractionsUptoRow : OpenClaim := { program := "ytomijlchcmnbpaa", sum := "1b4cfe59ccaac61851b92f582a41118e3249ce392ab1c9a6579ad34fd1d7cb49", func := "loop.example/g01095/laws.FnExactAddFractions", spec := "fnExactAddFractions", apart := false, narrowed := true }
def FnExactAddFractionsUptoSaid : Prop := fnExactAddFractionsUptoRow.holds Try.pinned (OpenSpec.upto fnExactAddFractionsSpec)

/-- 'laws.FnExactSubFractions', WHERE WHAT IT READS IS OF BULK AT MOST 1048576: true; the input reads as it did. -/
def fnExactSubFractionsUptoRow : OpenClaim := { program := "ytomijlchcmnbpaa", sum := "1b4cfe59ccaac61851b92f582a41118e3249ce392ab1c9a6579ad34fd1d7cb49", func := "loop.example/g01095/laws.FnExactSubFractions", spec := "fnExactSubFractions", apart := false, narrowed := true }
def FnExactSubFractionsUptoSaid : Prop := fnExactSubFractionsUptoRow.holds Try.pinned (OpenSpec.upto fnExactSubFractionsSpec)

/-- 'laws.FnExactDivFractions', WHERE WHAT IT READS IS OF BULK AT MOST 1048576: true; the input reads as it did. -/
def fnExactDivFractionsUptoRow : OpenClaim := { program := "ytomijlchcmnbpaa", sum := "1b4cfe59ccaac61851b92f582a41118e3249ce392ab1c9a6579ad34fd1d7cb49", func := "loop.example/g01095/laws.FnExactDivFractions", spec := "fnExactDivFractions", apart := false, narrowed := true }
def FnExactDivFractionsUptoSaid : Prop := fnExactDivFractionsUptoRow.holds Try.pinned (OpenSpec.upto fnExactDivFractionsSpec)

/-- 'laws.FnExactSumFractions', WHERE WHAT IT READS IS OF BULK AT MOST 1048576: true; the input reads as it did. -/
def fnExactSumFractionsUptoRow : OpenClaim := { program := "ytomijlchcmnbpaa", sum := "1b4cfe59ccaac61851b92f582a41118e3249ce392ab1c9a6579ad34fd1d7cb49", func := "loop.example/g01095/laws.FnExactSumFractions", spec := "fnExactSumFractions", unfollowed := true, recurses := true, apart := false, narrowed := true }
def FnExactSumFractionsUptoSaid : Prop := fnExactSumFractionsUptoRow.holds Try.pinned (OpenSpec.upto fnExactSumFractionsSpec)

/-- 'laws.FnExactShareOut', WHERE WHAT IT READS IS OF BULK AT MOST 1048576: true; the input reads as it did. -/
def fnExactShareOutUptoRow : OpenClaim := { program := "ytomijlchcmnbpaa", sum := "1b4cfe59ccaac61851b92f582a41118e3249ce392ab1c9a6579ad34fd1d7cb49", func := "loop.example/g01095/laws.FnExactShareOut", spec := "fnExactShareOut", unfollowed := true, recurses := true, apart := false, narrowed := true }
def FnExactShareOutUptoSaid : Prop := fnExactShareOutUptoRow.holds Try.pinned (OpenSpec.upto fnExactShareOutSpec)

end Rows
end Go.Proofs.Ytomijlchcmnbpaa
