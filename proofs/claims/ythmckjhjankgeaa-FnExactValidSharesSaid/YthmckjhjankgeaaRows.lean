/-
  No cell of these rows narrows 'for every input' (looked for: loops, veiled, ifaces, maps, wideKeys, modest, calm, conditions, laid).
  DERIVED. THE GIVEN ROWS OF THIS SEAT. 10 by the template 'for every input the law returns true; each argument reads behind the call as it read before'; 0 by the template 'total and deterministic' (their statements: YthmckjhjankgeaaTotals.lean).
  GIVEN WITH THE SEED: the statements are not yours to turn. If you find one false, say at which input.
  Laid BY PROGRAM, IN A SANDBOX (cutbox-rows.mjs): the forced cells as the released guide's own fill.sh prints them over the translation 92f04ed336e9b96f… (all of the seat's roots in one cut). By AI agents, Wed Nov 11 2026. No macro, syntax, notation, axiom, sorry.
-/
import Derived.Test.YthmckjhjankgeaaChecked
import GoSem.Claim
import GoSem.ClaimJoined
import GoSem.ClaimMapViews
import Derived.JoinedTies
import Derived.KernelRfl
namespace Go.Proofs.Ythmckjhjankgeaa
/- THE CELL 'sum', in the pinned program and in every row, IS THE sha256 OF THE DUMP (.gsa) THAT YthmckjhjankgeaaProg.lean LOADS. Nothing in Lean hashes anything: it is a label: what it is worth is what the hold of that sum in a sandbox is worth. -/
noncomputable def Try.pinned : Pinned := { name := "ythmckjhjankgeaa", sum := "92f04ed336e9b96f43eb73215dee5acdb767554a41e8fd6ed9faf952ed19e595", checked := Try.checked }
namespace Rows
def none {H : Type} : Left H := { results := [], args := [] }

/-- 'laws.FnExactValidShares': WHATEVER THE INPUT: true; the input reads as it did. -/
def fnExactValidSharesSpec : ChangeSpec := { name := "fnExactValidShares", fn := fun _ => fun
  | [d] => { results := [.lit (.bool true)], args := [d] }
  | _ => none }
def fnExactValidSharesRow : OpenClaim := { program := "ythmckjhjankgeaa", sum := "92f04ed336e9b96f43eb73215dee5acdb767554a41e8fd6ed9faf952ed19e595", func := "loop.example/g01095/laws.FnExactValidShares", spec := "fnExactValidShares", apart := false }
def FnExactValidSharesSaid : Prop := fnExactValidSharesRow.holds Try.pinned (OpenSpec.ofChange fnExactValidSharesSpec)

/-- ITS FALSE NEIGHBOUR: 'it returns false'. Refute it at one input. -/
def fnExactValidSharesWrong : ChangeSpec := { name := "fnExactValidShares", fn := fun _ => fun
  | [d] => { results := [.lit (.bool false)], args := [d] }
  | _ => none }
def FnExactValidSharesWrongFalsely : Prop := fnExactValidSharesRow.holds Try.pinned (OpenSpec.ofChange fnExactValidSharesWrong)

/-- 'laws.FnExactValidElection': WHATEVER THE INPUT: true; the input reads as it did. -/
def fnExactValidElectionSpec : ChangeSpec := { name := "fnExactValidElection", fn := fun _ => fun
  | [d] => { results := [.lit (.bool true)], args := [d] }
  | _ => none }
def fnExactValidElectionRow : OpenClaim := { program := "ythmckjhjankgeaa", sum := "92f04ed336e9b96f43eb73215dee5acdb767554a41e8fd6ed9faf952ed19e595", func := "loop.example/g01095/laws.FnExactValidElection", spec := "fnExactValidElection", unfollowed := true, recurses := true, apart := false }
def FnExactValidElectionSaid : Prop := fnExactValidElectionRow.holds Try.pinned (OpenSpec.ofChange fnExactValidElectionSpec)

/-- ITS FALSE NEIGHBOUR: 'it returns false'. Refute it at one input. -/
def fnExactValidElectionWrong : ChangeSpec := { name := "fnExactValidElection", fn := fun _ => fun
  | [d] => { results := [.lit (.bool false)], args := [d] }
  | _ => none }
def FnExactValidElectionWrongFalsely : Prop := fnExactValidElectionRow.holds Try.pinned (OpenSpec.ofChange fnExactValidElectionWrong)

/-- 'laws.FnExactCostOf': WHATEVER THE INPUT: true; the input reads as it did. -/
def fnExactCostOfSpec : ChangeSpec := { name := "fnExactCostOf", fn := fun _ => fun
  | [d1, d2] => { results := [.lit (.bool true)], args := [d1, d2] }
  | _ => none }
def fnExactCostOfRow : OpenClaim := { program := "ythmckjhjankgeaa", sum := "92f04ed336e9b96f43eb73215dee5acdb767554a41e8fd6ed9faf952ed19e595", func := "loop.example/g01095/laws.FnExactCostOf", spec := "fnExactCostOf", unfollowed := true, recurses := true, apart := false }
def FnExactCostOfSaid : Prop := fnExactCostOfRow.holds Try.pinned (OpenSpec.ofChange fnExactCostOfSpec)

/-- ITS FALSE NEIGHBOUR: 'it returns false'. Refute it at one input. -/
def fnExactCostOfWrong : ChangeSpec := { name := "fnExactCostOf", fn := fun _ => fun
  | [d1, d2] => { results := [.lit (.bool false)], args := [d1, d2] }
  | _ => none }
def FnExactCostOfWrongFalsely : Prop := fnExactCostOfRow.holds Try.pinned (OpenSpec.ofChange fnExactCostOfWrong)

/-- 'laws.FnExactTakeBack': WHATEVER THE INPUT: true; the input reads as it did. -/
def fnExactTakeBackSpec : ChangeSpec := { name := "fnExactTakeBack", fn := fun _ => fun
  | [d1, d2] => { results := [.lit (.bool true)], args := [d1, d2] }
  | _ => none }
def fnExactTakeBackRow : OpenClaim := { program := "ythmckjhjankgeaa", sum := "92f04ed336e9b96f43eb73215dee5acdb767554a41e8fd6ed9faf952ed19e595", func := "loop.example/g01095/laws.FnExactTakeBack", spec := "fnExactTakeBack", apart := false }
def FnExactTakeBackSaid : Prop := fnExactTakeBackRow.holds Try.pinned (OpenSpec.ofChange fnExactTakeBackSpec)

/-- ITS FALSE NEIGHBOUR: 'it returns false'. Refute it at one input. -/
def fnExactTakeBackWrong : ChangeSpec := { name := "fnExactTakeBack", fn := fun _ => fun
  | [d1, d2] => { results := [.lit (.bool false)], args := [d1, d2] }
  | _ => none }
def FnExactTakeBackWrongFalsely : Prop := fnExactTakeBackRow.holds Try.pinned (OpenSpec.ofChange fnExactTakeBackWrong)

/-- 'laws.FnExactKeptParts': WHATEVER THE INPUT: true; the input reads as it did. -/
def fnExactKeptPartsSpec : ChangeSpec := { name := "fnExactKeptParts", fn := fun _ => fun
  | [d] => { results := [.lit (.bool true)], args := [d] }
  | _ => none }
def fnExactKeptPartsRow : OpenClaim := { program := "ythmckjhjankgeaa", sum := "92f04ed336e9b96f43eb73215dee5acdb767554a41e8fd6ed9faf952ed19e595", func := "loop.example/g01095/laws.FnExactKeptParts", spec := "fnExactKeptParts", apart := false }
def FnExactKeptPartsSaid : Prop := fnExactKeptPartsRow.holds Try.pinned (OpenSpec.ofChange fnExactKeptPartsSpec)

/-- ITS FALSE NEIGHBOUR: 'it returns false'. Refute it at one input. -/
def fnExactKeptPartsWrong : ChangeSpec := { name := "fnExactKeptParts", fn := fun _ => fun
  | [d] => { results := [.lit (.bool false)], args := [d] }
  | _ => none }
def FnExactKeptPartsWrongFalsely : Prop := fnExactKeptPartsRow.holds Try.pinned (OpenSpec.ofChange fnExactKeptPartsWrong)

/-- 'laws.FnExactShareOf': WHATEVER THE INPUT: true; the input reads as it did. -/
def fnExactShareOfSpec : ChangeSpec := { name := "fnExactShareOf", fn := fun _ => fun
  | [d] => { results := [.lit (.bool true)], args := [d] }
  | _ => none }
def fnExactShareOfRow : OpenClaim := { program := "ythmckjhjankgeaa", sum := "92f04ed336e9b96f43eb73215dee5acdb767554a41e8fd6ed9faf952ed19e595", func := "loop.example/g01095/laws.FnExactShareOf", spec := "fnExactShareOf", unfollowed := true, recurses := true, apart := false }
def FnExactShareOfSaid : Prop := fnExactShareOfRow.holds Try.pinned (OpenSpec.ofChange fnExactShareOfSpec)

/-- ITS FALSE NEIGHBOUR: 'it returns false'. Refute it at one input. -/
def fnExactShareOfWrong : ChangeSpec := { name := "fnExactShareOf", fn := fun _ => fun
  | [d] => { results := [.lit (.bool false)], args := [d] }
  | _ => none }
def FnExactShareOfWrongFalsely : Prop := fnExactShareOfRow.holds Try.pinned (OpenSpec.ofChange fnExactShareOfWrong)

/-- 'laws.FnExactSupportersOf': WHATEVER THE INPUT: true; the input reads as it did. -/
def fnExactSupportersOfSpec : ChangeSpec := { name := "fnExactSupportersOf", fn := fun _ => fun
  | [d1, d2] => { results := [.lit (.bool true)], args := [d1, d2] }
  | _ => none }
def fnExactSupportersOfRow : OpenClaim := { program := "ythmckjhjankgeaa", sum := "92f04ed336e9b96f43eb73215dee5acdb767554a41e8fd6ed9faf952ed19e595", func := "loop.example/g01095/laws.FnExactSupportersOf", spec := "fnExactSupportersOf", unfollowed := true, recurses := true, apart := false }
def FnExactSupportersOfSaid : Prop := fnExactSupportersOfRow.holds Try.pinned (OpenSpec.ofChange fnExactSupportersOfSpec)

/-- ITS FALSE NEIGHBOUR: 'it returns false'. Refute it at one input. -/
def fnExactSupportersOfWrong : ChangeSpec := { name := "fnExactSupportersOf", fn := fun _ => fun
  | [d1, d2] => { results := [.lit (.bool false)], args := [d1, d2] }
  | _ => none }
def FnExactSupportersOfWrongFalsely : Prop := fnExactSupportersOfRow.holds Try.pinned (OpenSpec.ofChange fnExactSupportersOfWrong)

/-- 'laws.FnExactUnitShares': WHATEVER THE INPUT: true; the input reads as it did. -/
def fnExactUnitSharesSpec : ChangeSpec := { name := "fnExactUnitShares", fn := fun _ => fun
  | [d] => { results := [.lit (.bool true)], args := [d] }
  | _ => none }
def fnExactUnitSharesRow : OpenClaim := { program := "ythmckjhjankgeaa", sum := "92f04ed336e9b96f43eb73215dee5acdb767554a41e8fd6ed9faf952ed19e595", func := "loop.example/g01095/laws.FnExactUnitShares", spec := "fnExactUnitShares", apart := false }
def FnExactUnitSharesSaid : Prop := fnExactUnitSharesRow.holds Try.pinned (OpenSpec.ofChange fnExactUnitSharesSpec)

/-- ITS FALSE NEIGHBOUR: 'it returns false'. Refute it at one input. -/
def fnExactUnitSharesWrong : ChangeSpec := { name := "fnExactUnitShares", fn := fun _ => fun
  | [d] => { results := [.lit (.bool false)], args := [d] }
  | _ => none }
def FnExactUnitSharesWrongFalsely : Prop := fnExactUnitSharesRow.holds Try.pinned (OpenSpec.ofChange fnExactUnitSharesWrong)

/-- 'laws.FnExactReachedFrom': WHATEVER THE INPUT: true; the input reads as it did. -/
def fnExactReachedFromSpec : ChangeSpec := { name := "fnExactReachedFrom", fn := fun _ => fun
  | [d1, d2] => { results := [.lit (.bool true)], args := [d1, d2] }
  | _ => none }
def fnExactReachedFromRow : OpenClaim := { program := "ythmckjhjankgeaa", sum := "92f04ed336e9b96f43eb73215dee5acdb767554a41e8fd6ed9faf952ed19e595", func := "loop.example/g01095/laws.FnExactReachedFrom", spec := "fnExactReachedFrom", recurses := true, apart := false }
def FnExactReachedFromSaid : Prop := fnExactReachedFromRow.holds Try.pinned (OpenSpec.ofChange fnExactReachedFromSpec)

/-- ITS FALSE NEIGHBOUR: 'it returns false'. Refute it at one input. -/
def fnExactReachedFromWrong : ChangeSpec := { name := "fnExactReachedFrom", fn := fun _ => fun
  | [d1, d2] => { results := [.lit (.bool false)], args := [d1, d2] }
  | _ => none }
def FnExactReachedFromWrongFalsely : Prop := fnExactReachedFromRow.holds Try.pinned (OpenSpec.ofChange fnExactReachedFromWrong)

/-- 'laws.FnExactTrappedMembers': WHATEVER THE INPUT: true; the input reads as it did. -/
def fnExactTrappedMembersSpec : ChangeSpec := { name := "fnExactTrappedMembers", fn := fun _ => fun
  | [d] => { results := [.lit (.bool true)], args := [d] }
  | _ => none }
def fnExactTrappedMembersRow : OpenClaim := { program := "ythmckjhjankgeaa", sum := "92f04ed336e9b96f43eb73215dee5acdb767554a41e8fd6ed9faf952ed19e595", func := "loop.example/g01095/laws.FnExactTrappedMembers", spec := "fnExactTrappedMembers", unfollowed := true, recurses := true, apart := false }
def FnExactTrappedMembersSaid : Prop := fnExactTrappedMembersRow.holds Try.pinned (OpenSpec.ofChange fnExactTrappedMembersSpec)

/-- ITS FALSE NEIGHBOUR: 'it returns false'. Refute it at one input. -/
def fnExactTrappedMembersWrong : ChangeSpec := { name := "fnExactTrappedMembers", fn := fun _ => fun
  | [d] => { results := [.lit (.bool false)], args := [d] }
  | _ => none }
def FnExactTrappedMembersWrongFalsely : Prop := fnExactTrappedMembersRow.holds Try.pinned (OpenSpec.ofChange fnExactTrappedMembersWrong)

/- THE SECOND FORM. 'bulk': how many values and letters a reading holds, each counted each time it is reached (what is shared counts as often as it is met; a slice's spare places count too). A statement '..UptoSaid' is the law's where the arguments, and the package variables that the reading takes, are together of bulk at most 1048576: NARROWER than '..Said'. Prove '..Said' where nothing that the law and all that it calls make is longer than what came in: it says more and counts as full. Else prove '..UptoSaid'. A law counts once. -/
mutual
def uptoBulk {H : Type} : DataW H → Nat
  | .lit (.string bytes) => bytes.length + 1
  | .lit _ => 1
  | .nil => 1
  | .ptr d => uptoBulk d + 1
  | .slice elems spare => uptoBulkAll elems + uptoBulkAll spare + 1
  | .agg parts => uptoBulkAll parts + 1
  | .iface _ d => uptoBulk d + 1
  | .map entries => uptoBulkEntries entries + 1
  | .held _ => 1
def uptoBulkAll {H : Type} : List (DataW H) → Nat
  | [] => 0
  | d :: r => uptoBulk d + uptoBulkAll r
def uptoBulkEntries {H : Type} : List (Lit × DataW H) → Nat
  | [] => 0
  | x :: r => uptoBulkEntry x + uptoBulkEntries r
def uptoBulkEntry {H : Type} : Lit × DataW H → Nat
  | (.string bytes, d) => bytes.length + uptoBulk d + 1
  | (_, d) => uptoBulk d + 1
 end
def uptoSmall : (H : Type) → List (DataW H) → Bool := fun _ ds => decide (uptoBulkAll ds ≤ 1048576)
def OpenSpec.upto (s : _root_.Go.ChangeSpec) : _root_.Go.OpenSpec := { _root_.Go.OpenSpec.ofChange s with cond := some uptoSmall }

/-- 'laws.FnExactValidShares', WHERE WHAT IT READS IS OF BULK AT MOST 1048576: true; the input reads as it did. -/
def fnExactValidSharesUptoRow : OpenClaim := { program := "ythmckjhjankgeaa", sum := "92f04ed336e9b96f43eb73215dee5acdb767554a41e8fd6ed9faf952ed19e595", func := "loop.example/g01095/laws.FnExactValidShares", spec := "fnExactValidShares", apart := false, narrowed := true }
def FnExactValidSharesUptoSaid : Prop := fnExactValidSharesUptoRow.holds Try.pinned (OpenSpec.upto fnExactValidSharesSpec)

/-- 'laws.FnExactValidElection', WHERE WHAT IT READS IS OF BULK AT MOST 1048576: true; the input reads as it did. -/
def fnExactValidElectionUptoRow : OpenClaim := { program := "ythmckjhjankgeaa", sum := "92f04ed336e9b96f43eb73215dee5acdb767554a41e8fd6ed9faf952ed19e595", func := "loop.example/g01095/laws.FnExactValidElection", spec := "fnExactValidElection", unfollowed := true, recurses := true, apart := false, narrowed := true }
def FnExactValidElectionUptoSaid : Prop := fnExactValidElectionUptoRow.holds Try.pinned (OpenSpec.upto fnExactValidElectionSpec)

/-- 'laws.FnExactCostOf', WHERE WHAT IT READS IS OF BULK AT MOST 1048576: true; the input reads as it did. -/
def fnExactCostOfUptoRow : OpenClaim := { program := "ythmckjhjankgeaa", sum := "92f04ed336e9b96f43eb73215dee5acdb767554a41e8fd6ed9faf952ed19e595", func := "loop.example/g01095/laws.FnExactCostOf", spec := "fnExactCostOf", unfollowed := true, recurses := true, apart := false, narrowed := true }
def FnExactCostOfUptoSaid : Prop := fnExactCostOfUptoRow.holds Try.pinned (OpenSpec.upto fnExactCostOfSpec)

/-- 'laws.FnExactTakeBack', WHERE WHAT IT READS IS OF BULK AT MOST 1048576: true; the input reads as it did. -/
def fnExactTakeBackUptoRow : OpenClaim := { program := "ythmckjhjankgeaa", sum := "92f04ed336e9b96f43eb73215dee5acdb767554a41e8fd6ed9faf952ed19e595", func := "loop.example/g01095/laws.FnExactTakeBack", spec := "fnExactTakeBack", apart := false, narrowed := true }
def FnExactTakeBackUptoSaid : Prop := fnExactTakeBackUptoRow.holds Try.pinned (OpenSpec.upto fnExactTakeBackSpec)

/-- 'laws.FnExactKeptParts', WHERE WHAT IT READS IS OF BULK AT MOST 1048576: true; the input reads as it did. -/
def fnExactKeptPartsUptoRow : OpenClaim := { program := "ythmckjhjankgeaa", sum := "92f04ed336e9b96f43eb73215dee5acdb767554a41e8fd6ed9faf952ed19e595", func := "loop.example/g01095/laws.FnExactKeptParts", spec := "fnExactKeptParts", apart := false, narrowed := true }
def FnExactKeptPartsUptoSaid : Prop := fnExactKeptPartsUptoRow.holds Try.pinned (OpenSpec.upto fnExactKeptPartsSpec)

/-- 'laws.FnExactShareOf', WHERE WHAT IT READS IS OF BULK AT MOST 1048576: true; the input reads as it did. -/
def fnExactShareOfUptoRow : OpenClaim := { program := "ythmckjhjankgeaa", sum := "92f04ed336e9b96f43eb73215dee5acdb767554a41e8fd6ed9faf952ed19e595", func := "loop.example/g01095/laws.FnExactShareOf", spec := "fnExactShareOf", unfollowed := true, recurses := true, apart := false, narrowed := true }
def FnExactShareOfUptoSaid : Prop := fnExactShareOfUptoRow.holds Try.pinned (OpenSpec.upto fnExactShareOfSpec)

/-- 'laws.FnExactSupportersOf', WHERE WHAT IT READS IS OF BULK AT MOST 1048576: true; the input reads as it did. -/
def fnExactSupportersOfUptoRow : OpenClaim := { program := "ythmckjhjankgeaa", sum := "92f04ed336e9b96f43eb73215dee5acdb767554a41e8fd6ed9faf952ed19e595", func := "loop.example/g01095/laws.FnExactSupportersOf", spec := "fnExactSupportersOf", unfollowed := true, recurses := true, apart := false, narrowed := true }
def FnExactSupportersOfUptoSaid : Prop := fnExactSupportersOfUptoRow.holds Try.pinned (OpenSpec.upto fnExactSupportersOfSpec)

/-- 'laws.FnExactUnitShares', WHERE WHAT IT READS IS OF BULK AT MOST 1048576: true; the input reads as it did. -/
def fnExactUnitSharesUptoRow : OpenClaim := { program := "ythmckjhjankgeaa", sum := "92f04ed336e9b96f43eb73215dee5acdb767554a41e8fd6ed9faf952ed19e595", func := "loop.example/g01095/laws.FnExactUnitShares", spec := "fnExactUnitShares", apart := false, narrowed := true }
def FnExactUnitSharesUptoSaid : Prop := fnExactUnitSharesUptoRow.holds Try.pinned (OpenSpec.upto fnExactUnitSharesSpec)

/-- 'laws.FnExactReachedFrom', WHERE WHAT IT READS IS OF BULK AT MOST 1048576: true; the input reads as it did. -/
def fnExactReachedFromUptoRow : OpenClaim := { program := "ythmckjhjankgeaa", sum := "92f04ed336e9b96f43eb73215dee5acdb767554a41e8fd6ed9faf952ed19e595", func := "loop.example/g01095/laws.FnExactReachedFrom", spec := "fnExactReachedFrom", recurses := true, apart := false, narrowed := true }
def FnExactReachedFromUptoSaid : Prop := fnExactReachedFromUptoRow.holds Try.pinned (OpenSpec.upto fnExactReachedFromSpec)

/-- 'laws.FnExactTrappedMembers', WHERE WHAT IT READS IS OF BULK AT MOST 1048576: true; the input reads as it did. -/
def fnExactTrappedMembersUptoRow : OpenClaim := { program := "ythmckjhjankgeaa", sum := "92f04ed336e9b96f43eb73215dee5acdb767554a41e8fd6ed9faf952ed19e595", func := "loop.example/g01095/laws.FnExactTrappedMembers", spec := "fnExactTrappedMembers", unfollowed := true, recurses := true, apart := false, narrowed := true }
def FnExactTrappedMembersUptoSaid : Prop := fnExactTrappedMembersUptoRow.holds Try.pinned (OpenSpec.upto fnExactTrappedMembersSpec)

end Rows
end Go.Proofs.Ythmckjhjankgeaa
