/-
  No cell of these rows narrows 'for every input' (looked for: loops, veiled, ifaces, maps, wideKeys, modest, calm, conditions, laid).
  DERIVED. THE GIVEN ROWS OF THIS SEAT. 11 by the template 'for every input the law returns true; each argument reads behind the call as it read before'; 0 by the template 'total and deterministic' (their statements: YtoedphgoaifojaaTotals.lean).
  GIVEN WITH THE SEED: the statements are not yours to turn. If you find one false, say at which input.
  Laid BY PROGRAM, IN A SANDBOX (cutbox-rows.mjs): the forced cells as the released guide's own fill.sh prints them over the translation 2a380f6409a93e17… (all of the seat's roots in one cut). By AI agents, Wed Nov 11 2026. No macro, syntax, notation, axiom, sorry.
-/
import Derived.Test.YtoedphgoaifojaaChecked
import GoSem.Claim
import GoSem.ClaimJoined
import GoSem.ClaimMapViews
import Derived.JoinedTies
import Derived.KernelRfl
namespace Go.Proofs.Ytoedphgoaifojaa
/- THE CELL 'sum', in the pinned program and in every row, IS THE sha256 OF THE DUMP (.gsa) THAT YtoedphgoaifojaaProg.lean LOADS. Nothing in Lean hashes anything: it is a label: what it is worth is what the hold of that sum in a sandbox is worth. -/
noncomputable def Try.pinned : Pinned := { name := "ytoedphgoaifojaa", sum := "2a380f6409a93e1785c23aa7778ae8e11ecce7f63faf0c6f1a284ff030a1f513", checked := Try.checked }
namespace Rows
def none {H : Type} : Left H := { results := [], args := [] }

/-- 'laws.FnExactValidPool': WHATEVER THE INPUT: true; the input reads as it did. -/
def fnExactValidPoolSpec : ChangeSpec := { name := "fnExactValidPool", fn := fun _ => fun
  | [d] => { results := [.lit (.bool true)], args := [d] }
  | _ => none }
def fnExactValidPoolRow : OpenClaim := { program := "ytoedphgoaifojaa", sum := "2a380f6409a93e1785c23aa7778ae8e11ecce7f63faf0c6f1a284ff030a1f513", func := "loop.example/g01095/laws.FnExactValidPool", spec := "fnExactValidPool", apart := false }
def FnExactValidPoolSaid : Prop := fnExactValidPoolRow.holds Try.pinned (OpenSpec.ofChange fnExactValidPoolSpec)

/-- ITS FALSE NEIGHBOUR: 'it returns false'. Refute it at one input. -/
def fnExactValidPoolWrong : ChangeSpec := { name := "fnExactValidPool", fn := fun _ => fun
  | [d] => { results := [.lit (.bool false)], args := [d] }
  | _ => none }
def FnExactValidPoolWrongFalsely : Prop := fnExactValidPoolRow.holds Try.pinned (OpenSpec.ofChange fnExactValidPoolWrong)

/-- 'laws.FnExactIsPanel': WHATEVER THE INPUT: true; the input reads as it did. -/
def fnExactIsPanelSpec : ChangeSpec := { name := "fnExactIsPanel", fn := fun _ => fun
  | [d1, d2] => { results := [.lit (.bool true)], args := [d1, d2] }
  | _ => none }
def fnExactIsPanelRow : OpenClaim := { program := "ytoedphgoaifojaa", sum := "2a380f6409a93e1785c23aa7778ae8e11ecce7f63faf0c6f1a284ff030a1f513", func := "loop.example/g01095/laws.FnExactIsPanel", spec := "fnExactIsPanel", apart := false }
def FnExactIsPanelSaid : Prop := fnExactIsPanelRow.holds Try.pinned (OpenSpec.ofChange fnExactIsPanelSpec)

/-- ITS FALSE NEIGHBOUR: 'it returns false'. Refute it at one input. -/
def fnExactIsPanelWrong : ChangeSpec := { name := "fnExactIsPanel", fn := fun _ => fun
  | [d1, d2] => { results := [.lit (.bool false)], args := [d1, d2] }
  | _ => none }
def FnExactIsPanelWrongFalsely : Prop := fnExactIsPanelRow.holds Try.pinned (OpenSpec.ofChange fnExactIsPanelWrong)

/-- 'laws.FnExactShortfallOf': WHATEVER THE INPUT: true; the input reads as it did. -/
def fnExactShortfallOfSpec : ChangeSpec := { name := "fnExactShortfallOf", fn := fun _ => fun
  | [d1, d2] => { results := [.lit (.bool true)], args := [d1, d2] }
  | _ => none }
def fnExactShortfallOfRow : OpenClaim := { program := "ytoedphgoaifojaa", sum := "2a380f6409a93e1785c23aa7778ae8e11ecce7f63faf0c6f1a284ff030a1f513", func := "loop.example/g01095/laws.FnExactShortfallOf", spec := "fnExactShortfallOf", apart := false }
def FnExactShortfallOfSaid : Prop := fnExactShortfallOfRow.holds Try.pinned (OpenSpec.ofChange fnExactShortfallOfSpec)

/-- ITS FALSE NEIGHBOUR: 'it returns false'. Refute it at one input. -/
def fnExactShortfallOfWrong : ChangeSpec := { name := "fnExactShortfallOf", fn := fun _ => fun
  | [d1, d2] => { results := [.lit (.bool false)], args := [d1, d2] }
  | _ => none }
def FnExactShortfallOfWrongFalsely : Prop := fnExactShortfallOfRow.holds Try.pinned (OpenSpec.ofChange fnExactShortfallOfWrong)

/-- 'laws.FnExactCompareEven': WHATEVER THE INPUT: true; the input reads as it did. -/
def fnExactCompareEvenSpec : ChangeSpec := { name := "fnExactCompareEven", fn := fun _ => fun
  | [d1, d2] => { results := [.lit (.bool true)], args := [d1, d2] }
  | _ => none }
def fnExactCompareEvenRow : OpenClaim := { program := "ytoedphgoaifojaa", sum := "2a380f6409a93e1785c23aa7778ae8e11ecce7f63faf0c6f1a284ff030a1f513", func := "loop.example/g01095/laws.FnExactCompareEven", spec := "fnExactCompareEven", unfollowed := true, recurses := true, apart := false }
def FnExactCompareEvenSaid : Prop := fnExactCompareEvenRow.holds Try.pinned (OpenSpec.ofChange fnExactCompareEvenSpec)

/-- ITS FALSE NEIGHBOUR: 'it returns false'. Refute it at one input. -/
def fnExactCompareEvenWrong : ChangeSpec := { name := "fnExactCompareEven", fn := fun _ => fun
  | [d1, d2] => { results := [.lit (.bool false)], args := [d1, d2] }
  | _ => none }
def FnExactCompareEvenWrongFalsely : Prop := fnExactCompareEvenRow.holds Try.pinned (OpenSpec.ofChange fnExactCompareEvenWrong)

/-- 'laws.FnExactSubstitutesFor': WHATEVER THE INPUT: true; the input reads as it did. -/
def fnExactSubstitutesForSpec : ChangeSpec := { name := "fnExactSubstitutesFor", fn := fun _ => fun
  | [d1, d2, d3] => { results := [.lit (.bool true)], args := [d1, d2, d3] }
  | _ => none }
def fnExactSubstitutesForRow : OpenClaim := { program := "ytoedphgoaifojaa", sum := "2a380f6409a93e1785c23aa7778ae8e11ecce7f63faf0c6f1a284ff030a1f513", func := "loop.example/g01095/laws.FnExactSubstitutesFor", spec := "fnExactSubstitutesFor", recurses := true, apart := false }
def FnExactSubstitutesForSaid : Prop := fnExactSubstitutesForRow.holds Try.pinned (OpenSpec.ofChange fnExactSubstitutesForSpec)

/-- ITS FALSE NEIGHBOUR: 'it returns false'. Refute it at one input. -/
def fnExactSubstitutesForWrong : ChangeSpec := { name := "fnExactSubstitutesFor", fn := fun _ => fun
  | [d1, d2, d3] => { results := [.lit (.bool false)], args := [d1, d2, d3] }
  | _ => none }
def FnExactSubstitutesForWrongFalsely : Prop := fnExactSubstitutesForRow.holds Try.pinned (OpenSpec.ofChange fnExactSubstitutesForWrong)

/-- 'laws.FnExactNearestPanel': WHATEVER THE INPUT: true; the input reads as it did. -/
def fnExactNearestPanelSpec : ChangeSpec := { name := "fnExactNearestPanel", fn := fun _ => fun
  | [d] => { results := [.lit (.bool true)], args := [d] }
  | _ => none }
def fnExactNearestPanelRow : OpenClaim := { program := "ytoedphgoaifojaa", sum := "2a380f6409a93e1785c23aa7778ae8e11ecce7f63faf0c6f1a284ff030a1f513", func := "loop.example/g01095/laws.FnExactNearestPanel", spec := "fnExactNearestPanel", unfollowed := true, recurses := true, apart := false }
def FnExactNearestPanelSaid : Prop := fnExactNearestPanelRow.holds Try.pinned (OpenSpec.ofChange fnExactNearestPanelSpec)

/-- ITS FALSE NEIGHBOUR: 'it returns false'. Refute it at one input. -/
def fnExactNearestPanelWrong : ChangeSpec := { name := "fnExactNearestPanel", fn := fun _ => fun
  | [d] => { results := [.lit (.bool false)], args := [d] }
  | _ => none }
def FnExactNearestPanelWrongFalsely : Prop := fnExactNearestPanelRow.holds Try.pinned (OpenSpec.ofChange fnExactNearestPanelWrong)

/-- 'laws.FnExactValidTickets': WHATEVER THE INPUT: true; the input reads as it did. -/
def fnExactValidTicketsSpec : ChangeSpec := { name := "fnExactValidTickets", fn := fun _ => fun
  | [d1, d2] => { results := [.lit (.bool true)], args := [d1, d2] }
  | _ => none }
def fnExactValidTicketsRow : OpenClaim := { program := "ytoedphgoaifojaa", sum := "2a380f6409a93e1785c23aa7778ae8e11ecce7f63faf0c6f1a284ff030a1f513", func := "loop.example/g01095/laws.FnExactValidTickets", spec := "fnExactValidTickets", unfollowed := true, recurses := true, apart := false }
def FnExactValidTicketsSaid : Prop := fnExactValidTicketsRow.holds Try.pinned (OpenSpec.ofChange fnExactValidTicketsSpec)

/-- ITS FALSE NEIGHBOUR: 'it returns false'. Refute it at one input. -/
def fnExactValidTicketsWrong : ChangeSpec := { name := "fnExactValidTickets", fn := fun _ => fun
  | [d1, d2] => { results := [.lit (.bool false)], args := [d1, d2] }
  | _ => none }
def FnExactValidTicketsWrongFalsely : Prop := fnExactValidTicketsRow.holds Try.pinned (OpenSpec.ofChange fnExactValidTicketsWrong)

/-- 'laws.FnExactPanelsOf': WHATEVER THE INPUT: true; the input reads as it did. -/
def fnExactPanelsOfSpec : ChangeSpec := { name := "fnExactPanelsOf", fn := fun _ => fun
  | [d] => { results := [.lit (.bool true)], args := [d] }
  | _ => none }
def fnExactPanelsOfRow : OpenClaim := { program := "ytoedphgoaifojaa", sum := "2a380f6409a93e1785c23aa7778ae8e11ecce7f63faf0c6f1a284ff030a1f513", func := "loop.example/g01095/laws.FnExactPanelsOf", spec := "fnExactPanelsOf", unfollowed := true, recurses := true, apart := false }
def FnExactPanelsOfSaid : Prop := fnExactPanelsOfRow.holds Try.pinned (OpenSpec.ofChange fnExactPanelsOfSpec)

/-- ITS FALSE NEIGHBOUR: 'it returns false'. Refute it at one input. -/
def fnExactPanelsOfWrong : ChangeSpec := { name := "fnExactPanelsOf", fn := fun _ => fun
  | [d] => { results := [.lit (.bool false)], args := [d] }
  | _ => none }
def FnExactPanelsOfWrongFalsely : Prop := fnExactPanelsOfRow.holds Try.pinned (OpenSpec.ofChange fnExactPanelsOfWrong)

/-- 'laws.FnExactPanelOfTicket': WHATEVER THE INPUT: true; the input reads as it did. -/
def fnExactPanelOfTicketSpec : ChangeSpec := { name := "fnExactPanelOfTicket", fn := fun _ => fun
  | [d1, d2, d3] => { results := [.lit (.bool true)], args := [d1, d2, d3] }
  | _ => none }
def fnExactPanelOfTicketRow : OpenClaim := { program := "ytoedphgoaifojaa", sum := "2a380f6409a93e1785c23aa7778ae8e11ecce7f63faf0c6f1a284ff030a1f513", func := "loop.example/g01095/laws.FnExactPanelOfTicket", spec := "fnExactPanelOfTicket", unfollowed := true, recurses := true, apart := false }
def FnExactPanelOfTicketSaid : Prop := fnExactPanelOfTicketRow.holds Try.pinned (OpenSpec.ofChange fnExactPanelOfTicketSpec)

/-- ITS FALSE NEIGHBOUR: 'it returns false'. Refute it at one input. -/
def fnExactPanelOfTicketWrong : ChangeSpec := { name := "fnExactPanelOfTicket", fn := fun _ => fun
  | [d1, d2, d3] => { results := [.lit (.bool false)], args := [d1, d2, d3] }
  | _ => none }
def FnExactPanelOfTicketWrongFalsely : Prop := fnExactPanelOfTicketRow.holds Try.pinned (OpenSpec.ofChange fnExactPanelOfTicketWrong)

/-- 'laws.FnExactBoundBy': WHATEVER THE INPUT: true; the input reads as it did. -/
def fnExactBoundBySpec : ChangeSpec := { name := "fnExactBoundBy", fn := fun _ => fun
  | [d1, d2] => { results := [.lit (.bool true)], args := [d1, d2] }
  | _ => none }
def fnExactBoundByRow : OpenClaim := { program := "ytoedphgoaifojaa", sum := "2a380f6409a93e1785c23aa7778ae8e11ecce7f63faf0c6f1a284ff030a1f513", func := "loop.example/g01095/laws.FnExactBoundBy", spec := "fnExactBoundBy", unfollowed := true, recurses := true, apart := false }
def FnExactBoundBySaid : Prop := fnExactBoundByRow.holds Try.pinned (OpenSpec.ofChange fnExactBoundBySpec)

/-- ITS FALSE NEIGHBOUR: 'it returns false'. Refute it at one input. -/
def fnExactBoundByWrong : ChangeSpec := { name := "fnExactBoundBy", fn := fun _ => fun
  | [d1, d2] => { results := [.lit (.bool false)], args := [d1, d2] }
  | _ => none }
def FnExactBoundByWrongFalsely : Prop := fnExactBoundByRow.holds Try.pinned (OpenSpec.ofChange fnExactBoundByWrong)

/-- 'laws.FnExactChancesOf': WHATEVER THE INPUT: true; the input reads as it did. -/
def fnExactChancesOfSpec : ChangeSpec := { name := "fnExactChancesOf", fn := fun _ => fun
  | [d1, d2] => { results := [.lit (.bool true)], args := [d1, d2] }
  | _ => none }
def fnExactChancesOfRow : OpenClaim := { program := "ytoedphgoaifojaa", sum := "2a380f6409a93e1785c23aa7778ae8e11ecce7f63faf0c6f1a284ff030a1f513", func := "loop.example/g01095/laws.FnExactChancesOf", spec := "fnExactChancesOf", unfollowed := true, recurses := true, apart := false }
def FnExactChancesOfSaid : Prop := fnExactChancesOfRow.holds Try.pinned (OpenSpec.ofChange fnExactChancesOfSpec)

/-- ITS FALSE NEIGHBOUR: 'it returns false'. Refute it at one input. -/
def fnExactChancesOfWrong : ChangeSpec := { name := "fnExactChancesOf", fn := fun _ => fun
  | [d1, d2] => { results := [.lit (.bool false)], args := [d1, d2] }
  | _ => none }
def FnExactChancesOfWrongFalsely : Prop := fnExactChancesOfRow.holds Try.pinned (OpenSpec.ofChange fnExactChancesOfWrong)

/- THE SECOND FORM. 'bulk': how many values and letters a reading holds, each counted each time it is reached (what is shared counts as often as it is met; a slice's spare places count too). A statement '..UptoSaid' is the law's where the arguments, and the package variables that the reading takes, are together of bulk at most 1048576: NARROWER than '..Said'. Prove '..Said' where nothing that the law and all that it calls make is longer than what came in: it says more and counts as full. Else prove '..UptoSaid'. A law counts once. -/
mutual
def uptoBulk {H : Type} : DataW H → Nat
  | .lit (.string bytes) => bytes.length + 1
  | .lit _ => 1
  | .nil => 1
  | .ptr d => uptoBulk d + 1
  | .slice elems spare => uptoBulkAll elems + uptoBulkAll spare + 1
  | .agg parts => uptoBulkAll parts + 1
  | .iface _ d => uptoBulk d + 1
  | .map entries => uptoBulkEntries entries + 1
  | .held _ => 1
def uptoBulkAll {H : Type} : List (DataW H) → Nat
  | [] => 0
  | d :: r => uptoBulk d + uptoBulkAll r
def uptoBulkEntries {H : Type} : List (Lit × DataW H) → Nat
  | [] => 0
  | x :: r => uptoBulkEntry x + uptoBulkEntries r
def uptoBulkEntry {H : Type} : Lit × DataW H → Nat
  | (.string bytes, d) => bytes.length + uptoBulk d + 1
  | (_, d) => uptoBulk d + 1
 end
def uptoSmall : (H : Type) → List (DataW H) → Bool := fun _ ds => decide (uptoBulkAll ds ≤ 1048576)
def OpenSpec.upto (s : _root_.Go.ChangeSpec) : _root_.Go.OpenSpec := { _root_.Go.OpenSpec.ofChange s with cond := some uptoSmall }

/-- 'laws.FnExactValidPool', WHERE WHAT IT READS IS OF BULK AT MOST 1048576: true; the input reads as it did. -/
def fnExactValidPoolUptoRow : OpenClaim := { program := "ytoedphgoaifojaa", sum := "2a380f6409a93e1785c23aa7778ae8e11ecce7f63faf0c6f1a284ff030a1f513", func := "loop.example/g01095/laws.FnExactValidPool", spec := "fnExactValidPool", apart := false, narrowed := true }
def FnExactValidPoolUptoSaid : Prop := fnExactValidPoolUptoRow.holds Try.pinned (OpenSpec.upto fnExactValidPoolSpec)

/-- 'laws.FnExactIsPanel', WHERE WHAT IT READS IS OF BULK AT MOST 1048576: true; the input reads as it did. -/
def fnExactIsPanelUptoRow : OpenClaim := { program := "ytoedphgoaifojaa", sum := "2a380f6409a93e1785c23aa7778ae8e11ecce7f63faf0c6f1a284ff030a1f513", func := "loop.example/g01095/laws.FnExactIsPanel", spec := "fnExactIsPanel", apart := false, narrowed := true }
def FnExactIsPanelUptoSaid : Prop := fnExactIsPanelUptoRow.holds Try.pinned (OpenSpec.upto fnExactIsPanelSpec)

/-- 'laws.FnExactShortfallOf', WHERE WHAT IT READS IS OF BULK AT MOST 1048576: true; the input reads as it did. -/
def fnExactShortfallOfUptoRow : OpenClaim := { program := "ytoedphgoaifojaa", sum := "2a380f6409a93e1785c23aa7778ae8e11ecce7f63faf0c6f1a284ff030a1f513", func := "loop.example/g01095/laws.FnExactShortfallOf", spec := "fnExactShortfallOf", apart := false, narrowed := true }
def FnExactShortfallOfUptoSaid : Prop := fnExactShortfallOfUptoRow.holds Try.pinned (OpenSpec.upto fnExactShortfallOfSpec)

/-- 'laws.FnExactCompareEven', WHERE WHAT IT READS IS OF BULK AT MOST 1048576: true; the input reads as it did. -/
def fnExactCompareEvenUptoRow : OpenClaim := { program := "ytoedphgoaifojaa", sum := "2a380f6409a93e1785c23aa7778ae8e11ecce7f63faf0c6f1a284ff030a1f513", func := "loop.example/g01095/laws.FnExactCompareEven", spec := "fnExactCompareEven", unfollowed := true, recurses := true, apart := false, narrowed := true }
def FnExactCompareEvenUptoSaid : Prop := fnExactCompareEvenUptoRow.holds Try.pinned (OpenSpec.upto fnExactCompareEvenSpec)

/-- 'laws.FnExactSubstitutesFor', WHERE WHAT IT READS IS OF BULK AT MOST 1048576: true; the input reads as it did. -/
def fnExactSubstitutesForUptoRow : OpenClaim := { program := "ytoedphgoaifojaa", sum := "2a380f6409a93e1785c23aa7778ae8e11ecce7f63faf0c6f1a284ff030a1f513", func := "loop.example/g01095/laws.FnExactSubstitutesFor", spec := "fnExactSubstitutesFor", recurses := true, apart := false, narrowed := true }
def FnExactSubstitutesForUptoSaid : Prop := fnExactSubstitutesForUptoRow.holds Try.pinned (OpenSpec.upto fnExactSubstitutesForSpec)

/-- 'laws.FnExactNearestPanel', WHERE WHAT IT READS IS OF BULK AT MOST 1048576: true; the input reads as it did. -/
def fnExactNearestPanelUptoRow : OpenClaim := { program := "ytoedphgoaifojaa", sum := "2a380f6409a93e1785c23aa7778ae8e11ecce7f63faf0c6f1a284ff030a1f513", func := "loop.example/g01095/laws.FnExactNearestPanel", spec := "fnExactNearestPanel", unfollowed := true, recurses := true, apart := false, narrowed := true }
def FnExactNearestPanelUptoSaid : Prop := fnExactNearestPanelUptoRow.holds Try.pinned (OpenSpec.upto fnExactNearestPanelSpec)

/-- 'laws.FnExactValidTickets', WHERE WHAT IT READS IS OF BULK AT MOST 1048576: true; the input reads as it did. -/
def fnExactValidTicketsUptoRow : OpenClaim := { program := "ytoedphgoaifojaa", sum := "2a380f6409a93e1785c23aa7778ae8e11ecce7f63faf0c6f1a284ff030a1f513", func := "loop.example/g01095/laws.FnExactValidTickets", spec := "fnExactValidTickets", unfollowed := true, recurses := true, apart := false, narrowed := true }
def FnExactValidTicketsUptoSaid : Prop := fnExactValidTicketsUptoRow.holds Try.pinned (OpenSpec.upto fnExactValidTicketsSpec)

/-- 'laws.FnExactPanelsOf', WHERE WHAT IT READS IS OF BULK AT MOST 1048576: true; the input reads as it did. -/
def fnExactPanelsOfUptoRow : OpenClaim := { program := "ytoedphgoaifojaa", sum := "2a380f6409a93e1785c23aa7778ae8e11ecce7f63faf0c6f1a284ff030a1f513", func := "loop.example/g01095/laws.FnExactPanelsOf", spec := "fnExactPanelsOf", unfollowed := true, recurses := true, apart := false, narrowed := true }
def FnExactPanelsOfUptoSaid : Prop := fnExactPanelsOfUptoRow.holds Try.pinned (OpenSpec.upto fnExactPanelsOfSpec)

/-- 'laws.FnExactPanelOfTicket', WHERE WHAT IT READS IS OF BULK AT MOST 1048576: true; the input reads as it did. -/
def fnExactPanelOfTicketUptoRow : OpenClaim := { program := "ytoedphgoaifojaa", sum := "2a380f6409a93e1785c23aa7778ae8e11ecce7f63faf0c6f1a284ff030a1f513", func := "loop.example/g01095/laws.FnExactPanelOfTicket", spec := "fnExactPanelOfTicket", unfollowed := true, recurses := true, apart := false, narrowed := true }
def FnExactPanelOfTicketUptoSaid : Prop := fnExactPanelOfTicketUptoRow.holds Try.pinned (OpenSpec.upto fnExactPanelOfTicketSpec)

/-- 'laws.FnExactBoundBy', WHERE WHAT IT READS IS OF BULK AT MOST 1048576: true; the input reads as it did. -/
def fnExactBoundByUptoRow : OpenClaim := { program := "ytoedphgoaifojaa", sum := "2a380f6409a93e1785c23aa7778ae8e11ecce7f63faf0c6f1a284ff030a1f513", func := "loop.example/g01095/laws.FnExactBoundBy", spec := "fnExactBoundBy", unfollowed := true, recurses := true, apart := false, narrowed := true }
def FnExactBoundByUptoSaid : Prop := fnExactBoundByUptoRow.holds Try.pinned (OpenSpec.upto fnExactBoundBySpec)

/-- 'laws.FnExactChancesOf', WHERE WHAT IT READS IS OF BULK AT MOST 1048576: true; the input reads as it did. -/
def fnExactChancesOfUptoRow : OpenClaim := { program := "ytoedphgoaifojaa", sum := "2a380f6409a93e1785c23aa7778ae8e11ecce7f63faf0c6f1a284ff030a1f513", func := "loop.example/g01095/laws.FnExactChancesOf", spec := "fnExactChancesOf", unfollowed := true, recurses := true, apart := false, narrowed := true }
def FnExactChancesOfUptoSaid : Prop := fnExactChancesOfUptoRow.holds Try.pinned (OpenSpec.upto fnExactChancesOfSpec)

end Rows
end Go.Proofs.Ytoedphgoaifojaa
