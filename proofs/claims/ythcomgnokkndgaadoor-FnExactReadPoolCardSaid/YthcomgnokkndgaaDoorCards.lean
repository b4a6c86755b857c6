/-
  DERIVED. GIVEN WITH THE SEED: THE CARDS: each row of YthcomgnokkndgaaDoorRows.lean that lists a variable, with what it lists TIED to the program's text (the seventh form; the later family's looks); each row that meets fmt, with fmt's text TOLD by the authors' own Lean function (tested against real Go, not proved from fmt's source: count such statements apart). THE CARD IS WHAT COUNTS. Prove the row's statement (the work); the ties are given (YthcomgnokkndgaaDoorTie.lean); close each card by the builder's one call (the guide's Derived/Test/ToyasCard.lean, 'card_holds'). Laid BY PROGRAM, IN A SANDBOX (cutbox-door.mjs). By AI agents, Wed Nov 11 2026. No macro, syntax, notation, axiom, sorry.
-/
import Derived.Test.YthcomgnokkndgaaDoorRows
import GoSem.ClaimSeven
namespace Go.Proofs.YthcomgnokkndgaaDoor
namespace Rows

/-- THE TIED CARD OF 'laws.FnExactReadShares'. -/
def fnExactReadSharesCard : Claim7 := { stood := { row := fnExactReadSharesRow, standIns := [], harness := (true, "380ff85fba5770c7bc2d267d5b52e04a1401e329747ebac1a7e01005b65b401e"), looks := true }, kinds := [], alts := [], laidByText := true, laidKinds := [.data, .data, .data, .data, .sentinel, .sentinel, .pinned], laidTests := true, laidLooks := .later }
def FnExactReadSharesCardSaid : Prop := Claim7.holds Tryd.pinned (.plain (OpenSpec.ofChange fnExactReadSharesSpec)) fnExactReadSharesCard

/-- THE TIED CARD OF 'laws.FnExactReadPool'. -/
def fnExactReadPoolCard : Claim7 := { stood := { row := fnExactReadPoolRow, standIns := [], harness := (true, "380ff85fba5770c7bc2d267d5b52e04a1401e329747ebac1a7e01005b65b401e"), looks := true }, kinds := [], alts := [], laidByText := true, laidKinds := [.data, .data, .data, .data, .sentinel, .sentinel, .pinned], laidTests := true, laidLooks := .later }
def FnExactReadPoolCardSaid : Prop := Claim7.holds Tryd.pinned (.plain (OpenSpec.ofChange fnExactReadPoolSpec)) fnExactReadPoolCard

/-- THE TIED CARD OF 'laws.FnExactReadVoices'. -/
def fnExactReadVoicesCard : Claim7 := { stood := { row := fnExactReadVoicesRow, standIns := [], harness := (true, "380ff85fba5770c7bc2d267d5b52e04a1401e329747ebac1a7e01005b65b401e"), looks := true }, kinds := [], alts := [], laidByText := true, laidKinds := [.data, .data, .data, .data, .sentinel, .sentinel, .pinned], laidTests := true, laidLooks := .later }
def FnExactReadVoicesCardSaid : Prop := Claim7.holds Tryd.pinned (.plain (OpenSpec.ofChange fnExactReadVoicesSpec)) fnExactReadVoicesCard

/-- THE SECOND FORM's CARD OF 'laws.FnExactReadShares'. -/
def fnExactReadSharesUptoCard : Claim7 := { stood := { row := fnExactReadSharesUptoRow, standIns := [], harness := (true, "380ff85fba5770c7bc2d267d5b52e04a1401e329747ebac1a7e01005b65b401e"), looks := true }, kinds := [], alts := [], laidByText := true, laidKinds := [.data, .data, .data, .data, .sentinel, .sentinel, .pinned], laidTests := true, laidLooks := .later }
def FnExactReadSharesUptoCardSaid : Prop := Claim7.holds Tryd.pinned (.plain (OpenSpec.upto fnExactReadSharesSpec)) fnExactReadSharesUptoCard

/-- THE SECOND FORM's CARD OF 'laws.FnExactReadPool'. -/
def fnExactReadPoolUptoCard : Claim7 := { stood := { row := fnExactReadPoolUptoRow, standIns := [], harness := (true, "380ff85fba5770c7bc2d267d5b52e04a1401e329747ebac1a7e01005b65b401e"), looks := true }, kinds := [], alts := [], laidByText := true, laidKinds := [.data, .data, .data, .data, .sentinel, .sentinel, .pinned], laidTests := true, laidLooks := .later }
def FnExactReadPoolUptoCardSaid : Prop := Claim7.holds Tryd.pinned (.plain (OpenSpec.upto fnExactReadPoolSpec)) fnExactReadPoolUptoCard

/-- THE SECOND FORM's CARD OF 'laws.FnExactReadVoices'. -/
def fnExactReadVoicesUptoCard : Claim7 := { stood := { row := fnExactReadVoicesUptoRow, standIns := [], harness := (true, "380ff85fba5770c7bc2d267d5b52e04a1401e329747ebac1a7e01005b65b401e"), looks := true }, kinds := [], alts := [], laidByText := true, laidKinds := [.data, .data, .data, .data, .sentinel, .sentinel, .pinned], laidTests := true, laidLooks := .later }
def FnExactReadVoicesUptoCardSaid : Prop := Claim7.holds Tryd.pinned (.plain (OpenSpec.upto fnExactReadVoicesSpec)) fnExactReadVoicesUptoCard
end Rows
end Go.Proofs.YthcomgnokkndgaaDoor
