/-
  DERIVED. GIVEN WITH THE SEED: THE CARDS: each row of YtomkhjcejjkelaaDoorRows.lean that lists a variable, with what it lists TIED to the program's text (the seventh form; the later family's looks); each row that meets fmt, with fmt's text TOLD by the authors' own Lean function (tested against real Go, not proved from fmt's source: count such statements apart). THE CARD IS WHAT COUNTS. Prove the row's statement (the work); the ties are given (YtomkhjcejjkelaaDoorTie.lean); close each card by the builder's one call (the guide's Derived/Test/ToyasCard.lean, 'card_holds'). Laid BY PROGRAM, IN A SANDBOX (cutbox-door.mjs). By AI agents, Wed Nov 11 2026. No macro, syntax, notation, axiom, sorry.
-/
import Derived.Test.YtomkhjcejjkelaaDoorRows
import GoSem.ClaimSeven
namespace Go.Proofs.YtomkhjcejjkelaaDoor
namespace Rows

/-- THE TIED CARD OF 'laws.FnExactReadShares'. -/
def fnExactReadSharesCard : Claim7 := { stood := { row := fnExactReadSharesRow, standIns := [], harness := (true, "5cd352201c1a34fe07fc50bf4b73611c6327cfe9162a70029ea323396f7942c5"), looks := true }, kinds := [], alts := [], laidByText := true, laidKinds := [.data, .data, .data, .data, .sentinel, .sentinel, .pinned], laidTests := true, laidLooks := .later }
def FnExactReadSharesCardSaid : Prop := Claim7.holds Tryd.pinned (.plain (OpenSpec.ofChange fnExactReadSharesSpec)) fnExactReadSharesCard

/-- THE TIED CARD OF 'laws.FnExactReadPool'. -/
def fnExactReadPoolCard : Claim7 := { stood := { row := fnExactReadPoolRow, standIns := [], harness := (true, "5cd352201c1a34fe07fc50bf4b73611c6327cfe9162a70029ea323396f7942c5"), looks := true }, kinds := [], alts := [], laidByText := true, laidKinds := [.data, .data, .data, .data, .sentinel, .sentinel, .pinned], laidTests := true, laidLooks := .later }
def FnExactReadPoolCardSaid : Prop := Claim7.holds Tryd.pinned (.plain (OpenSpec.ofChange fnExactReadPoolSpec)) fnExactReadPoolCard

/-- THE TIED CARD OF 'laws.FnExactReadVoices'. -/
def fnExactReadVoicesCard : Claim7 := { stood := { row := fnExactReadVoicesRow, standIns := [], harness := (true, "5cd352201c1a34fe07fc50bf4b73611c6327cfe9162a70029ea323396f7942c5"), looks := true }, kinds := [], alts := [], laidByText := true, laidKinds := [.data, .data, .data, .data, .sentinel, .sentinel, .pinned], laidTests := true, laidLooks := .later }
def FnExactReadVoicesCardSaid : Prop := Claim7.holds Tryd.pinned (.plain (OpenSpec.ofChange fnExactReadVoicesSpec)) fnExactReadVoicesCard

/-- THE TIED CARD OF 'laws.FnExactDecimal'. -/
def fnExactDecimalCard : Claim7 := { stood := { row := fnExactDecimalRow, standIns := [], harness := (true, "5cd352201c1a34fe07fc50bf4b73611c6327cfe9162a70029ea323396f7942c5"), looks := true }, kinds := [], alts := [], laidByText := true, laidKinds := [.data, .data, .data], laidTests := true, laidLooks := .later }
def FnExactDecimalCardSaid : Prop := Claim7.holds Tryd.pinned (.plain (OpenSpec.ofChange fnExactDecimalSpec)) fnExactDecimalCard

/-- THE TIED CARD OF 'laws.FnExactFractionText'. -/
def fnExactFractionTextCard : Claim7 := { stood := { row := fnExactFractionTextRow, standIns := [], harness := (true, "5cd352201c1a34fe07fc50bf4b73611c6327cfe9162a70029ea323396f7942c5"), looks := true }, kinds := [], alts := [], laidByText := true, laidKinds := [.data, .data, .data], laidTests := true, laidLooks := .later }
def FnExactFractionTextCardSaid : Prop := Claim7.holds Tryd.pinned (.plain (OpenSpec.ofChange fnExactFractionTextSpec)) fnExactFractionTextCard

/-- THE TIED CARD OF 'laws.FnExactSharesText'. -/
def fnExactSharesTextCard : Claim7 := { stood := { row := fnExactSharesTextRow, standIns := [], harness := (true, "5cd352201c1a34fe07fc50bf4b73611c6327cfe9162a70029ea323396f7942c5"), looks := true }, kinds := [], alts := [], laidByText := true, laidKinds := [.data, .data, .data], laidTests := true, laidLooks := .later }
def FnExactSharesTextCardSaid : Prop := Claim7.holds Tryd.pinned (.plain (OpenSpec.ofChange fnExactSharesTextSpec)) fnExactSharesTextCard

/-- THE TIED CARD OF 'laws.FnExactVoicesText'. -/
def fnExactVoicesTextCard : Claim7 := { stood := { row := fnExactVoicesTextRow, standIns := [], harness := (true, "5cd352201c1a34fe07fc50bf4b73611c6327cfe9162a70029ea323396f7942c5"), looks := true }, kinds := [], alts := [], laidByText := true, laidKinds := [.data, .data, .data], laidTests := true, laidLooks := .later }
def FnExactVoicesTextCardSaid : Prop := Claim7.holds Tryd.pinned (.plain (OpenSpec.ofChange fnExactVoicesTextSpec)) fnExactVoicesTextCard

/-- THE TIED CARD OF 'laws.FnExactPoolText'. -/
def fnExactPoolTextCard : Claim7 := { stood := { row := fnExactPoolTextRow, standIns := [], harness := (true, "5cd352201c1a34fe07fc50bf4b73611c6327cfe9162a70029ea323396f7942c5"), looks := true }, kinds := [], alts := [], laidByText := true, laidKinds := [.data, .data, .data], laidTests := true, laidLooks := .later }
def FnExactPoolTextCardSaid : Prop := Claim7.holds Tryd.pinned (.plain (OpenSpec.ofChange fnExactPoolTextSpec)) fnExactPoolTextCard

/-- THE TIED CARD OF 'laws.FnExactReadDecimal'. -/
def fnExactReadDecimalCard : Claim7 := { stood := { row := fnExactReadDecimalRow, standIns := [], harness := (true, "5cd352201c1a34fe07fc50bf4b73611c6327cfe9162a70029ea323396f7942c5"), looks := true }, kinds := [], alts := [], laidByText := true, laidKinds := [.data, .data, .data, .sentinel, .sentinel], laidTests := true, laidLooks := .later }
def FnExactReadDecimalCardSaid : Prop := Claim7.holds Tryd.pinned (.plain (OpenSpec.ofChange fnExactReadDecimalSpec)) fnExactReadDecimalCard

/-- THE TIED CARD OF 'laws.FnExactReadFraction'. -/
def fnExactReadFractionCard : Claim7 := { stood := { row := fnExactReadFractionRow, standIns := [], harness := (true, "5cd352201c1a34fe07fc50bf4b73611c6327cfe9162a70029ea323396f7942c5"), looks := true }, kinds := [], alts := [], laidByText := true, laidKinds := [.data, .data, .data, .sentinel, .sentinel], laidTests := true, laidLooks := .later }
def FnExactReadFractionCardSaid : Prop := Claim7.holds Tryd.pinned (.plain (OpenSpec.ofChange fnExactReadFractionSpec)) fnExactReadFractionCard

/-- THE SECOND FORM's CARD OF 'laws.FnExactReadShares'. -/
def fnExactReadSharesUptoCard : Claim7 := { stood := { row := fnExactReadSharesUptoRow, standIns := [], harness := (true, "5cd352201c1a34fe07fc50bf4b73611c6327cfe9162a70029ea323396f7942c5"), looks := true }, kinds := [], alts := [], laidByText := true, laidKinds := [.data, .data, .data, .data, .sentinel, .sentinel, .pinned], laidTests := true, laidLooks := .later }
def FnExactReadSharesUptoCardSaid : Prop := Claim7.holds Tryd.pinned (.plain (OpenSpec.upto fnExactReadSharesSpec)) fnExactReadSharesUptoCard

/-- THE SECOND FORM's CARD OF 'laws.FnExactReadPool'. -/
def fnExactReadPoolUptoCard : Claim7 := { stood := { row := fnExactReadPoolUptoRow, standIns := [], harness := (true, "5cd352201c1a34fe07fc50bf4b73611c6327cfe9162a70029ea323396f7942c5"), looks := true }, kinds := [], alts := [], laidByText := true, laidKinds := [.data, .data, .data, .data, .sentinel, .sentinel, .pinned], laidTests := true, laidLooks := .later }
def FnExactReadPoolUptoCardSaid : Prop := Claim7.holds Tryd.pinned (.plain (OpenSpec.upto fnExactReadPoolSpec)) fnExactReadPoolUptoCard

/-- THE SECOND FORM's CARD OF 'laws.FnExactReadVoices'. -/
def fnExactReadVoicesUptoCard : Claim7 := { stood := { row := fnExactReadVoicesUptoRow, standIns := [], harness := (true, "5cd352201c1a34fe07fc50bf4b73611c6327cfe9162a70029ea323396f7942c5"), looks := true }, kinds := [], alts := [], laidByText := true, laidKinds := [.data, .data, .data, .data, .sentinel, .sentinel, .pinned], laidTests := true, laidLooks := .later }
def FnExactReadVoicesUptoCardSaid : Prop := Claim7.holds Tryd.pinned (.plain (OpenSpec.upto fnExactReadVoicesSpec)) fnExactReadVoicesUptoCard

/-- THE SECOND FORM's CARD OF 'laws.FnExactDecimal'. -/
def fnExactDecimalUptoCard : Claim7 := { stood := { row := fnExactDecimalUptoRow, standIns := [], harness := (true, "5cd352201c1a34fe07fc50bf4b73611c6327cfe9162a70029ea323396f7942c5"), looks := true }, kinds := [], alts := [], laidByText := true, laidKinds := [.data, .data, .data], laidTests := true, laidLooks := .later }
def FnExactDecimalUptoCardSaid : Prop := Claim7.holds Tryd.pinned (.plain (OpenSpec.upto fnExactDecimalSpec)) fnExactDecimalUptoCard

/-- THE SECOND FORM's CARD OF 'laws.FnExactFractionText'. -/
def fnExactFractionTextUptoCard : Claim7 := { stood := { row := fnExactFractionTextUptoRow, standIns := [], harness := (true, "5cd352201c1a34fe07fc50bf4b73611c6327cfe9162a70029ea323396f7942c5"), looks := true }, kinds := [], alts := [], laidByText := true, laidKinds := [.data, .data, .data], laidTests := true, laidLooks := .later }
def FnExactFractionTextUptoCardSaid : Prop := Claim7.holds Tryd.pinned (.plain (OpenSpec.upto fnExactFractionTextSpec)) fnExactFractionTextUptoCard

/-- THE SECOND FORM's CARD OF 'laws.FnExactSharesText'. -/
def fnExactSharesTextUptoCard : Claim7 := { stood := { row := fnExactSharesTextUptoRow, standIns := [], harness := (true, "5cd352201c1a34fe07fc50bf4b73611c6327cfe9162a70029ea323396f7942c5"), looks := true }, kinds := [], alts := [], laidByText := true, laidKinds := [.data, .data, .data], laidTests := true, laidLooks := .later }
def FnExactSharesTextUptoCardSaid : Prop := Claim7.holds Tryd.pinned (.plain (OpenSpec.upto fnExactSharesTextSpec)) fnExactSharesTextUptoCard

/-- THE SECOND FORM's CARD OF 'laws.FnExactVoicesText'. -/
def fnExactVoicesTextUptoCard : Claim7 := { stood := { row := fnExactVoicesTextUptoRow, standIns := [], harness := (true, "5cd352201c1a34fe07fc50bf4b73611c6327cfe9162a70029ea323396f7942c5"), looks := true }, kinds := [], alts := [], laidByText := true, laidKinds := [.data, .data, .data], laidTests := true, laidLooks := .later }
def FnExactVoicesTextUptoCardSaid : Prop := Claim7.holds Tryd.pinned (.plain (OpenSpec.upto fnExactVoicesTextSpec)) fnExactVoicesTextUptoCard

/-- THE SECOND FORM's CARD OF 'laws.FnExactPoolText'. -/
def fnExactPoolTextUptoCard : Claim7 := { stood := { row := fnExactPoolTextUptoRow, standIns := [], harness := (true, "5cd352201c1a34fe07fc50bf4b73611c6327cfe9162a70029ea323396f7942c5"), looks := true }, kinds := [], alts := [], laidByText := true, laidKinds := [.data, .data, .data], laidTests := true, laidLooks := .later }
def FnExactPoolTextUptoCardSaid : Prop := Claim7.holds Tryd.pinned (.plain (OpenSpec.upto fnExactPoolTextSpec)) fnExactPoolTextUptoCard

/-- THE SECOND FORM's CARD OF 'laws.FnExactReadDecimal'. -/
def fnExactReadDecimalUptoCard : Claim7 := { stood := { row := fnExactReadDecimalUptoRow, standIns := [], harness := (true, "5cd352201c1a34fe07fc50bf4b73611c6327cfe9162a70029ea323396f7942c5"), looks := true }, kinds := [], alts := [], laidByText := true, laidKinds := [.data, .data, .data, .sentinel, .sentinel], laidTests := true, laidLooks := .later }
def FnExactReadDecimalUptoCardSaid : Prop := Claim7.holds Tryd.pinned (.plain (OpenSpec.upto fnExactReadDecimalSpec)) fnExactReadDecimalUptoCard

/-- THE SECOND FORM's CARD OF 'laws.FnExactReadFraction'. -/
def fnExactReadFractionUptoCard : Claim7 := { stood := { row := fnExactReadFractionUptoRow, standIns := [], harness := (true, "5cd352201c1a34fe07fc50bf4b73611c6327cfe9162a70029ea323396f7942c5"), looks := true }, kinds := [], alts := [], laidByText := true, laidKinds := [.data, .data, .data, .sentinel, .sentinel], laidTests := true, laidLooks := .later }
def FnExactReadFractionUptoCardSaid : Prop := Claim7.holds Tryd.pinned (.plain (OpenSpec.upto fnExactReadFractionSpec)) fnExactReadFractionUptoCard
end Rows
end Go.Proofs.YtomkhjcejjkelaaDoor
