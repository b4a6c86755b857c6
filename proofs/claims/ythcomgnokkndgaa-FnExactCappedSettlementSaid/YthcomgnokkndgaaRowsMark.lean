/- The laws' marks over slices of slices, and the look at the marks. -/
import Derived.Test.YthcomgnokkndgaaRowsEq
namespace Go.Proofs.Ythcomgnokkndgaa
open Go.RowKit

theorem cntRows_get' {α : Type} (K : Kind α) (L : List α) (k : Nat) (h : k < L.length) : cntRows K (L.take k) + K.cnt L[k] ≤ cntRows K L := by
  have h1 := cntRows_take K L k h
  have h2 := cntRows_le K L (k + 1)
  omega

end Go.Proofs.Ythcomgnokkndgaa
