/- The text of a fraction, on both sides. -/
import Derived.Test.YthcomgnokkndgaaDoorDec
import Derived.Test.YthcomgnokkndgaaDoorFrac
import Derived.Test.YthcomgnokkndgaaDoorTail
namespace Go.Proofs.YthcomgnokkndgaaDoor
open Go.RowKit

/-- The text of a fraction. -/
def txt (n d : Int) : ByteArray := if d = 1 then dec n else dec n ++ ⟨#[47]⟩ ++ dec d
theorem dec_size (n : Int) (h0 : -9223372036854775808 ≤ n) (h1 : n ≤ 9223372036854775807) : (dec n).size ≤ 21 := by
  have := Lib.itoa_length_le n h0 h1
  have e : (dec n).size = (Lib.itoa n).length := rfl
  omega
theorem txt_one (n : Int) : txt n 1 = dec n := by simp [txt]
theorem txt_two {n d : Int} (h : d ≠ 1) : txt n d = dec n ++ ⟨#[47]⟩ ++ dec d := by simp [txt, h]


end Go.Proofs.YthcomgnokkndgaaDoor
