/- Valid fractions: the contracts of ValidFraction on both sides. -/
import Derived.Test.YthcomgnokkndgaaDoorBasic
namespace Go.Proofs.YthcomgnokkndgaaDoor
open Go.RowKit



/-- Numerator and denominator are those of a valid fraction. -/
def okF (n d : Int) : Bool := inB d 1 1000000000 && inB n (-1000000000) 1000000000 && decide (Int.gcd n d = 1)
theorem gcd_abs (n d : Int) : Int.gcd (n.natAbs : Int) d = Int.gcd n d := by simp [Int.gcd]
theorem okF_gcd (n d : Int) (h1 : inB d 1 1000000000 = true) (h2 : inB n (-1000000000) 1000000000 = true) :
    ((Int.gcd (n.natAbs : Int) d : Int) == 1) = okF n d := by
  rw [gcd_abs, okF, h1, h2, Bool.eq_iff_iff]; simp; omega
theorem okF_1 (n d : Int) (h1 : ¬ inB d 1 1000000000 = true) : false = okF n d := by simp [okF, h1]
theorem okF_2 (n d : Int) (h2 : ¬ inB n (-1000000000) 1000000000 = true) : false = okF n d := by simp [okF, h2]



end Go.Proofs.YthcomgnokkndgaaDoor
