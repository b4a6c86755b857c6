/- What the doors' laws share: the listed tables. -/
import Derived.Test.YthcomgnokkndgaaDoorTie
import Derived.Test.YthcomgnokkndgaaDoorCards
import Derived.Test.YthcomgnokkndgaaDoorLaw
import Derived.Test.YthcomgnokkndgaaDoorArg
import Derived.Test.YthcomgnokkndgaaDoorDec
import Derived.LaidMore
import Derived.LaidSub
import Derived.Stop.LaidErr
import Derived.Stop.Joined
namespace Go.Proofs.YthcomgnokkndgaaDoor
open Go.ChangeShapes Go.WideShapes Go.ChangeAt Go.RowKit Go.Joins

theorem gPow : Tryd.prog.globalNamed "internal/strconv.uint64pow10" = some 5 := by kernel_rfl
theorem gPowType : (Tryd.prog.globals[5]?).map (·.type) = some 146 := by kernel_rfl
theorem cellsPow : Tryd.prog.cellsOf 146 = 20 := by kernel_rfl
theorem cellsPow1 : Tryd.prog.cellsOf 113 = 1 := by kernel_rfl
theorem pow_of {W : World} {x y : String × DataW Unit} {r : List (String × DataW Unit)} (h : laidMet Tryd.prog (x :: y :: ("internal/strconv.uint64pow10", Rows.laid_internal_strconv_uint64pow10) :: r) W) : Pow W :=
  Lib.tabIs_of_head (rest := r) gPow gPowType Tryd.underlying146 Tryd.underlying113 cellsPow1 cellsPow h.tail.tail
end Go.Proofs.YthcomgnokkndgaaDoor
