/- What the doors' laws share: the listed tables. -/
import Derived.Test.YtomkhjcejjkelaaDoorTie
import Derived.Test.YtomkhjcejjkelaaDoorCards
import Derived.Test.YtomkhjcejjkelaaDoorLaw
import Derived.Test.YtomkhjcejjkelaaDoorArg
import Derived.Test.YtomkhjcejjkelaaDoorDec
import Derived.LaidMore
import Derived.LaidSub
import Derived.Stop.LaidErr
import Derived.Stop.Joined
namespace Go.Proofs.YtomkhjcejjkelaaDoor
open Go.ChangeShapes Go.WideShapes Go.ChangeAt Go.RowKit Go.Joins

theorem gPow : Tryd.prog.globalNamed "internal/strconv.uint64pow10" = some 1 := by kernel_rfl
theorem gPowType : (Tryd.prog.globals[1]?).map (·.type) = some 170 := by kernel_rfl
theorem cellsPow : Tryd.prog.cellsOf 170 = 20 := by kernel_rfl
theorem cellsPow1 : Tryd.prog.cellsOf 150 = 1 := by kernel_rfl
theorem pow_of {W : World} {x y : String × DataW Unit} {r : List (String × DataW Unit)} (h : laidMet Tryd.prog (x :: y :: ("internal/strconv.uint64pow10", Rows.laid_internal_strconv_uint64pow10) :: r) W) : Pow W :=
  Lib.tabIs_of_head (rest := r) gPow gPowType Tryd.underlying170 Tryd.underlying150 cellsPow1 cellsPow h.tail.tail
end Go.Proofs.YtomkhjcejjkelaaDoor
