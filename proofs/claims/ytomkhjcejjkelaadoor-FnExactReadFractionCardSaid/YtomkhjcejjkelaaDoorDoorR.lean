/- What the reading doors' laws share: the library's two errors as the program's text lays them. -/
import Derived.Test.YtomkhjcejjkelaaDoorDoor
import Derived.Test.YtomkhjcejjkelaaDoorRead
namespace Go.Proofs.YtomkhjcejjkelaaDoor
open Go.ChangeShapes Go.WideShapes Go.ChangeAt Go.RowKit Go.Joins

theorem gRange : Tryd.prog.globalNamed "strconv.ErrRange" = some 3 := by kernel_rfl
theorem gSyntax : Tryd.prog.globalNamed "strconv.ErrSyntax" = some 2 := by kernel_rfl
theorem gRangeType : (Tryd.prog.globals[3]?).map (·.type) = some 119 := by kernel_rfl
theorem gSyntaxType : (Tryd.prog.globals[2]?).map (·.type) = some 119 := by kernel_rfl
theorem cellsErr : Tryd.prog.cellsOf 192 = 1 := by kernel_rfl
theorem cellsStr : Tryd.prog.cellsOf 9 = 1 := by kernel_rfl
theorem starErr : "*" ++ "errors.errorString" = "*errors.errorString" := by decide
set_option maxRecDepth 100000 in
theorem rowErr (u : TypeId) (h : Tryd.prog.typeName? 3 u = some "*errors.errorString") : u = 190 :=
  typeName_ptr_named (P := Tryd.prog) (nm := "errors.errorString") (tp := 190) (by kernel_rfl) (by kernel_rfl) (by decide) u (by rw [starErr]; exact h)
theorem err_of {W : World} {n : String} {g : Nat} {text : List UInt8} {r : List (String × DataW Unit)} (hg : Tryd.prog.globalNamed n = some g) (ht : (Tryd.prog.globals[g]?).map (·.type) = some 119)
    (h : laidMet Tryd.prog ((n, .iface "*errors.errorString" (.ptr (.agg [.lit (.string text)]))) :: r) W) : ∃ tp p, W.var? Tryd.prog n = some #[.iface tp p] := by
  obtain ⟨a, s, hv, -⟩ := laid_sentinel h hg ht Tryd.underlying119 rowErr Tryd.underlying190 Tryd.underlying192 rfl rfl Tryd.underlying9 cellsErr cellsStr
  exact ⟨_, _, hv⟩
theorem errs_of {W : World} {r : List (String × DataW Unit)} (h : laidMet Tryd.prog (("strconv.ErrRange", Rows.laid_strconv_ErrRange) :: ("strconv.ErrSyntax", Rows.laid_strconv_ErrSyntax) :: r) W) : Errs W :=
  ⟨err_of gSyntax gSyntaxType h.tail, err_of gRange gRangeType h⟩
theorem errs_of3 {W : World} {x y z : String × DataW Unit} {r : List (String × DataW Unit)} (h : laidMet Tryd.prog (x :: y :: z :: ("strconv.ErrRange", Rows.laid_strconv_ErrRange) :: ("strconv.ErrSyntax", Rows.laid_strconv_ErrSyntax) :: r) W) : Errs W := errs_of h.tail.tail.tail
end Go.Proofs.YtomkhjcejjkelaaDoor
