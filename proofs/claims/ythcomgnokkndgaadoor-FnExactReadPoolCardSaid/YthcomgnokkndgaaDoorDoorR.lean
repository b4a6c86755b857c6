/- What the reading doors' laws share: the library's two errors as the program's text lays them. -/
import Derived.Test.YthcomgnokkndgaaDoorDoor
import Derived.Test.YthcomgnokkndgaaDoorRead
namespace Go.Proofs.YthcomgnokkndgaaDoor
open Go.ChangeShapes Go.WideShapes Go.ChangeAt Go.RowKit Go.Joins

theorem gRange : Tryd.prog.globalNamed "strconv.ErrRange" = some 2 := by kernel_rfl
theorem gSyntax : Tryd.prog.globalNamed "strconv.ErrSyntax" = some 1 := by kernel_rfl
theorem gRangeType : (Tryd.prog.globals[2]?).map (·.type) = some 78 := by kernel_rfl
theorem gSyntaxType : (Tryd.prog.globals[1]?).map (·.type) = some 78 := by kernel_rfl
theorem cellsErr : Tryd.prog.cellsOf 144 = 1 := by kernel_rfl
theorem cellsStr : Tryd.prog.cellsOf 9 = 1 := by kernel_rfl
theorem starErr : "*" ++ "errors.errorString" = "*errors.errorString" := by decide
set_option maxRecDepth 100000 in
theorem rowErr (u : TypeId) (h : Tryd.prog.typeName? 3 u = some "*errors.errorString") : u = 142 :=
  typeName_ptr_named (P := Tryd.prog) (nm := "errors.errorString") (tp := 142) (by kernel_rfl) (by kernel_rfl) (by decide) u (by rw [starErr]; exact h)
theorem err_of {W : World} {n : String} {g : Nat} {text : List UInt8} {r : List (String × DataW Unit)} (hg : Tryd.prog.globalNamed n = some g) (ht : (Tryd.prog.globals[g]?).map (·.type) = some 78)
    (h : laidMet Tryd.prog ((n, .iface "*errors.errorString" (.ptr (.agg [.lit (.string text)]))) :: r) W) : ∃ tp p, W.var? Tryd.prog n = some #[.iface tp p] := by
  obtain ⟨a, s, hv, -⟩ := laid_sentinel h hg ht Tryd.underlying78 rowErr Tryd.underlying142 Tryd.underlying144 rfl rfl Tryd.underlying9 cellsErr cellsStr
  exact ⟨_, _, hv⟩
theorem errs_of {W : World} {r : List (String × DataW Unit)} (h : laidMet Tryd.prog (("strconv.ErrRange", Rows.laid_strconv_ErrRange) :: ("strconv.ErrSyntax", Rows.laid_strconv_ErrSyntax) :: r) W) : Errs W :=
  ⟨err_of gSyntax gSyntaxType h.tail, err_of gRange gRangeType h⟩
theorem errs_of3 {W : World} {x y z : String × DataW Unit} {r : List (String × DataW Unit)} (h : laidMet Tryd.prog (x :: y :: z :: ("strconv.ErrRange", Rows.laid_strconv_ErrRange) :: ("strconv.ErrSyntax", Rows.laid_strconv_ErrSyntax) :: r) W) : Errs W := errs_of h.tail.tail.tail
theorem errs_of4 {W : World} {x y z u : String × DataW Unit} {r : List (String × DataW Unit)} (h : laidMet Tryd.prog (x :: y :: z :: u :: ("strconv.ErrRange", Rows.laid_strconv_ErrRange) :: ("strconv.ErrSyntax", Rows.laid_strconv_ErrSyntax) :: r) W) : Errs W := errs_of h.tail.tail.tail.tail
end Go.Proofs.YthcomgnokkndgaaDoor
