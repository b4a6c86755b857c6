/- Fractions as arguments of the laws. -/
import Derived.Test.YtomijlchcmnbpaaLaw
import Derived.Test.YtomijlchcmnbpaaFrac6
namespace Go.Proofs.Ytomijlchcmnbpaa
open Go.ChangeShapes Go.WideShapes Go.ChangeAt Go.RowKit Go.Joins

set_option maxHeartbeats 400000 in
theorem laws_toFraction (n d : Int) (w : World) :
    Calls Try.prog 18 #[.agg #[.int .i64 n, .int .i64 d]] w fun e w' => e = .returned (.agg #[.int .i64 n, .int .i64 d]) ∧ Ext w w' := by
  go_enter Try.func18, Try.ntmps18
  go_wp2
  refine bodyPost_ret (v := .agg #[.int .i64 n, .int .i64 d]) (by simp [results, Try.results18, go_sem]) rfl ⟨rfl, ?_⟩
  exact ExtC.ext

set_option maxHeartbeats 400000 in
theorem laws_eqFraction (n d : Int) (w : World) :
    Calls Try.prog 26 #[.agg #[.int .i64 n, .int .i64 d], .agg #[.int .i64 n, .int .i64 d]] w fun e w' => e = .returned (.bool true) ∧ Ext w w' := by
  go_enter Try.func26, Try.ntmps26
  go_wp2
  go_ret
  exact ⟨rfl, by exact ExtC.ext⟩

theorem wf_i64_range {n : Int} (h : (Lit.int .i64 n).wf = true) : -9223372036854775808 ≤ n ∧ n ≤ 9223372036854775807 := by
  simp [Lit.wf, IntKind.min, IntKind.max, IntKind.signed, IntKind.bits] at h
  exact h

theorem Try.cellsFrac : Try.prog.cellsOf 25 = 2 := by kernel_rfl
theorem open_frac {H : Type} {enc : TypeId × Value → H} {w : World} {spare : Nat → Bool} {held : Bool} {base : Nat} {r : Reach} {b0 : Nat} {v : Value} {d : DataW H} {ps : List MemPlace} (hval : Value.okWide Try.prog w r b0 25 v)
    (h : DataW.Trod enc Try.prog w base spare held 25 v d ps) : ∃ n m : Int, v = .agg #[.int .i64 n, .int .i64 m] ∧ (-9223372036854775808 ≤ n ∧ n ≤ 9223372036854775807) ∧ (-9223372036854775808 ≤ m ∧ m ≤ 9223372036854775807) := by
  obtain ⟨c0, c1, y0, y1, k, rfl, -, -, hy0, hy1⟩ := open_agg2 Try.underlying25 (by kernel_rfl) Try.cellsFrac hval h
  obtain ⟨n, e0, -, wn⟩ := DataW.trod_int Try.underlying2 hy0
  obtain ⟨m, e1, -, wm⟩ := DataW.trod_int Try.underlying2 hy1
  simp at e0 e1; subst e0 e1
  exact ⟨n, m, rfl, wf_i64_range wn, wf_i64_range wm⟩

end Go.Proofs.Ytomijlchcmnbpaa
