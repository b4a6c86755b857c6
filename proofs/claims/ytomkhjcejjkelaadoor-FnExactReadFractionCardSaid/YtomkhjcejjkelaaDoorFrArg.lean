/- One fraction as an argument of a law. -/
import Derived.Test.YtomkhjcejjkelaaDoorLaw
import Derived.Test.YtomkhjcejjkelaaDoorArg
import Derived.Test.YtomkhjcejjkelaaDoorTail
namespace Go.Proofs.YtomkhjcejjkelaaDoor
open Go.ChangeShapes Go.WideShapes Go.ChangeAt Go.RowKit Go.Joins

set_option maxHeartbeats 400000 in
theorem laws_toFraction (n d : Int) (w : World) :
    Calls Tryd.prog 31 #[.agg #[.int .i64 n, .int .i64 d]] w fun e w' => e = .returned (.agg #[.int .i64 n, .int .i64 d]) ∧ Ext w w' := by
  go_enter Tryd.func31, Tryd.ntmps31
  go_wp2
  refine bodyPost_ret (v := .agg #[.int .i64 n, .int .i64 d]) (by simp [results, Tryd.results31, go_sem]) rfl ⟨rfl, ?_⟩
  exact ExtC.ext

set_option maxHeartbeats 400000 in
theorem laws_eqFraction (n d : Int) (w : World) :
    Calls Tryd.prog 49 #[.agg #[.int .i64 n, .int .i64 d], .agg #[.int .i64 n, .int .i64 d]] w fun e w' => e = .returned (.bool true) ∧ Ext w w' := by
  go_enter Tryd.func49, Tryd.ntmps49
  go_wp2
  go_ret
  exact ⟨rfl, by exact ExtC.ext⟩

theorem Tryd.cellsFrac : Tryd.prog.cellsOf 43 = 2 := by kernel_rfl
set_option maxRecDepth 100000 in
theorem open_frac {H : Type} {enc : TypeId × Value → H} {w : World} {spare : Nat → Bool} {held : Bool} {base : Nat} {r : Reach} {b0 : Nat} {v : Value} {d : DataW H} {ps : List MemPlace} (hval : Value.okWide Tryd.prog w r b0 43 v)
    (h : DataW.Trod enc Tryd.prog w base spare held 43 v d ps) : ∃ n m : Int, v = .agg #[.int .i64 n, .int .i64 m] ∧ (-9223372036854775808 ≤ n ∧ n ≤ 9223372036854775807) ∧ (-9223372036854775808 ≤ m ∧ m ≤ 9223372036854775807) := by
  obtain ⟨c0, c1, y0, y1, k, rfl, -, -, hy0, hy1⟩ := open_agg2 Tryd.underlying43 (by kernel_rfl) Tryd.cellsFrac hval h
  obtain ⟨n, e0, -, wn⟩ := DataW.trod_int Tryd.underlying2 hy0
  obtain ⟨m, e1, -, wm⟩ := DataW.trod_int Tryd.underlying2 hy1
  simp at e0 e1; subst e0 e1
  exact ⟨n, m, rfl, wf_i64_range wn, wf_i64_range wm⟩
end Go.Proofs.YtomkhjcejjkelaaDoor
