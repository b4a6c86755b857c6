/- Quotients, fractions of two numbers, comparisons and whole parts, on both sides. -/
import Derived.Test.YtomijlchcmnbpaaFrac4
namespace Go.Proofs.Ytomijlchcmnbpaa
open Go.RowKit

set_option maxHeartbeats 400000 in
theorem impl_DivFractions_no1 (n d m e : Int) (h1 : okF n d = false) (w : World) :
    Calls Try.prog 34 #[.agg #[.int .i64 n, .int .i64 d], .agg #[.int .i64 m, .int .i64 e]] w fun e' w' => e' = .returned (.tuple #[.agg #[.int .i64 0, .int .i64 0], .bool false]) ∧ Ext w w' := by
  go_enter Try.func34, Try.ntmps34
  go_wp2_with (first | (go_at_call 19; (with_reducible refine (impl_ValidFraction _ _ _ (by assumption) _).mono ?_); rintro e w' ⟨rfl, hx⟩; obtain ⟨g, rfl⟩ := hx.grow; clear hx))
  refine bodyPost_ret (v := .tuple #[.agg #[.int .i64 0, .int .i64 0], .bool false]) (by simp [results, Try.results34, go_sem]) rfl ⟨rfl, ?_⟩
  exact ExtC.ext

set_option maxHeartbeats 400000 in
theorem impl_DivFractions_no2 (n d m e : Int) (h1 : okF n d = true) (h2 : okF m e = false) (w : World) :
    Calls Try.prog 34 #[.agg #[.int .i64 n, .int .i64 d], .agg #[.int .i64 m, .int .i64 e]] w fun e' w' => e' = .returned (.tuple #[.agg #[.int .i64 0, .int .i64 0], .bool false]) ∧ Ext w w' := by
  go_enter Try.func34, Try.ntmps34
  go_wp2_with (first | (go_at_call 19; (with_reducible refine (impl_ValidFraction _ _ _ (by assumption) _).mono ?_); rintro e w' ⟨rfl, hx⟩; obtain ⟨g, rfl⟩ := hx.grow; clear hx))
  refine bodyPost_ret (v := .tuple #[.agg #[.int .i64 0, .int .i64 0], .bool false]) (by simp [results, Try.results34, go_sem]) rfl ⟨rfl, ?_⟩
  exact ExtC.ext

set_option maxHeartbeats 400000 in
theorem spec_DivFractions_no1 (n d m e : Int) (h1 : okF n d = false) (w : World) :
    Calls Try.prog 33 #[.agg #[.int .i64 n, .int .i64 d], .agg #[.int .i64 m, .int .i64 e]] w fun e' w' => e' = .returned (.tuple #[.agg #[.int .i64 0, .int .i64 0], .bool false]) ∧ Ext w w' := by
  go_enter Try.func33, Try.ntmps33
  go_wp2_with (first | (go_at_call 47; (with_reducible refine (spec_l01Ok _ _ _ (by assumption) _).mono ?_); rintro e w' ⟨rfl, hx⟩; obtain ⟨g, rfl⟩ := hx.grow; clear hx))
  refine bodyPost_ret (v := .tuple #[.agg #[.int .i64 0, .int .i64 0], .bool false]) (by simp [results, Try.results33, go_sem]) rfl ⟨rfl, ?_⟩
  exact ExtC.ext

set_option maxHeartbeats 400000 in
theorem spec_DivFractions_no2 (n d m e : Int) (h1 : okF n d = true) (h2 : okF m e = false) (w : World) :
    Calls Try.prog 33 #[.agg #[.int .i64 n, .int .i64 d], .agg #[.int .i64 m, .int .i64 e]] w fun e' w' => e' = .returned (.tuple #[.agg #[.int .i64 0, .int .i64 0], .bool false]) ∧ Ext w w' := by
  go_enter Try.func33, Try.ntmps33
  go_wp2_with (first | (go_at_call 47; (with_reducible refine (spec_l01Ok _ _ _ (by assumption) _).mono ?_); rintro e w' ⟨rfl, hx⟩; obtain ⟨g, rfl⟩ := hx.grow; clear hx))
  refine bodyPost_ret (v := .tuple #[.agg #[.int .i64 0, .int .i64 0], .bool false]) (by simp [results, Try.results33, go_sem]) rfl ⟨rfl, ?_⟩
  exact ExtC.ext

set_option maxHeartbeats 400000 in
theorem impl_DivFractions_zero (n d m e : Int) (h1 : okF n d = true) (h2 : okF m e = true) (h3 : (m == 0) = true) (w : World) :
    Calls Try.prog 34 #[.agg #[.int .i64 n, .int .i64 d], .agg #[.int .i64 m, .int .i64 e]] w fun e' w' => e' = .returned (.tuple #[.agg #[.int .i64 0, .int .i64 0], .bool false]) ∧ Ext w w' := by
  go_enter Try.func34, Try.ntmps34
  go_wp2_with (first | (go_at_call 19; (with_reducible refine (impl_ValidFraction _ _ _ (by assumption) _).mono ?_); rintro e w' ⟨rfl, hx⟩; obtain ⟨g, rfl⟩ := hx.grow; clear hx))
  refine bodyPost_ret (v := .tuple #[.agg #[.int .i64 0, .int .i64 0], .bool false]) (by simp [results, Try.results34, go_sem]) rfl ⟨rfl, ?_⟩
  exact ExtC.ext

set_option maxHeartbeats 400000 in
theorem impl_DivFractions_pos (n d m e : Int) (h1 : okF n d = true) (h2 : okF m e = true) (h3 : 1 ≤ m) (h4 : (m == 0) = false) (w : World) :
    Calls Try.prog 34 #[.agg #[.int .i64 n, .int .i64 d], .agg #[.int .i64 m, .int .i64 e]] w fun e' w' => e' = .returned (.tuple #[.agg #[.int .i64 (keepI (okF (redN (n * e) (d * m)) (redD (n * e) (d * m))) (redN (n * e) (d * m))), .int .i64 (keepI (okF (redN (n * e) (d * m)) (redD (n * e) (d * m))) (redD (n * e) (d * m)))], .bool (okF (redN (n * e) (d * m)) (redD (n * e) (d * m)))]) ∧ Ext w w' := by
  go_enter Try.func34, Try.ntmps34
  go_wp2_with (first | (go_at_call 19; (with_reducible refine (impl_ValidFraction _ _ _ (by assumption) _).mono ?_); rintro e w' ⟨rfl, hx⟩; obtain ⟨g, rfl⟩ := hx.grow; clear hx) | (go_at_call 66; (with_reducible refine (impl_over_pos _ _ _ _ (by assumption) (by assumption) (by assumption) _).mono ?_); rintro e w' ⟨rfl, hx⟩; obtain ⟨g, rfl⟩ := hx.grow; clear hx) | (go_at_call 57; (with_reducible refine (impl_told _ _ _).mono ?_); rintro e w' ⟨rfl, hx⟩; obtain ⟨g, rfl⟩ := hx.grow; clear hx))
  refine bodyPost_ret (v := .tuple #[.agg #[.int .i64 (keepI (okF (redN (n * e) (d * m)) (redD (n * e) (d * m))) (redN (n * e) (d * m))), .int .i64 (keepI (okF (redN (n * e) (d * m)) (redD (n * e) (d * m))) (redD (n * e) (d * m)))], .bool (okF (redN (n * e) (d * m)) (redD (n * e) (d * m)))]) (by simp [results, Try.results34, go_sem]) rfl ⟨rfl, ?_⟩
  exact ExtC.ext

set_option maxHeartbeats 400000 in
theorem impl_DivFractions_neg (n d m e : Int) (h1 : okF n d = true) (h2 : okF m e = true) (h3 : m ≤ -1) (h4 : (m == 0) = false) (w : World) :
    Calls Try.prog 34 #[.agg #[.int .i64 n, .int .i64 d], .agg #[.int .i64 m, .int .i64 e]] w fun e' w' => e' = .returned (.tuple #[.agg #[.int .i64 (keepI (okF (redN (-n * e) (-d * m)) (redD (-n * e) (-d * m))) (redN (-n * e) (-d * m))), .int .i64 (keepI (okF (redN (-n * e) (-d * m)) (redD (-n * e) (-d * m))) (redD (-n * e) (-d * m)))], .bool (okF (redN (-n * e) (-d * m)) (redD (-n * e) (-d * m)))]) ∧ Ext w w' := by
  go_enter Try.func34, Try.ntmps34
  go_wp2_with (first | (go_at_call 19; (with_reducible refine (impl_ValidFraction _ _ _ (by assumption) _).mono ?_); rintro e w' ⟨rfl, hx⟩; obtain ⟨g, rfl⟩ := hx.grow; clear hx) | (go_at_call 66; (with_reducible refine (impl_over_neg _ _ _ _ (by assumption) (by assumption) (by assumption) _).mono ?_); rintro e w' ⟨rfl, hx⟩; obtain ⟨g, rfl⟩ := hx.grow; clear hx) | (go_at_call 57; (with_reducible refine (impl_told _ _ _).mono ?_); rintro e w' ⟨rfl, hx⟩; obtain ⟨g, rfl⟩ := hx.grow; clear hx))
  refine bodyPost_ret (v := .tuple #[.agg #[.int .i64 (keepI (okF (redN (-n * e) (-d * m)) (redD (-n * e) (-d * m))) (redN (-n * e) (-d * m))), .int .i64 (keepI (okF (redN (-n * e) (-d * m)) (redD (-n * e) (-d * m))) (redD (-n * e) (-d * m)))], .bool (okF (redN (-n * e) (-d * m)) (redD (-n * e) (-d * m)))]) (by simp [results, Try.results34, go_sem]) rfl ⟨rfl, ?_⟩
  exact ExtC.ext

set_option maxHeartbeats 400000 in
theorem spec_DivFractions_pos (n d m e : Int) (h1 : okF n d = true) (h2 : okF m e = true) (h3 : 1 ≤ m) (w : World) :
    Calls Try.prog 33 #[.agg #[.int .i64 n, .int .i64 d], .agg #[.int .i64 m, .int .i64 e]] w fun e' w' => e' = .returned (.tuple #[.agg #[.int .i64 (keepI (okF (redN (n * e) (d * m)) (redD (n * e) (d * m))) (redN (n * e) (d * m))), .int .i64 (keepI (okF (redN (n * e) (d * m)) (redD (n * e) (d * m))) (redD (n * e) (d * m)))], .bool (okF (redN (n * e) (d * m)) (redD (n * e) (d * m)))]) ∧ Ext w w' := by
  go_enter Try.func33, Try.ntmps33
  go_wp2_with (first | (go_at_call 47; (with_reducible refine (spec_l01Ok _ _ _ (by assumption) _).mono ?_); rintro e w' ⟨rfl, hx⟩; obtain ⟨g, rfl⟩ := hx.grow; clear hx) | (go_at_call 65; (with_reducible refine (spec_l01Div_pos _ _ _ _ (by assumption) (by assumption) (by assumption) _).mono ?_); rintro e w' ⟨rfl, hx⟩; obtain ⟨g, rfl⟩ := hx.grow; clear hx))
  refine bodyPost_ret (v := .tuple #[.agg #[.int .i64 (keepI (okF (redN (n * e) (d * m)) (redD (n * e) (d * m))) (redN (n * e) (d * m))), .int .i64 (keepI (okF (redN (n * e) (d * m)) (redD (n * e) (d * m))) (redD (n * e) (d * m)))], .bool (okF (redN (n * e) (d * m)) (redD (n * e) (d * m)))]) (by simp [results, Try.results33, go_sem]) rfl ⟨rfl, ?_⟩
  exact ExtC.ext

set_option maxHeartbeats 400000 in
theorem spec_DivFractions_neg (n d m e : Int) (h1 : okF n d = true) (h2 : okF m e = true) (h3 : m ≤ -1) (w : World) :
    Calls Try.prog 33 #[.agg #[.int .i64 n, .int .i64 d], .agg #[.int .i64 m, .int .i64 e]] w fun e' w' => e' = .returned (.tuple #[.agg #[.int .i64 (keepI (okF (redN (-n * e) (-d * m)) (redD (-n * e) (-d * m))) (redN (-n * e) (-d * m))), .int .i64 (keepI (okF (redN (-n * e) (-d * m)) (redD (-n * e) (-d * m))) (redD (-n * e) (-d * m)))], .bool (okF (redN (-n * e) (-d * m)) (redD (-n * e) (-d * m)))]) ∧ Ext w w' := by
  go_enter Try.func33, Try.ntmps33
  go_wp2_with (first | (go_at_call 47; (with_reducible refine (spec_l01Ok _ _ _ (by assumption) _).mono ?_); rintro e w' ⟨rfl, hx⟩; obtain ⟨g, rfl⟩ := hx.grow; clear hx) | (go_at_call 65; (with_reducible refine (spec_l01Div_neg _ _ _ _ (by assumption) (by assumption) (by assumption) _).mono ?_); rintro e w' ⟨rfl, hx⟩; obtain ⟨g, rfl⟩ := hx.grow; clear hx))
  refine bodyPost_ret (v := .tuple #[.agg #[.int .i64 (keepI (okF (redN (-n * e) (-d * m)) (redD (-n * e) (-d * m))) (redN (-n * e) (-d * m))), .int .i64 (keepI (okF (redN (-n * e) (-d * m)) (redD (-n * e) (-d * m))) (redD (-n * e) (-d * m)))], .bool (okF (redN (-n * e) (-d * m)) (redD (-n * e) (-d * m)))]) (by simp [results, Try.results33, go_sem]) rfl ⟨rfl, ?_⟩
  exact ExtC.ext

set_option maxHeartbeats 400000 in
theorem spec_DivFractions_zero (n d e : Int) (h1 : okF n d = true) (h2 : okF 0 e = true) (w : World) :
    Calls Try.prog 33 #[.agg #[.int .i64 n, .int .i64 d], .agg #[.int .i64 0, .int .i64 e]] w fun e' w' => e' = .returned (.tuple #[.agg #[.int .i64 0, .int .i64 0], .bool false]) ∧ Ext w w' := by
  go_enter Try.func33, Try.ntmps33
  go_wp2_with (first | (go_at_call 47; (with_reducible refine (spec_l01Ok _ _ _ (by assumption) _).mono ?_); rintro e w' ⟨rfl, hx⟩; obtain ⟨g, rfl⟩ := hx.grow; clear hx) | (go_at_call 65; (with_reducible refine (spec_l01Div_zero _ _ _ _).mono ?_); rintro e w' ⟨rfl, hx⟩; obtain ⟨g, rfl⟩ := hx.grow; clear hx))
  refine bodyPost_ret (v := .tuple #[.agg #[.int .i64 0, .int .i64 0], .bool false]) (by simp [results, Try.results33, go_sem]) rfl ⟨rfl, ?_⟩
  exact ExtC.ext

/-- -1, 0 or 1. -/
def cmpI (x y : Int) : Int := if x < y then -1 else if y < x then 1 else 0

set_option maxHeartbeats 400000 in
theorem impl_compare (n d m e : Int) (h1 : okF n d = true) (h2 : okF m e = true) (w : World) :
    Calls Try.prog 54 #[.agg #[.int .i64 n, .int .i64 d], .agg #[.int .i64 m, .int .i64 e]] w fun e' w' => e' = .returned (.int .i64 (cmpI (n * e) (m * d))) ∧ Ext w w' := by
  obtain ⟨a1, a2⟩ := okF_bd h1
  obtain ⟨b1, b2⟩ := okF_bd h2
  have m1 := mul_bd n e a2 (by omega)
  have m2 := mul_bd m d b2 (by omega)
  clear h1 h2
  by_cases c1 : n * e < m * d
  · rw [show cmpI (n * e) (m * d) = -1 from if_pos c1]
    go_enter Try.func54, Try.ntmps54
    go_wp2
    refine wp_region_grow (by kernel_rfl) (by kernel_rfl) ?_
    repeat (go_big_quiet_step (fail))
    refine wpQuiet_nil ?_
    intro _ hw'
    obtain ⟨g, hw''⟩ := hw'
    subst hw''
    go_wp2
    go_ret
    exact ⟨rfl, ExtC.ext⟩
  · by_cases c2 : m * d < n * e
    · rw [show cmpI (n * e) (m * d) = 1 by rw [cmpI, if_neg c1, if_pos c2]]
      go_enter Try.func54, Try.ntmps54
      go_wp2
      refine wp_region_grow (by kernel_rfl) (by kernel_rfl) ?_
      repeat (go_big_quiet_step (fail))
      refine wpQuiet_nil ?_
      intro _ hw'
      obtain ⟨g, hw''⟩ := hw'
      subst hw''
      go_wp2
      go_ret
      exact ⟨rfl, ExtC.ext⟩
    · rw [show cmpI (n * e) (m * d) = 0 by rw [cmpI, if_neg c1, if_neg c2]]
      go_enter Try.func54, Try.ntmps54
      go_wp2
      refine wp_region_grow (by kernel_rfl) (by kernel_rfl) ?_
      repeat (go_big_quiet_step (fail))
      refine wpQuiet_nil ?_
      intro _ hw'
      obtain ⟨g, hw''⟩ := hw'
      subst hw''
      go_wp2
      go_ret
      exact ⟨rfl, ExtC.ext⟩

set_option maxHeartbeats 400000 in
theorem spec_l01Cmp (n d m e : Int) (h1 : okF n d = true) (h2 : okF m e = true) (w : World) :
    Calls Try.prog 53 #[.agg #[.int .i64 n, .int .i64 d], .agg #[.int .i64 m, .int .i64 e]] w fun e' w' => e' = .returned (.int .i64 (cmpI (n * e) (m * d))) ∧ Ext w w' := by
  obtain ⟨a1, a2⟩ := okF_bd h1
  obtain ⟨b1, b2⟩ := okF_bd h2
  have m1 := mul_bd n e a2 (by omega)
  have m2 := mul_bd m d b2 (by omega)
  clear h1 h2
  by_cases c1 : n * e < m * d
  · rw [show cmpI (n * e) (m * d) = -1 from if_pos c1]
    go_enter Try.func53, Try.ntmps53
    go_wp2
    skip
    go_wp2
    go_ret
    exact ⟨rfl, ExtC.ext⟩
  · by_cases c2 : m * d < n * e
    · rw [show cmpI (n * e) (m * d) = 1 by rw [cmpI, if_neg c1, if_pos c2]]
      go_enter Try.func53, Try.ntmps53
      go_wp2
      skip
      go_wp2
      go_ret
      exact ⟨rfl, ExtC.ext⟩
    · rw [show cmpI (n * e) (m * d) = 0 by rw [cmpI, if_neg c1, if_neg c2]]
      go_enter Try.func53, Try.ntmps53
      go_wp2
      skip
      go_wp2
      go_ret
      exact ⟨rfl, ExtC.ext⟩

set_option maxHeartbeats 400000 in
theorem impl_CompareFractions_no1 (n d m e : Int) (h1 : okF n d = false) (w : World) :
    Calls Try.prog 23 #[.agg #[.int .i64 n, .int .i64 d], .agg #[.int .i64 m, .int .i64 e]] w fun e' w' => e' = .returned (.tuple #[.int .i64 0, .bool false]) ∧ Ext w w' := by
  go_enter Try.func23, Try.ntmps23
  go_wp2_with (first | (go_at_call 19; (with_reducible refine (impl_ValidFraction _ _ _ (by assumption) _).mono ?_); rintro e w' ⟨rfl, hx⟩; obtain ⟨g, rfl⟩ := hx.grow; clear hx))
  go_ret2
  exact ⟨rfl, ExtC.ext⟩

set_option maxHeartbeats 400000 in
theorem impl_CompareFractions_no2 (n d m e : Int) (h1 : okF n d = true) (h2 : okF m e = false) (w : World) :
    Calls Try.prog 23 #[.agg #[.int .i64 n, .int .i64 d], .agg #[.int .i64 m, .int .i64 e]] w fun e' w' => e' = .returned (.tuple #[.int .i64 0, .bool false]) ∧ Ext w w' := by
  go_enter Try.func23, Try.ntmps23
  go_wp2_with (first | (go_at_call 19; (with_reducible refine (impl_ValidFraction _ _ _ (by assumption) _).mono ?_); rintro e w' ⟨rfl, hx⟩; obtain ⟨g, rfl⟩ := hx.grow; clear hx))
  go_ret2
  exact ⟨rfl, ExtC.ext⟩

set_option maxHeartbeats 400000 in
theorem impl_CompareFractions_ok (n d m e : Int) (h1 : okF n d = true) (h2 : okF m e = true) (w : World) :
    Calls Try.prog 23 #[.agg #[.int .i64 n, .int .i64 d], .agg #[.int .i64 m, .int .i64 e]] w fun e' w' => e' = .returned (.tuple #[.int .i64 (cmpI (n * e) (m * d)), .bool true]) ∧ Ext w w' := by
  go_enter Try.func23, Try.ntmps23
  go_wp2_with (first | (go_at_call 19; (with_reducible refine (impl_ValidFraction _ _ _ (by assumption) _).mono ?_); rintro e w' ⟨rfl, hx⟩; obtain ⟨g, rfl⟩ := hx.grow; clear hx) | (go_at_call 54; (with_reducible refine (impl_compare _ _ _ _ (by assumption) (by assumption) _).mono ?_); rintro e w' ⟨rfl, hx⟩; obtain ⟨g, rfl⟩ := hx.grow; clear hx))
  go_ret2
  exact ⟨rfl, ExtC.ext⟩

set_option maxHeartbeats 400000 in
theorem spec_CompareFractions_no1 (n d m e : Int) (h1 : okF n d = false) (w : World) :
    Calls Try.prog 22 #[.agg #[.int .i64 n, .int .i64 d], .agg #[.int .i64 m, .int .i64 e]] w fun e' w' => e' = .returned (.tuple #[.int .i64 0, .bool false]) ∧ Ext w w' := by
  go_enter Try.func22, Try.ntmps22
  go_wp2_with (first | (go_at_call 47; (with_reducible refine (spec_l01Ok _ _ _ (by assumption) _).mono ?_); rintro e w' ⟨rfl, hx⟩; obtain ⟨g, rfl⟩ := hx.grow; clear hx))
  go_ret2
  exact ⟨rfl, ExtC.ext⟩

set_option maxHeartbeats 400000 in
theorem spec_CompareFractions_no2 (n d m e : Int) (h1 : okF n d = true) (h2 : okF m e = false) (w : World) :
    Calls Try.prog 22 #[.agg #[.int .i64 n, .int .i64 d], .agg #[.int .i64 m, .int .i64 e]] w fun e' w' => e' = .returned (.tuple #[.int .i64 0, .bool false]) ∧ Ext w w' := by
  go_enter Try.func22, Try.ntmps22
  go_wp2_with (first | (go_at_call 47; (with_reducible refine (spec_l01Ok _ _ _ (by assumption) _).mono ?_); rintro e w' ⟨rfl, hx⟩; obtain ⟨g, rfl⟩ := hx.grow; clear hx))
  go_ret2
  exact ⟨rfl, ExtC.ext⟩

set_option maxHeartbeats 400000 in
theorem spec_CompareFractions_ok (n d m e : Int) (h1 : okF n d = true) (h2 : okF m e = true) (w : World) :
    Calls Try.prog 22 #[.agg #[.int .i64 n, .int .i64 d], .agg #[.int .i64 m, .int .i64 e]] w fun e' w' => e' = .returned (.tuple #[.int .i64 (cmpI (n * e) (m * d)), .bool true]) ∧ Ext w w' := by
  go_enter Try.func22, Try.ntmps22
  go_wp2_with (first | (go_at_call 47; (with_reducible refine (spec_l01Ok _ _ _ (by assumption) _).mono ?_); rintro e w' ⟨rfl, hx⟩; obtain ⟨g, rfl⟩ := hx.grow; clear hx) | (go_at_call 53; (with_reducible refine (spec_l01Cmp _ _ _ _ (by assumption) (by assumption) _).mono ?_); rintro e w' ⟨rfl, hx⟩; obtain ⟨g, rfl⟩ := hx.grow; clear hx))
  go_ret2
  exact ⟨rfl, ExtC.ext⟩

end Go.Proofs.Ytomijlchcmnbpaa
