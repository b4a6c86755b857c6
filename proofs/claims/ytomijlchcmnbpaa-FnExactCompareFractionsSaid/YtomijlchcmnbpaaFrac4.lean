/- The exported arithmetic of fractions on both sides: valid arguments, and arguments one of which is not valid. -/
import Derived.Test.YtomijlchcmnbpaaFrac3
namespace Go.Proofs.Ytomijlchcmnbpaa
open Go.RowKit

set_option maxHeartbeats 400000 in
theorem spec_l01Div_zero (n d e : Int) (w : World) :
    Calls Try.prog 65 #[.agg #[.int .i64 n, .int .i64 d], .agg #[.int .i64 0, .int .i64 e]] w fun e' w' => e' = .returned (.tuple #[.agg #[.int .i64 0, .int .i64 0], .bool false]) ∧ Ext w w' := by
  go_enter Try.func65, Try.ntmps65
  go_wp2
  refine bodyPost_ret (v := .tuple #[.agg #[.int .i64 0, .int .i64 0], .bool false]) (by simp [results, Try.results65, go_sem]) rfl ⟨rfl, ?_⟩
  exact ExtC.ext

set_option maxHeartbeats 400000 in
theorem spec_l01Div_pos (n d m e : Int) (h1 : okF n d = true) (h2 : okF m e = true) (h3 : 1 ≤ m) (w : World) :
    Calls Try.prog 65 #[.agg #[.int .i64 n, .int .i64 d], .agg #[.int .i64 m, .int .i64 e]] w fun e' w' => e' = .returned (.tuple #[.agg #[.int .i64 (keepI (okF (redN (n * e) (d * m)) (redD (n * e) (d * m))) (redN (n * e) (d * m))), .int .i64 (keepI (okF (redN (n * e) (d * m)) (redD (n * e) (d * m))) (redD (n * e) (d * m)))], .bool (okF (redN (n * e) (d * m)) (redD (n * e) (d * m)))]) ∧ Ext w w' := by
  obtain ⟨a1, a2⟩ := okF_bd h1
  obtain ⟨b1, b2⟩ := okF_bd h2
  have m1 := mul_bd n e a2 (by omega)
  have m3 := mul_bd d m (by omega) (by omega)
  have m4 := mul_pos1 d m a1.1 h3
  clear h1 h2
  go_enter Try.func65, Try.ntmps65
  go_wp2_with (first | (go_at_call 56; (with_reducible refine (spec_l01Make_pos _ _ (by omega) (by omega) (by omega) (by omega) _).mono ?_); rintro e w' ⟨rfl, hx⟩; obtain ⟨g, rfl⟩ := hx.grow; clear hx))
  refine bodyPost_ret (v := .tuple #[.agg #[.int .i64 (keepI (okF (redN (n * e) (d * m)) (redD (n * e) (d * m))) (redN (n * e) (d * m))), .int .i64 (keepI (okF (redN (n * e) (d * m)) (redD (n * e) (d * m))) (redD (n * e) (d * m)))], .bool (okF (redN (n * e) (d * m)) (redD (n * e) (d * m)))]) (by simp [results, Try.results65, go_sem]) rfl ⟨rfl, ?_⟩
  exact ExtC.ext

set_option maxHeartbeats 400000 in
theorem spec_l01Div_neg (n d m e : Int) (h1 : okF n d = true) (h2 : okF m e = true) (h3 : m ≤ -1) (w : World) :
    Calls Try.prog 65 #[.agg #[.int .i64 n, .int .i64 d], .agg #[.int .i64 m, .int .i64 e]] w fun e' w' => e' = .returned (.tuple #[.agg #[.int .i64 (keepI (okF (redN (-n * e) (-d * m)) (redD (-n * e) (-d * m))) (redN (-n * e) (-d * m))), .int .i64 (keepI (okF (redN (-n * e) (-d * m)) (redD (-n * e) (-d * m))) (redD (-n * e) (-d * m)))], .bool (okF (redN (-n * e) (-d * m)) (redD (-n * e) (-d * m)))]) ∧ Ext w w' := by
  obtain ⟨a1, a2⟩ := okF_bd h1
  obtain ⟨b1, b2⟩ := okF_bd h2
  have m1 := mul_bd n e a2 (by omega)
  have m3 := mul_bd d m (by omega) (by omega)
  have m4 : 1 ≤ -d * m := by have := mul_pos1 d (-m) a1.1 (by omega); rw [Int.mul_neg] at this; rw [Int.neg_mul]; exact this
  have c1 : Hid (n * e = -(-n * e)) := Lib.hid (by rw [Int.neg_mul]; omega)
  have c2 : Hid (d * m = -(-d * m)) := Lib.hid (by rw [Int.neg_mul]; omega)
  have m5 := mul_bd (-n) e (by omega) (by omega)
  have m6 := mul_bd (-d) m (by omega) (by omega)
  clear h1 h2
  go_enter Try.func65, Try.ntmps65
  go_wp2_with (first | (go_at_call 56; (with_reducible refine (spec_l01Make_neg _ _ (-n * e) (-d * m) c1.out c2.out (by omega) (by omega) (by omega) (by omega) _).mono ?_); rintro e w' ⟨rfl, hx⟩; obtain ⟨g, rfl⟩ := hx.grow; clear hx))
  refine bodyPost_ret (v := .tuple #[.agg #[.int .i64 (keepI (okF (redN (-n * e) (-d * m)) (redD (-n * e) (-d * m))) (redN (-n * e) (-d * m))), .int .i64 (keepI (okF (redN (-n * e) (-d * m)) (redD (-n * e) (-d * m))) (redD (-n * e) (-d * m)))], .bool (okF (redN (-n * e) (-d * m)) (redD (-n * e) (-d * m)))]) (by simp [results, Try.results65, go_sem]) rfl ⟨rfl, ?_⟩
  exact ExtC.ext

set_option maxHeartbeats 400000 in
theorem impl_AddFractions_ok (n d m e : Int) (h1 : okF n d = true) (h2 : okF m e = true) (w : World) :
    Calls Try.prog 30 #[.agg #[.int .i64 n, .int .i64 d], .agg #[.int .i64 m, .int .i64 e]] w fun e' w' => e' = .returned (.tuple #[.agg #[.int .i64 (keepI (okF (redN (n * e + m * d) (d * e)) (redD (n * e + m * d) (d * e))) (redN (n * e + m * d) (d * e))), .int .i64 (keepI (okF (redN (n * e + m * d) (d * e)) (redD (n * e + m * d) (d * e))) (redD (n * e + m * d) (d * e)))], .bool (okF (redN (n * e + m * d) (d * e)) (redD (n * e + m * d) (d * e)))]) ∧ Ext w w' := by
  go_enter Try.func30, Try.ntmps30
  go_wp2_with (first | (go_at_call 19; (with_reducible refine (impl_ValidFraction _ _ true (by assumption) _).mono ?_); rintro e w' ⟨rfl, hx⟩; obtain ⟨g, rfl⟩ := hx.grow; clear hx) | (go_at_call 62; (with_reducible refine (impl_plus _ _ _ _ (by assumption) (by assumption) _).mono ?_); rintro e w' ⟨rfl, hx⟩; obtain ⟨g, rfl⟩ := hx.grow; clear hx) | (go_at_call 57; (with_reducible refine (impl_told _ _ _).mono ?_); rintro e w' ⟨rfl, hx⟩; obtain ⟨g, rfl⟩ := hx.grow; clear hx))
  refine bodyPost_ret (v := .tuple #[.agg #[.int .i64 (keepI (okF (redN (n * e + m * d) (d * e)) (redD (n * e + m * d) (d * e))) (redN (n * e + m * d) (d * e))), .int .i64 (keepI (okF (redN (n * e + m * d) (d * e)) (redD (n * e + m * d) (d * e))) (redD (n * e + m * d) (d * e)))], .bool (okF (redN (n * e + m * d) (d * e)) (redD (n * e + m * d) (d * e)))]) (by simp [results, Try.results30, go_sem]) rfl ⟨rfl, ?_⟩
  exact ExtC.ext

set_option maxHeartbeats 400000 in
theorem impl_AddFractions_no1 (n d m e : Int) (h1 : okF n d = false) (w : World) :
    Calls Try.prog 30 #[.agg #[.int .i64 n, .int .i64 d], .agg #[.int .i64 m, .int .i64 e]] w fun e' w' => e' = .returned (.tuple #[.agg #[.int .i64 0, .int .i64 0], .bool false]) ∧ Ext w w' := by
  go_enter Try.func30, Try.ntmps30
  go_wp2_with (first | (go_at_call 19; (with_reducible refine (impl_ValidFraction _ _ _ (by assumption) _).mono ?_); rintro e w' ⟨rfl, hx⟩; obtain ⟨g, rfl⟩ := hx.grow; clear hx))
  refine bodyPost_ret (v := .tuple #[.agg #[.int .i64 0, .int .i64 0], .bool false]) (by simp [results, Try.results30, go_sem]) rfl ⟨rfl, ?_⟩
  exact ExtC.ext

set_option maxHeartbeats 400000 in
theorem impl_AddFractions_no2 (n d m e : Int) (h1 : okF n d = true) (h2 : okF m e = false) (w : World) :
    Calls Try.prog 30 #[.agg #[.int .i64 n, .int .i64 d], .agg #[.int .i64 m, .int .i64 e]] w fun e' w' => e' = .returned (.tuple #[.agg #[.int .i64 0, .int .i64 0], .bool false]) ∧ Ext w w' := by
  go_enter Try.func30, Try.ntmps30
  go_wp2_with (first | (go_at_call 19; (with_reducible refine (impl_ValidFraction _ _ _ (by assumption) _).mono ?_); rintro e w' ⟨rfl, hx⟩; obtain ⟨g, rfl⟩ := hx.grow; clear hx))
  refine bodyPost_ret (v := .tuple #[.agg #[.int .i64 0, .int .i64 0], .bool false]) (by simp [results, Try.results30, go_sem]) rfl ⟨rfl, ?_⟩
  exact ExtC.ext

set_option maxHeartbeats 400000 in
theorem impl_SubFractions_ok (n d m e : Int) (h1 : okF n d = true) (h2 : okF m e = true) (w : World) :
    Calls Try.prog 32 #[.agg #[.int .i64 n, .int .i64 d], .agg #[.int .i64 m, .int .i64 e]] w fun e' w' => e' = .returned (.tuple #[.agg #[.int .i64 (keepI (okF (redN (n * e + -m * d) (d * e)) (redD (n * e + -m * d) (d * e))) (redN (n * e + -m * d) (d * e))), .int .i64 (keepI (okF (redN (n * e + -m * d) (d * e)) (redD (n * e + -m * d) (d * e))) (redD (n * e + -m * d) (d * e)))], .bool (okF (redN (n * e + -m * d) (d * e)) (redD (n * e + -m * d) (d * e)))]) ∧ Ext w w' := by
  go_enter Try.func32, Try.ntmps32
  go_wp2_with (first | (go_at_call 19; (with_reducible refine (impl_ValidFraction _ _ true (by assumption) _).mono ?_); rintro e w' ⟨rfl, hx⟩; obtain ⟨g, rfl⟩ := hx.grow; clear hx) | (go_at_call 64; (with_reducible refine (impl_minus _ _ _ _ (by assumption) (by assumption) _).mono ?_); rintro e w' ⟨rfl, hx⟩; obtain ⟨g, rfl⟩ := hx.grow; clear hx) | (go_at_call 57; (with_reducible refine (impl_told _ _ _).mono ?_); rintro e w' ⟨rfl, hx⟩; obtain ⟨g, rfl⟩ := hx.grow; clear hx))
  refine bodyPost_ret (v := .tuple #[.agg #[.int .i64 (keepI (okF (redN (n * e + -m * d) (d * e)) (redD (n * e + -m * d) (d * e))) (redN (n * e + -m * d) (d * e))), .int .i64 (keepI (okF (redN (n * e + -m * d) (d * e)) (redD (n * e + -m * d) (d * e))) (redD (n * e + -m * d) (d * e)))], .bool (okF (redN (n * e + -m * d) (d * e)) (redD (n * e + -m * d) (d * e)))]) (by simp [results, Try.results32, go_sem]) rfl ⟨rfl, ?_⟩
  exact ExtC.ext

set_option maxHeartbeats 400000 in
theorem impl_SubFractions_no1 (n d m e : Int) (h1 : okF n d = false) (w : World) :
    Calls Try.prog 32 #[.agg #[.int .i64 n, .int .i64 d], .agg #[.int .i64 m, .int .i64 e]] w fun e' w' => e' = .returned (.tuple #[.agg #[.int .i64 0, .int .i64 0], .bool false]) ∧ Ext w w' := by
  go_enter Try.func32, Try.ntmps32
  go_wp2_with (first | (go_at_call 19; (with_reducible refine (impl_ValidFraction _ _ _ (by assumption) _).mono ?_); rintro e w' ⟨rfl, hx⟩; obtain ⟨g, rfl⟩ := hx.grow; clear hx))
  refine bodyPost_ret (v := .tuple #[.agg #[.int .i64 0, .int .i64 0], .bool false]) (by simp [results, Try.results32, go_sem]) rfl ⟨rfl, ?_⟩
  exact ExtC.ext

set_option maxHeartbeats 400000 in
theorem impl_SubFractions_no2 (n d m e : Int) (h1 : okF n d = true) (h2 : okF m e = false) (w : World) :
    Calls Try.prog 32 #[.agg #[.int .i64 n, .int .i64 d], .agg #[.int .i64 m, .int .i64 e]] w fun e' w' => e' = .returned (.tuple #[.agg #[.int .i64 0, .int .i64 0], .bool false]) ∧ Ext w w' := by
  go_enter Try.func32, Try.ntmps32
  go_wp2_with (first | (go_at_call 19; (with_reducible refine (impl_ValidFraction _ _ _ (by assumption) _).mono ?_); rintro e w' ⟨rfl, hx⟩; obtain ⟨g, rfl⟩ := hx.grow; clear hx))
  refine bodyPost_ret (v := .tuple #[.agg #[.int .i64 0, .int .i64 0], .bool false]) (by simp [results, Try.results32, go_sem]) rfl ⟨rfl, ?_⟩
  exact ExtC.ext

set_option maxHeartbeats 400000 in
theorem impl_MulFractions_ok (n d m e : Int) (h1 : okF n d = true) (h2 : okF m e = true) (w : World) :
    Calls Try.prog 28 #[.agg #[.int .i64 n, .int .i64 d], .agg #[.int .i64 m, .int .i64 e]] w fun e' w' => e' = .returned (.tuple #[.agg #[.int .i64 (keepI (okF (redN (n * m) (d * e)) (redD (n * m) (d * e))) (redN (n * m) (d * e))), .int .i64 (keepI (okF (redN (n * m) (d * e)) (redD (n * m) (d * e))) (redD (n * m) (d * e)))], .bool (okF (redN (n * m) (d * e)) (redD (n * m) (d * e)))]) ∧ Ext w w' := by
  go_enter Try.func28, Try.ntmps28
  go_wp2_with (first | (go_at_call 19; (with_reducible refine (impl_ValidFraction _ _ true (by assumption) _).mono ?_); rintro e w' ⟨rfl, hx⟩; obtain ⟨g, rfl⟩ := hx.grow; clear hx) | (go_at_call 60; (with_reducible refine (impl_times _ _ _ _ (by assumption) (by assumption) _).mono ?_); rintro e w' ⟨rfl, hx⟩; obtain ⟨g, rfl⟩ := hx.grow; clear hx) | (go_at_call 57; (with_reducible refine (impl_told _ _ _).mono ?_); rintro e w' ⟨rfl, hx⟩; obtain ⟨g, rfl⟩ := hx.grow; clear hx))
  refine bodyPost_ret (v := .tuple #[.agg #[.int .i64 (keepI (okF (redN (n * m) (d * e)) (redD (n * m) (d * e))) (redN (n * m) (d * e))), .int .i64 (keepI (okF (redN (n * m) (d * e)) (redD (n * m) (d * e))) (redD (n * m) (d * e)))], .bool (okF (redN (n * m) (d * e)) (redD (n * m) (d * e)))]) (by simp [results, Try.results28, go_sem]) rfl ⟨rfl, ?_⟩
  exact ExtC.ext

set_option maxHeartbeats 400000 in
theorem impl_MulFractions_no1 (n d m e : Int) (h1 : okF n d = false) (w : World) :
    Calls Try.prog 28 #[.agg #[.int .i64 n, .int .i64 d], .agg #[.int .i64 m, .int .i64 e]] w fun e' w' => e' = .returned (.tuple #[.agg #[.int .i64 0, .int .i64 0], .bool false]) ∧ Ext w w' := by
  go_enter Try.func28, Try.ntmps28
  go_wp2_with (first | (go_at_call 19; (with_reducible refine (impl_ValidFraction _ _ _ (by assumption) _).mono ?_); rintro e w' ⟨rfl, hx⟩; obtain ⟨g, rfl⟩ := hx.grow; clear hx))
  refine bodyPost_ret (v := .tuple #[.agg #[.int .i64 0, .int .i64 0], .bool false]) (by simp [results, Try.results28, go_sem]) rfl ⟨rfl, ?_⟩
  exact ExtC.ext

set_option maxHeartbeats 400000 in
theorem impl_MulFractions_no2 (n d m e : Int) (h1 : okF n d = true) (h2 : okF m e = false) (w : World) :
    Calls Try.prog 28 #[.agg #[.int .i64 n, .int .i64 d], .agg #[.int .i64 m, .int .i64 e]] w fun e' w' => e' = .returned (.tuple #[.agg #[.int .i64 0, .int .i64 0], .bool false]) ∧ Ext w w' := by
  go_enter Try.func28, Try.ntmps28
  go_wp2_with (first | (go_at_call 19; (with_reducible refine (impl_ValidFraction _ _ _ (by assumption) _).mono ?_); rintro e w' ⟨rfl, hx⟩; obtain ⟨g, rfl⟩ := hx.grow; clear hx))
  refine bodyPost_ret (v := .tuple #[.agg #[.int .i64 0, .int .i64 0], .bool false]) (by simp [results, Try.results28, go_sem]) rfl ⟨rfl, ?_⟩
  exact ExtC.ext

set_option maxHeartbeats 400000 in
theorem spec_AddFractions_ok (n d m e : Int) (h1 : okF n d = true) (h2 : okF m e = true) (w : World) :
    Calls Try.prog 29 #[.agg #[.int .i64 n, .int .i64 d], .agg #[.int .i64 m, .int .i64 e]] w fun e' w' => e' = .returned (.tuple #[.agg #[.int .i64 (keepI (okF (redN (n * e + m * d) (d * e)) (redD (n * e + m * d) (d * e))) (redN (n * e + m * d) (d * e))), .int .i64 (keepI (okF (redN (n * e + m * d) (d * e)) (redD (n * e + m * d) (d * e))) (redD (n * e + m * d) (d * e)))], .bool (okF (redN (n * e + m * d) (d * e)) (redD (n * e + m * d) (d * e)))]) ∧ Ext w w' := by
  go_enter Try.func29, Try.ntmps29
  go_wp2_with (first | (go_at_call 47; (with_reducible refine (spec_l01Ok _ _ true (by assumption) _).mono ?_); rintro e w' ⟨rfl, hx⟩; obtain ⟨g, rfl⟩ := hx.grow; clear hx) | (go_at_call 61; (with_reducible refine (spec_l01Add _ _ _ _ (by assumption) (by assumption) _).mono ?_); rintro e w' ⟨rfl, hx⟩; obtain ⟨g, rfl⟩ := hx.grow; clear hx) | (go_at_call 57; (with_reducible refine (impl_told _ _ _).mono ?_); rintro e w' ⟨rfl, hx⟩; obtain ⟨g, rfl⟩ := hx.grow; clear hx))
  refine bodyPost_ret (v := .tuple #[.agg #[.int .i64 (keepI (okF (redN (n * e + m * d) (d * e)) (redD (n * e + m * d) (d * e))) (redN (n * e + m * d) (d * e))), .int .i64 (keepI (okF (redN (n * e + m * d) (d * e)) (redD (n * e + m * d) (d * e))) (redD (n * e + m * d) (d * e)))], .bool (okF (redN (n * e + m * d) (d * e)) (redD (n * e + m * d) (d * e)))]) (by simp [results, Try.results29, go_sem]) rfl ⟨rfl, ?_⟩
  exact ExtC.ext

set_option maxHeartbeats 400000 in
theorem spec_AddFractions_no1 (n d m e : Int) (h1 : okF n d = false) (w : World) :
    Calls Try.prog 29 #[.agg #[.int .i64 n, .int .i64 d], .agg #[.int .i64 m, .int .i64 e]] w fun e' w' => e' = .returned (.tuple #[.agg #[.int .i64 0, .int .i64 0], .bool false]) ∧ Ext w w' := by
  go_enter Try.func29, Try.ntmps29
  go_wp2_with (first | (go_at_call 47; (with_reducible refine (spec_l01Ok _ _ _ (by assumption) _).mono ?_); rintro e w' ⟨rfl, hx⟩; obtain ⟨g, rfl⟩ := hx.grow; clear hx))
  refine bodyPost_ret (v := .tuple #[.agg #[.int .i64 0, .int .i64 0], .bool false]) (by simp [results, Try.results29, go_sem]) rfl ⟨rfl, ?_⟩
  exact ExtC.ext

set_option maxHeartbeats 400000 in
theorem spec_AddFractions_no2 (n d m e : Int) (h1 : okF n d = true) (h2 : okF m e = false) (w : World) :
    Calls Try.prog 29 #[.agg #[.int .i64 n, .int .i64 d], .agg #[.int .i64 m, .int .i64 e]] w fun e' w' => e' = .returned (.tuple #[.agg #[.int .i64 0, .int .i64 0], .bool false]) ∧ Ext w w' := by
  go_enter Try.func29, Try.ntmps29
  go_wp2_with (first | (go_at_call 47; (with_reducible refine (spec_l01Ok _ _ _ (by assumption) _).mono ?_); rintro e w' ⟨rfl, hx⟩; obtain ⟨g, rfl⟩ := hx.grow; clear hx))
  refine bodyPost_ret (v := .tuple #[.agg #[.int .i64 0, .int .i64 0], .bool false]) (by simp [results, Try.results29, go_sem]) rfl ⟨rfl, ?_⟩
  exact ExtC.ext

set_option maxHeartbeats 400000 in
theorem spec_SubFractions_ok (n d m e : Int) (h1 : okF n d = true) (h2 : okF m e = true) (w : World) :
    Calls Try.prog 31 #[.agg #[.int .i64 n, .int .i64 d], .agg #[.int .i64 m, .int .i64 e]] w fun e' w' => e' = .returned (.tuple #[.agg #[.int .i64 (keepI (okF (redN (n * e - m * d) (d * e)) (redD (n * e - m * d) (d * e))) (redN (n * e - m * d) (d * e))), .int .i64 (keepI (okF (redN (n * e - m * d) (d * e)) (redD (n * e - m * d) (d * e))) (redD (n * e - m * d) (d * e)))], .bool (okF (redN (n * e - m * d) (d * e)) (redD (n * e - m * d) (d * e)))]) ∧ Ext w w' := by
  go_enter Try.func31, Try.ntmps31
  go_wp2_with (first | (go_at_call 47; (with_reducible refine (spec_l01Ok _ _ true (by assumption) _).mono ?_); rintro e w' ⟨rfl, hx⟩; obtain ⟨g, rfl⟩ := hx.grow; clear hx) | (go_at_call 63; (with_reducible refine (spec_l01Sub _ _ _ _ (by assumption) (by assumption) _).mono ?_); rintro e w' ⟨rfl, hx⟩; obtain ⟨g, rfl⟩ := hx.grow; clear hx) | (go_at_call 57; (with_reducible refine (impl_told _ _ _).mono ?_); rintro e w' ⟨rfl, hx⟩; obtain ⟨g, rfl⟩ := hx.grow; clear hx))
  refine bodyPost_ret (v := .tuple #[.agg #[.int .i64 (keepI (okF (redN (n * e - m * d) (d * e)) (redD (n * e - m * d) (d * e))) (redN (n * e - m * d) (d * e))), .int .i64 (keepI (okF (redN (n * e - m * d) (d * e)) (redD (n * e - m * d) (d * e))) (redD (n * e - m * d) (d * e)))], .bool (okF (redN (n * e - m * d) (d * e)) (redD (n * e - m * d) (d * e)))]) (by simp [results, Try.results31, go_sem]) rfl ⟨rfl, ?_⟩
  exact ExtC.ext

set_option maxHeartbeats 400000 in
theorem spec_SubFractions_no1 (n d m e : Int) (h1 : okF n d = false) (w : World) :
    Calls Try.prog 31 #[.agg #[.int .i64 n, .int .i64 d], .agg #[.int .i64 m, .int .i64 e]] w fun e' w' => e' = .returned (.tuple #[.agg #[.int .i64 0, .int .i64 0], .bool false]) ∧ Ext w w' := by
  go_enter Try.func31, Try.ntmps31
  go_wp2_with (first | (go_at_call 47; (with_reducible refine (spec_l01Ok _ _ _ (by assumption) _).mono ?_); rintro e w' ⟨rfl, hx⟩; obtain ⟨g, rfl⟩ := hx.grow; clear hx))
  refine bodyPost_ret (v := .tuple #[.agg #[.int .i64 0, .int .i64 0], .bool false]) (by simp [results, Try.results31, go_sem]) rfl ⟨rfl, ?_⟩
  exact ExtC.ext

set_option maxHeartbeats 400000 in
theorem spec_SubFractions_no2 (n d m e : Int) (h1 : okF n d = true) (h2 : okF m e = false) (w : World) :
    Calls Try.prog 31 #[.agg #[.int .i64 n, .int .i64 d], .agg #[.int .i64 m, .int .i64 e]] w fun e' w' => e' = .returned (.tuple #[.agg #[.int .i64 0, .int .i64 0], .bool false]) ∧ Ext w w' := by
  go_enter Try.func31, Try.ntmps31
  go_wp2_with (first | (go_at_call 47; (with_reducible refine (spec_l01Ok _ _ _ (by assumption) _).mono ?_); rintro e w' ⟨rfl, hx⟩; obtain ⟨g, rfl⟩ := hx.grow; clear hx))
  refine bodyPost_ret (v := .tuple #[.agg #[.int .i64 0, .int .i64 0], .bool false]) (by simp [results, Try.results31, go_sem]) rfl ⟨rfl, ?_⟩
  exact ExtC.ext

set_option maxHeartbeats 400000 in
theorem spec_MulFractions_ok (n d m e : Int) (h1 : okF n d = true) (h2 : okF m e = true) (w : World) :
    Calls Try.prog 27 #[.agg #[.int .i64 n, .int .i64 d], .agg #[.int .i64 m, .int .i64 e]] w fun e' w' => e' = .returned (.tuple #[.agg #[.int .i64 (keepI (okF (redN (n * m) (d * e)) (redD (n * m) (d * e))) (redN (n * m) (d * e))), .int .i64 (keepI (okF (redN (n * m) (d * e)) (redD (n * m) (d * e))) (redD (n * m) (d * e)))], .bool (okF (redN (n * m) (d * e)) (redD (n * m) (d * e)))]) ∧ Ext w w' := by
  go_enter Try.func27, Try.ntmps27
  go_wp2_with (first | (go_at_call 47; (with_reducible refine (spec_l01Ok _ _ true (by assumption) _).mono ?_); rintro e w' ⟨rfl, hx⟩; obtain ⟨g, rfl⟩ := hx.grow; clear hx) | (go_at_call 59; (with_reducible refine (spec_l01Mul _ _ _ _ (by assumption) (by assumption) _).mono ?_); rintro e w' ⟨rfl, hx⟩; obtain ⟨g, rfl⟩ := hx.grow; clear hx) | (go_at_call 57; (with_reducible refine (impl_told _ _ _).mono ?_); rintro e w' ⟨rfl, hx⟩; obtain ⟨g, rfl⟩ := hx.grow; clear hx))
  refine bodyPost_ret (v := .tuple #[.agg #[.int .i64 (keepI (okF (redN (n * m) (d * e)) (redD (n * m) (d * e))) (redN (n * m) (d * e))), .int .i64 (keepI (okF (redN (n * m) (d * e)) (redD (n * m) (d * e))) (redD (n * m) (d * e)))], .bool (okF (redN (n * m) (d * e)) (redD (n * m) (d * e)))]) (by simp [results, Try.results27, go_sem]) rfl ⟨rfl, ?_⟩
  exact ExtC.ext

set_option maxHeartbeats 400000 in
theorem spec_MulFractions_no1 (n d m e : Int) (h1 : okF n d = false) (w : World) :
    Calls Try.prog 27 #[.agg #[.int .i64 n, .int .i64 d], .agg #[.int .i64 m, .int .i64 e]] w fun e' w' => e' = .returned (.tuple #[.agg #[.int .i64 0, .int .i64 0], .bool false]) ∧ Ext w w' := by
  go_enter Try.func27, Try.ntmps27
  go_wp2_with (first | (go_at_call 47; (with_reducible refine (spec_l01Ok _ _ _ (by assumption) _).mono ?_); rintro e w' ⟨rfl, hx⟩; obtain ⟨g, rfl⟩ := hx.grow; clear hx))
  refine bodyPost_ret (v := .tuple #[.agg #[.int .i64 0, .int .i64 0], .bool false]) (by simp [results, Try.results27, go_sem]) rfl ⟨rfl, ?_⟩
  exact ExtC.ext

set_option maxHeartbeats 400000 in
theorem spec_MulFractions_no2 (n d m e : Int) (h1 : okF n d = true) (h2 : okF m e = false) (w : World) :
    Calls Try.prog 27 #[.agg #[.int .i64 n, .int .i64 d], .agg #[.int .i64 m, .int .i64 e]] w fun e' w' => e' = .returned (.tuple #[.agg #[.int .i64 0, .int .i64 0], .bool false]) ∧ Ext w w' := by
  go_enter Try.func27, Try.ntmps27
  go_wp2_with (first | (go_at_call 47; (with_reducible refine (spec_l01Ok _ _ _ (by assumption) _).mono ?_); rintro e w' ⟨rfl, hx⟩; obtain ⟨g, rfl⟩ := hx.grow; clear hx))
  refine bodyPost_ret (v := .tuple #[.agg #[.int .i64 0, .int .i64 0], .bool false]) (by simp [results, Try.results27, go_sem]) rfl ⟨rfl, ?_⟩
  exact ExtC.ext

end Go.Proofs.Ytomijlchcmnbpaa
