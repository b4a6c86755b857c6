/- The arithmetic of fractions on both sides. -/
import Derived.Test.YtomijlchcmnbpaaFrac2
namespace Go.Proofs.Ytomijlchcmnbpaa
open Go.RowKit

theorem okF_bd {n d : Int} (h : okF n d = true) : (1 ≤ d ∧ d ≤ 1000000000) ∧ (-1000000000 ≤ n ∧ n ≤ 1000000000) := by
  simp only [okF, Bool.and_eq_true, inB_true] at h; exact h.1
theorem mul_bd (a b : Int) (ha : -1000000000 ≤ a ∧ a ≤ 1000000000) (hb : -1000000000 ≤ b ∧ b ≤ 1000000000) : -1000000000000000000 ≤ a * b ∧ a * b ≤ 1000000000000000000 := by
  have h : (a * b).natAbs ≤ 1000000000 * 1000000000 := by rw [Int.natAbs_mul]; exact Nat.mul_le_mul (by omega) (by omega)
  omega
theorem mul_pos1 (a b : Int) (ha : 1 ≤ a) (hb : 1 ≤ b) : 1 ≤ a * b := by
  have := Int.mul_le_mul ha hb (by omega) (by omega); omega

set_option maxHeartbeats 400000 in
theorem impl_plus (n d m e : Int) (h1 : okF n d = true) (h2 : okF m e = true) (w : World) :
    Calls Try.prog 62 #[.agg #[.int .i64 n, .int .i64 d], .agg #[.int .i64 m, .int .i64 e]] w fun e' w' => e' = .returned (.agg #[.int .i64 (redN (n * e + m * d) (d * e)), .int .i64 (redD (n * e + m * d) (d * e))]) ∧ Ext w w' := by
  obtain ⟨a1, a2⟩ := okF_bd h1
  obtain ⟨b1, b2⟩ := okF_bd h2
  have m1 := mul_bd n e a2 (by omega)
  have m2 := mul_bd m d b2 (by omega)
  have m3 := mul_bd d e (by omega) (by omega)
  have m4 := mul_pos1 d e a1.1 b1.1
  have m5 := mul_bd n m a2 b2
  clear h1 h2
  go_enter Try.func62, Try.ntmps62
  go_wp2_with (first | (go_at_call 58; (with_reducible refine (impl_fraction _ _ (by omega) (by omega) (by omega) (by omega) _).mono ?_); rintro e w' ⟨rfl, hx⟩; obtain ⟨g, rfl⟩ := hx.grow; clear hx))
  refine bodyPost_ret (v := .agg #[.int .i64 (redN (n * e + m * d) (d * e)), .int .i64 (redD (n * e + m * d) (d * e))]) (by simp [results, Try.results62, go_sem]) rfl ⟨rfl, ?_⟩
  exact ExtC.ext

set_option maxHeartbeats 400000 in
theorem impl_times (n d m e : Int) (h1 : okF n d = true) (h2 : okF m e = true) (w : World) :
    Calls Try.prog 60 #[.agg #[.int .i64 n, .int .i64 d], .agg #[.int .i64 m, .int .i64 e]] w fun e' w' => e' = .returned (.agg #[.int .i64 (redN (n * m) (d * e)), .int .i64 (redD (n * m) (d * e))]) ∧ Ext w w' := by
  obtain ⟨a1, a2⟩ := okF_bd h1
  obtain ⟨b1, b2⟩ := okF_bd h2
  have m1 := mul_bd n e a2 (by omega)
  have m2 := mul_bd m d b2 (by omega)
  have m3 := mul_bd d e (by omega) (by omega)
  have m4 := mul_pos1 d e a1.1 b1.1
  have m5 := mul_bd n m a2 b2
  clear h1 h2
  go_enter Try.func60, Try.ntmps60
  go_wp2_with (first | (go_at_call 58; (with_reducible refine (impl_fraction _ _ (by omega) (by omega) (by omega) (by omega) _).mono ?_); rintro e w' ⟨rfl, hx⟩; obtain ⟨g, rfl⟩ := hx.grow; clear hx))
  refine bodyPost_ret (v := .agg #[.int .i64 (redN (n * m) (d * e)), .int .i64 (redD (n * m) (d * e))]) (by simp [results, Try.results60, go_sem]) rfl ⟨rfl, ?_⟩
  exact ExtC.ext

set_option maxHeartbeats 400000 in
theorem impl_minus (n d m e : Int) (h1 : okF n d = true) (h2 : okF m e = true) (w : World) :
    Calls Try.prog 64 #[.agg #[.int .i64 n, .int .i64 d], .agg #[.int .i64 m, .int .i64 e]] w fun e' w' => e' = .returned (.agg #[.int .i64 (redN (n * e + -m * d) (d * e)), .int .i64 (redD (n * e + -m * d) (d * e))]) ∧ Ext w w' := by
  obtain ⟨b1, b2⟩ := okF_bd h2
  have H1 := Lib.hid h1; clear h1
  have H3 : Hid (okF (-m) e = true) := Lib.hid (by
    simp only [okF, Bool.and_eq_true, inB_true, decide_eq_true_eq] at h2 ⊢
    refine ⟨⟨h2.1.1, by omega, by omega⟩, ?_⟩
    rw [Int.neg_gcd]; exact h2.2)
  clear h2
  go_enter Try.func64, Try.ntmps64
  go_wp2_with (first | (go_at_call 62; (with_reducible refine (impl_plus _ _ _ _ H1.out H3.out _).mono ?_); rintro e w' ⟨rfl, hx⟩; obtain ⟨g, rfl⟩ := hx.grow; clear hx))
  refine bodyPost_ret (v := .agg #[.int .i64 (redN (n * e + -m * d) (d * e)), .int .i64 (redD (n * e + -m * d) (d * e))]) (by simp [results, Try.results64, go_sem]) rfl ⟨rfl, ?_⟩
  exact ExtC.ext

set_option maxHeartbeats 400000 in
theorem impl_over_pos (n d m e : Int) (h1 : okF n d = true) (h2 : okF m e = true) (h3 : 1 ≤ m) (w : World) :
    Calls Try.prog 66 #[.agg #[.int .i64 n, .int .i64 d], .agg #[.int .i64 m, .int .i64 e]] w fun e' w' => e' = .returned (.agg #[.int .i64 (redN (n * e) (d * m)), .int .i64 (redD (n * e) (d * m))]) ∧ Ext w w' := by
  obtain ⟨a1, a2⟩ := okF_bd h1
  obtain ⟨b1, b2⟩ := okF_bd h2
  have m1 := mul_bd n e a2 (by omega)
  have m3 := mul_bd d m (by omega) (by omega)
  have m4 := mul_pos1 d m a1.1 h3
  clear h1 h2
  go_enter Try.func66, Try.ntmps66
  go_wp2_with (first | (go_at_call 58; (with_reducible refine (impl_fraction _ _ (by omega) (by omega) (by omega) (by omega) _).mono ?_); rintro e w' ⟨rfl, hx⟩; obtain ⟨g, rfl⟩ := hx.grow; clear hx))
  refine bodyPost_ret (v := .agg #[.int .i64 (redN (n * e) (d * m)), .int .i64 (redD (n * e) (d * m))]) (by simp [results, Try.results66, go_sem]) rfl ⟨rfl, ?_⟩
  exact ExtC.ext

set_option maxHeartbeats 400000 in
theorem impl_over_neg (n d m e : Int) (h1 : okF n d = true) (h2 : okF m e = true) (h3 : m ≤ -1) (w : World) :
    Calls Try.prog 66 #[.agg #[.int .i64 n, .int .i64 d], .agg #[.int .i64 m, .int .i64 e]] w fun e' w' => e' = .returned (.agg #[.int .i64 (redN (-n * e) (-d * m)), .int .i64 (redD (-n * e) (-d * m))]) ∧ Ext w w' := by
  obtain ⟨a1, a2⟩ := okF_bd h1
  obtain ⟨b1, b2⟩ := okF_bd h2
  have m1 := mul_bd (-n) e (by omega) (by omega)
  have m3 := mul_bd (-d) m (by omega) (by omega)
  have m4 : 1 ≤ -d * m := by have := mul_pos1 d (-m) a1.1 (by omega); rw [Int.mul_neg] at this; rw [Int.neg_mul]; exact this
  clear h1 h2
  go_enter Try.func66, Try.ntmps66
  go_wp2_with (first | (go_at_call 58; (with_reducible refine (impl_fraction _ _ (by omega) (by omega) (by omega) (by omega) _).mono ?_); rintro e w' ⟨rfl, hx⟩; obtain ⟨g, rfl⟩ := hx.grow; clear hx))
  refine bodyPost_ret (v := .agg #[.int .i64 (redN (-n * e) (-d * m)), .int .i64 (redD (-n * e) (-d * m))]) (by simp [results, Try.results66, go_sem]) rfl ⟨rfl, ?_⟩
  exact ExtC.ext

set_option maxHeartbeats 400000 in
theorem spec_l01Add (n d m e : Int) (h1 : okF n d = true) (h2 : okF m e = true) (w : World) :
    Calls Try.prog 61 #[.agg #[.int .i64 n, .int .i64 d], .agg #[.int .i64 m, .int .i64 e]] w fun e' w' => e' = .returned (.tuple #[.agg #[.int .i64 (keepI (okF (redN (n * e + m * d) (d * e)) (redD (n * e + m * d) (d * e))) (redN (n * e + m * d) (d * e))), .int .i64 (keepI (okF (redN (n * e + m * d) (d * e)) (redD (n * e + m * d) (d * e))) (redD (n * e + m * d) (d * e)))], .bool (okF (redN (n * e + m * d) (d * e)) (redD (n * e + m * d) (d * e)))]) ∧ Ext w w' := by
  obtain ⟨a1, a2⟩ := okF_bd h1
  obtain ⟨b1, b2⟩ := okF_bd h2
  have m1 := mul_bd n e a2 (by omega)
  have m2 := mul_bd m d b2 (by omega)
  have m3 := mul_bd d e (by omega) (by omega)
  have m4 := mul_pos1 d e a1.1 b1.1
  have m5 := mul_bd n m a2 b2
  clear h1 h2
  go_enter Try.func61, Try.ntmps61
  go_wp2_with (first | (go_at_call 56; (with_reducible refine (spec_l01Make_pos _ _ (by omega) (by omega) (by omega) (by omega) _).mono ?_); rintro e w' ⟨rfl, hx⟩; obtain ⟨g, rfl⟩ := hx.grow; clear hx))
  refine bodyPost_ret (v := .tuple #[.agg #[.int .i64 (keepI (okF (redN (n * e + m * d) (d * e)) (redD (n * e + m * d) (d * e))) (redN (n * e + m * d) (d * e))), .int .i64 (keepI (okF (redN (n * e + m * d) (d * e)) (redD (n * e + m * d) (d * e))) (redD (n * e + m * d) (d * e)))], .bool (okF (redN (n * e + m * d) (d * e)) (redD (n * e + m * d) (d * e)))]) (by simp [results, Try.results61, go_sem]) rfl ⟨rfl, ?_⟩
  exact ExtC.ext

set_option maxHeartbeats 400000 in
theorem spec_l01Sub (n d m e : Int) (h1 : okF n d = true) (h2 : okF m e = true) (w : World) :
    Calls Try.prog 63 #[.agg #[.int .i64 n, .int .i64 d], .agg #[.int .i64 m, .int .i64 e]] w fun e' w' => e' = .returned (.tuple #[.agg #[.int .i64 (keepI (okF (redN (n * e - m * d) (d * e)) (redD (n * e - m * d) (d * e))) (redN (n * e - m * d) (d * e))), .int .i64 (keepI (okF (redN (n * e - m * d) (d * e)) (redD (n * e - m * d) (d * e))) (redD (n * e - m * d) (d * e)))], .bool (okF (redN (n * e - m * d) (d * e)) (redD (n * e - m * d) (d * e)))]) ∧ Ext w w' := by
  obtain ⟨a1, a2⟩ := okF_bd h1
  obtain ⟨b1, b2⟩ := okF_bd h2
  have m1 := mul_bd n e a2 (by omega)
  have m2 := mul_bd m d b2 (by omega)
  have m3 := mul_bd d e (by omega) (by omega)
  have m4 := mul_pos1 d e a1.1 b1.1
  have m5 := mul_bd n m a2 b2
  clear h1 h2
  go_enter Try.func63, Try.ntmps63
  go_wp2_with (first | (go_at_call 56; (with_reducible refine (spec_l01Make_pos _ _ (by omega) (by omega) (by omega) (by omega) _).mono ?_); rintro e w' ⟨rfl, hx⟩; obtain ⟨g, rfl⟩ := hx.grow; clear hx))
  refine bodyPost_ret (v := .tuple #[.agg #[.int .i64 (keepI (okF (redN (n * e - m * d) (d * e)) (redD (n * e - m * d) (d * e))) (redN (n * e - m * d) (d * e))), .int .i64 (keepI (okF (redN (n * e - m * d) (d * e)) (redD (n * e - m * d) (d * e))) (redD (n * e - m * d) (d * e)))], .bool (okF (redN (n * e - m * d) (d * e)) (redD (n * e - m * d) (d * e)))]) (by simp [results, Try.results63, go_sem]) rfl ⟨rfl, ?_⟩
  exact ExtC.ext

set_option maxHeartbeats 400000 in
theorem spec_l01Mul (n d m e : Int) (h1 : okF n d = true) (h2 : okF m e = true) (w : World) :
    Calls Try.prog 59 #[.agg #[.int .i64 n, .int .i64 d], .agg #[.int .i64 m, .int .i64 e]] w fun e' w' => e' = .returned (.tuple #[.agg #[.int .i64 (keepI (okF (redN (n * m) (d * e)) (redD (n * m) (d * e))) (redN (n * m) (d * e))), .int .i64 (keepI (okF (redN (n * m) (d * e)) (redD (n * m) (d * e))) (redD (n * m) (d * e)))], .bool (okF (redN (n * m) (d * e)) (redD (n * m) (d * e)))]) ∧ Ext w w' := by
  obtain ⟨a1, a2⟩ := okF_bd h1
  obtain ⟨b1, b2⟩ := okF_bd h2
  have m1 := mul_bd n e a2 (by omega)
  have m2 := mul_bd m d b2 (by omega)
  have m3 := mul_bd d e (by omega) (by omega)
  have m4 := mul_pos1 d e a1.1 b1.1
  have m5 := mul_bd n m a2 b2
  clear h1 h2
  go_enter Try.func59, Try.ntmps59
  go_wp2_with (first | (go_at_call 56; (with_reducible refine (spec_l01Make_pos _ _ (by omega) (by omega) (by omega) (by omega) _).mono ?_); rintro e w' ⟨rfl, hx⟩; obtain ⟨g, rfl⟩ := hx.grow; clear hx))
  refine bodyPost_ret (v := .tuple #[.agg #[.int .i64 (keepI (okF (redN (n * m) (d * e)) (redD (n * m) (d * e))) (redN (n * m) (d * e))), .int .i64 (keepI (okF (redN (n * m) (d * e)) (redD (n * m) (d * e))) (redD (n * m) (d * e)))], .bool (okF (redN (n * m) (d * e)) (redD (n * m) (d * e)))]) (by simp [results, Try.results59, go_sem]) rfl ⟨rfl, ?_⟩
  exact ExtC.ext

end Go.Proofs.Ytomijlchcmnbpaa
