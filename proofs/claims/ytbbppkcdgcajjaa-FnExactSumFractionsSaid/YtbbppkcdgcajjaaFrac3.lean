/- The arithmetic of fractions on both sides. -/
import Derived.Test.YtbbppkcdgcajjaaFrac2
namespace Go.Proofs.Ytbbppkcdgcajjaa
open Go.RowKit

theorem okF_bd {n d : Int} (h : okF n d = true) : (1 ≤ d ∧ d ≤ 1000000000) ∧ (-1000000000 ≤ n ∧ n ≤ 1000000000) := by
  simp only [okF, Bool.and_eq_true, inB_true] at h; exact h.1
theorem mul_bd (a b : Int) (ha : -1000000000 ≤ a ∧ a ≤ 1000000000) (hb : -1000000000 ≤ b ∧ b ≤ 1000000000) : -1000000000000000000 ≤ a * b ∧ a * b ≤ 1000000000000000000 := by
  have h : (a * b).natAbs ≤ 1000000000 * 1000000000 := by rw [Int.natAbs_mul]; exact Nat.mul_le_mul (by omega) (by omega)
  omega
theorem mul_pos1 (a b : Int) (ha : 1 ≤ a) (hb : 1 ≤ b) : 1 ≤ a * b := by
  have := Int.mul_le_mul ha hb (by omega) (by omega); omega

set_option maxHeartbeats 400000 in
theorem impl_plus (n d m e : Int) (h1 : okF n d = true) (h2 : okF m e = true) (w : World) :
    Calls Try.prog 148 #[.agg #[.int .i64 n, .int .i64 d], .agg #[.int .i64 m, .int .i64 e]] w fun e' w' => e' = .returned (.agg #[.int .i64 (redN (n * e + m * d) (d * e)), .int .i64 (redD (n * e + m * d) (d * e))]) ∧ Ext w w' := by
  obtain ⟨a1, a2⟩ := okF_bd h1
  obtain ⟨b1, b2⟩ := okF_bd h2
  have m1 := mul_bd n e a2 (by omega)
  have m2 := mul_bd m d b2 (by omega)
  have m3 := mul_bd d e (by omega) (by omega)
  have m4 := mul_pos1 d e a1.1 b1.1
  have m5 := mul_bd n m a2 b2
  clear h1 h2
  go_enter Try.func148, Try.ntmps148
  go_wp2_with (first | (go_at_call 169; (with_reducible refine (impl_fraction _ _ (by omega) (by omega) (by omega) (by omega) _).mono ?_); rintro e w' ⟨rfl, hx⟩; obtain ⟨g, rfl⟩ := hx.grow; clear hx))
  refine bodyPost_ret (v := .agg #[.int .i64 (redN (n * e + m * d) (d * e)), .int .i64 (redD (n * e + m * d) (d * e))]) (by simp [results, Try.results148, go_sem]) rfl ⟨rfl, ?_⟩
  exact ExtC.ext





set_option maxHeartbeats 400000 in
theorem spec_l01Add (n d m e : Int) (h1 : okF n d = true) (h2 : okF m e = true) (w : World) :
    Calls Try.prog 175 #[.agg #[.int .i64 n, .int .i64 d], .agg #[.int .i64 m, .int .i64 e]] w fun e' w' => e' = .returned (.tuple #[.agg #[.int .i64 (keepI (okF (redN (n * e + m * d) (d * e)) (redD (n * e + m * d) (d * e))) (redN (n * e + m * d) (d * e))), .int .i64 (keepI (okF (redN (n * e + m * d) (d * e)) (redD (n * e + m * d) (d * e))) (redD (n * e + m * d) (d * e)))], .bool (okF (redN (n * e + m * d) (d * e)) (redD (n * e + m * d) (d * e)))]) ∧ Ext w w' := by
  obtain ⟨a1, a2⟩ := okF_bd h1
  obtain ⟨b1, b2⟩ := okF_bd h2
  have m1 := mul_bd n e a2 (by omega)
  have m2 := mul_bd m d b2 (by omega)
  have m3 := mul_bd d e (by omega) (by omega)
  have m4 := mul_pos1 d e a1.1 b1.1
  have m5 := mul_bd n m a2 b2
  clear h1 h2
  go_enter Try.func175, Try.ntmps175
  go_wp2_with (first | (go_at_call 168; (with_reducible refine (spec_l01Make_pos _ _ (by omega) (by omega) (by omega) (by omega) _).mono ?_); rintro e w' ⟨rfl, hx⟩; obtain ⟨g, rfl⟩ := hx.grow; clear hx))
  refine bodyPost_ret (v := .tuple #[.agg #[.int .i64 (keepI (okF (redN (n * e + m * d) (d * e)) (redD (n * e + m * d) (d * e))) (redN (n * e + m * d) (d * e))), .int .i64 (keepI (okF (redN (n * e + m * d) (d * e)) (redD (n * e + m * d) (d * e))) (redD (n * e + m * d) (d * e)))], .bool (okF (redN (n * e + m * d) (d * e)) (redD (n * e + m * d) (d * e)))]) (by simp [results, Try.results175, go_sem]) rfl ⟨rfl, ?_⟩
  exact ExtC.ext



end Go.Proofs.Ytbbppkcdgcajjaa
