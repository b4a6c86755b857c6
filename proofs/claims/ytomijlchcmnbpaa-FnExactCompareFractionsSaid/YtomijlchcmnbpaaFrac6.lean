/- Fractions of two numbers and whole parts, on both sides. -/
import Derived.Test.YtomijlchcmnbpaaFrac5
namespace Go.Proofs.Ytomijlchcmnbpaa
open Go.RowKit

theorem floor_lo (n d : Int) (hd : 0 < d) (h : n.tmod d < 0) : n.tdiv d - 1 = n / d := by
  have h1 := Int.mul_tdiv_add_tmod n d
  have h2 := Int.mul_ediv_add_emod n d
  have h3 := Int.emod_nonneg n (Int.ne_of_gt hd)
  have h4 := Int.emod_lt_of_pos n hd
  have h5 : -d < n.tmod d := by
    have := Int.lt_tmod_of_pos n hd
    omega
  have h6 : d * (n.tdiv d - n / d) = n % d - n.tmod d := by rw [Int.mul_sub]; omega
  have h7 : 0 < d * (n.tdiv d - n / d) := by omega
  have h8 : d * (n.tdiv d - n / d) < d * 2 := by omega
  have h9 : 0 < n.tdiv d - n / d := Int.pos_of_mul_pos_right h7 (by omega)
  have h10 : n.tdiv d - n / d < 2 := Int.lt_of_mul_lt_mul_left h8 (by omega)
  omega
theorem floor_hi (n d : Int) (hd : 0 < d) (h : ¬ n.tmod d < 0) : n.tdiv d = n / d := by
  have h1 := Int.mul_tdiv_add_tmod n d
  have h2 := Int.mul_ediv_add_emod n d
  have h3 := Int.emod_nonneg n (Int.ne_of_gt hd)
  have h4 := Int.emod_lt_of_pos n hd
  have h5 : n.tmod d < d := Int.tmod_lt_of_pos n hd
  have h6 : d * (n.tdiv d - n / d) = n % d - n.tmod d := by rw [Int.mul_sub]; omega
  have h7 : d * (-1) < d * (n.tdiv d - n / d) := by omega
  have h8 : d * (n.tdiv d - n / d) < d * 1 := by omega
  have h9 : -1 < n.tdiv d - n / d := Int.lt_of_mul_lt_mul_left h7 (by omega)
  have h10 : n.tdiv d - n / d < 1 := Int.lt_of_mul_lt_mul_left h8 (by omega)
  omega
theorem floor_test (n d : Int) : n.tmod d < 0 ↔ n < n.tdiv d * d := by
  have h1 := Int.mul_tdiv_add_tmod n d
  rw [Int.mul_comm] at h1
  omega

set_option maxHeartbeats 400000 in
theorem impl_floor (n d : Int) (h1 : -1000000000 ≤ n) (h2 : n ≤ 1000000000) (h3 : 1 ≤ d) (h4 : d ≤ 1000000000) (w : World) :
    Calls Try.prog 52 #[.int .i64 n, .int .i64 d] w fun e w' => e = .returned (.int .i64 (n / d)) ∧ Ext w w' := by
  have b1 : -1000000000 ≤ n.tdiv d ∧ n.tdiv d ≤ 1000000000 := by
    have : (n.tdiv d).natAbs ≤ n.natAbs := by rw [Int.natAbs_tdiv]; exact Nat.div_le_self _ _
    omega
  by_cases h0 : 0 ≤ n
  · go_enter Try.func52, Try.ntmps52
    have h6 := Int.emod_nonneg n (b := d) (by omega)
    go_wp2
    go_ret
    exact ⟨ret_int (Int.tdiv_eq_ediv_of_nonneg h0), ExtC.ext⟩
  · by_cases h5 : n.tmod d < 0
    · rw [← floor_lo n d (by omega) h5]
      go_enter Try.func52, Try.ntmps52
      go_wp2
      go_ret
      exact ⟨rfl, ExtC.ext⟩
    · rw [← floor_hi n d (by omega) h5]
      go_enter Try.func52, Try.ntmps52
      go_wp2
      go_ret
      exact ⟨rfl, ExtC.ext⟩

set_option maxHeartbeats 400000 in
theorem spec_l01Floor (n d : Int) (h1 : -1000000000 ≤ n) (h2 : n ≤ 1000000000) (h3 : 1 ≤ d) (h4 : d ≤ 1000000000) (w : World) :
    Calls Try.prog 51 #[.agg #[.int .i64 n, .int .i64 d]] w fun e w' => e = .returned (.int .i64 (n / d)) ∧ Ext w w' := by
  have b1 : -1000000000 ≤ n.tdiv d ∧ n.tdiv d ≤ 1000000000 := by
    have : (n.tdiv d).natAbs ≤ n.natAbs := by rw [Int.natAbs_tdiv]; exact Nat.div_le_self _ _
    omega
  have b2 := mul_bd (n.tdiv d) d b1 (by omega)
  by_cases h0 : 0 ≤ n
  · have e1 : Hid (n.tdiv d = n / d) := Lib.hid (Int.tdiv_eq_ediv_of_nonneg h0)
    have h5 : ¬ n < n / d * d := by rw [Int.not_lt]; exact Int.ediv_mul_le n (by omega)
    rw [e1.out] at b2 b1
    go_enter Try.func51, Try.ntmps51
    go_wp2
    go_ret
    exact ⟨rfl, ExtC.ext⟩
  · by_cases h5 : n < n.tdiv d * d
    · rw [← floor_lo n d (by omega) ((floor_test n d).2 h5)]
      go_enter Try.func51, Try.ntmps51
      go_wp2
      go_ret
      exact ⟨rfl, ExtC.ext⟩
    · rw [← floor_hi n d (by omega) (fun h => h5 ((floor_test n d).1 h))]
      go_enter Try.func51, Try.ntmps51
      go_wp2
      go_ret
      exact ⟨rfl, ExtC.ext⟩

set_option maxHeartbeats 400000 in
theorem impl_FloorOf_no (n d : Int) (h1 : okF n d = false) (w : World) :
    Calls Try.prog 21 #[.agg #[.int .i64 n, .int .i64 d]] w fun e w' => e = .returned (.tuple #[.int .i64 0, .bool false]) ∧ Ext w w' := by
  go_enter Try.func21, Try.ntmps21
  go_wp2_with (first | (go_at_call 19; (with_reducible refine (impl_ValidFraction _ _ _ (by assumption) _).mono ?_); rintro e w' ⟨rfl, hx⟩; obtain ⟨g, rfl⟩ := hx.grow; clear hx))
  go_ret2
  exact ⟨rfl, ExtC.ext⟩

set_option maxHeartbeats 400000 in
theorem impl_FloorOf_ok (n d : Int) (h1 : okF n d = true) (w : World) :
    Calls Try.prog 21 #[.agg #[.int .i64 n, .int .i64 d]] w fun e w' => e = .returned (.tuple #[.int .i64 (n / d), .bool true]) ∧ Ext w w' := by
  have b := okF_bd h1
  go_enter Try.func21, Try.ntmps21
  go_wp2_with (first | (go_at_call 19; (with_reducible refine (impl_ValidFraction _ _ _ (by assumption) _).mono ?_); rintro e w' ⟨rfl, hx⟩; obtain ⟨g, rfl⟩ := hx.grow; clear hx) | (go_at_call 52; (with_reducible refine (impl_floor _ _ (by omega) (by omega) (by omega) (by omega) _).mono ?_); rintro e w' ⟨rfl, hx⟩; obtain ⟨g, rfl⟩ := hx.grow; clear hx))
  go_ret2
  exact ⟨rfl, ExtC.ext⟩

set_option maxHeartbeats 400000 in
theorem spec_FloorOf_no (n d : Int) (h1 : okF n d = false) (w : World) :
    Calls Try.prog 20 #[.agg #[.int .i64 n, .int .i64 d]] w fun e w' => e = .returned (.tuple #[.int .i64 0, .bool false]) ∧ Ext w w' := by
  go_enter Try.func20, Try.ntmps20
  go_wp2_with (first | (go_at_call 47; (with_reducible refine (spec_l01Ok _ _ _ (by assumption) _).mono ?_); rintro e w' ⟨rfl, hx⟩; obtain ⟨g, rfl⟩ := hx.grow; clear hx))
  go_ret2
  exact ⟨rfl, ExtC.ext⟩

set_option maxHeartbeats 400000 in
theorem spec_FloorOf_ok (n d : Int) (h1 : okF n d = true) (w : World) :
    Calls Try.prog 20 #[.agg #[.int .i64 n, .int .i64 d]] w fun e w' => e = .returned (.tuple #[.int .i64 (n / d), .bool true]) ∧ Ext w w' := by
  have b := okF_bd h1
  go_enter Try.func20, Try.ntmps20
  go_wp2_with (first | (go_at_call 47; (with_reducible refine (spec_l01Ok _ _ _ (by assumption) _).mono ?_); rintro e w' ⟨rfl, hx⟩; obtain ⟨g, rfl⟩ := hx.grow; clear hx) | (go_at_call 51; (with_reducible refine (spec_l01Floor _ _ (by omega) (by omega) (by omega) (by omega) _).mono ?_); rintro e w' ⟨rfl, hx⟩; obtain ⟨g, rfl⟩ := hx.grow; clear hx))
  go_ret2
  exact ⟨rfl, ExtC.ext⟩

set_option maxHeartbeats 400000 in
theorem impl_FractionOf_no1 (n d : Int) (h1 : inB n (-1000000000000000000) 1000000000000000000 = false) (w : World) :
    Calls Try.prog 25 #[.int .i64 n, .int .i64 d] w fun e' w' => e' = .returned (.tuple #[.agg #[.int .i64 0, .int .i64 0], .bool false]) ∧ Ext w w' := by
  go_enter Try.func25, Try.ntmps25
  go_wp2_with (first | (go_at_call 48; (with_reducible refine (impl_within _ _ _ _ (by assumption) _).mono ?_); rintro e w' ⟨rfl, hx⟩; obtain ⟨g, rfl⟩ := hx.grow; clear hx))
  refine bodyPost_ret (v := .tuple #[.agg #[.int .i64 0, .int .i64 0], .bool false]) (by simp [results, Try.results25, go_sem]) rfl ⟨rfl, ?_⟩
  exact ExtC.ext

set_option maxHeartbeats 400000 in
theorem impl_FractionOf_no2 (n d : Int) (h1 : inB n (-1000000000000000000) 1000000000000000000 = true) (h2 : inB d (-1000000000000000000) 1000000000000000000 = false) (w : World) :
    Calls Try.prog 25 #[.int .i64 n, .int .i64 d] w fun e' w' => e' = .returned (.tuple #[.agg #[.int .i64 0, .int .i64 0], .bool false]) ∧ Ext w w' := by
  go_enter Try.func25, Try.ntmps25
  go_wp2_with (first | (go_at_call 48; (with_reducible refine (impl_within _ _ _ _ (by assumption) _).mono ?_); rintro e w' ⟨rfl, hx⟩; obtain ⟨g, rfl⟩ := hx.grow; clear hx))
  refine bodyPost_ret (v := .tuple #[.agg #[.int .i64 0, .int .i64 0], .bool false]) (by simp [results, Try.results25, go_sem]) rfl ⟨rfl, ?_⟩
  exact ExtC.ext

set_option maxHeartbeats 400000 in
theorem impl_FractionOf_zero (n d : Int) (h1 : inB n (-1000000000000000000) 1000000000000000000 = true) (h2 : inB d (-1000000000000000000) 1000000000000000000 = true) (h3 : (d == 0) = true) (w : World) :
    Calls Try.prog 25 #[.int .i64 n, .int .i64 d] w fun e' w' => e' = .returned (.tuple #[.agg #[.int .i64 0, .int .i64 0], .bool false]) ∧ Ext w w' := by
  go_enter Try.func25, Try.ntmps25
  go_wp2_with (first | (go_at_call 48; (with_reducible refine (impl_within _ _ _ _ (by assumption) _).mono ?_); rintro e w' ⟨rfl, hx⟩; obtain ⟨g, rfl⟩ := hx.grow; clear hx))
  refine bodyPost_ret (v := .tuple #[.agg #[.int .i64 0, .int .i64 0], .bool false]) (by simp [results, Try.results25, go_sem]) rfl ⟨rfl, ?_⟩
  exact ExtC.ext

set_option maxHeartbeats 400000 in
theorem impl_FractionOf_pos (n d : Int) (h1 : inB n (-1000000000000000000) 1000000000000000000 = true) (h2 : inB d (-1000000000000000000) 1000000000000000000 = true) (h3 : 1 ≤ d) (h4 : (d == 0) = false) (w : World) :
    Calls Try.prog 25 #[.int .i64 n, .int .i64 d] w fun e' w' => e' = .returned (.tuple #[.agg #[.int .i64 (keepI (okF (redN n d) (redD n d)) (redN n d)), .int .i64 (keepI (okF (redN n d) (redD n d)) (redD n d))], .bool (okF (redN n d) (redD n d))]) ∧ Ext w w' := by
  obtain ⟨a1, a2⟩ := inB_true.1 h1
  obtain ⟨b1, b2⟩ := inB_true.1 h2
  go_enter Try.func25, Try.ntmps25
  go_wp2_with (first | (go_at_call 48; (with_reducible refine (impl_within _ _ _ _ (by assumption) _).mono ?_); rintro e w' ⟨rfl, hx⟩; obtain ⟨g, rfl⟩ := hx.grow; clear hx) | (go_at_call 58; (with_reducible refine (impl_fraction _ _ (by omega) (by omega) (by omega) (by omega) _).mono ?_); rintro e w' ⟨rfl, hx⟩; obtain ⟨g, rfl⟩ := hx.grow; clear hx) | (go_at_call 57; (with_reducible refine (impl_told _ _ _).mono ?_); rintro e w' ⟨rfl, hx⟩; obtain ⟨g, rfl⟩ := hx.grow; clear hx))
  refine bodyPost_ret (v := .tuple #[.agg #[.int .i64 (keepI (okF (redN n d) (redD n d)) (redN n d)), .int .i64 (keepI (okF (redN n d) (redD n d)) (redD n d))], .bool (okF (redN n d) (redD n d))]) (by simp [results, Try.results25, go_sem]) rfl ⟨rfl, ?_⟩
  exact ExtC.ext

set_option maxHeartbeats 400000 in
theorem impl_FractionOf_neg (n d : Int) (h1 : inB n (-1000000000000000000) 1000000000000000000 = true) (h2 : inB d (-1000000000000000000) 1000000000000000000 = true) (h3 : d ≤ -1) (h4 : (d == 0) = false) (w : World) :
    Calls Try.prog 25 #[.int .i64 n, .int .i64 d] w fun e' w' => e' = .returned (.tuple #[.agg #[.int .i64 (keepI (okF (redN (-n) (-d)) (redD (-n) (-d))) (redN (-n) (-d))), .int .i64 (keepI (okF (redN (-n) (-d)) (redD (-n) (-d))) (redD (-n) (-d)))], .bool (okF (redN (-n) (-d)) (redD (-n) (-d)))]) ∧ Ext w w' := by
  obtain ⟨a1, a2⟩ := inB_true.1 h1
  obtain ⟨b1, b2⟩ := inB_true.1 h2
  go_enter Try.func25, Try.ntmps25
  go_wp2_with (first | (go_at_call 48; (with_reducible refine (impl_within _ _ _ _ (by assumption) _).mono ?_); rintro e w' ⟨rfl, hx⟩; obtain ⟨g, rfl⟩ := hx.grow; clear hx) | (go_at_call 58; (with_reducible refine (impl_fraction _ _ (by omega) (by omega) (by omega) (by omega) _).mono ?_); rintro e w' ⟨rfl, hx⟩; obtain ⟨g, rfl⟩ := hx.grow; clear hx) | (go_at_call 57; (with_reducible refine (impl_told _ _ _).mono ?_); rintro e w' ⟨rfl, hx⟩; obtain ⟨g, rfl⟩ := hx.grow; clear hx))
  refine bodyPost_ret (v := .tuple #[.agg #[.int .i64 (keepI (okF (redN (-n) (-d)) (redD (-n) (-d))) (redN (-n) (-d))), .int .i64 (keepI (okF (redN (-n) (-d)) (redD (-n) (-d))) (redD (-n) (-d)))], .bool (okF (redN (-n) (-d)) (redD (-n) (-d)))]) (by simp [results, Try.results25, go_sem]) rfl ⟨rfl, ?_⟩
  exact ExtC.ext

set_option maxHeartbeats 400000 in
theorem spec_FractionOf_no1 (n d : Int) (h1 : inB n (-1000000000000000000) 1000000000000000000 = false) (w : World) :
    Calls Try.prog 24 #[.int .i64 n, .int .i64 d] w fun e' w' => e' = .returned (.tuple #[.agg #[.int .i64 0, .int .i64 0], .bool false]) ∧ Ext w w' := by
  go_enter Try.func24, Try.ntmps24
  go_wp2_with (first | (go_at_call 55; (with_reducible refine (spec_l00In _ _ _ _ (by assumption) _).mono ?_); rintro e w' ⟨rfl, hx⟩; obtain ⟨g, rfl⟩ := hx.grow; clear hx))
  refine bodyPost_ret (v := .tuple #[.agg #[.int .i64 0, .int .i64 0], .bool false]) (by simp [results, Try.results24, go_sem]) rfl ⟨rfl, ?_⟩
  exact ExtC.ext

set_option maxHeartbeats 400000 in
theorem spec_FractionOf_no2 (n d : Int) (h1 : inB n (-1000000000000000000) 1000000000000000000 = true) (h2 : inB d (-1000000000000000000) 1000000000000000000 = false) (w : World) :
    Calls Try.prog 24 #[.int .i64 n, .int .i64 d] w fun e' w' => e' = .returned (.tuple #[.agg #[.int .i64 0, .int .i64 0], .bool false]) ∧ Ext w w' := by
  go_enter Try.func24, Try.ntmps24
  go_wp2_with (first | (go_at_call 55; (with_reducible refine (spec_l00In _ _ _ _ (by assumption) _).mono ?_); rintro e w' ⟨rfl, hx⟩; obtain ⟨g, rfl⟩ := hx.grow; clear hx))
  refine bodyPost_ret (v := .tuple #[.agg #[.int .i64 0, .int .i64 0], .bool false]) (by simp [results, Try.results24, go_sem]) rfl ⟨rfl, ?_⟩
  exact ExtC.ext

set_option maxHeartbeats 400000 in
theorem spec_FractionOf_zero (n d : Int) (h1 : inB n (-1000000000000000000) 1000000000000000000 = true) (h2 : inB d (-1000000000000000000) 1000000000000000000 = true) (h3 : (d == 0) = true) (w : World) :
    Calls Try.prog 24 #[.int .i64 n, .int .i64 d] w fun e' w' => e' = .returned (.tuple #[.agg #[.int .i64 0, .int .i64 0], .bool false]) ∧ Ext w w' := by
  go_enter Try.func24, Try.ntmps24
  go_wp2_with (first | (go_at_call 55; (with_reducible refine (spec_l00In _ _ _ _ (by assumption) _).mono ?_); rintro e w' ⟨rfl, hx⟩; obtain ⟨g, rfl⟩ := hx.grow; clear hx))
  refine bodyPost_ret (v := .tuple #[.agg #[.int .i64 0, .int .i64 0], .bool false]) (by simp [results, Try.results24, go_sem]) rfl ⟨rfl, ?_⟩
  exact ExtC.ext

set_option maxHeartbeats 400000 in
theorem spec_FractionOf_pos (n d : Int) (h1 : inB n (-1000000000000000000) 1000000000000000000 = true) (h2 : inB d (-1000000000000000000) 1000000000000000000 = true) (h3 : 1 ≤ d) (h4 : (d == 0) = false) (w : World) :
    Calls Try.prog 24 #[.int .i64 n, .int .i64 d] w fun e' w' => e' = .returned (.tuple #[.agg #[.int .i64 (keepI (okF (redN n d) (redD n d)) (redN n d)), .int .i64 (keepI (okF (redN n d) (redD n d)) (redD n d))], .bool (okF (redN n d) (redD n d))]) ∧ Ext w w' := by
  obtain ⟨a1, a2⟩ := inB_true.1 h1
  obtain ⟨b1, b2⟩ := inB_true.1 h2
  go_enter Try.func24, Try.ntmps24
  go_wp2_with (first | (go_at_call 55; (with_reducible refine (spec_l00In _ _ _ _ (by assumption) _).mono ?_); rintro e w' ⟨rfl, hx⟩; obtain ⟨g, rfl⟩ := hx.grow; clear hx) | (go_at_call 56; (with_reducible refine (spec_l01Make_pos _ _ (by omega) (by omega) (by omega) (by omega) _).mono ?_); rintro e w' ⟨rfl, hx⟩; obtain ⟨g, rfl⟩ := hx.grow; clear hx))
  refine bodyPost_ret (v := .tuple #[.agg #[.int .i64 (keepI (okF (redN n d) (redD n d)) (redN n d)), .int .i64 (keepI (okF (redN n d) (redD n d)) (redD n d))], .bool (okF (redN n d) (redD n d))]) (by simp [results, Try.results24, go_sem]) rfl ⟨rfl, ?_⟩
  exact ExtC.ext

set_option maxHeartbeats 400000 in
theorem spec_FractionOf_neg (n d : Int) (h1 : inB n (-1000000000000000000) 1000000000000000000 = true) (h2 : inB d (-1000000000000000000) 1000000000000000000 = true) (h3 : d ≤ -1) (h4 : (d == 0) = false) (w : World) :
    Calls Try.prog 24 #[.int .i64 n, .int .i64 d] w fun e' w' => e' = .returned (.tuple #[.agg #[.int .i64 (keepI (okF (redN (-n) (-d)) (redD (-n) (-d))) (redN (-n) (-d))), .int .i64 (keepI (okF (redN (-n) (-d)) (redD (-n) (-d))) (redD (-n) (-d)))], .bool (okF (redN (-n) (-d)) (redD (-n) (-d)))]) ∧ Ext w w' := by
  obtain ⟨a1, a2⟩ := inB_true.1 h1
  obtain ⟨b1, b2⟩ := inB_true.1 h2
  go_enter Try.func24, Try.ntmps24
  go_wp2_with (first | (go_at_call 55; (with_reducible refine (spec_l00In _ _ _ _ (by assumption) _).mono ?_); rintro e w' ⟨rfl, hx⟩; obtain ⟨g, rfl⟩ := hx.grow; clear hx) | (go_at_call 56; (with_reducible refine (spec_l01Make_neg _ _ (-n) (-d) (by omega) (by omega) (by omega) (by omega) (by omega) (by omega) _).mono ?_); rintro e w' ⟨rfl, hx⟩; obtain ⟨g, rfl⟩ := hx.grow; clear hx))
  refine bodyPost_ret (v := .tuple #[.agg #[.int .i64 (keepI (okF (redN (-n) (-d)) (redD (-n) (-d))) (redN (-n) (-d))), .int .i64 (keepI (okF (redN (-n) (-d)) (redD (-n) (-d))) (redD (-n) (-d)))], .bool (okF (redN (-n) (-d)) (redD (-n) (-d)))]) (by simp [results, Try.results24, go_sem]) rfl ⟨rfl, ?_⟩
  exact ExtC.ext

end Go.Proofs.Ytomijlchcmnbpaa
