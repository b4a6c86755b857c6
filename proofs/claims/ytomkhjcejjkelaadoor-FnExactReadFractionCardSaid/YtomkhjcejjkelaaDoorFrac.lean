/- Valid fractions: the contracts of ValidFraction on both sides. -/
import Derived.Test.YtomkhjcejjkelaaDoorBasic
namespace Go.Proofs.YtomkhjcejjkelaaDoor
open Go.RowKit

set_option maxHeartbeats 400000 in
theorem spec_l00Max (a b : Int) (w : World) :
    Calls Tryd.prog 127 #[.int .i64 a, .int .i64 b] w fun e w' => e = .returned (.int .i64 (max a b)) ∧ Ext w w' := by
  by_cases h : b < a
  · go_enter Tryd.func127, Tryd.ntmps127
    go_wp2
    go_ret
    exact ⟨ret_int (by omega), Ext.refl _⟩
  · go_enter Tryd.func127, Tryd.ntmps127
    go_wp2
    go_ret
    exact ⟨ret_int (by omega), Ext.refl _⟩

set_option maxHeartbeats 400000 in
theorem spec_l01Abs (n : Int) (h1 : -9223372036854775807 ≤ n) (h2 : n ≤ 9223372036854775807) (w : World) :
    Calls Tryd.prog 103 #[.int .i64 n] w fun e w' => e = .returned (.int .i64 (n.natAbs : Int)) ∧ Ext w w' := by
  go_enter Tryd.func103, Tryd.ntmps103
  go_wp2_with (go_at_call 127; refine (spec_l00Max _ _ _).mono ?_; rintro e w' ⟨rfl, hx⟩; obtain ⟨g, rfl⟩ := hx.grow; clear hx)
  go_ret
  exact ⟨ret_int (by omega), g.ext⟩

/-- Numerator and denominator are those of a valid fraction. -/
def okF (n d : Int) : Bool := inB d 1 1000000000 && inB n (-1000000000) 1000000000 && decide (Int.gcd n d = 1)
theorem gcd_abs (n d : Int) : Int.gcd (n.natAbs : Int) d = Int.gcd n d := by simp [Int.gcd]
theorem okF_gcd (n d : Int) (h1 : inB d 1 1000000000 = true) (h2 : inB n (-1000000000) 1000000000 = true) :
    ((Int.gcd (n.natAbs : Int) d : Int) == 1) = okF n d := by
  rw [gcd_abs, okF, h1, h2, Bool.eq_iff_iff]; simp; omega
theorem okF_1 (n d : Int) (h1 : ¬ inB d 1 1000000000 = true) : false = okF n d := by simp [okF, h1]
theorem okF_2 (n d : Int) (h2 : ¬ inB n (-1000000000) 1000000000 = true) : false = okF n d := by simp [okF, h2]

set_option maxHeartbeats 400000 in
theorem impl_ValidFraction (n d : Int) (b : Bool) (hb : okF n d = b) (w : World) :
    Calls Tryd.prog 74 #[.agg #[.int .i64 n, .int .i64 d]] w fun e w' => e = .returned (.bool b) ∧ Ext w w' := by
  subst hb
  by_cases h1 : inB d 1 1000000000 = true
  · by_cases h2 : inB n (-1000000000) 1000000000 = true
    · obtain ⟨l1, l2⟩ := inB_true.1 h1
      obtain ⟨l3, l4⟩ := inB_true.1 h2
      go_enter Tryd.func74, Tryd.ntmps74
      go_wp2
      refine wp_region_grow (by kernel_rfl) (by kernel_rfl) ?_
      repeat (go_big_quiet_step ((first | (go_at_call 95; exact grow_of (impl_within _ _ _ _ (by assumption) _)) | (go_at_call 105; exact grow_of (impl_absolute _ (by omega) (by omega) _)) | (go_at_call 104; exact grow_of (impl_divisor _ _ (by omega) (by omega) (by omega) (by omega) _)))))
      refine wpQuiet_nil ?_
      intro _ hw'
      obtain ⟨g, hw''⟩ := hw'
      subst hw''
      go_wp2
      go_ret
      exact ⟨ret_bool (okF_gcd n d h1 h2), ((Ext.refl _).alloc _).fin g⟩
    · have h2' : inB n (-1000000000) 1000000000 = false := by simpa using h2
      have H2 := Lib.hid h2; clear h2
      go_enter Tryd.func74, Tryd.ntmps74
      go_wp2
      refine wp_region_grow (by kernel_rfl) (by kernel_rfl) ?_
      repeat (go_big_quiet_step ((first | (go_at_call 95; exact grow_of (impl_within _ _ _ _ (by assumption) _)))))
      refine wpQuiet_nil ?_
      intro _ hw'
      obtain ⟨g, hw''⟩ := hw'
      subst hw''
      go_wp2
      go_ret
      exact ⟨ret_bool (okF_2 n d H2.out), ((Ext.refl _).alloc _).fin g⟩
  · have h1' : inB d 1 1000000000 = false := by simpa using h1
    have H1 := Lib.hid h1; clear h1
    go_enter Tryd.func74, Tryd.ntmps74
    go_wp2
    refine wp_region_grow (by kernel_rfl) (by kernel_rfl) ?_
    repeat (go_big_quiet_step ((first | (go_at_call 95; exact grow_of (impl_within _ _ _ _ (by assumption) _)))))
    refine wpQuiet_nil ?_
    intro _ hw'
    obtain ⟨g, hw''⟩ := hw'
    subst hw''
    go_wp2
    go_ret
    exact ⟨ret_bool (okF_1 n d H1.out), ((Ext.refl _).alloc _).fin g⟩

set_option maxHeartbeats 400000 in
theorem spec_l01Ok (n d : Int) (b : Bool) (hb : okF n d = b) (w : World) :
    Calls Tryd.prog 72 #[.agg #[.int .i64 n, .int .i64 d]] w fun e w' => e = .returned (.bool b) ∧ Ext w w' := by
  subst hb
  by_cases h1 : inB d 1 1000000000 = true
  · by_cases h2 : inB n (-1000000000) 1000000000 = true
    · obtain ⟨l1, l2⟩ := inB_true.1 h1
      obtain ⟨l3, l4⟩ := inB_true.1 h2
      go_enter Tryd.func72, Tryd.ntmps72
      go_wp2
      refine wp_region_grow (by kernel_rfl) (by kernel_rfl) ?_
      repeat (go_big_quiet_step ((first | (go_at_call 91; exact grow_of (spec_l00In _ _ _ _ (by assumption) _)) | (go_at_call 103; exact grow_of (spec_l01Abs _ (by omega) (by omega) _)) | (go_at_call 102; exact grow_of (spec_l01Gcd _ _ (by omega) (by omega) (by omega) (by omega) _)))))
      refine wpQuiet_nil ?_
      intro _ hw'
      obtain ⟨g, hw''⟩ := hw'
      subst hw''
      go_wp2
      go_ret
      exact ⟨ret_bool (okF_gcd n d h1 h2), ((Ext.refl _).alloc _).fin g⟩
    · have h2' : inB n (-1000000000) 1000000000 = false := by simpa using h2
      have H2 := Lib.hid h2; clear h2
      go_enter Tryd.func72, Tryd.ntmps72
      go_wp2
      refine wp_region_grow (by kernel_rfl) (by kernel_rfl) ?_
      repeat (go_big_quiet_step ((first | (go_at_call 91; exact grow_of (spec_l00In _ _ _ _ (by assumption) _)))))
      refine wpQuiet_nil ?_
      intro _ hw'
      obtain ⟨g, hw''⟩ := hw'
      subst hw''
      go_wp2
      go_ret
      exact ⟨ret_bool (okF_2 n d H2.out), ((Ext.refl _).alloc _).fin g⟩
  · have h1' : inB d 1 1000000000 = false := by simpa using h1
    have H1 := Lib.hid h1; clear h1
    go_enter Tryd.func72, Tryd.ntmps72
    go_wp2
    refine wp_region_grow (by kernel_rfl) (by kernel_rfl) ?_
    repeat (go_big_quiet_step ((first | (go_at_call 91; exact grow_of (spec_l00In _ _ _ _ (by assumption) _)))))
    refine wpQuiet_nil ?_
    intro _ hw'
    obtain ⟨g, hw''⟩ := hw'
    subst hw''
    go_wp2
    go_ret
    exact ⟨ret_bool (okF_1 n d H1.out), ((Ext.refl _).alloc _).fin g⟩

end Go.Proofs.YtomkhjcejjkelaaDoor
