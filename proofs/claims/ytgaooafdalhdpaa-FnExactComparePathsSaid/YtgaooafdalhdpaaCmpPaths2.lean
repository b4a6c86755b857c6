/- ComparePaths on the program's side. -/
import Derived.Test.YtgaooafdalhdpaaCmpPaths
namespace Go.Proofs.Ytgaooafdalhdpaa
open Go.RowKit

set_option maxHeartbeats 2000000 in
set_option maxRecDepth 8000 in
theorem impl_ComparePaths (v u t : Value) (L : List VD) (p q : List Int) (r : Int) (w : World) (h : VS w v L) (hs : Short L) (hp : IS w u p) (hq : IS w t q) (hpn : p.length ≤ 1048576) (hqn : q.length ≤ 1048576) :
    Calls Try.prog 42 #[v, .int .i64 r, u, t] w fun e w' => CmpR L r p q e ∧ Ext w w' := by
  have H3 := fun b hb x (hx : Ext w x) => impl_IsPath_b v u L p x (h.ext hx) hs (hp.ext hx) (by omega) b hb
  have H4 := fun b hb x (hx : Ext w x) => impl_IsPath_b v t L q x (h.ext hx) hs (hq.ext hx) (by omega) b hb
  cases h2 : inB r 0 2
  · have HN := Lib.hid (show ¬ CmpOk L r p q from fun c => inB_false.1 h2 c.2.1)
    have R2 := fun x => impl_isRule r false h2 x
    clear h2
    go_enter Try.func42, Try.ntmps42
    go_wp2
    refine wp_region_grow (by kernel_rfl) (by kernel_rfl) ?_
    repeat (go_big_quiet_step ((first | (go_at_call 76; with_reducible exact grow_of (R2 _)))))
    refine wpQuiet_nil ?_
    intro _ hw'
    obtain ⟨g, hw''⟩ := hw'
    subst hw''
    go_wp2_with fail
    refine bodyPost_ret (v := .tuple #[.int .i64 0, .bool false]) (by simp [results, Try.results42, go_sem]) rfl ?_
    exact ⟨.inl ⟨HN.out, rfl⟩, ExtC.ext⟩
  have hr := inB_true.1 h2
  have R2 := fun x => impl_isRule r true h2 x
  clear h2
  obtain ⟨b3, hb3⟩ := bool_of (OkV L ∧ PathP L p)
  have P3 := H3 b3 hb3
  clear H3
  cases b3
  · have HN := Lib.hid (show ¬ CmpOk L r p q from fun c => by have := hb3.2 ⟨c.1, c.2.2.1⟩; cases this)
    clear hb3
    go_enter Try.func42, Try.ntmps42
    go_wp2
    refine wp_region_grow (by kernel_rfl) (by kernel_rfl) ?_
    repeat (go_big_quiet_step ((first | (go_at_call 76; with_reducible exact grow_of (R2 _)) | (go_at_call 24; with_reducible exact grow_of (P3 _ ExtC.ext)))))
    refine wpQuiet_nil ?_
    intro _ hw'
    obtain ⟨g, hw''⟩ := hw'
    subst hw''
    go_wp2_with fail
    refine bodyPost_ret (v := .tuple #[.int .i64 0, .bool false]) (by simp [results, Try.results42, go_sem]) rfl ?_
    exact ⟨.inl ⟨HN.out, rfl⟩, ExtC.ext⟩
  obtain ⟨hok, h3⟩ := hb3.1 rfl
  clear hb3
  obtain ⟨b4, hb4⟩ := bool_of (OkV L ∧ PathP L q)
  have P4 := H4 b4 hb4
  clear H4
  cases b4
  · have HN := Lib.hid (show ¬ CmpOk L r p q from fun c => by have := hb4.2 ⟨c.1, c.2.2.2.1⟩; cases this)
    clear hb4 h3 hok
    go_enter Try.func42, Try.ntmps42
    go_wp2
    refine wp_region_grow (by kernel_rfl) (by kernel_rfl) ?_
    repeat (go_big_quiet_step ((first | (go_at_call 76; with_reducible exact grow_of (R2 _)) | (go_at_call 24; with_reducible exact grow_of (P3 _ ExtC.ext)) | (go_at_call 24; with_reducible exact grow_of (P4 _ ExtC.ext)))))
    refine wpQuiet_nil ?_
    intro _ hw'
    obtain ⟨g, hw''⟩ := hw'
    subst hw''
    go_wp2_with fail
    refine bodyPost_ret (v := .tuple #[.int .i64 0, .bool false]) (by simp [results, Try.results42, go_sem]) rfl ?_
    exact ⟨.inl ⟨HN.out, rfl⟩, ExtC.ext⟩
  obtain ⟨-, h4⟩ := hb4.1 rfl
  clear hb4
  have HA := fun x (hx : Ext w x) => impl_ranks v u L p x (h.ext hx) hs hok (hp.ext hx) h3 hpn
  have HB := fun x (hx : Ext w x) => impl_ranks v t L q x (h.ext hx) hs hok (hq.ext hx) h4 hqn
  have HY := Lib.hid (show p.getD 0 0 = q.getD 0 0 → CmpOk L r p q from fun c => ⟨hok, hr, h3, h4, c⟩)
  have n3 := h3.1
  have n4 := h4.1
  clear h3 h4 hok
  obtain ⟨pb, po, pc, rfl, hpc, hpb, hpx⟩ := hp
  obtain ⟨qb, qo, qc, rfl, hqc, hqb, hqx⟩ := hq
  have d1 := hpx 0 n3; have d10 := d1; rw [Nat.add_zero] at d10
  have d2 := hqx 0 n4; have d20 := d2; rw [Nat.add_zero] at d20
  clear hpx hqx
  have e1 : p.getD 0 0 = p[0] := by simp [n3]
  have e2 : q.getD 0 0 = q[0] := by simp [n4]
  by_cases he : p[0] = q[0]
  case neg =>
    have hq1 : (p[0] != q[0]) = true := by simp [he]
    have HN := Lib.hid (show ¬ CmpOk L r p q from fun c => he (by rw [← e1, ← e2]; exact c.2.2.2.2))
    clear he e1 e2
    go_enter Try.func42, Try.ntmps42
    go_wp2
    refine wp_region_grow (by kernel_rfl) (by kernel_rfl) ?_
    repeat (go_big_quiet_step ((first | (go_at_call 76; with_reducible exact grow_of (R2 _)) | (go_at_call 24; with_reducible exact grow_of (P3 _ ExtC.ext)) | (go_at_call 24; with_reducible exact grow_of (P4 _ ExtC.ext)))))
    refine wpQuiet_nil ?_
    intro _ hw'
    obtain ⟨g, hw''⟩ := hw'
    subst hw''
    go_wp2_with fail
    refine bodyPost_ret (v := .tuple #[.int .i64 0, .bool false]) (by simp [results, Try.results42, go_sem]) rfl ?_
    exact ⟨.inl ⟨HN.out, rfl⟩, ExtC.ext⟩
  have hq1 : (p[0] != q[0]) = false := by simp [he]
  have HC := Lib.hid (HY.out (by rw [e1, e2, he]))
  clear he e1 e2 HY
  have la : (rk L p).length = p.length - 1 := by simp [rk]
  have lb : (rk L q).length = q.length - 1 := by simp [rk]
  obtain ⟨a, ha⟩ : ∃ a, rk L p = a := ⟨_, rfl⟩
  obtain ⟨b, hb⟩ : ∃ b, rk L q = b := ⟨_, rfl⟩
  obtain ⟨z, hz⟩ : ∃ z, better r p q a b = z := ⟨_, rfl⟩
  have HFIN := Lib.hid (show CmpR L r p q (.returned (.tuple #[.int .i64 z, .bool true])) from .inr ⟨HC.out, by rw [ha, hb, hz]⟩)
  rw [ha] at HA la
  rw [hb] at HB lb
  have ha2 : a.length ≤ 1048576 := by omega
  have hb2 : b.length ≤ 1048576 := by omega
  have HLE := Lib.hid (And.intro la lb)
  have HZ := Lib.hid hz
  clear ha hb hz la lb HC
  go_enter Try.func42, Try.ntmps42
  go_wp2
  refine wp_region_grow (by kernel_rfl) (by kernel_rfl) ?_
  repeat (go_big_quiet_step ((first | (go_at_call 76; with_reducible exact grow_of (R2 _)) | (go_at_call 24; with_reducible exact grow_of (P3 _ ExtC.ext)) | (go_at_call 24; with_reducible exact grow_of (P4 _ ExtC.ext)))))
  refine wpQuiet_nil ?_
  intro _ hw'
  obtain ⟨g, hw''⟩ := hw'
  subst hw''
  clear R2 P3 P4 d1 d2 d10 d20 hq1
  go_wp2_with fail
  refine Calls.mono (HA _ ExtC.ext) ?_
  rintro e w' ⟨v1, rfl, n1, o1, hx⟩; obtain ⟨g1, rfl⟩ := hx.grow; clear hx
  go_wp2_with fail
  refine Calls.mono (HB _ ExtC.ext) ?_
  rintro e w' ⟨v2, rfl, n2, o2, hx⟩; obtain ⟨g2, rfl⟩ := hx.grow; clear hx
  have HL := fun x (hx : Ext g2.fin x) => slices_Compare v1 v2 a b x (((o1.is n1).ext (ExtC.ext : Ext g1.fin g2.fin)).ext hx) ((o2.is n2).ext hx) (by omega) (by omega)
  obtain ⟨x1, xo1, xc1, rfl, xe1, xi1, xx1⟩ := o1.is n1
  obtain ⟨x2, xo2, xc2, rfl, xe2, xi2, xx2⟩ := o2.is n2
  have X1 := Lib.hid xx1
  have X2 := Lib.hid xx2
  clear xx1 xx2 o1 o2 n1 n2 HA HB
  have hcase : r = 0 ∨ r = 1 ∨ r = 2 := by omega
  rcases hcase with rfl | rfl | rfl
  · by_cases h1 : a.length < b.length
    · have dl : decide ((a.length:Int) < (b.length:Int)) = true := by simp; omega
      go_wp2_with fail
      refine bodyPost_ret (v := .tuple #[.int .i64 (-1), .bool true]) (by simp [results, Try.results42, go_sem]) rfl ?_
      refine ⟨?_, ExtC.ext⟩
      have := HFIN.out
      rw [← HZ.out] at this
      obtain ⟨l1, l2⟩ := HLE.out
      have e : better 0 p q a b = -1 := by simp [better, cmpTwo]; omega
      rw [e] at this; exact this
    · have dl : decide ((a.length:Int) < (b.length:Int)) = false := by simp; omega
      by_cases h3 : b.length < a.length
      · have dl2 : decide ((b.length:Int) < (a.length:Int)) = true := by simp; omega
        go_wp2_with fail
        refine bodyPost_ret (v := .tuple #[.int .i64 1, .bool true]) (by simp [results, Try.results42, go_sem]) rfl ?_
        refine ⟨?_, ExtC.ext⟩
        have := HFIN.out
        rw [← HZ.out] at this
        obtain ⟨l1, l2⟩ := HLE.out
        have e : better 0 p q a b = 1 := by simp only [better, cmpTwo, if_true]; rw [if_neg (by omega), if_pos (by omega)]
        rw [e] at this; exact this
      · have dl2 : decide ((b.length:Int) < (a.length:Int)) = false := by simp; omega
        go_wp2_with (first | (go_at_call 77; (with_reducible refine (HL _ ExtC.ext).mono ?_); rintro e w' ⟨rfl, hx⟩; obtain ⟨g, rfl⟩ := hx.grow; clear hx))
        refine bodyPost_ret (v := .tuple #[.int .i64 (cmpL a b), .bool true]) (by simp [results, Try.results42, go_sem]) rfl ?_
        refine ⟨?_, ExtC.ext⟩
        have := HFIN.out
        rw [← HZ.out] at this
        obtain ⟨l1, l2⟩ := HLE.out
        have e : better 0 p q a b = cmpL a b := by simp only [better, cmpTwo, if_true]; rw [if_neg (by omega), if_neg (by omega)]
        rw [e] at this; exact this
  · go_wp2_with fail
    go_loopw [12, 59] (fun s i wr => ∃ k : Nat, k ≤ a.length ∧ i = .int .i64 k ∧ s = .int .i64 (wsum (a.take k)) ∧ Ext g2.fin wr) (fun _ i _ => a.length - (intOf i).toNat)
    case atStart => exact ⟨0, Nat.zero_le _, rfl, by simp [wsum], ExtC.ext⟩
    case round =>
      obtain ⟨k, hk, rfl, rfl, hx⟩ := hrel
      obtain ⟨g3, rfl⟩ := hx.grow; clear hx
      by_cases hlt : k < a.length
      · have d := X1.out k hlt
        have HS := Lib.hid (wsum_step a k hlt)
        go_wp2
        go_roundw
        case rel => exact ⟨k + 1, by omega, by go_num, by rw [HS.out], ExtC.ext⟩
        case measure => simp [intOf]; omega
      · have e : k = a.length := by omega
        have e2 : a.take k = a := List.take_of_length_le (by omega)
        rw [e2]
        clear e2
        subst e
        go_wp2
        go_loopw [13, 69] (fun s i wr => ∃ k : Nat, k ≤ b.length ∧ i = .int .i64 k ∧ s = .int .i64 (wsum (b.take k)) ∧ Ext g3.fin wr) (fun _ i _ => b.length - (intOf i).toNat)
        case atStart => exact ⟨0, Nat.zero_le _, rfl, by simp [wsum], ExtC.ext⟩
        case round =>
          obtain ⟨k, hk, rfl, rfl, hx⟩ := hrel
          obtain ⟨g4, rfl⟩ := hx.grow; clear hx
          by_cases hlt : k < b.length
          · have d := X2.out k hlt
            have HS := Lib.hid (wsum_step b k hlt)
            go_wp2
            go_roundw
            case rel => exact ⟨k + 1, by omega, by go_num, by rw [HS.out], ExtC.ext⟩
            case measure => simp [intOf]; omega
          · have e2 : b.take k = b := List.take_of_length_le (by omega)
            rw [e2]
            clear e2
            have e : k = b.length := by omega
            subst e
            by_cases h1 : wsum a < wsum b
            · have dl : decide (wsum a < wsum b) = true := by simp [h1]
              have HV := Lib.hid (show better 1 p q a b = -1 by simp [better, cmpTwo, h1])
              go_wp2_with fail
              refine bodyPost_ret (v := .tuple #[.int .i64 (-1), .bool true]) (by simp [results, Try.results42, go_sem]) rfl ?_
              exact ⟨by have := HFIN.out; rw [← HZ.out, HV.out] at this; exact this, ExtC.ext⟩
            · have dl : decide (wsum a < wsum b) = false := by simp; omega
              by_cases h3 : wsum b < wsum a
              · have dl2 : decide (wsum b < wsum a) = true := by simp [h3]
                have HV := Lib.hid (show better 1 p q a b = 1 by simp [better, cmpTwo, h1, h3])
                go_wp2_with fail
                refine bodyPost_ret (v := .tuple #[.int .i64 1, .bool true]) (by simp [results, Try.results42, go_sem]) rfl ?_
                exact ⟨by have := HFIN.out; rw [← HZ.out, HV.out] at this; exact this, ExtC.ext⟩
              · have dl2 : decide (wsum b < wsum a) = false := by simp; omega
                have HV := Lib.hid (show better 1 p q a b = cmpL a b by unfold better cmpTwo; simp only [if_neg h1, if_neg h3]; rfl)
                go_wp2_with (first | (go_at_call 77; (with_reducible refine (HL _ ExtC.ext).mono ?_); rintro e w' ⟨rfl, hx⟩; obtain ⟨g, rfl⟩ := hx.grow; clear hx))
                refine bodyPost_ret (v := .tuple #[.int .i64 (cmpL a b), .bool true]) (by simp [results, Try.results42, go_sem]) rfl ?_
                exact ⟨by have := HFIN.out; rw [← HZ.out, HV.out] at this; exact this, ExtC.ext⟩
  · have HV := Lib.hid (show better 2 p q a b = cmpL a b by simp [better])
    go_wp2_with (first | (go_at_call 77; (with_reducible refine (HL _ ExtC.ext).mono ?_); rintro e w' ⟨rfl, hx⟩; obtain ⟨g, rfl⟩ := hx.grow; clear hx))
    refine bodyPost_ret (v := .tuple #[.int .i64 (cmpL a b), .bool true]) (by simp [results, Try.results42, go_sem]) rfl ?_
    exact ⟨by have := HFIN.out; rw [← HZ.out, HV.out] at this; exact this, ExtC.ext⟩

open Classical in
noncomputable def cmpB (L : List VD) (r : Int) (p q : List Int) : Bool := decide (CmpOk L r p q)
open Classical in
noncomputable def cmpZ (L : List VD) (r : Int) (p q : List Int) : Int := if CmpOk L r p q then better r p q (rk L p) (rk L q) else 0
theorem CmpR.told {L : List VD} {r : Int} {p q : List Int} {e : Ending} (h : CmpR L r p q e) : e = .returned (.tuple #[.int .i64 (cmpZ L r p q), .bool (cmpB L r p q)]) := by
  rcases h with ⟨hn, rfl⟩ | ⟨hy, rfl⟩
  · simp [cmpZ, cmpB, hn]
  · simp [cmpZ, cmpB, hy]
theorem impl_ComparePaths' (v : Value) (r : Int) (u t : Value) (L : List VD) (p q : List Int) (w : World) (h : VS w v L) (hs : Short L) (hp : IS w u p) (hpn : p.length ≤ 1048576) (hq : IS w t q) (hqn : q.length ≤ 1048576) (b : Bool) (hb : cmpB L r p q = b) (z : Int) (hz : cmpZ L r p q = z) :
    Calls Try.prog 42 #[v, .int .i64 r, u, t] w fun e w' => e = .returned (.tuple #[.int .i64 z, .bool b]) ∧ Ext w w' := by
  subst hb hz
  exact (impl_ComparePaths v u t L p q r w h hs hp hq hpn hqn).mono fun _ _ h => ⟨h.1.told, h.2⟩
theorem spec_ComparePaths' (v : Value) (r : Int) (u t : Value) (L : List VD) (p q : List Int) (w : World) (h : VS w v L) (hs : Short L) (hp : IS w u p) (hpn : p.length ≤ 1048576) (hq : IS w t q) (hqn : q.length ≤ 1048576) (b : Bool) (hb : cmpB L r p q = b) (z : Int) (hz : cmpZ L r p q = z) :
    Calls Try.prog 41 #[v, .int .i64 r, u, t] w fun e w' => e = .returned (.tuple #[.int .i64 z, .bool b]) ∧ Ext w w' := by
  subst hb hz
  exact (spec_ComparePaths v u t L p q r w h hs hp hq hpn hqn).mono fun _ _ h => ⟨h.1.told, h.2⟩
end Go.Proofs.Ytgaooafdalhdpaa
