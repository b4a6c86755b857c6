/- ComparePaths on both sides. -/
import Derived.Test.YtgaooafdalhdpaaBetter2
namespace Go.Proofs.Ytgaooafdalhdpaa
open Go.RowKit

theorem RetB.told {P : Prop} {e : Ending} {b : Bool} (h : RetB P e) (hb : b = true ↔ P) : e = .returned (.bool b) := by
  obtain ⟨c, rfl, hc⟩ := h
  have : c = b := by rw [Bool.eq_iff_iff, hc, hb]
  rw [this]
theorem impl_IsPath_b (v u : Value) (L : List VD) (p : List Int) (w : World) (h : VS w v L) (hs : Short L) (hp : IS w u p) (hpn : p.length ≤ 1152921504606846976) (b : Bool) (hb : b = true ↔ OkV L ∧ PathP L p) :
    Calls Try.prog 24 #[v, u] w fun e w' => e = .returned (.bool b) ∧ Ext w w' :=
  Calls.mono (impl_IsPath v u L p w h hs hp hpn) fun _ _ h => ⟨h.1.told hb, h.2⟩
theorem spec_l02Path_b (v u : Value) (L : List VD) (p : List Int) (w : World) (h : VS w v L) (hs : Short L) (hok : OkV L) (hp : IS w u p) (hpn : p.length ≤ 1152921504606846976) (b : Bool) (hb : b = true ↔ PathP L p) :
    Calls Try.prog 63 #[v, u] w fun e w' => e = .returned (.bool b) ∧ Ext w w' :=
  Calls.mono (spec_l02Path v u L p w h hs hok hp hpn) fun _ _ h => ⟨h.1.told hb, h.2⟩
theorem spec_l02Ok_b (v : Value) (L : List VD) (w : World) (h : VS w v L) (hs : Short L) (b : Bool) (hb : b = true ↔ OkV L) :
    Calls Try.prog 58 #[v] w fun e w' => e = .returned (.bool b) ∧ Ext w w' :=
  Calls.mono (spec_l02Ok v L w h hs) fun _ _ h => ⟨h.1.told hb, h.2⟩
theorem bool_of (P : Prop) : ∃ b : Bool, b = true ↔ P := by
  by_cases h : P
  · exact ⟨true, by simp [h]⟩
  · exact ⟨false, by simp [h]⟩
def CmpOk (L : List VD) (r : Int) (p q : List Int) : Prop := OkV L ∧ (0 ≤ r ∧ r ≤ 2) ∧ PathP L p ∧ PathP L q ∧ p.getD 0 0 = q.getD 0 0
def CmpR (L : List VD) (r : Int) (p q : List Int) (e : Ending) : Prop :=
  (¬ CmpOk L r p q ∧ e = .returned (.tuple #[.int .i64 0, .bool false])) ∨ (CmpOk L r p q ∧ e = .returned (.tuple #[.int .i64 (better r p q (rk L p) (rk L q)), .bool true]))

set_option maxHeartbeats 2000000 in
set_option maxRecDepth 8000 in
theorem spec_ComparePaths (v u t : Value) (L : List VD) (p q : List Int) (r : Int) (w : World) (h : VS w v L) (hs : Short L) (hp : IS w u p) (hq : IS w t q) (hpn : p.length ≤ 1048576) (hqn : q.length ≤ 1048576) :
    Calls Try.prog 41 #[v, .int .i64 r, u, t] w fun e w' => CmpR L r p q e ∧ Ext w w' := by
  obtain ⟨b1, hb1⟩ : ∃ b : Bool, b = true ↔ OkV L := bool_of _
  have H1 := fun x (hx : Ext w x) => spec_l02Ok_b v L x (h.ext hx) hs b1 hb1
  cases b1
  · have HN := Lib.hid (show ¬ CmpOk L r p q from fun c => by have := hb1.2 c.1; cases this)
    clear hb1
    go_enter Try.func41, Try.ntmps41
    go_wp2
    refine wp_region_grow (by kernel_rfl) (by kernel_rfl) ?_
    repeat (go_big_quiet_step ((first | (go_at_call 58; with_reducible exact grow_of (H1 _ ExtC.ext)))))
    refine wpQuiet_nil ?_
    intro _ hw'
    obtain ⟨g, hw''⟩ := hw'
    subst hw''
    go_wp2_with fail
    refine bodyPost_ret (v := .tuple #[.int .i64 0, .bool false]) (by simp [results, Try.results41, go_sem]) rfl ?_
    exact ⟨.inl ⟨HN.out, rfl⟩, ExtC.ext⟩
  have hok := hb1.1 rfl
  have HOK := Lib.hid hok
  clear hb1
  have H3 := fun b hb x (hx : Ext w x) => spec_l02Path_b v u L p x (h.ext hx) hs hok (hp.ext hx) (by omega) b hb
  have H4 := fun b hb x (hx : Ext w x) => spec_l02Path_b v t L q x (h.ext hx) hs hok (hq.ext hx) (by omega) b hb
  have H5 := fun h3 h4 hr x (hx : Ext w x) => spec_l02Better v u t L p q r x (h.ext hx) hs hok (hp.ext hx) (hq.ext hx) h3 h4 hpn hqn hr
  clear hok
  cases h2 : inB r 0 2
  · have HN := Lib.hid (show ¬ CmpOk L r p q from fun c => inB_false.1 h2 c.2.1)
    have R2 := fun x => spec_l02Rule r false h2 x
    clear h2
    go_enter Try.func41, Try.ntmps41
    go_wp2
    refine wp_region_grow (by kernel_rfl) (by kernel_rfl) ?_
    repeat (go_big_quiet_step ((first | (go_at_call 58; with_reducible exact grow_of (H1 _ ExtC.ext)) | (go_at_call 74; with_reducible exact grow_of (R2 _)))))
    refine wpQuiet_nil ?_
    intro _ hw'
    obtain ⟨g, hw''⟩ := hw'
    subst hw''
    go_wp2_with fail
    refine bodyPost_ret (v := .tuple #[.int .i64 0, .bool false]) (by simp [results, Try.results41, go_sem]) rfl ?_
    exact ⟨.inl ⟨HN.out, rfl⟩, ExtC.ext⟩
  have hr := inB_true.1 h2
  have R2 := fun x => spec_l02Rule r true h2 x
  clear h2
  obtain ⟨b3, hb3⟩ := bool_of (PathP L p)
  have P3 := H3 b3 hb3
  clear H3
  cases b3
  · have HN := Lib.hid (show ¬ CmpOk L r p q from fun c => by have := hb3.2 c.2.2.1; cases this)
    clear hb3
    go_enter Try.func41, Try.ntmps41
    go_wp2
    refine wp_region_grow (by kernel_rfl) (by kernel_rfl) ?_
    repeat (go_big_quiet_step ((first | (go_at_call 58; with_reducible exact grow_of (H1 _ ExtC.ext)) | (go_at_call 74; with_reducible exact grow_of (R2 _)) | (go_at_call 63; with_reducible exact grow_of (P3 _ ExtC.ext)))))
    refine wpQuiet_nil ?_
    intro _ hw'
    obtain ⟨g, hw''⟩ := hw'
    subst hw''
    go_wp2_with fail
    refine bodyPost_ret (v := .tuple #[.int .i64 0, .bool false]) (by simp [results, Try.results41, go_sem]) rfl ?_
    exact ⟨.inl ⟨HN.out, rfl⟩, ExtC.ext⟩
  have h3 := hb3.1 rfl
  clear hb3
  obtain ⟨b4, hb4⟩ := bool_of (PathP L q)
  have P4 := H4 b4 hb4
  clear H4
  cases b4
  · have HN := Lib.hid (show ¬ CmpOk L r p q from fun c => by have := hb4.2 c.2.2.2.1; cases this)
    clear hb4 h3
    go_enter Try.func41, Try.ntmps41
    go_wp2
    refine wp_region_grow (by kernel_rfl) (by kernel_rfl) ?_
    repeat (go_big_quiet_step ((first | (go_at_call 58; with_reducible exact grow_of (H1 _ ExtC.ext)) | (go_at_call 74; with_reducible exact grow_of (R2 _)) | (go_at_call 63; with_reducible exact grow_of (P3 _ ExtC.ext)) | (go_at_call 63; with_reducible exact grow_of (P4 _ ExtC.ext)))))
    refine wpQuiet_nil ?_
    intro _ hw'
    obtain ⟨g, hw''⟩ := hw'
    subst hw''
    go_wp2_with fail
    refine bodyPost_ret (v := .tuple #[.int .i64 0, .bool false]) (by simp [results, Try.results41, go_sem]) rfl ?_
    exact ⟨.inl ⟨HN.out, rfl⟩, ExtC.ext⟩
  have h4 := hb4.1 rfl
  clear hb4
  have R5 := H5 h3 h4 hr
  clear H5
  have hOK : p.getD 0 0 = q.getD 0 0 → CmpOk L r p q := fun c => ⟨HOK.out, hr, h3, h4, c⟩
  have HY := Lib.hid hOK
  have n3 := h3.1
  have n4 := h4.1
  clear hOK h3 h4 hr
  obtain ⟨pb, po, pc, rfl, hpc, hpb, hpx⟩ := hp
  obtain ⟨qb, qo, qc, rfl, hqc, hqb, hqx⟩ := hq
  have d1 := hpx 0 n3; have d10 := d1; rw [Nat.add_zero] at d10
  have d2 := hqx 0 n4; have d20 := d2; rw [Nat.add_zero] at d20
  clear hpx hqx
  have e1 : p.getD 0 0 = p[0] := by simp [n3]
  have e2 : q.getD 0 0 = q[0] := by simp [n4]
  by_cases he : p[0] = q[0]
  · have hq1 : (p[0] != q[0]) = false := by simp [he]
    have HC := Lib.hid (HY.out (by rw [e1, e2, he]))
    clear he e1 e2
    go_enter Try.func41, Try.ntmps41
    go_wp2
    refine wp_region_grow (by kernel_rfl) (by kernel_rfl) ?_
    repeat (go_big_quiet_step ((first | (go_at_call 58; with_reducible exact grow_of (H1 _ ExtC.ext)) | (go_at_call 74; with_reducible exact grow_of (R2 _)) | (go_at_call 63; with_reducible exact grow_of (P3 _ ExtC.ext)) | (go_at_call 63; with_reducible exact grow_of (P4 _ ExtC.ext)))))
    refine wpQuiet_nil ?_
    intro _ hw'
    obtain ⟨g, hw''⟩ := hw'
    subst hw''
    go_wp2_with (first | (go_at_call 75; (with_reducible refine (R5 _ ExtC.ext).mono ?_); rintro e w' ⟨rfl, hx⟩; obtain ⟨g, rfl⟩ := hx.grow; clear hx))
    refine bodyPost_ret (v := .tuple #[.int .i64 (better r p q (rk L p) (rk L q)), .bool true]) (by simp [results, Try.results41, go_sem]) rfl ?_
    exact ⟨.inr ⟨HC.out, rfl⟩, ExtC.ext⟩
  · have hq1 : (p[0] != q[0]) = true := by simp [he]
    have HN := Lib.hid (show ¬ CmpOk L r p q from fun c => he (by rw [← e1, ← e2]; exact c.2.2.2.2))
    clear he e1 e2
    go_enter Try.func41, Try.ntmps41
    go_wp2
    refine wp_region_grow (by kernel_rfl) (by kernel_rfl) ?_
    repeat (go_big_quiet_step ((first | (go_at_call 58; with_reducible exact grow_of (H1 _ ExtC.ext)) | (go_at_call 74; with_reducible exact grow_of (R2 _)) | (go_at_call 63; with_reducible exact grow_of (P3 _ ExtC.ext)) | (go_at_call 63; with_reducible exact grow_of (P4 _ ExtC.ext)))))
    refine wpQuiet_nil ?_
    intro _ hw'
    obtain ⟨g, hw''⟩ := hw'
    subst hw''
    go_wp2_with fail
    refine bodyPost_ret (v := .tuple #[.int .i64 0, .bool false]) (by simp [results, Try.results41, go_sem]) rfl ?_
    exact ⟨.inl ⟨HN.out, rfl⟩, ExtC.ext⟩
end Go.Proofs.Ytgaooafdalhdpaa
