/- The best path of a member: PathOf on both sides. -/
import Derived.Test.YtbbppkcdgcajjaaBestP
namespace Go.Proofs.Ytbbppkcdgcajjaa
open Go.RowKit

set_option maxHeartbeats 1000000 in
theorem impl_PathOf' (v : Value) (rule m : Int) (L : List VD) (w : World) (h : VS w v L) (hs : Short L) (b : Bool) (hb : pofB L rule m = b) (xs : List Int) (hxs : pofX L rule m = xs) :
    Calls Try.prog 23 #[v, .int .i64 rule, .int .i64 m] w fun e w' => ∃ v', e = .returned (.tuple #[v', .bool b]) ∧ OwnI w.heap.size w'.heap.size w' v' xs ∧ Ext w w' := by
  have H1 := fun x (hx : Ext w x) => impl_isMember v m L x (h.ext hx) hs (memB L m) (memB_iff rfl)
  cases q1 : memB L m
  · rw [q1] at H1
    have HN := Lib.hid (show xs = [] by rw [← hxs]; exact (pof_no fun hh => by have := (memB_iff q1).2 hh.1; cases this).2)
    have hbf : b = false := by rw [← hb]; exact (pof_no fun hh => by have := (memB_iff q1).2 hh.1; cases this).1
    subst hbf
    clear hb hxs
    go_enter Try.func23, Try.ntmps23
    go_wp2_with (first | (go_at_call 81; (with_reducible refine (H1 _ ExtC.ext).mono ?_); rintro e w' ⟨rfl, hx⟩; obtain ⟨g, rfl⟩ := hx.grow; clear hx) | (go_at_call 82; (with_reducible refine (impl_isRule _ _ (by assumption) _).mono ?_); rintro e w' ⟨rfl, hx⟩; obtain ⟨g, rfl⟩ := hx.grow; clear hx))
    refine bodyPost_ret (v := .tuple #[.slice none 0 0, .bool false]) (by simp [results, Try.results23, go_sem]) rfl ?_
    exact ⟨_, rfl, .inl ⟨rfl, HN.out⟩, ExtC.ext⟩
  rw [q1] at H1
  cases q2 : inB rule 0 2
  · have HN := Lib.hid (show xs = [] by rw [← hxs]; exact (pof_no fun hh => (inB_false.1 q2) hh.2).2)
    have hbf : b = false := by rw [← hb]; exact (pof_no fun hh => (inB_false.1 q2) hh.2).1
    subst hbf
    clear hb hxs
    go_enter Try.func23, Try.ntmps23
    go_wp2_with (first | (go_at_call 81; (with_reducible refine (H1 _ ExtC.ext).mono ?_); rintro e w' ⟨rfl, hx⟩; obtain ⟨g, rfl⟩ := hx.grow; clear hx) | (go_at_call 82; (with_reducible refine (impl_isRule _ _ (by assumption) _).mono ?_); rintro e w' ⟨rfl, hx⟩; obtain ⟨g, rfl⟩ := hx.grow; clear hx))
    refine bodyPost_ret (v := .tuple #[.slice none 0 0, .bool false]) (by simp [results, Try.results23, go_sem]) rfl ?_
    exact ⟨_, rfl, .inl ⟨rfl, HN.out⟩, ExtC.ext⟩
  have hv : PV L rule m := ⟨(memB_iff q1).1 rfl, inB_true.1 q2⟩
  have q22 : ∀ (w : World) (a : Option Addr) (n c n' c' : Nat), (binOp .neq 24 (.slice a n c) (.slice none n' c')).run Try.prog w = .ok (.bool (!a.isNone)) w := fun w a n c n' c' => Go.run_neq_slice_nil_any w _ _ a n c n' c' Try.underlying24
  obtain ⟨R, hR⟩ : ∃ R, best L rule m = R := ⟨_, rfl⟩
  have HB := fun x (hx : Ext w x) => impl_bestPath _ rule m L R hR x (h.ext hx) hs hv.1.1 hv.2 hv.1.2.1 (by have := hv.1.2.2; omega)
  by_cases hr : Rch L [] m
  · obtain ⟨e1, e2⟩ := pof_yes hv hr
    rw [hb] at e1
    rw [hxs, hR] at e2
    subst e1
    subst e2
    have hl := (best_len (L := L) (rule := rule) (m := m)).2.2 hr
    rw [hR] at hl
    have HB := fun x (hx : Ext w x) => (HB x hx).mono fun e w' h => PathR.yes h hr
    clear hb hxs hv hR hr
    go_enter Try.func23, Try.ntmps23
    go_wp2_with (first | (go_at_call 81; (with_reducible refine (H1 _ ExtC.ext).mono ?_); rintro e w' ⟨rfl, hx⟩; obtain ⟨g, rfl⟩ := hx.grow; clear hx) | (go_at_call 82; (with_reducible refine (impl_isRule _ _ (by assumption) _).mono ?_); rintro e w' ⟨rfl, hx⟩; obtain ⟨g, rfl⟩ := hx.grow; clear hx))
    refine Calls.mono (HB _ ExtC.ext) ?_
    rintro e w' ⟨gp, cp, rfl, ho, hx⟩; obtain ⟨g3, rfl⟩ := hx.grow; clear hx
    have HO := Lib.hid ho; clear ho HB
    have hz : decide ((0 : Int) < (xs.length : Int)) = true := decide_eq_true (by omega)
    go_wp2_with fail
    refine bodyPost_ret (v := .tuple #[.slice (some ⟨gp, 0, none⟩) xs.length cp, .bool true]) (by simp [results, Try.results23, go_sem]) rfl ?_
    exact ⟨_, rfl, HO.out.mono (ExtC.ext : Ext w _).size (Nat.le_refl _), ExtC.ext⟩
  · obtain ⟨e1, e2⟩ := pof_nil (rule := rule) hr
    rw [hb] at e1
    rw [hxs] at e2
    subst e1
    subst e2
    have HB := fun x (hx : Ext w x) => (HB x hx).mono fun e w' h => PathR.no h hr
    clear hb hxs hv hr
    go_enter Try.func23, Try.ntmps23
    go_wp2_with (first | (go_at_call 81; (with_reducible refine (H1 _ ExtC.ext).mono ?_); rintro e w' ⟨rfl, hx⟩; obtain ⟨g, rfl⟩ := hx.grow; clear hx) | (go_at_call 82; (with_reducible refine (impl_isRule _ _ (by assumption) _).mono ?_); rintro e w' ⟨rfl, hx⟩; obtain ⟨g, rfl⟩ := hx.grow; clear hx))
    refine Calls.mono (HB _ ExtC.ext) ?_
    rintro e w' ⟨rfl, -, hx⟩; obtain ⟨g3, rfl⟩ := hx.grow; clear hx
    clear HB
    go_wp2_with fail
    refine bodyPost_ret (v := .tuple #[.slice none 0 0, .bool false]) (by simp [results, Try.results23, go_sem]) rfl ?_
    exact ⟨_, rfl, .inl ⟨rfl, rfl⟩, ExtC.ext⟩

set_option maxHeartbeats 1000000 in
theorem spec_PathOf' (v : Value) (rule m : Int) (L : List VD) (w : World) (h : VS w v L) (hs : Short L) (b : Bool) (hb : pofB L rule m = b) (xs : List Int) (hxs : pofX L rule m = xs) :
    Calls Try.prog 21 #[v, .int .i64 rule, .int .i64 m] w fun e w' => ∃ v', e = .returned (.tuple #[v', .bool b]) ∧ OwnI w.heap.size w'.heap.size w' v' xs ∧ Ext w w' := by
  have H1 := fun x (hx : Ext w x) => (spec_l02Ok v L x (h.ext hx) hs).mono fun e w' (h : RetB (OkV L) e ∧ Ext x w') => (⟨h.1.told' (okB_iff rfl), h.2⟩ : e = .returned (.bool (okB L)) ∧ Ext x w')
  have hln := hs.1
  have HVS := h
  obtain ⟨vb, vo, vc, rfl, -⟩ := h
  cases q1 : okB L
  · rw [q1] at H1
    have HN := Lib.hid (show xs = [] by rw [← hxs]; exact (pof_no fun hh => by have := (okB_iff q1).2 hh.1.1; cases this).2)
    have hbf : b = false := by rw [← hb]; exact (pof_no fun hh => by have := (okB_iff q1).2 hh.1.1; cases this).1
    subst hbf
    clear hb hxs
    go_enter Try.func21, Try.ntmps21
    go_wp2_with (first | (go_at_call 76; (with_reducible refine (H1 _ ExtC.ext).mono ?_); rintro e w' ⟨rfl, hx⟩; obtain ⟨g, rfl⟩ := hx.grow; clear hx) | (go_at_call 77; (with_reducible refine (spec_l02Rule _ _ (by assumption) _).mono ?_); rintro e w' ⟨rfl, hx⟩; obtain ⟨g, rfl⟩ := hx.grow; clear hx) | (go_at_call 78; (with_reducible refine (spec_l02Member _ _ _ _ _ (by assumption) _ hln).mono ?_); rintro e w' ⟨rfl, hx⟩; obtain ⟨g, rfl⟩ := hx.grow; clear hx))
    refine bodyPost_ret (v := .tuple #[.slice none 0 0, .bool false]) (by simp [results, Try.results21, go_sem]) rfl ?_
    exact ⟨_, rfl, .inl ⟨rfl, HN.out⟩, ExtC.ext⟩
  rw [q1] at H1
  cases q2 : inB rule 0 2
  · have HN := Lib.hid (show xs = [] by rw [← hxs]; exact (pof_no fun hh => (inB_false.1 q2) hh.2).2)
    have hbf : b = false := by rw [← hb]; exact (pof_no fun hh => (inB_false.1 q2) hh.2).1
    subst hbf
    clear hb hxs
    go_enter Try.func21, Try.ntmps21
    go_wp2_with (first | (go_at_call 76; (with_reducible refine (H1 _ ExtC.ext).mono ?_); rintro e w' ⟨rfl, hx⟩; obtain ⟨g, rfl⟩ := hx.grow; clear hx) | (go_at_call 77; (with_reducible refine (spec_l02Rule _ _ (by assumption) _).mono ?_); rintro e w' ⟨rfl, hx⟩; obtain ⟨g, rfl⟩ := hx.grow; clear hx) | (go_at_call 78; (with_reducible refine (spec_l02Member _ _ _ _ _ (by assumption) _ hln).mono ?_); rintro e w' ⟨rfl, hx⟩; obtain ⟨g, rfl⟩ := hx.grow; clear hx))
    refine bodyPost_ret (v := .tuple #[.slice none 0 0, .bool false]) (by simp [results, Try.results21, go_sem]) rfl ?_
    exact ⟨_, rfl, .inl ⟨rfl, HN.out⟩, ExtC.ext⟩
  cases q3 : inB m 0 ((L.length : Int) - 1)
  · have HN := Lib.hid (show xs = [] by rw [← hxs]; exact (pof_no fun hh => (inB_false.1 q3) hh.1.2).2)
    have hbf : b = false := by rw [← hb]; exact (pof_no fun hh => (inB_false.1 q3) hh.1.2).1
    subst hbf
    clear hb hxs
    go_enter Try.func21, Try.ntmps21
    go_wp2_with (first | (go_at_call 76; (with_reducible refine (H1 _ ExtC.ext).mono ?_); rintro e w' ⟨rfl, hx⟩; obtain ⟨g, rfl⟩ := hx.grow; clear hx) | (go_at_call 77; (with_reducible refine (spec_l02Rule _ _ (by assumption) _).mono ?_); rintro e w' ⟨rfl, hx⟩; obtain ⟨g, rfl⟩ := hx.grow; clear hx) | (go_at_call 78; (with_reducible refine (spec_l02Member _ _ _ _ _ (by assumption) _ hln).mono ?_); rintro e w' ⟨rfl, hx⟩; obtain ⟨g, rfl⟩ := hx.grow; clear hx))
    refine bodyPost_ret (v := .tuple #[.slice none 0 0, .bool false]) (by simp [results, Try.results21, go_sem]) rfl ?_
    exact ⟨_, rfl, .inl ⟨rfl, HN.out⟩, ExtC.ext⟩
  have hv : PV L rule m := ⟨⟨(okB_iff q1).1 rfl, inB_true.1 q3⟩, inB_true.1 q2⟩
  obtain ⟨R, hR⟩ : ∃ R, best L rule m = R := ⟨_, rfl⟩
  have HB := fun x (hx : Ext w x) => spec_bestPath _ rule m L R hR x (HVS.ext hx) hv.1.1 hv.2 hv.1.2.1 (by have := hv.1.2.2; omega)
  by_cases hr : Rch L [] m
  · obtain ⟨e1, e2⟩ := pof_yes hv hr
    rw [hb] at e1
    rw [hxs, hR] at e2
    subst e1
    subst e2
    have hl := (best_len (L := L) (rule := rule) (m := m)).2.2 hr
    rw [hR] at hl
    have HB := fun x (hx : Ext w x) => (HB x hx).mono fun e w' h => PathR.yes h hr
    clear hb hxs hv hR hr
    go_enter Try.func21, Try.ntmps21
    go_wp2_with (first | (go_at_call 76; (with_reducible refine (H1 _ ExtC.ext).mono ?_); rintro e w' ⟨rfl, hx⟩; obtain ⟨g, rfl⟩ := hx.grow; clear hx) | (go_at_call 77; (with_reducible refine (spec_l02Rule _ _ (by assumption) _).mono ?_); rintro e w' ⟨rfl, hx⟩; obtain ⟨g, rfl⟩ := hx.grow; clear hx) | (go_at_call 78; (with_reducible refine (spec_l02Member _ _ _ _ _ (by assumption) _ hln).mono ?_); rintro e w' ⟨rfl, hx⟩; obtain ⟨g, rfl⟩ := hx.grow; clear hx))
    refine Calls.mono (HB _ ExtC.ext) ?_
    rintro e w' ⟨gp, cp, rfl, ho, hx⟩; obtain ⟨g3, rfl⟩ := hx.grow; clear hx
    have HO := Lib.hid ho; clear ho HB
    have hz : decide ((0 : Int) < (xs.length : Int)) = true := decide_eq_true (by omega)
    go_wp2_with fail
    refine bodyPost_ret (v := .tuple #[.slice (some ⟨gp, 0, none⟩) xs.length cp, .bool true]) (by simp [results, Try.results21, go_sem]) rfl ?_
    exact ⟨_, rfl, HO.out.mono (ExtC.ext : Ext w _).size (Nat.le_refl _), ExtC.ext⟩
  · obtain ⟨e1, e2⟩ := pof_nil (rule := rule) hr
    rw [hb] at e1
    rw [hxs] at e2
    subst e1
    subst e2
    have HB := fun x (hx : Ext w x) => (HB x hx).mono fun e w' h => PathR.no h hr
    clear hb hxs hv hr
    go_enter Try.func21, Try.ntmps21
    go_wp2_with (first | (go_at_call 76; (with_reducible refine (H1 _ ExtC.ext).mono ?_); rintro e w' ⟨rfl, hx⟩; obtain ⟨g, rfl⟩ := hx.grow; clear hx) | (go_at_call 77; (with_reducible refine (spec_l02Rule _ _ (by assumption) _).mono ?_); rintro e w' ⟨rfl, hx⟩; obtain ⟨g, rfl⟩ := hx.grow; clear hx) | (go_at_call 78; (with_reducible refine (spec_l02Member _ _ _ _ _ (by assumption) _ hln).mono ?_); rintro e w' ⟨rfl, hx⟩; obtain ⟨g, rfl⟩ := hx.grow; clear hx))
    refine Calls.mono (HB _ ExtC.ext) ?_
    rintro e w' ⟨rfl, -, hx⟩; obtain ⟨g3, rfl⟩ := hx.grow; clear hx
    clear HB
    go_wp2_with fail
    refine bodyPost_ret (v := .tuple #[.slice none 0 0, .bool false]) (by simp [results, Try.results21, go_sem]) rfl ?_
    exact ⟨_, rfl, .inl ⟨rfl, rfl⟩, ExtC.ext⟩
end Go.Proofs.Ytbbppkcdgcajjaa
