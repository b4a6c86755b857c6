/- Whose best path goes through a member: PassingThrough on both sides. -/
import Derived.Test.YtbbppkcdgcajjaaBestP
namespace Go.Proofs.Ytbbppkcdgcajjaa
open Go.RowKit

set_option maxHeartbeats 2000000 in
theorem impl_PassingThrough' (v : Value) (rule m : Int) (L : List VD) (w : World) (h : VS w v L) (hs : Short L) (b : Bool) (hb : passB L rule m = b) (xs : List Int) (hxs : passX L rule m = xs) :
    Calls Try.prog 30 #[v, .int .i64 rule, .int .i64 m] w fun e w' => ∃ v', e = .returned (.tuple #[v', .bool b]) ∧ OwnI w.heap.size w'.heap.size w' v' xs ∧ Ext w w' := by
  have H1 := fun x (hx : Ext w x) => impl_isMember v m L x (h.ext hx) hs (memB L m) (memB_iff rfl)
  cases q1 : memB L m
  · rw [q1] at H1
    have HN := Lib.hid (show xs = [] by rw [← hxs]; exact (pass_no fun hh => by have := (memB_iff q1).2 hh.1; cases this).2)
    have hbf : b = false := by rw [← hb]; exact (pass_no fun hh => by have := (memB_iff q1).2 hh.1; cases this).1
    subst hbf
    clear hb hxs
    go_enter Try.func30, Try.ntmps30
    go_wp2_with (first | (go_at_call 81; (with_reducible refine (H1 _ ExtC.ext).mono ?_); rintro e w' ⟨rfl, hx⟩; obtain ⟨g, rfl⟩ := hx.grow; clear hx) | (go_at_call 82; (with_reducible refine (impl_isRule _ _ (by assumption) _).mono ?_); rintro e w' ⟨rfl, hx⟩; obtain ⟨g, rfl⟩ := hx.grow; clear hx))
    refine bodyPost_ret (v := .tuple #[.slice none 0 0, .bool false]) (by simp [results, Try.results30, go_sem]) rfl ?_
    exact ⟨_, rfl, .inl ⟨rfl, HN.out⟩, ExtC.ext⟩
  rw [q1] at H1
  cases q2 : inB rule 0 2
  · have HN := Lib.hid (show xs = [] by rw [← hxs]; exact (pass_no fun hh => (inB_false.1 q2) hh.2).2)
    have hbf : b = false := by rw [← hb]; exact (pass_no fun hh => (inB_false.1 q2) hh.2).1
    subst hbf
    clear hb hxs
    go_enter Try.func30, Try.ntmps30
    go_wp2_with (first | (go_at_call 81; (with_reducible refine (H1 _ ExtC.ext).mono ?_); rintro e w' ⟨rfl, hx⟩; obtain ⟨g, rfl⟩ := hx.grow; clear hx) | (go_at_call 82; (with_reducible refine (impl_isRule _ _ (by assumption) _).mono ?_); rintro e w' ⟨rfl, hx⟩; obtain ⟨g, rfl⟩ := hx.grow; clear hx))
    refine bodyPost_ret (v := .tuple #[.slice none 0 0, .bool false]) (by simp [results, Try.results30, go_sem]) rfl ?_
    exact ⟨_, rfl, .inl ⟨rfl, HN.out⟩, ExtC.ext⟩
  have hv : PV L rule m := ⟨(memB_iff q1).1 rfl, inB_true.1 q2⟩
  obtain ⟨e1, e2⟩ := pass_yes hv
  rw [hb] at e1
  rw [hxs] at e2
  subst e1
  have HN := Lib.hid e2
  have hl := hv.1.1.2
  have HB := fun (k : Nat) (hk : k < L.length) R (hR : best L rule k = R) x (hx : Ext w x) => (impl_bestPath v rule k L R hR x (h.ext hx) hs hv.1.1 hv.2 (by omega) (by omega)).mono fun e w' h => PathR.any h
  obtain ⟨vb, vo, vc, rfl, -⟩ := h
  clear hb hxs hv e2
  go_enter Try.func30, Try.ntmps30
  go_wp2_with (first | (go_at_call 81; (with_reducible refine (H1 _ ExtC.ext).mono ?_); rintro e w' ⟨rfl, hx⟩; obtain ⟨g, rfl⟩ := hx.grow; clear hx) | (go_at_call 82; (with_reducible refine (impl_isRule _ _ (by assumption) _).mono ?_); rintro e w' ⟨rfl, hx⟩; obtain ⟨g, rfl⟩ := hx.grow; clear hx))
  clear H1
  go_loopw [8, 22] (fun o i wr => ∃ (k og oc n : Nat) (C : List Int), k ≤ L.length ∧ i = .int .i64 k ∧ o = .slice (some ⟨og, 0, none⟩) n oc ∧ C.length ≤ k ∧ Ext w wr ∧ Hid (C = passTo L rule m k) ∧ Hid (OwnI w.heap.size wr.heap.size wr (.slice (some ⟨og, 0, none⟩) n oc) C)) (fun _ i _ => L.length - (intOf i).toNat)
  case atStart => exact ⟨0, _, _, _, [], Nat.zero_le _, rfl, rfl, Nat.le_refl _, ExtC.ext, Lib.hid rfl, Lib.hid ((own_empty g.fin w.heap.size (ExtC.ext : Ext w g.fin).size).mono (Nat.le_refl _) (by simp))⟩
  case round =>
    obtain ⟨k, og, oc, n, C, hk, rfl, rfl, hC, hx, HCk, HO⟩ := hrel
    obtain ⟨g0, rfl⟩ := hx.grow; clear hx
    by_cases hlt : k < L.length
    · obtain ⟨R, hR⟩ : ∃ R, best L rule k = R := ⟨_, rfl⟩
      have hR49 : R.length ≤ 49 := by rw [← hR]; exact best_len.1
      have RR := HB k hlt R hR
      have HRR := Lib.hid hR; clear hR
      cases q : decide (m ∈ R)
      · have HL := Lib.hid (passTo_no (by rw [HRR.out]; simpa using q))
        go_wp2_with fail
        refine Calls.mono (RR _ ExtC.ext) ?_
        rintro e w' ⟨pp, cp, rfl, hri, hx⟩; obtain ⟨g1, rfl⟩ := hx.grow; clear hx RR
        have HRI := Lib.hid hri; clear hri
        go_wp2_with (first | (go_at_call 86; (with_reducible refine (slices_Contains _ R _ _ (by assumption) _ (HRI.out.ext ExtC.ext) (by omega)).mono ?_); rintro e w' ⟨rfl, hx⟩; obtain ⟨g2, rfl⟩ := hx.grow; clear hx))
        go_roundw
        case rel => exact ⟨k + 1, og, oc, n, C, by omega, by go_num, rfl, by omega, ExtC.ext, Lib.hid (by rw [HL.out, HCk.out]), Lib.hid ((HO.out.ext ExtC.ext).mono (Nat.le_refl _) (ExtC.ext : Ext g0.fin _).size)⟩
        case measure => simp [intOf]; omega
      · have HL := Lib.hid (passTo_yes (by rw [HRR.out]; simpa using q))
        go_wp2_with fail
        refine Calls.mono (RR _ ExtC.ext) ?_
        rintro e w' ⟨pp, cp, rfl, hri, hx⟩; obtain ⟨g1, rfl⟩ := hx.grow; clear hx RR
        have HRI := Lib.hid hri; clear hri
        go_wp2_with (first | (go_at_call 86; (with_reducible refine (slices_Contains _ R _ _ (by assumption) _ (HRI.out.ext ExtC.ext) (by omega)).mono ?_); rintro e w' ⟨rfl, hx⟩; obtain ⟨g2, rfl⟩ := hx.grow; clear hx) | (at_builtin; refine app_int (w0 := w) (lo := w.heap.size) (hi := g0.fin.heap.size) _ _ (.slice (some ⟨og, 0, none⟩) n oc) C ⟨g2.fin.heap.size, 0, none⟩ 1 [(k : Int)] rfl rfl rfl (HO.out.ext ExtC.ext) rfl (cells_one _ _ _) (by simp; omega) ExtC.ext (Nat.le_refl _) (by have := (ExtC.ext : Ext w g2.fin).size; simp; omega) (by simp) ?_; intro g' c' w' ho hx; obtain ⟨g3, rfl⟩ := hx.grow; clear hx; have HO2 := Lib.hid ho; clear ho))
        go_roundw
        case rel => exact ⟨k + 1, g', c', _, C ++ [(k : Int)], by omega, by go_num, by simp; rfl, by simp; omega, ExtC.ext, Lib.hid (by rw [HL.out, HCk.out]), Lib.hid (by have := HO2.out; rw [List.length_append] at this; exact this)⟩
        case measure => simp [intOf]; omega
    · have e : k = L.length := by omega
      subst e
      go_wp2
      refine bodyPost_ret (v := .tuple #[.slice (some ⟨og, 0, none⟩) n oc, .bool true]) (by simp [results, Try.results30, go_sem]) rfl ?_
      refine ⟨_, rfl, ?_, ExtC.ext⟩
      rw [HN.out, ← HCk.out]
      exact HO.out

set_option maxHeartbeats 2000000 in
theorem spec_PassingThrough' (v : Value) (rule m : Int) (L : List VD) (w : World) (h : VS w v L) (hs : Short L) (b : Bool) (hb : passB L rule m = b) (xs : List Int) (hxs : passX L rule m = xs) :
    Calls Try.prog 29 #[v, .int .i64 rule, .int .i64 m] w fun e w' => ∃ v', e = .returned (.tuple #[v', .bool b]) ∧ OwnI w.heap.size w'.heap.size w' v' xs ∧ Ext w w' := by
  have H1 := fun x (hx : Ext w x) => (spec_l02Ok v L x (h.ext hx) hs).mono fun e w' (h : RetB (OkV L) e ∧ Ext x w') => (⟨h.1.told' (okB_iff rfl), h.2⟩ : e = .returned (.bool (okB L)) ∧ Ext x w')
  have hln := hs.1
  have HVS := h
  obtain ⟨vb, vo, vc, rfl, -⟩ := h
  cases q1 : okB L
  · rw [q1] at H1
    have HN := Lib.hid (show xs = [] by rw [← hxs]; exact (pass_no fun hh => by have := (okB_iff q1).2 hh.1.1; cases this).2)
    have hbf : b = false := by rw [← hb]; exact (pass_no fun hh => by have := (okB_iff q1).2 hh.1.1; cases this).1
    subst hbf
    clear hb hxs
    go_enter Try.func29, Try.ntmps29
    go_wp2_with (first | (go_at_call 76; (with_reducible refine (H1 _ ExtC.ext).mono ?_); rintro e w' ⟨rfl, hx⟩; obtain ⟨g, rfl⟩ := hx.grow; clear hx) | (go_at_call 77; (with_reducible refine (spec_l02Rule _ _ (by assumption) _).mono ?_); rintro e w' ⟨rfl, hx⟩; obtain ⟨g, rfl⟩ := hx.grow; clear hx) | (go_at_call 78; (with_reducible refine (spec_l02Member _ _ _ _ _ (by assumption) _ hln).mono ?_); rintro e w' ⟨rfl, hx⟩; obtain ⟨g, rfl⟩ := hx.grow; clear hx))
    refine bodyPost_ret (v := .tuple #[.slice none 0 0, .bool false]) (by simp [results, Try.results29, go_sem]) rfl ?_
    exact ⟨_, rfl, .inl ⟨rfl, HN.out⟩, ExtC.ext⟩
  rw [q1] at H1
  cases q2 : inB rule 0 2
  · have HN := Lib.hid (show xs = [] by rw [← hxs]; exact (pass_no fun hh => (inB_false.1 q2) hh.2).2)
    have hbf : b = false := by rw [← hb]; exact (pass_no fun hh => (inB_false.1 q2) hh.2).1
    subst hbf
    clear hb hxs
    go_enter Try.func29, Try.ntmps29
    go_wp2_with (first | (go_at_call 76; (with_reducible refine (H1 _ ExtC.ext).mono ?_); rintro e w' ⟨rfl, hx⟩; obtain ⟨g, rfl⟩ := hx.grow; clear hx) | (go_at_call 77; (with_reducible refine (spec_l02Rule _ _ (by assumption) _).mono ?_); rintro e w' ⟨rfl, hx⟩; obtain ⟨g, rfl⟩ := hx.grow; clear hx) | (go_at_call 78; (with_reducible refine (spec_l02Member _ _ _ _ _ (by assumption) _ hln).mono ?_); rintro e w' ⟨rfl, hx⟩; obtain ⟨g, rfl⟩ := hx.grow; clear hx))
    refine bodyPost_ret (v := .tuple #[.slice none 0 0, .bool false]) (by simp [results, Try.results29, go_sem]) rfl ?_
    exact ⟨_, rfl, .inl ⟨rfl, HN.out⟩, ExtC.ext⟩
  cases q3 : inB m 0 ((L.length : Int) - 1)
  · have HN := Lib.hid (show xs = [] by rw [← hxs]; exact (pass_no fun hh => (inB_false.1 q3) hh.1.2).2)
    have hbf : b = false := by rw [← hb]; exact (pass_no fun hh => (inB_false.1 q3) hh.1.2).1
    subst hbf
    clear hb hxs
    go_enter Try.func29, Try.ntmps29
    go_wp2_with (first | (go_at_call 76; (with_reducible refine (H1 _ ExtC.ext).mono ?_); rintro e w' ⟨rfl, hx⟩; obtain ⟨g, rfl⟩ := hx.grow; clear hx) | (go_at_call 77; (with_reducible refine (spec_l02Rule _ _ (by assumption) _).mono ?_); rintro e w' ⟨rfl, hx⟩; obtain ⟨g, rfl⟩ := hx.grow; clear hx) | (go_at_call 78; (with_reducible refine (spec_l02Member _ _ _ _ _ (by assumption) _ hln).mono ?_); rintro e w' ⟨rfl, hx⟩; obtain ⟨g, rfl⟩ := hx.grow; clear hx))
    refine bodyPost_ret (v := .tuple #[.slice none 0 0, .bool false]) (by simp [results, Try.results29, go_sem]) rfl ?_
    exact ⟨_, rfl, .inl ⟨rfl, HN.out⟩, ExtC.ext⟩
  have hv : PV L rule m := ⟨⟨(okB_iff q1).1 rfl, inB_true.1 q3⟩, inB_true.1 q2⟩
  obtain ⟨e1, e2⟩ := pass_yes hv
  rw [hb] at e1
  rw [hxs] at e2
  subst e1
  have HN := Lib.hid e2
  have hl := hv.1.1.2
  have HB := fun (k : Nat) (hk : k < L.length) R (hR : best L rule k = R) x (hx : Ext w x) => (spec_bestPath _ rule k L R hR x (HVS.ext hx) hv.1.1 hv.2 (by omega) (by omega)).mono fun e w' h => PathR.any h
  clear hb hxs hv e2
  go_enter Try.func29, Try.ntmps29
  go_wp2_with (first | (go_at_call 76; (with_reducible refine (H1 _ ExtC.ext).mono ?_); rintro e w' ⟨rfl, hx⟩; obtain ⟨g, rfl⟩ := hx.grow; clear hx) | (go_at_call 77; (with_reducible refine (spec_l02Rule _ _ (by assumption) _).mono ?_); rintro e w' ⟨rfl, hx⟩; obtain ⟨g, rfl⟩ := hx.grow; clear hx) | (go_at_call 78; (with_reducible refine (spec_l02Member _ _ _ _ _ (by assumption) _ hln).mono ?_); rintro e w' ⟨rfl, hx⟩; obtain ⟨g, rfl⟩ := hx.grow; clear hx))
  clear H1
  go_loopw [8, 9] (fun o i wr => ∃ (k og oc n : Nat) (C : List Int), k ≤ L.length ∧ i = .int .i64 k ∧ o = .slice (some ⟨og, 0, none⟩) n oc ∧ C.length ≤ k ∧ Ext w wr ∧ Hid (C = passTo L rule m k) ∧ Hid (OwnI w.heap.size wr.heap.size wr (.slice (some ⟨og, 0, none⟩) n oc) C)) (fun _ i _ => L.length - (intOf i).toNat)
  case atStart => exact ⟨0, _, _, _, [], Nat.zero_le _, rfl, rfl, Nat.le_refl _, ExtC.ext, Lib.hid rfl, Lib.hid ((own_empty g.fin w.heap.size (ExtC.ext : Ext w g.fin).size).mono (Nat.le_refl _) (by simp))⟩
  case round =>
    obtain ⟨k, og, oc, n, C, hk, rfl, rfl, hC, hx, HCk, HO⟩ := hrel
    obtain ⟨g0, rfl⟩ := hx.grow; clear hx
    by_cases hlt : k < L.length
    · obtain ⟨R, hR⟩ : ∃ R, best L rule k = R := ⟨_, rfl⟩
      have hR49 : R.length ≤ 49 := by rw [← hR]; exact best_len.1
      have RR := HB k hlt R hR
      have HRR := Lib.hid hR; clear hR
      cases q : decide (m ∈ R)
      · have HL := Lib.hid (passTo_no (by rw [HRR.out]; simpa using q))
        go_wp2_with fail
        refine Calls.mono (RR _ ExtC.ext) ?_
        rintro e w' ⟨pp, cp, rfl, hri, hx⟩; obtain ⟨g1, rfl⟩ := hx.grow; clear hx RR
        have HRI := Lib.hid hri; clear hri
        go_wp2_with (first | (go_at_call 85; (with_reducible refine (spec_l00Has _ R _ _ (by assumption) _ (HRI.out.ext ExtC.ext) (by omega)).mono ?_); rintro e w' ⟨rfl, hx⟩; obtain ⟨g2, rfl⟩ := hx.grow; clear hx))
        go_roundw
        case rel => exact ⟨k + 1, og, oc, n, C, by omega, by go_num, rfl, by omega, ExtC.ext, Lib.hid (by rw [HL.out, HCk.out]), Lib.hid ((HO.out.ext ExtC.ext).mono (Nat.le_refl _) (ExtC.ext : Ext g0.fin _).size)⟩
        case measure => simp [intOf]; omega
      · have HL := Lib.hid (passTo_yes (by rw [HRR.out]; simpa using q))
        go_wp2_with fail
        refine Calls.mono (RR _ ExtC.ext) ?_
        rintro e w' ⟨pp, cp, rfl, hri, hx⟩; obtain ⟨g1, rfl⟩ := hx.grow; clear hx RR
        have HRI := Lib.hid hri; clear hri
        go_wp2_with (first | (go_at_call 85; (with_reducible refine (spec_l00Has _ R _ _ (by assumption) _ (HRI.out.ext ExtC.ext) (by omega)).mono ?_); rintro e w' ⟨rfl, hx⟩; obtain ⟨g2, rfl⟩ := hx.grow; clear hx) | (at_builtin; refine app_int (w0 := w) (lo := w.heap.size) (hi := g0.fin.heap.size) _ _ (.slice (some ⟨og, 0, none⟩) n oc) C ⟨g2.fin.heap.size, 0, none⟩ 1 [(k : Int)] rfl rfl rfl (HO.out.ext ExtC.ext) rfl (cells_one _ _ _) (by simp; omega) ExtC.ext (Nat.le_refl _) (by have := (ExtC.ext : Ext w g2.fin).size; simp; omega) (by simp) ?_; intro g' c' w' ho hx; obtain ⟨g3, rfl⟩ := hx.grow; clear hx; have HO2 := Lib.hid ho; clear ho))
        go_roundw
        case rel => exact ⟨k + 1, g', c', _, C ++ [(k : Int)], by omega, by go_num, by simp; rfl, by simp; omega, ExtC.ext, Lib.hid (by rw [HL.out, HCk.out]), Lib.hid (by have := HO2.out; rw [List.length_append] at this; exact this)⟩
        case measure => simp [intOf]; omega
    · have e : k = L.length := by omega
      subst e
      go_wp2
      refine bodyPost_ret (v := .tuple #[.slice (some ⟨og, 0, none⟩) n oc, .bool true]) (by simp [results, Try.results29, go_sem]) rfl ?_
      refine ⟨_, rfl, ?_, ExtC.ext⟩
      rw [HN.out, ← HCk.out]
      exact HO.out
end Go.Proofs.Ytbbppkcdgcajjaa
