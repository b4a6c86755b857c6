/- With whom each ballot is settled: SettleVoices on both sides. -/
import Derived.Test.YtbbppkcdgcajjaaBestP
namespace Go.Proofs.Ytbbppkcdgcajjaa
open Go.RowKit

set_option maxHeartbeats 2000000 in
theorem impl_SettleVoices' (v : Value) (rule : Int) (L : List VD) (w : World) (h : VS w v L) (hs : Short L) (b : Bool) (hb : settB L rule = b) (xs : List Int) (hxs : settX L rule = xs) :
    Calls Try.prog 32 #[v, .int .i64 rule] w fun e w' => ∃ v', e = .returned (.tuple #[v', .bool b]) ∧ OwnI w.heap.size w'.heap.size w' v' xs ∧ Ext w w' := by
  have H1 := fun x (hx : Ext w x) => (impl_ValidVoices v L x (h.ext hx) hs).mono fun e w' (h : RetB (OkV L) e ∧ Ext x w') => (⟨h.1.told' (okB_iff rfl), h.2⟩ : e = .returned (.bool (okB L)) ∧ Ext x w')
  cases q1 : okB L
  · rw [q1] at H1
    have HN := Lib.hid (show xs = [] by rw [← hxs]; exact (sett_no fun hh => by have := (okB_iff q1).2 hh.1; cases this).2)
    have hbf : b = false := by rw [← hb]; exact (sett_no fun hh => by have := (okB_iff q1).2 hh.1; cases this).1
    subst hbf
    clear hb hxs
    go_enter Try.func32, Try.ntmps32
    go_wp2_with (first | (go_at_call 88; (with_reducible refine (H1 _ ExtC.ext).mono ?_); rintro e w' ⟨rfl, hx⟩; obtain ⟨g, rfl⟩ := hx.grow; clear hx) | (go_at_call 82; (with_reducible refine (impl_isRule _ _ (by assumption) _).mono ?_); rintro e w' ⟨rfl, hx⟩; obtain ⟨g, rfl⟩ := hx.grow; clear hx))
    refine bodyPost_ret (v := .tuple #[.slice none 0 0, .bool false]) (by simp [results, Try.results32, go_sem]) rfl ?_
    exact ⟨_, rfl, .inl ⟨rfl, HN.out⟩, ExtC.ext⟩
  rw [q1] at H1
  cases q2 : inB rule 0 2
  · have HN := Lib.hid (show xs = [] by rw [← hxs]; exact (sett_no fun hh => (inB_false.1 q2) hh.2).2)
    have hbf : b = false := by rw [← hb]; exact (sett_no fun hh => (inB_false.1 q2) hh.2).1
    subst hbf
    clear hb hxs
    go_enter Try.func32, Try.ntmps32
    go_wp2_with (first | (go_at_call 88; (with_reducible refine (H1 _ ExtC.ext).mono ?_); rintro e w' ⟨rfl, hx⟩; obtain ⟨g, rfl⟩ := hx.grow; clear hx) | (go_at_call 82; (with_reducible refine (impl_isRule _ _ (by assumption) _).mono ?_); rintro e w' ⟨rfl, hx⟩; obtain ⟨g, rfl⟩ := hx.grow; clear hx))
    refine bodyPost_ret (v := .tuple #[.slice none 0 0, .bool false]) (by simp [results, Try.results32, go_sem]) rfl ?_
    exact ⟨_, rfl, .inl ⟨rfl, HN.out⟩, ExtC.ext⟩
  have hv : SV L rule := ⟨(okB_iff q1).1 rfl, inB_true.1 q2⟩
  obtain ⟨e1, e2⟩ := sett_yes hv
  rw [hb] at e1
  rw [hxs] at e2
  subst e1
  have HN := Lib.hid e2
  clear hb hxs e2
  have q22 : ∀ (w : World) (a : Option Addr) (n c n' c' : Nat), (binOp .neq 24 (.slice a n c) (.slice none n' c')).run Try.prog w = .ok (.bool (!a.isNone)) w := fun w a n c n' c' => Go.run_neq_slice_nil_any w _ _ a n c n' c' Try.underlying24
  have hl := hv.1.2
  have HB := fun (k : Nat) (hk : k < L.length) R (hR : best L rule k = R) x (hx : Ext w x) => impl_bestPath v rule k L R hR x (h.ext hx) hs hv.1 hv.2 (by omega) (by omega)
  obtain ⟨vb, vo, vc, rfl, -⟩ := h
  clear hv
  go_enter Try.func32, Try.ntmps32
  go_wp2_with (first | (go_at_call 88; (with_reducible refine (H1 _ ExtC.ext).mono ?_); rintro e w' ⟨rfl, hx⟩; obtain ⟨g, rfl⟩ := hx.grow; clear hx) | (go_at_call 82; (with_reducible refine (impl_isRule _ _ (by assumption) _).mono ?_); rintro e w' ⟨rfl, hx⟩; obtain ⟨g, rfl⟩ := hx.grow; clear hx))
  clear H1
  go_loopw [6, 21] (fun o i wr => ∃ (k og oc n : Nat) (C : List Int), k ≤ L.length ∧ i = .int .i64 k ∧ o = .slice (some ⟨og, 0, none⟩) n oc ∧ C.length ≤ k ∧ Ext w wr ∧ Hid (C = settTo L rule k) ∧ Hid (OwnI w.heap.size wr.heap.size wr (.slice (some ⟨og, 0, none⟩) n oc) C)) (fun _ i _ => L.length - (intOf i).toNat)
  case atStart => exact ⟨0, _, _, _, [], Nat.zero_le _, rfl, rfl, Nat.le_refl _, ExtC.ext, Lib.hid rfl, Lib.hid ((own_empty g.fin w.heap.size (ExtC.ext : Ext w g.fin).size).mono (Nat.le_refl _) (by simp))⟩
  case round =>
    obtain ⟨k, og, oc, n, C, hk, rfl, rfl, hC, hx, HCk, HO⟩ := hrel
    obtain ⟨g0, rfl⟩ := hx.grow; clear hx
    by_cases hlt : k < L.length
    · obtain ⟨R, hR⟩ : ∃ R, best L rule k = R := ⟨_, rfl⟩
      have hR49 : R.length ≤ 49 := by rw [← hR]; exact best_len.1
      have RR := HB k hlt R hR
      have HSU := Lib.hid (settTo_succ L rule k)
      by_cases hr : Rch L [] (k : Int)
      · have hl0 := (best_len (L := L) (rule := rule) (m := (k : Int))).2.2 hr
        rw [hR] at hl0
        have HEN := Lib.hid (endOf_yes hR (by omega))
        have RR := fun x (hx : Ext w x) => (RR x hx).mono fun e w' h => PathR.yes h hr
        clear hR hr
        have q1 : IntKind.i64.wrap ((R.length : Int) - 1) = (R.length : Int) - 1 := IntWalk.i64_in _ (by omega)
        have q2 : (1 : Int) ≤ R.length := by omega
        have q3 : ((R.length : Int) - 1).toNat = R.length - 1 := by omega
        have q4 : ((R.length : Int) == 0) = false := by rw [beq_eq_false_iff_ne]; omega
        go_wp2_with fail
        refine Calls.mono (RR _ ExtC.ext) ?_
        rintro e w' ⟨gp, cp, rfl, ho, hx⟩; obtain ⟨g1, rfl⟩ := hx.grow; clear hx RR
        obtain ⟨ub, uo, uc', hue, hul, hub, hux⟩ := IS.of_own ho
        simp only [Value.slice.injEq, Option.some.injEq, Addr.mk.injEq, and_true] at hue
        obtain ⟨⟨rfl, rfl⟩, -, rfl⟩ := hue
        have du := hux (R.length - 1) (by omega)
        rw [Nat.zero_add] at du
        obtain ⟨y, hy⟩ : ∃ y, R[R.length - 1]'(by omega) = y := ⟨_, rfl⟩
        rw [hy] at du HEN
        clear hux ho hy
        go_wp2_with (first | (at_builtin; refine app_int (w0 := w) (lo := w.heap.size) (hi := g0.fin.heap.size) _ _ (.slice (some ⟨og, 0, none⟩) n oc) C ⟨g1.fin.heap.size, 0, none⟩ 1 [y] rfl rfl rfl (HO.out.ext ExtC.ext) rfl (cells_one _ _ _) (by simp; omega) ExtC.ext (Nat.le_refl _) (by have := (ExtC.ext : Ext w g1.fin).size; simp; omega) (by simp) ?_; intro g' c' w' ho hx; obtain ⟨g3, rfl⟩ := hx.grow; clear hx; have HO2 := Lib.hid ho; clear ho))
        go_roundw
        case rel => exact ⟨k + 1, g', c', _, C ++ [y], by omega, by go_num, by simp; rfl, by simp; omega, ExtC.ext, Lib.hid (by rw [HSU.out, HEN.out, HCk.out]), Lib.hid (by have := HO2.out; rw [List.length_append] at this; exact this)⟩
        case measure => simp [intOf]; omega
      · have HEN := Lib.hid (endOf_no (rule := rule) hr)
        have RR := fun x (hx : Ext w x) => (RR x hx).mono fun e w' h => PathR.no h hr
        clear hR hr
        go_wp2_with fail
        refine Calls.mono (RR _ ExtC.ext) ?_
        rintro e w' ⟨rfl, -, hx⟩; obtain ⟨g1, rfl⟩ := hx.grow; clear hx RR
        go_wp2_with (first | (at_builtin; refine app_int (w0 := w) (lo := w.heap.size) (hi := g0.fin.heap.size) _ _ (.slice (some ⟨og, 0, none⟩) n oc) C ⟨g1.fin.heap.size, 0, none⟩ 1 [(-1 : Int)] rfl rfl rfl (HO.out.ext ExtC.ext) rfl (cells_one _ _ _) (by simp; omega) ExtC.ext (Nat.le_refl _) (by have := (ExtC.ext : Ext w g1.fin).size; simp; omega) (by simp) ?_; intro g' c' w' ho hx; obtain ⟨g3, rfl⟩ := hx.grow; clear hx; have HO2 := Lib.hid ho; clear ho))
        go_roundw
        case rel => exact ⟨k + 1, g', c', _, C ++ [(-1 : Int)], by omega, by go_num, by simp; rfl, by simp; omega, ExtC.ext, Lib.hid (by rw [HSU.out, HEN.out, HCk.out]), Lib.hid (by have := HO2.out; rw [List.length_append] at this; exact this)⟩
        case measure => simp [intOf]; omega
    · have e : k = L.length := by omega
      subst e
      go_wp2
      refine bodyPost_ret (v := .tuple #[.slice (some ⟨og, 0, none⟩) n oc, .bool true]) (by simp [results, Try.results32, go_sem]) rfl ?_
      refine ⟨_, rfl, ?_, ExtC.ext⟩
      rw [HN.out, ← HCk.out]
      exact HO.out

set_option maxHeartbeats 2000000 in
theorem spec_l02Settle (v : Value) (rule : Int) (L : List VD) (w : World) (h : VS w v L) (hv : SV L rule) (xs : List Int) (hxs : settTo L rule L.length = xs) :
    Calls Try.prog 87 #[v, .int .i64 rule] w fun e w' => ∃ g c, e = .returned (.slice (some ⟨g, 0, none⟩) xs.length c) ∧ OwnI w.heap.size w'.heap.size w' (.slice (some ⟨g, 0, none⟩) xs.length c) xs ∧ Ext w w' := by
  have HN := Lib.hid hxs.symm
  clear hxs
  have hl := hv.1.2
  have HB := fun (k : Nat) (hk : k < L.length) R (hR : best L rule k = R) x (hx : Ext w x) => spec_bestPath v rule k L R hR x (h.ext hx) hv.1 hv.2 (by omega) (by omega)
  obtain ⟨vb, vo, vc, rfl, -⟩ := h
  clear hv
  go_enter Try.func87, Try.ntmps87
  go_wp2_with fail
  go_loopw [5, 6] (fun o i wr => ∃ (k og oc n : Nat) (C : List Int), k ≤ L.length ∧ i = .int .i64 k ∧ o = .slice (some ⟨og, 0, none⟩) n oc ∧ C.length ≤ k ∧ Ext w wr ∧ Hid (C = settTo L rule k) ∧ Hid (OwnI w.heap.size wr.heap.size wr (.slice (some ⟨og, 0, none⟩) n oc) C)) (fun _ i _ => L.length - (intOf i).toNat)
  case atStart => exact ⟨0, _, _, _, [], Nat.zero_le _, rfl, rfl, Nat.le_refl _, ExtC.ext, Lib.hid rfl, Lib.hid ((own_empty w w.heap.size (Nat.le_refl _)).mono (Nat.le_refl _) (by simp))⟩
  case round =>
    obtain ⟨k, og, oc, n, C, hk, rfl, rfl, hC, hx, HCk, HO⟩ := hrel
    obtain ⟨g0, rfl⟩ := hx.grow; clear hx
    by_cases hlt : k < L.length
    · obtain ⟨R, hR⟩ : ∃ R, best L rule k = R := ⟨_, rfl⟩
      have hR49 : R.length ≤ 49 := by rw [← hR]; exact best_len.1
      have RR := HB k hlt R hR
      have HSU := Lib.hid (settTo_succ L rule k)
      by_cases hr : Rch L [] (k : Int)
      · have hl0 := (best_len (L := L) (rule := rule) (m := (k : Int))).2.2 hr
        rw [hR] at hl0
        have HEN := Lib.hid (endOf_yes hR (by omega))
        have RR := fun x (hx : Ext w x) => (RR x hx).mono fun e w' h => PathR.yes h hr
        clear hR hr
        have q1 : IntKind.i64.wrap ((R.length : Int) - 1) = (R.length : Int) - 1 := IntWalk.i64_in _ (by omega)
        have q2 : (1 : Int) ≤ R.length := by omega
        have q3 : ((R.length : Int) - 1).toNat = R.length - 1 := by omega
        have q4 : ((R.length : Int) == 0) = false := by rw [beq_eq_false_iff_ne]; omega
        go_wp2_with fail
        refine Calls.mono (RR _ ExtC.ext) ?_
        rintro e w' ⟨gp, cp, rfl, ho, hx⟩; obtain ⟨g1, rfl⟩ := hx.grow; clear hx RR
        obtain ⟨ub, uo, uc', hue, hul, hub, hux⟩ := IS.of_own ho
        simp only [Value.slice.injEq, Option.some.injEq, Addr.mk.injEq, and_true] at hue
        obtain ⟨⟨rfl, rfl⟩, -, rfl⟩ := hue
        have du := hux (R.length - 1) (by omega)
        rw [Nat.zero_add] at du
        obtain ⟨y, hy⟩ : ∃ y, R[R.length - 1]'(by omega) = y := ⟨_, rfl⟩
        rw [hy] at du HEN
        clear hux ho hy
        go_wp2_with (first | (at_builtin; refine app_int (w0 := w) (lo := w.heap.size) (hi := g0.fin.heap.size) _ _ (.slice (some ⟨og, 0, none⟩) n oc) C ⟨g1.fin.heap.size, 0, none⟩ 1 [y] rfl rfl rfl (HO.out.ext ExtC.ext) rfl (cells_one _ _ _) (by simp; omega) ExtC.ext (Nat.le_refl _) (by have := (ExtC.ext : Ext w g1.fin).size; simp; omega) (by simp) ?_; intro g' c' w' ho hx; obtain ⟨g3, rfl⟩ := hx.grow; clear hx; have HO2 := Lib.hid ho; clear ho))
        go_roundw
        case rel => exact ⟨k + 1, g', c', _, C ++ [y], by omega, by go_num, by simp; rfl, by simp; omega, ExtC.ext, Lib.hid (by rw [HSU.out, HEN.out, HCk.out]), Lib.hid (by have := HO2.out; rw [List.length_append] at this; exact this)⟩
        case measure => simp [intOf]; omega
      · have HEN := Lib.hid (endOf_no (rule := rule) hr)
        have RR := fun x (hx : Ext w x) => (RR x hx).mono fun e w' h => PathR.no h hr
        clear hR hr
        go_wp2_with fail
        refine Calls.mono (RR _ ExtC.ext) ?_
        rintro e w' ⟨rfl, -, hx⟩; obtain ⟨g1, rfl⟩ := hx.grow; clear hx RR
        go_wp2_with (first | (at_builtin; refine app_int (w0 := w) (lo := w.heap.size) (hi := g0.fin.heap.size) _ _ (.slice (some ⟨og, 0, none⟩) n oc) C ⟨g1.fin.heap.size, 0, none⟩ 1 [(-1 : Int)] rfl rfl rfl (HO.out.ext ExtC.ext) rfl (cells_one _ _ _) (by simp; omega) ExtC.ext (Nat.le_refl _) (by have := (ExtC.ext : Ext w g1.fin).size; simp; omega) (by simp) ?_; intro g' c' w' ho hx; obtain ⟨g3, rfl⟩ := hx.grow; clear hx; have HO2 := Lib.hid ho; clear ho))
        go_roundw
        case rel => exact ⟨k + 1, g', c', _, C ++ [(-1 : Int)], by omega, by go_num, by simp; rfl, by simp; omega, ExtC.ext, Lib.hid (by rw [HSU.out, HEN.out, HCk.out]), Lib.hid (by have := HO2.out; rw [List.length_append] at this; exact this)⟩
        case measure => simp [intOf]; omega
    · have e : k = L.length := by omega
      subst e
      go_wp2
      go_ret
      have hn := HO.out.len.1
      have ho := HO.out
      rw [hn] at ho ⊢
      have e2 : C = xs := by rw [HN.out, HCk.out]
      subst e2
      exact ⟨_, _, rfl, ho, ExtC.ext⟩

set_option maxHeartbeats 1000000 in
theorem spec_SettleVoices' (v : Value) (rule : Int) (L : List VD) (w : World) (h : VS w v L) (hs : Short L) (b : Bool) (hb : settB L rule = b) (xs : List Int) (hxs : settX L rule = xs) :
    Calls Try.prog 31 #[v, .int .i64 rule] w fun e w' => ∃ v', e = .returned (.tuple #[v', .bool b]) ∧ OwnI w.heap.size w'.heap.size w' v' xs ∧ Ext w w' := by
  have H1 := fun x (hx : Ext w x) => (spec_l02Ok v L x (h.ext hx) hs).mono fun e w' (h : RetB (OkV L) e ∧ Ext x w') => (⟨h.1.told' (okB_iff rfl), h.2⟩ : e = .returned (.bool (okB L)) ∧ Ext x w')
  cases q1 : okB L
  · rw [q1] at H1
    have HN := Lib.hid (show xs = [] by rw [← hxs]; exact (sett_no fun hh => by have := (okB_iff q1).2 hh.1; cases this).2)
    have hbf : b = false := by rw [← hb]; exact (sett_no fun hh => by have := (okB_iff q1).2 hh.1; cases this).1
    subst hbf
    clear hb hxs
    go_enter Try.func31, Try.ntmps31
    go_wp2_with (first | (go_at_call 76; (with_reducible refine (H1 _ ExtC.ext).mono ?_); rintro e w' ⟨rfl, hx⟩; obtain ⟨g, rfl⟩ := hx.grow; clear hx) | (go_at_call 77; (with_reducible refine (spec_l02Rule _ _ (by assumption) _).mono ?_); rintro e w' ⟨rfl, hx⟩; obtain ⟨g, rfl⟩ := hx.grow; clear hx))
    refine bodyPost_ret (v := .tuple #[.slice none 0 0, .bool false]) (by simp [results, Try.results31, go_sem]) rfl ?_
    exact ⟨_, rfl, .inl ⟨rfl, HN.out⟩, ExtC.ext⟩
  rw [q1] at H1
  cases q2 : inB rule 0 2
  · have HN := Lib.hid (show xs = [] by rw [← hxs]; exact (sett_no fun hh => (inB_false.1 q2) hh.2).2)
    have hbf : b = false := by rw [← hb]; exact (sett_no fun hh => (inB_false.1 q2) hh.2).1
    subst hbf
    clear hb hxs
    go_enter Try.func31, Try.ntmps31
    go_wp2_with (first | (go_at_call 76; (with_reducible refine (H1 _ ExtC.ext).mono ?_); rintro e w' ⟨rfl, hx⟩; obtain ⟨g, rfl⟩ := hx.grow; clear hx) | (go_at_call 77; (with_reducible refine (spec_l02Rule _ _ (by assumption) _).mono ?_); rintro e w' ⟨rfl, hx⟩; obtain ⟨g, rfl⟩ := hx.grow; clear hx))
    refine bodyPost_ret (v := .tuple #[.slice none 0 0, .bool false]) (by simp [results, Try.results31, go_sem]) rfl ?_
    exact ⟨_, rfl, .inl ⟨rfl, HN.out⟩, ExtC.ext⟩
  have hv : SV L rule := ⟨(okB_iff q1).1 rfl, inB_true.1 q2⟩
  obtain ⟨e1, e2⟩ := sett_yes hv
  rw [hb] at e1
  rw [hxs] at e2
  subst e1
  have HB := fun x (hx : Ext w x) => spec_l02Settle v rule L x (h.ext hx) hv xs e2.symm
  clear hb hxs hv e2
  go_enter Try.func31, Try.ntmps31
  go_wp2_with (first | (go_at_call 76; (with_reducible refine (H1 _ ExtC.ext).mono ?_); rintro e w' ⟨rfl, hx⟩; obtain ⟨g, rfl⟩ := hx.grow; clear hx) | (go_at_call 77; (with_reducible refine (spec_l02Rule _ _ (by assumption) _).mono ?_); rintro e w' ⟨rfl, hx⟩; obtain ⟨g, rfl⟩ := hx.grow; clear hx))
  refine Calls.mono (HB _ ExtC.ext) ?_
  rintro e w' ⟨gp, cp, rfl, ho, hx⟩; obtain ⟨g3, rfl⟩ := hx.grow; clear hx
  have HO := Lib.hid ho; clear ho HB
  go_wp2_with fail
  refine bodyPost_ret (v := .tuple #[.slice (some ⟨gp, 0, none⟩) xs.length cp, .bool true]) (by simp [results, Try.results31, go_sem]) rfl ?_
  exact ⟨_, rfl, HO.out.mono (ExtC.ext : Ext w _).size (Nat.le_refl _), ExtC.ext⟩
end Go.Proofs.Ytbbppkcdgcajjaa
