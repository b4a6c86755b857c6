/- How many ballots are settled with each member: WeightsOf on both sides. -/
import Derived.Test.YtbbppkcdgcajjaaSettle
import Derived.Test.YtbbppkcdgcajjaaCosts
namespace Go.Proofs.Ytbbppkcdgcajjaa
open Go.RowKit

theorem row_zeros64 {lo g n c : Nat} {w : World} (h : w.ownsRow lo 2 1 (.slice (some ⟨g, 0, none⟩) n c) n (madeCells (Value.int .i64 0).cells (n * 1)).toList) : RowI 2 lo w (.slice (some ⟨g, 0, none⟩) n c) (List.replicate n 0) := by
  unfold RowI
  rw [List.length_replicate, List.map_replicate]
  have := h
  rw [Nat.mul_one] at this
  rwa [show (Value.int IntKind.i64 0).cells = #[Value.int IntKind.i64 0] from rfl, toList_madeCells_one] at this

set_option maxHeartbeats 2000000 in
set_option maxRecDepth 100000 in
theorem impl_WeightsOf' (v : Value) (rule : Int) (L : List VD) (w : World) (h : VS w v L) (hs : Short L) (b : Bool) (hb : settB L rule = b) (xs : List Int) (hxs : wgtX L rule = xs) :
    Calls Try.prog 34 #[v, .int .i64 rule] w fun e w' => ∃ v', e = .returned (.tuple #[v', .bool b]) ∧ OwnI w.heap.size w'.heap.size w' v' xs ∧ Ext w w' := by
  obtain ⟨E, hE⟩ : ∃ E, settX L rule = E := ⟨_, rfl⟩
  have H1 := fun x (hx : Ext w x) => impl_SettleVoices' v rule L x (h.ext hx) hs b hb E hE
  by_cases hv : SV L rule
  · obtain ⟨e1, e2⟩ := wgt_yes hv
    have e3 := (sett_yes hv).2
    rw [hb] at e1
    rw [hE] at e3
    rw [hxs, ← e3] at e2
    subst e1
    have hEl : E.length = L.length := by rw [e3, settTo_length]
    have hEr : ∀ k (hk : k < E.length), -1 ≤ E[k] ∧ E[k] < L.length := fun k hk => by
      subst e3
      simp only [settTo, List.getElem_map, List.getElem_range]
      simp only [settTo, List.length_map, List.length_range] at hk
      exact endOf_range hv.1 (by omega) (by omega)
    have hln := hv.1.2
    have HN := Lib.hid e2
    have HER := Lib.hid hEr
    obtain ⟨i0, hi, hz0, hz1, hz2⟩ := info_parts Try.info_i64
    obtain ⟨vb, vo, vc, rfl, -⟩ := h
    clear e2 e3 hE hb hxs hv hEr
    go_enter Try.func34, Try.ntmps34
    go_wp2_with fail
    refine Calls.mono (H1 _ ExtC.ext) ?_
    rintro e w' ⟨v', rfl, ho, hx⟩; obtain ⟨g1, rfl⟩ := hx.grow; clear hx H1
    obtain ⟨p, c, rfl, -, hq⟩ := ho.ri.form
    have HQ := Lib.hid hq; clear hq ho
    go_wp2_with (at_make; refine wpList_make_full _ rfl _ _ 24 rfl g1.fin.heap.size 2 i0 (.int .i64 0) 1 Try.underlying24 hi hz0 hz1 _ _ _ _ L.length rfl rfl rfl rfl (by rw [hz2]; omega) (by unfold maxLen; omega) (Nat.le_refl _) ?_; intro w1 hown hgrow)
    have hx1 := grownBy_ext hgrow (fun k h => by cases h)
    have H00 := Lib.hid (row_zeros64 hown)
    clear hown hgrow
    go_loopw [24] (fun i wr => ∃ k : Nat, k ≤ E.length ∧ i = .int .i64 k ∧ Ext g1.fin wr ∧ Hid (RowI 2 g1.fin.heap.size wr (.slice (some ⟨g1.fin.heap.size, 0, none⟩) L.length L.length) (cntTo E L.length k))) (fun i _ => E.length - (intOf i).toNat)
    case atStart => exact ⟨0, Nat.zero_le _, rfl, hx1, by rw [cntTo_zero]; exact H00⟩
    case round =>
      obtain ⟨k, hk, rfl, hx, HR⟩ := hrel
      clear hx1 H00
      obtain ⟨g0, rfl⟩ := hx.grow; clear hx
      by_cases hlt : k < E.length
      · obtain ⟨eb, eo, hep, ieb, hcx⟩ := HQ.out (by omega)
        subst hep
        have d := hcx k hlt
        have HCX := Lib.hid hcx; clear hcx
        obtain ⟨y0, y1⟩ := HER.out k hlt
        obtain ⟨y, hy⟩ : ∃ y, E[k] = y := ⟨_, rfl⟩
        rw [hy] at d y0 y1
        have HY := Lib.hid hy
        clear hy
        by_cases hneg : y < 0
        · have hd : decide (0 ≤ y) = false := by simp; omega
          have HST := Lib.hid (cntTo_neg (n := L.length) hlt (by rw [HY.out]; exact hneg))
          go_wp2_with fail
          go_roundw
          case rel => exact ⟨k + 1, by omega, by go_num, ExtC.ext, Lib.hid (by rw [HST.out]; exact HR.out.ext ExtC.ext)⟩
          case measure => simp [intOf]; omega
        · have hd : decide (0 ≤ y) = true := by simp; omega
          obtain ⟨tn, rfl⟩ := Int.eq_ofNat_of_zero_le (show 0 ≤ y by omega)
          have htl : tn < L.length := by omega
          have hcl : tn < (cntTo E L.length k).length := by rw [cntTo_length]; exact htl
          have e1 := HR.out.cell tn hcl
          rw [cntTo_get _ _ _ _ htl] at e1
          have e3 := HR.out.frozen tn
          have hcnt : (E.take k).count (tn : Int) ≤ E.length := Nat.le_trans List.count_le_length (by simp; omega)
          obtain ⟨z, hz⟩ : ∃ z : Nat, (E.take k).count (tn : Int) = z := ⟨_, rfl⟩
          rw [hz] at e1 hcnt
          have HST := Lib.hid (show cntTo E L.length (k + 1) = (cntTo E L.length k).set tn ((z : Int) + 1) by rw [← hz]; exact cntTo_add hlt HY.out htl)
          have iw : InW g1.fin.heap.size g0.fin := ⟨HR.out.len.2⟩
          have hyn : ¬ (tn : Int) < 0 := by omega
          clear hz hneg
          go_wp2_with fail
          go_roundw
          case rel => exact ⟨k + 1, by omega, by go_num, ExtC.ext, Lib.hid (by rw [HST.out]; exact HR.out.store tn _)⟩
          case measure => simp [intOf]; omega
      · have e : k = E.length := by omega
        subst e
        go_wp2
        refine bodyPost_ret (v := .tuple #[.slice (some ⟨g1.fin.heap.size, 0, none⟩) L.length L.length, .bool true]) (by simp [results, Try.results34, go_sem]) rfl ?_
        refine ⟨_, rfl, ?_, ExtC.ext⟩
        rw [HN.out, ← hEl]
        rw [← hEl] at HR
        have := OwnI.of_row HR.out
        exact this.mono (ExtC.ext : Ext w g1.fin).size (Nat.le_refl _)
  · obtain ⟨e1, e2⟩ := wgt_no hv
    rw [hb] at e1
    rw [hxs] at e2
    subst e1
    have HN := Lib.hid e2
    clear hb hxs e2 hv
    go_enter Try.func34, Try.ntmps34
    go_wp2_with fail
    refine Calls.mono (H1 _ ExtC.ext) ?_
    rintro e w' ⟨v', rfl, ho, hx⟩; obtain ⟨g1, rfl⟩ := hx.grow; clear hx ho
    go_wp2_with fail
    refine bodyPost_ret (v := .tuple #[.slice none 0 0, .bool false]) (by simp [results, Try.results34, go_sem]) rfl ?_
    exact ⟨_, rfl, .inl ⟨rfl, HN.out⟩, ExtC.ext⟩

set_option maxHeartbeats 2000000 in
set_option maxRecDepth 100000 in
theorem spec_l02Weights (v : Value) (rule : Int) (L : List VD) (w : World) (h : VS w v L) (hv : SV L rule) (E : List Int) (hE : settTo L rule L.length = E) :
    Calls Try.prog 89 #[v, .int .i64 rule] w fun e w' => ∃ g, e = .returned (.slice (some ⟨g, 0, none⟩) L.length L.length) ∧ OwnI w.heap.size w'.heap.size w' (.slice (some ⟨g, 0, none⟩) L.length L.length) (cntTo E L.length L.length) ∧ Ext w w' := by
  have H1 := fun x (hx : Ext w x) => spec_l02Settle v rule L x (h.ext hx) hv E hE
  have hEl : E.length = L.length := by rw [← hE, settTo_length]
  have hEr : ∀ k (hk : k < E.length), -1 ≤ E[k] ∧ E[k] < L.length := fun k hk => by
    subst hE
    simp only [settTo, List.getElem_map, List.getElem_range]
    simp only [settTo, List.length_map, List.length_range] at hk
    exact endOf_range hv.1 (by omega) (by omega)
  have hln := hv.1.2
  have HER := Lib.hid hEr
  obtain ⟨i0, hi, hz0, hz1, hz2⟩ := info_parts Try.info_i64
  obtain ⟨vb, vo, vc, rfl, -⟩ := h
  clear hE hv hEr
  go_enter Try.func89, Try.ntmps89
  go_wp2_with (at_make; refine wpList_make_full _ rfl _ _ 24 rfl w.heap.size 2 i0 (.int .i64 0) 1 Try.underlying24 hi hz0 hz1 _ _ _ _ L.length rfl rfl rfl rfl (by rw [hz2]; omega) (by unfold maxLen; omega) (Nat.le_refl _) ?_; intro w1 hown hgrow)
  have hx1 := grownBy_ext hgrow (fun k h => by cases h)
  have H00 := Lib.hid (row_zeros64 hown)
  clear hown hgrow
  obtain ⟨gm, rfl⟩ := hx1.grow; clear hx1
  have hgm := H00.out.len.2
  refine Calls.mono (H1 _ ExtC.ext) ?_
  rintro e w' ⟨ge, ce, rfl, ho, hx⟩; obtain ⟨g1, rfl⟩ := hx.grow
  have HOE := Lib.hid ho
  have H01 := Lib.hid (H00.out.ext hx)
  clear ho H1 hx H00
  go_wp2_with fail
  go_loopw [7] (fun i wr => ∃ k : Nat, k ≤ E.length ∧ i = .int .i64 k ∧ Ext w wr ∧ Hid (OwnI gm.fin.heap.size g1.fin.heap.size wr (.slice (some ⟨ge, 0, none⟩) E.length ce) E) ∧ Hid (RowI 2 w.heap.size wr (.slice (some ⟨w.heap.size, 0, none⟩) L.length L.length) (cntTo E L.length k))) (fun i _ => E.length - (intOf i).toNat)
  case atStart => exact ⟨0, Nat.zero_le _, rfl, ExtC.ext, HOE, by rw [cntTo_zero]; exact H01⟩
  case round =>
    obtain ⟨k, hk, rfl, hx, HE, HR⟩ := hrel
    clear H01 HOE
    obtain ⟨g0, rfl⟩ := hx.grow; clear hx
    by_cases hlt : k < E.length
    · obtain ⟨eb, eo, ec, hue, -, ieb, hcx⟩ := IS.of_own HE.out
      simp only [Value.slice.injEq, Option.some.injEq, Addr.mk.injEq, and_true] at hue
      obtain ⟨⟨rfl, rfl⟩, -, rfl⟩ := hue
      have d := hcx k hlt
      rw [Nat.zero_add] at d
      clear hcx
      obtain ⟨y0, y1⟩ := HER.out k hlt
      obtain ⟨y, hy⟩ : ∃ y, E[k] = y := ⟨_, rfl⟩
      rw [hy] at d y0 y1
      have HY := Lib.hid hy
      clear hy
      by_cases hneg : y < 0
      · have hd : decide (0 ≤ y) = false := by simp; omega
        have HST := Lib.hid (cntTo_neg (n := L.length) hlt (by rw [HY.out]; exact hneg))
        go_wp2_with fail
        go_roundw
        case rel => exact ⟨k + 1, by omega, by go_num, ExtC.ext, Lib.hid (HE.out.ext ExtC.ext), Lib.hid (by rw [HST.out]; exact HR.out.ext ExtC.ext)⟩
        case measure => simp [intOf]; omega
      · have hd : decide (0 ≤ y) = true := by simp; omega
        obtain ⟨tn, rfl⟩ := Int.eq_ofNat_of_zero_le (show 0 ≤ y by omega)
        have htl : tn < L.length := by omega
        have hcl : tn < (cntTo E L.length k).length := by rw [cntTo_length]; exact htl
        have e1 := HR.out.cell tn hcl
        rw [cntTo_get _ _ _ _ htl] at e1
        have e3 := HR.out.frozen tn
        have hcnt : (E.take k).count (tn : Int) ≤ E.length := Nat.le_trans List.count_le_length (by simp; omega)
        obtain ⟨z, hz⟩ : ∃ z : Nat, (E.take k).count (tn : Int) = z := ⟨_, rfl⟩
        rw [hz] at e1 hcnt
        have HST := Lib.hid (show cntTo E L.length (k + 1) = (cntTo E L.length k).set tn ((z : Int) + 1) by rw [← hz]; exact cntTo_add hlt HY.out htl)
        have iw : InW w.heap.size g0.fin := ⟨HR.out.len.2⟩
        have hyn : ¬ (tn : Int) < 0 := by omega
        clear hz hneg
        go_wp2_with fail
        go_roundw
        case rel => exact ⟨k + 1, by omega, by go_num, ExtC.ext, Lib.hid (OwnI.setCell HE.out (by omega)), Lib.hid (by rw [HST.out]; exact HR.out.store tn _)⟩
        case measure => simp [intOf]; omega
    · have e : k = E.length := by omega
      subst e
      go_wp2
      go_ret
      rw [← hEl]
      rw [← hEl] at HR
      have := OwnI.of_row HR.out
      exact ⟨_, rfl, this, ExtC.ext⟩

set_option maxHeartbeats 1000000 in
theorem spec_WeightsOf' (v : Value) (rule : Int) (L : List VD) (w : World) (h : VS w v L) (hs : Short L) (b : Bool) (hb : settB L rule = b) (xs : List Int) (hxs : wgtX L rule = xs) :
    Calls Try.prog 33 #[v, .int .i64 rule] w fun e w' => ∃ v', e = .returned (.tuple #[v', .bool b]) ∧ OwnI w.heap.size w'.heap.size w' v' xs ∧ Ext w w' := by
  have H1 := fun x (hx : Ext w x) => (spec_l02Ok v L x (h.ext hx) hs).mono fun e w' (h : RetB (OkV L) e ∧ Ext x w') => (⟨h.1.told' (okB_iff rfl), h.2⟩ : e = .returned (.bool (okB L)) ∧ Ext x w')
  cases q1 : okB L
  · rw [q1] at H1
    have HN := Lib.hid (show xs = [] by rw [← hxs]; exact (wgt_no fun hh => by have := (okB_iff q1).2 hh.1; cases this).2)
    have hbf : b = false := by rw [← hb]; exact (wgt_no fun hh => by have := (okB_iff q1).2 hh.1; cases this).1
    subst hbf
    clear hb hxs
    go_enter Try.func33, Try.ntmps33
    go_wp2_with (first | (go_at_call 76; (with_reducible refine (H1 _ ExtC.ext).mono ?_); rintro e w' ⟨rfl, hx⟩; obtain ⟨g, rfl⟩ := hx.grow; clear hx) | (go_at_call 77; (with_reducible refine (spec_l02Rule _ _ (by assumption) _).mono ?_); rintro e w' ⟨rfl, hx⟩; obtain ⟨g, rfl⟩ := hx.grow; clear hx))
    refine bodyPost_ret (v := .tuple #[.slice none 0 0, .bool false]) (by simp [results, Try.results33, go_sem]) rfl ?_
    exact ⟨_, rfl, .inl ⟨rfl, HN.out⟩, ExtC.ext⟩
  rw [q1] at H1
  cases q2 : inB rule 0 2
  · have HN := Lib.hid (show xs = [] by rw [← hxs]; exact (wgt_no fun hh => (inB_false.1 q2) hh.2).2)
    have hbf : b = false := by rw [← hb]; exact (wgt_no fun hh => (inB_false.1 q2) hh.2).1
    subst hbf
    clear hb hxs
    go_enter Try.func33, Try.ntmps33
    go_wp2_with (first | (go_at_call 76; (with_reducible refine (H1 _ ExtC.ext).mono ?_); rintro e w' ⟨rfl, hx⟩; obtain ⟨g, rfl⟩ := hx.grow; clear hx) | (go_at_call 77; (with_reducible refine (spec_l02Rule _ _ (by assumption) _).mono ?_); rintro e w' ⟨rfl, hx⟩; obtain ⟨g, rfl⟩ := hx.grow; clear hx))
    refine bodyPost_ret (v := .tuple #[.slice none 0 0, .bool false]) (by simp [results, Try.results33, go_sem]) rfl ?_
    exact ⟨_, rfl, .inl ⟨rfl, HN.out⟩, ExtC.ext⟩
  have hv : SV L rule := ⟨(okB_iff q1).1 rfl, inB_true.1 q2⟩
  obtain ⟨e1, e2⟩ := wgt_yes hv
  rw [hb] at e1
  rw [hxs] at e2
  subst e1
  have HN := Lib.hid e2
  have HB := fun x (hx : Ext w x) => spec_l02Weights v rule L x (h.ext hx) hv _ rfl
  clear hb hxs hv e2
  go_enter Try.func33, Try.ntmps33
  go_wp2_with (first | (go_at_call 76; (with_reducible refine (H1 _ ExtC.ext).mono ?_); rintro e w' ⟨rfl, hx⟩; obtain ⟨g, rfl⟩ := hx.grow; clear hx) | (go_at_call 77; (with_reducible refine (spec_l02Rule _ _ (by assumption) _).mono ?_); rintro e w' ⟨rfl, hx⟩; obtain ⟨g, rfl⟩ := hx.grow; clear hx))
  refine Calls.mono (HB _ ExtC.ext) ?_
  rintro e w' ⟨gp, rfl, ho, hx⟩; obtain ⟨g3, rfl⟩ := hx.grow; clear hx
  have HO := Lib.hid ho; clear ho HB
  go_wp2_with fail
  refine bodyPost_ret (v := .tuple #[.slice (some ⟨gp, 0, none⟩) L.length L.length, .bool true]) (by simp [results, Try.results33, go_sem]) rfl ?_
  refine ⟨_, rfl, ?_, ExtC.ext⟩
  rw [HN.out]
  exact HO.out.mono (ExtC.ext : Ext w _).size (Nat.le_refl _)
end Go.Proofs.Ytbbppkcdgcajjaa
