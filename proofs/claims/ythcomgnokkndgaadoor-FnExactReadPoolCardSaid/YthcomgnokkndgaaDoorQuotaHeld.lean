/- The laws' marks over a pool, told whole, and the look at the marks. -/
import Derived.Test.YthcomgnokkndgaaDoorQuotaMark
namespace Go.Proofs.YthcomgnokkndgaaDoor
open Go.RowKit

/-- The marks over a list of quotas. -/
def qmarks : Int → List QD → List QD
  | _, [] => []
  | k, q :: l => (marks k q.1.length, k + q.1.length, k + q.1.length + 1) :: qmarks (k + q.1.length + 2) l
theorem qmarks_length (k : Int) (L : List QD) : (qmarks k L).length = L.length := by
  induction L generalizing k with
  | nil => rfl
  | cons a l ih => simp [qmarks, ih]
theorem qmarks_get (k : Int) (L : List QD) (i : Nat) (h : i < L.length) : (qmarks k L)[i]? = some (marks (k + (qcnt (L.take i) : Int)) L[i].1.length, k + (qcnt (L.take i) : Int) + (L[i].1.length : Int), k + (qcnt (L.take i) : Int) + (L[i].1.length : Int) + 1) := by
  induction L generalizing k i with
  | nil => simp at h
  | cons a l ih =>
    cases i with
    | zero => simp [qmarks, qcnt]
    | succ i =>
      have := ih (k + a.1.length + 2) i (by simpa using h)
      simp only [qmarks, List.getElem?_cons_succ, this, List.take_succ_cons, List.getElem_cons_succ]
      have e : k + (a.1.length : Int) + 2 + (qcnt (l.take i) : Int) = k + (qcnt (a :: l.take i) : Int) := by simp only [qcnt, List.map_cons, List.sum_cons]; omega
      rw [e]

set_option maxHeartbeats 4000000 in
theorem laws_markQuotaS2 (v : Value) (L : List QD) (k0 : Int) (w : World) (lo hi : Nat) (h : OwnQt lo hi w v L) (h1 : 0 ≤ k0) (h2 : k0 + qcnt L ≤ 1152921504606846976) :
    Calls Tryd.prog 37 #[v, .int .i64 k0] w fun e w' => e = .returned (.int .i64 (k0 + qcnt L)) ∧ OwnQt lo hi w' v (qmarks k0 L) ∧ Rng lo hi w w' := by
  have hLb : L.length ≤ qcnt L := by rw [qcnt_sum]; omega
  rcases h with ⟨rfl, rfl⟩ | ⟨g, cap, cs, ts, a, b, rfl, ha, hb, how, hc, hd⟩
  · go_enter Tryd.func37, Tryd.ntmps37
    go_wp2
    refine wp_loop_rounds 1 ?_; rw [rounds_succ]
    go_wp2
    go_ret
    exact ⟨ret_int (by simp [qcnt]), .inl ⟨rfl, rfl⟩, Rng.refl _ _ _⟩
  · have HC := Lib.hid (And.intro hc hd); clear hc hd
    have H0 := Lib.hid how; clear how
    go_enter Tryd.func37, Tryd.ntmps37
    go_wp2
    go_loopw [1, 5] (fun q i wr => ∃ k : Nat, k ≤ L.length ∧ i = .int .i64 k ∧ q = .int .i64 (k0 + (qcnt (L.take k) : Int)) ∧ Rng lo hi w wr ∧ ∃ cs' : List Value, wr.ownsRow lo 60 3 (.slice (some ⟨g, 0, none⟩) L.length cap) L.length cs' ∧
        Hid (∀ i (h : i < L.length), (i < k → (cs'[i * 3]? = some (ts i) ∧ cs'[i * 3 + 1]? = some (.int .i64 (k0 + (qcnt (L.take i) : Int) + (L[i].1.length : Int))) ∧ cs'[i * 3 + 2]? = some (.int .i64 (k0 + (qcnt (L.take i) : Int) + (L[i].1.length : Int) + 1))) ∧ OwnI (a i) (b i) wr (ts i) (marks (k0 + (qcnt (L.take i) : Int)) L[i].1.length)) ∧ (k ≤ i → cs'[i * 3]? = some (ts i) ∧ OwnI (a i) (b i) wr (ts i) L[i].1))) (fun _ i _ => L.length - (intOf i).toNat)
    case atStart => exact ⟨0, Nat.zero_le _, rfl, by simp [qcnt], Rng.refl _ _ _, cs, H0.out, Lib.hid fun i hi => ⟨fun h => by omega, fun _ => ⟨(HC.out.1 i hi).1.1, (HC.out.1 i hi).2.1⟩⟩⟩
    case round =>
      obtain ⟨k, hk, rfl, rfl, hx, cs', how', HI⟩ := hrel
      by_cases hlt : k < L.length
      · have hvg := qcnt_get L k hlt
        obtain ⟨e1, e3⟩ := (HI.out k hlt).2 (Nat.le_refl _)
        obtain ⟨-, -, la, lb, lg⟩ := HC.out.1 k hlt
        have hl : cs'.length = L.length * 3 := how'.1
        have c1 : wr.cell? ⟨g, k * 3, none⟩ = some (ts k) := by rw [how'.cellAt _ (by omega)]; exact e1
        have HE := Lib.hid (And.intro e1 e3)
        have HL := Lib.hid hl
        have HG := Lib.hid lg
        have HW := Lib.hid how'
        clear e1 e3 hl lg how'
        go_wp2_with fail
        refine Calls.mono (laws_markInt64S _ L[k].1 _ _ (a k) (b k) HE.out.2 (by omega) (by omega) (by omega)) ?_
        rintro e w2 ⟨rfl, ho, hr⟩
        have hg := HG.out
        have hw2 := ownsRow_rng HW.out hr (by omega)
        have hl := HL.out
        obtain ⟨u2, f2⟩ : ∃ u, w2.cell? ⟨g, k * 3 + 1, none⟩ = some u := ⟨cs'[k * 3 + 1], by rw [hw2.cellAt _ (by omega)]; simp⟩
        obtain ⟨u3, f3⟩ : ∃ u, w2.cell? ⟨g, k * 3 + 2, none⟩ = some u := ⟨cs'[k * 3 + 2], by rw [hw2.cellAt _ (by omega)]; simp⟩
        have f4 := hw2.frozenAt (k * 3 + 1)
        have f6 := hw2.frozenAt (k * 3 + 2)
        have HO := Lib.hid (And.intro hr (And.intro hw2 ho))
        clear hr hw2 ho hl hg
        go_wp2_with fail
        go_roundw
        case rel =>
          have hvt := qcnt_take L k hlt
          have hl := HL.out
          have hg := HG.out
          obtain ⟨hr, hw2, ho⟩ := HO.out
          have s2 := (hw2.stored (k * 3 + 1) (.int .i64 (k0 + (qcnt (L.take k) : Int) + (L[k].1.length : Int)))).1
          have s3 := (s2.stored (k * 3 + 2) (.int .i64 (k0 + (qcnt (L.take k) : Int) + (L[k].1.length : Int) + 1))).1
          refine ⟨k + 1, by omega, by go_num, by congr 1; omega, ((hx.trans (hr.mono la lb)).setCell (p := ⟨g, k * 3 + 1, none⟩) ha hb _).setCell (p := ⟨g, k * 3 + 2, none⟩) ha hb _, _, s3, Lib.hid fun i hi' => ⟨fun hik => ?_, fun hki => ?_⟩⟩
          · by_cases hi : i = k
            · subst hi
              refine ⟨⟨?_, ?_, ?_⟩, (ho.setCell (by omega)).setCell (by omega)⟩
              · rw [List.getElem?_set_ne (by omega), List.getElem?_set_ne (by omega)]; exact HE.out.1
              · rw [List.getElem?_set_ne (by omega), List.getElem?_set_self (by omega)]
              · rw [List.getElem?_set_self (by rw [List.length_set]; omega)]
            · obtain ⟨⟨q1, q2, q4⟩, q3⟩ := (HI.out i hi').1 (by omega)
              obtain ⟨-, -, -, -, gi⟩ := HC.out.1 i hi'
              rw [List.getElem?_set_ne (by omega), List.getElem?_set_ne (by omega), List.getElem?_set_ne (by omega), List.getElem?_set_ne (by omega), List.getElem?_set_ne (by omega), List.getElem?_set_ne (by omega)]
              exact ⟨⟨q1, q2, q4⟩, ((q3.rng hr (by have := HC.out.2 i k (by omega) hlt; omega)).setCell (by omega)).setCell (by omega)⟩
          · obtain ⟨q1, q3⟩ := (HI.out i hi').2 (by omega)
            obtain ⟨-, -, -, -, gi⟩ := HC.out.1 i hi'
            rw [List.getElem?_set_ne (by omega), List.getElem?_set_ne (by omega)]
            exact ⟨q1, ((q3.rng hr (by have := HC.out.2 k i (by omega) hi'; omega)).setCell (by omega)).setCell (by omega)⟩
        case measure => simp [intOf]; omega
      · have hkn : k = L.length := by omega
        go_wp2
        go_ret
        refine ⟨ret_int (by rw [hkn, List.take_length]), .inr ⟨g, cap, cs', ts, a, b, by rw [qmarks_length], ha, hb, by rw [qmarks_length]; exact how', fun i hi => ?_, fun i j hij hj => HC.out.2 i j hij (by rw [qmarks_length] at hj; exact hj)⟩, hx⟩
        have hi' : i < L.length := by rw [qmarks_length] at hi; exact hi
        obtain ⟨⟨q1, q2, q4⟩, q3⟩ := (HI.out i hi').1 (by omega)
        obtain ⟨-, -, la, lb, gi⟩ := HC.out.1 i hi'
        have hg := qmarks_get k0 L i hi'
        rw [List.getElem?_eq_getElem hi] at hg
        rw [Option.some.inj hg]
        exact ⟨⟨q1, q2, q4⟩, q3, la, lb, gi⟩

set_option maxHeartbeats 1000000 in
theorem laws_markPool2 (pe sz : Int) (v : Value) (L : List QD) (k0 : Int) (w : World) (lo hi : Nat) (h : OwnQt lo hi w v L) (h1 : 0 ≤ k0) (h2 : k0 + qcnt L ≤ 1152921504606846976) :
    Calls Tryd.prog 14 #[.agg #[.int .i64 pe, .int .i64 sz, v], .int .i64 k0] w fun e w' => e = .returned (.int .i64 (k0 + qcnt L)) ∧ OwnQt lo hi w' v (qmarks k0 L) ∧ Rng lo hi w w' := by
  obtain ⟨p, c, rfl, -⟩ := h.rq.form
  have H := Lib.hid h; clear h
  go_enter Tryd.func14, Tryd.ntmps14
  go_wp2_with fail
  refine Calls.mono (laws_markQuotaS2 _ L k0 _ lo hi (H.out.ext ExtC.ext) h1 h2) ?_
  rintro e w2 ⟨rfl, hom, hr⟩
  go_wp2_with fail
  go_ret
  exact ⟨rfl, hom, (Rng.of_ext ExtC.ext).trans hr⟩
set_option maxHeartbeats 2000000 in
theorem laws_heldQuotaS (v : Value) (L : List QD) (k0 : Int) (w : World) (h : RQ w v (qmarks k0 L)) (h1 : 0 ≤ k0) (h2 : k0 + qcnt L ≤ 1152921504606846976) :
    Calls Tryd.prog 38 #[v, .int .i64 k0] w fun e w' => e = .returned (.int .i64 (k0 + qcnt L)) ∧ Ext w w' := by
  have hLb : L.length ≤ qcnt L := by rw [qcnt_sum]; omega
  obtain ⟨p, cap, rfl, hc⟩ := h.form
  clear h
  rw [qmarks_length]
  by_cases h0 : 0 < L.length
  · obtain ⟨b, off, rfl, hb, c⟩ := hc (by rw [qmarks_length]; exact h0)
    have HC : Hid (∀ i (h : i < L.length), (∃ t, w.cell? ⟨b, off + i * 3, none⟩ = some t ∧ RI w t (marks (k0 + (qcnt (L.take i) : Int)) L[i].1.length)) ∧ w.cell? ⟨b, off + i * 3 + 1, none⟩ = some (.int .i64 (k0 + (qcnt (L.take i) : Int) + (L[i].1.length : Int))) ∧ w.cell? ⟨b, off + i * 3 + 2, none⟩ = some (.int .i64 (k0 + (qcnt (L.take i) : Int) + (L[i].1.length : Int) + 1))) := Lib.hid (by
      intro i hi
      have hm := qmarks_get k0 L i hi
      rw [List.getElem?_eq_getElem (by rw [qmarks_length]; exact hi)] at hm
      have hm' := Option.some.inj hm
      have := c i (by rw [qmarks_length]; exact hi)
      rw [hm'] at this
      exact this)
    clear hc c
    go_enter Tryd.func38, Tryd.ntmps38
    go_wp2
    go_loopw [1, 5] (fun q i wr => ∃ k : Nat, k ≤ L.length ∧ i = .int .i64 k ∧ q = .int .i64 (k0 + (qcnt (L.take k) : Int)) ∧ Ext w wr) (fun _ i _ => L.length - (intOf i).toNat)
    case atStart => exact ⟨0, Nat.zero_le _, rfl, by simp [qcnt], Ext.refl _⟩
    case round =>
      obtain ⟨k, hk, rfl, rfl, hx⟩ := hrel
      obtain ⟨g0, rfl⟩ := hx.grow; clear hx
      by_cases hlt : k < L.length
      · have hvg := qcnt_get L k hlt
        obtain ⟨⟨t, d2, d3⟩, d4, d5⟩ := HC.out k hlt
        have D3 := Lib.hid d3; clear d3
        go_wp2_with fail
        refine Calls.mono (laws_heldInt64S _ L[k].1.length _ _ (D3.out.ext ExtC.ext) (by omega) (by omega) (by omega)) ?_
        rintro e w2 ⟨rfl, hx⟩; obtain ⟨g1, rfl⟩ := hx.grow; clear hx
        go_wp2_with fail
        go_roundw
        case rel =>
          have hvt := qcnt_take L k hlt
          exact ⟨k + 1, by omega, by go_num, by congr 1; omega, ExtC.ext⟩
        case measure => simp [intOf]; omega
      · have hkn : k = L.length := by omega
        go_wp2
        go_ret
        exact ⟨ret_int (by rw [hkn, List.take_length]), ExtC.ext⟩
  · have e : L = [] := List.length_eq_zero_iff.1 (by omega)
    subst e
    clear hc
    go_enter Tryd.func38, Tryd.ntmps38
    go_wp2
    refine wp_loop_rounds 1 ?_; rw [rounds_succ]
    go_wp2
    go_ret
    exact ⟨ret_int (by simp [qcnt]), Ext.refl _⟩

set_option maxHeartbeats 1000000 in
theorem laws_heldPool (pe sz : Int) (v : Value) (L : List QD) (k0 : Int) (w : World) (h : RQ w v (qmarks k0 L)) (h1 : 0 ≤ k0) (h2 : k0 + qcnt L ≤ 1152921504606846976) :
    Calls Tryd.prog 15 #[.agg #[.int .i64 pe, .int .i64 sz, v], .int .i64 k0] w fun e w' => e = .returned (.int .i64 (k0 + qcnt L)) ∧ Ext w w' := by
  obtain ⟨p, c, rfl, -⟩ := h.form
  have H := Lib.hid h; clear h
  have hd : decide (k0 + (qcnt L : Int) < 0) = false := by simp; omega
  have hd2 : ¬ (k0 + (qcnt L : Int) < 0) := by omega
  go_enter Tryd.func15, Tryd.ntmps15
  go_wp2_with fail
  refine Calls.mono (laws_heldQuotaS _ L k0 _ (H.out.ext ExtC.ext) h1 h2) ?_
  rintro e w2 ⟨rfl, hx⟩; obtain ⟨g1, rfl⟩ := hx.grow; clear hx
  go_wp2_with fail
  go_ret
  exact ⟨rfl, ExtC.ext⟩
end Go.Proofs.YthcomgnokkndgaaDoor
