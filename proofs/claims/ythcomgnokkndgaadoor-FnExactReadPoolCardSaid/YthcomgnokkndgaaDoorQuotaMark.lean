/- The laws' marks over a pool. -/
import Derived.Test.YthcomgnokkndgaaDoorPool
namespace Go.Proofs.YthcomgnokkndgaaDoor
open Go.RowKit

/-- How many marks a list of quotas takes. -/
def qcnt (L : List QD) : Nat := (L.map fun v => v.1.length + 2).sum
theorem qcnt_take (L : List QD) (k : Nat) (h : k < L.length) : qcnt (L.take (k + 1)) = qcnt (L.take k) + (L[k].1.length + 2) := by
  rw [List.take_succ_eq_append_getElem h]; simp only [qcnt, List.map_append, List.sum_append, List.map_cons, List.map_nil, List.sum_cons, List.sum_nil]; omega
theorem qcnt_le (L : List QD) (k : Nat) : qcnt (L.take k) ≤ qcnt L := by
  have h := List.take_append_drop k L
  have : qcnt L = qcnt (L.take k) + qcnt (L.drop k) := by
    conv => lhs; rw [← h]
    simp only [qcnt, List.map_append, List.sum_append]
  omega
theorem qcnt_get (L : List QD) (k : Nat) (h : k < L.length) : qcnt (L.take k) + L[k].1.length + 2 ≤ qcnt L := by
  have h1 := qcnt_take L k h
  have h2 := qcnt_le L (k + 1)
  omega
theorem qcnt_sum (L : List QD) : qcnt L = 2 * L.length + qsum L := by
  induction L with
  | nil => rfl
  | cons a l ih => simp only [qcnt, qsum, List.map_cons, List.sum_cons, List.length_cons] at *; omega

set_option maxHeartbeats 4000000 in
theorem laws_markQuotaS (v : Value) (L : List QD) (k0 : Int) (w : World) (lo hi : Nat) (h : OwnQt lo hi w v L) (h1 : 0 ≤ k0) (h2 : k0 + qcnt L ≤ 1152921504606846976) :
    Calls Tryd.prog 37 #[v, .int .i64 k0] w fun e w' => e = .returned (.int .i64 (k0 + qcnt L)) ∧ Rng lo hi w w' := by
  have hLb : L.length ≤ qcnt L := by rw [qcnt_sum]; omega
  rcases h with ⟨rfl, rfl⟩ | ⟨g, cap, cs, ts, a, b, rfl, ha, hb, how, hc, hd⟩
  · go_enter Tryd.func37, Tryd.ntmps37
    go_wp2
    refine wp_loop_rounds 1 ?_; rw [rounds_succ]
    go_wp2
    go_ret
    exact ⟨ret_int (by simp [qcnt]), Rng.refl _ _ _⟩
  · have HC := Lib.hid (And.intro hc hd); clear hc hd
    have H0 := Lib.hid how; clear how
    go_enter Tryd.func37, Tryd.ntmps37
    go_wp2
    go_loopw [1, 5] (fun q i wr => ∃ k : Nat, k ≤ L.length ∧ i = .int .i64 k ∧ q = .int .i64 (k0 + (qcnt (L.take k) : Int)) ∧ Rng lo hi w wr ∧ ∃ cs' : List Value, wr.ownsRow lo 60 3 (.slice (some ⟨g, 0, none⟩) L.length cap) L.length cs' ∧
        Hid (∀ i (h : i < L.length), k ≤ i → cs'[i * 3]? = some (ts i) ∧ OwnI (a i) (b i) wr (ts i) L[i].1)) (fun _ i _ => L.length - (intOf i).toNat)
    case atStart => exact ⟨0, Nat.zero_le _, rfl, by simp [qcnt], Rng.refl _ _ _, cs, H0.out, Lib.hid fun i hi _ => ⟨(HC.out.1 i hi).1.1, (HC.out.1 i hi).2.1⟩⟩
    case round =>
      obtain ⟨k, hk, rfl, rfl, hx, cs', how', HI⟩ := hrel
      by_cases hlt : k < L.length
      · have hvg := qcnt_get L k hlt
        obtain ⟨e1, e3⟩ := HI.out k hlt (Nat.le_refl _)
        obtain ⟨-, -, la, lb, lg⟩ := HC.out.1 k hlt
        have hl : cs'.length = L.length * 3 := how'.1
        have c1 : wr.cell? ⟨g, k * 3, none⟩ = some (ts k) := by rw [how'.cellAt _ (by omega)]; exact e1
        have HE := Lib.hid (And.intro e1 e3)
        have HL := Lib.hid hl
        have HG := Lib.hid lg
        have HW := Lib.hid how'
        clear e1 e3 hl lg how'
        go_wp2_with fail
        refine Calls.mono (laws_markInt64S _ L[k].1 _ _ (a k) (b k) HE.out.2 (by omega) (by omega) (by omega)) ?_
        rintro e w2 ⟨rfl, ho, hr⟩
        have hg := HG.out
        have hw2 := ownsRow_rng HW.out hr (by omega)
        have hl := HL.out
        obtain ⟨u2, f2⟩ : ∃ u, w2.cell? ⟨g, k * 3 + 1, none⟩ = some u := ⟨cs'[k * 3 + 1], by rw [hw2.cellAt _ (by omega)]; simp⟩
        obtain ⟨u3, f3⟩ : ∃ u, w2.cell? ⟨g, k * 3 + 2, none⟩ = some u := ⟨cs'[k * 3 + 2], by rw [hw2.cellAt _ (by omega)]; simp⟩
        have f4 := hw2.frozenAt (k * 3 + 1)
        have f6 := hw2.frozenAt (k * 3 + 2)
        have HO := Lib.hid (And.intro hr (And.intro hw2 ho))
        clear hr hw2 ho hl hg
        go_wp2_with fail
        go_roundw
        case rel =>
          have hvt := qcnt_take L k hlt
          have hl := HL.out
          have hg := HG.out
          obtain ⟨hr, hw2, -⟩ := HO.out
          have s2 := (hw2.stored (k * 3 + 1) (.int .i64 (k0 + (qcnt (L.take k) : Int) + (L[k].1.length : Int)))).1
          have s3 := (s2.stored (k * 3 + 2) (.int .i64 (k0 + (qcnt (L.take k) : Int) + (L[k].1.length : Int) + 1))).1
          refine ⟨k + 1, by omega, by go_num, by congr 1; omega, ((hx.trans (hr.mono la lb)).setCell (p := ⟨g, k * 3 + 1, none⟩) ha hb _).setCell (p := ⟨g, k * 3 + 2, none⟩) ha hb _, _, s3, Lib.hid fun i hi' hki => ?_⟩
          obtain ⟨q1, q3⟩ := HI.out i hi' (by omega)
          obtain ⟨-, -, -, -, gi⟩ := HC.out.1 i hi'
          rw [List.getElem?_set_ne (by omega), List.getElem?_set_ne (by omega)]
          exact ⟨q1, ((q3.rng hr (by have := HC.out.2 k i (by omega) hi'; omega)).setCell (by omega)).setCell (by omega)⟩
        case measure => simp [intOf]; omega
      · have hkn : k = L.length := by omega
        go_wp2
        go_ret
        exact ⟨ret_int (by rw [hkn, List.take_length]), hx⟩

set_option maxHeartbeats 1000000 in
theorem laws_markPool (pe sz : Int) (v : Value) (L : List QD) (k0 : Int) (w : World) (lo hi : Nat) (h : OwnQt lo hi w v L) (h1 : 0 ≤ k0) (h2 : k0 + qcnt L ≤ 1152921504606846976) :
    Calls Tryd.prog 14 #[.agg #[.int .i64 pe, .int .i64 sz, v], .int .i64 k0] w fun e w' => e = .returned (.int .i64 (k0 + qcnt L)) ∧ Rng lo hi w w' := by
  obtain ⟨p, c, rfl, -⟩ := h.rq.form
  have H := Lib.hid h; clear h
  go_enter Tryd.func14, Tryd.ntmps14
  go_wp2_with fail
  refine Calls.mono (laws_markQuotaS _ L k0 _ lo hi (H.out.ext ExtC.ext) h1 h2) ?_
  rintro e w2 ⟨rfl, hr⟩
  go_wp2_with fail
  go_ret
  exact ⟨rfl, (Rng.of_ext ExtC.ext).trans hr⟩
end Go.Proofs.YthcomgnokkndgaaDoor
