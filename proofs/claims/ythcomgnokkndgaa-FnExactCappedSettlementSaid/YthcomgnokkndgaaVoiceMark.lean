/- The laws' marks over a list of voices, and the look at the marks. -/
import Derived.Test.YthcomgnokkndgaaVoice2
namespace Go.Proofs.Ythcomgnokkndgaa
open Go.RowKit

/-- How many marks a list of voices takes. -/
def vcnt (L : List VD) : Nat := (L.map fun v => v.2.length + 1).sum
/-- The marks over a list of voices. -/
def vmarks : Int → List VD → List VD
  | _, [] => []
  | k, v :: l => (k % 3 == 0, marks (k + 1) v.2.length) :: vmarks (k + 1 + v.2.length) l
theorem vmarks_length (k : Int) (L : List VD) : (vmarks k L).length = L.length := by
  induction L generalizing k with
  | nil => rfl
  | cons a l ih => simp [vmarks, ih]
theorem vcnt_take (L : List VD) (k : Nat) (h : k < L.length) : vcnt (L.take (k + 1)) = vcnt (L.take k) + (L[k].2.length + 1) := by
  rw [List.take_succ_eq_append_getElem h]; simp only [vcnt, List.map_append, List.sum_append, List.map_cons, List.map_nil, List.sum_cons, List.sum_nil]; omega
theorem vcnt_le (L : List VD) (k : Nat) : vcnt (L.take k) ≤ vcnt L := by
  have h := List.take_append_drop k L
  have : vcnt L = vcnt (L.take k) + vcnt (L.drop k) := by
    conv => lhs; rw [← h]
    simp only [vcnt, List.map_append, List.sum_append]
  omega
theorem vcnt_get (L : List VD) (k : Nat) (h : k < L.length) : vcnt (L.take k) + L[k].2.length + 1 ≤ vcnt L := by
  have h1 := vcnt_take L k h
  have h2 := vcnt_le L (k + 1)
  omega
theorem vmarks_get (k : Int) (L : List VD) (i : Nat) (h : i < L.length) : (vmarks k L)[i]? = some ((k + vcnt (L.take i)) % 3 == 0, marks (k + vcnt (L.take i) + 1) L[i].2.length) := by
  induction L generalizing k i with
  | nil => simp at h
  | cons a l ih =>
    cases i with
    | zero => simp [vmarks, vcnt]
    | succ i =>
      have := ih (k + 1 + a.2.length) i (by simpa using h)
      simp only [vmarks, List.getElem?_cons_succ, this, List.take_succ_cons, List.getElem_cons_succ]
      have e : k + 1 + (a.2.length : Int) + (vcnt (l.take i) : Int) = k + (vcnt (a :: l.take i) : Int) := by simp only [vcnt, List.map_cons, List.sum_cons]; omega
      rw [e]
theorem vcnt_sum (L : List VD) : vcnt L = L.length + vsum L := by
  induction L with
  | nil => rfl
  | cons a l ih => simp only [vcnt, vsum, List.map_cons, List.sum_cons, List.length_cons] at *; omega

set_option maxHeartbeats 1000000 in
theorem laws_markVoiceS (v : Value) (L : List VD) (k0 : Int) (w : World) (lo hi : Nat) (h : OwnV lo hi w v L) (h1 : 0 ≤ k0) (h2 : k0 + vcnt L ≤ 1152921504606846976) :
    Calls Try.prog 10 #[v, .int .i64 k0] w fun e w' => e = .returned (.int .i64 (k0 + vcnt L)) ∧ OwnV lo hi w' v (vmarks k0 L) ∧ Rng lo hi w w' := by
  have hLb : L.length ≤ vcnt L := by rw [vcnt_sum]; omega
  rcases h with ⟨rfl, rfl⟩ | ⟨g, cap, cs, ts, a, b, rfl, ha, hb, how, hc, hd⟩
  · go_enter Try.func10, Try.ntmps10
    go_wp2
    refine wp_loop_rounds 1 ?_; rw [rounds_succ]
    go_wp2
    go_ret
    exact ⟨ret_int (by simp [vcnt]), .inl ⟨rfl, rfl⟩, Rng.refl _ _ _⟩
  · have HC := Lib.hid (And.intro hc hd); clear hc hd
    have H0 := Lib.hid how; clear how
    go_enter Try.func10, Try.ntmps10
    go_wp2
    go_loopw [1, 5] (fun q i wr => ∃ k : Nat, k ≤ L.length ∧ i = .int .i64 k ∧ q = .int .i64 (k0 + (vcnt (L.take k) : Int)) ∧ Rng lo hi w wr ∧ ∃ cs' : List Value, wr.ownsRow lo 40 2 (.slice (some ⟨g, 0, none⟩) L.length cap) L.length cs' ∧
        Hid ((∀ i (h : i < L.length), k ≤ i → cs'[i * 2]? = some (.bool L[i].1) ∧ cs'[i * 2 + 1]? = some (ts i) ∧ OwnI (a i) (b i) wr (ts i) L[i].2) ∧
          ∀ i (h : i < L.length), i < k → cs'[i * 2]? = some (.bool ((k0 + vcnt (L.take i)) % 3 == 0)) ∧ cs'[i * 2 + 1]? = some (ts i) ∧ OwnI (a i) (b i) wr (ts i) (marks (k0 + vcnt (L.take i) + 1) L[i].2.length))) (fun _ i _ => L.length - (intOf i).toNat)
    case atStart => exact ⟨0, Nat.zero_le _, rfl, by simp [vcnt], Rng.refl _ _ _, cs, H0.out, Lib.hid ⟨fun i hi _ => ⟨(HC.out.1 i hi).1, (HC.out.1 i hi).2.1, (HC.out.1 i hi).2.2.1⟩, fun i _ h => by omega⟩⟩
    case round =>
      obtain ⟨k, hk, rfl, rfl, hx, cs', how', HI⟩ := hrel
      by_cases hlt : k < L.length
      · have hvg := vcnt_get L k hlt
        obtain ⟨e1, e2, e3⟩ := HI.out.1 k hlt (Nat.le_refl _)
        obtain ⟨-, -, -, la, lb, lg⟩ := HC.out.1 k hlt
        have hl : cs'.length = L.length * 2 := how'.1
        have c1 : wr.cell? ⟨g, k * 2, none⟩ = some (.bool L[k].1) := by rw [how'.cellAt _ (by omega)]; exact e1
        have c2 : wr.cell? ⟨g, k * 2 + 1, none⟩ = some (ts k) := by rw [how'.cellAt _ (by omega)]; exact e2
        have c3 := how'.frozenAt (k * 2)
        have HE := Lib.hid (And.intro e1 (And.intro e2 e3))
        have HL := Lib.hid hl
        have HG := Lib.hid lg
        clear e1 e2 e3 hl lg
        have st := Lib.hid (how'.stored (k * 2) (.bool ((k0 + vcnt (L.take k)) % 3 == 0))).1
        go_wp2_with fail
        refine Calls.mono (laws_markInt64S _ L[k].2 _ _ (a k) (b k) (HE.out.2.2.setCell (by have := HG.out; omega)) (by omega) (by omega) (by omega)) ?_
        rintro e w2 ⟨rfl, ho, hr⟩
        go_wp2_with fail
        go_roundw
        case rel =>
          have hvt := vcnt_take L k hlt
          have hl := HL.out
          have hg := HG.out
          have st2 := ownsRow_rng st.out hr (by omega)
          refine ⟨k + 1, by omega, by go_num, by congr 1; omega, (hx.setCell (p := ⟨g, k * 2, none⟩) ha hb _).trans (hr.mono la lb), _, st2, Lib.hid ⟨fun i hi' hki => ?_, fun i hi' hik => ?_⟩⟩
          · obtain ⟨f1, f2, f3⟩ := HI.out.1 i hi' (by omega)
            obtain ⟨-, -, -, -, -, gi⟩ := HC.out.1 i hi'
            rw [List.getElem?_set_ne (by omega), List.getElem?_set_ne (by omega)]
            exact ⟨f1, f2, (f3.setCell (by omega)).rng hr (by have := HC.out.2 k i (by omega) hi'; omega)⟩
          · by_cases hik' : i = k
            · subst hik'
              rw [List.getElem?_set_self (by omega), List.getElem?_set_ne (by omega)]
              refine ⟨rfl, HE.out.2.1, ?_⟩
              exact ho
            · obtain ⟨f1, f2, f3⟩ := HI.out.2 i hi' (by omega)
              obtain ⟨-, -, -, -, -, gi⟩ := HC.out.1 i hi'
              rw [List.getElem?_set_ne (by omega), List.getElem?_set_ne (by omega)]
              exact ⟨f1, f2, (f3.setCell (by omega)).rng hr (by have := HC.out.2 i k (by omega) hlt; omega)⟩
        case measure => simp [intOf]; omega
      · have hkn : k = L.length := by omega
        go_wp2
        go_ret
        have HI2 := HI.out.2
        refine ⟨ret_int (by rw [hkn, List.take_length]), .inr ⟨g, cap, cs', ts, a, b, by rw [vmarks_length], ha, hb, by rw [vmarks_length]; exact how', fun i hi' => ?_, fun i j hij hj => HC.out.2 i j hij (by rw [vmarks_length] at hj; exact hj)⟩, hx⟩
        rw [vmarks_length] at hi'
        obtain ⟨f1, f2, f3⟩ := HI2 i hi' (by omega)
        obtain ⟨-, -, -, q1, q2, q3⟩ := HC.out.1 i hi'
        have hm := vmarks_get k0 L i hi'
        rw [List.getElem?_eq_getElem (by rw [vmarks_length]; exact hi')] at hm
        have hm' := Option.some.inj hm
        rw [hm']
        exact ⟨f1, f2, f3, q1, q2, q3⟩

end Go.Proofs.Ythcomgnokkndgaa
