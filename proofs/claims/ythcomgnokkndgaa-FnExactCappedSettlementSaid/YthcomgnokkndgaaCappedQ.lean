/- Lemmas for the program's settlement with a limit: the start, and what its maps hold. -/
import Derived.Test.YthcomgnokkndgaaBridge
import Derived.Test.YthcomgnokkndgaaSettledI
namespace Go.Proofs.Ythcomgnokkndgaa
open Go.RowKit

def spL (L : List VD) : Int → Bool := fun e => decide (0 ≤ e ∧ e < (L.length : Int)) && (At L e).1
theorem spL_nat {L : List VD} {j : Nat} (h : j < L.length) : spL L (j : Int) = (At L (j : Int)).1 := by simp [spL, h]
theorem spL_nonneg {L : List VD} (x : Int) (h : spL L x = true) : 0 ≤ x := by simp [spL] at h; exact h.1.1
def em1 (L : List VD) (E : List (List Int)) (i : Nat) : List (List Int) := (List.range E.length).map fun j => if j < i ∧ (At L (j : Int)).1 = true then [] else E.getD j []
def rm1 (L : List VD) (lim : Int) (i : Nat) : Int → Int := fun e => if 0 ≤ e ∧ e < (i : Int) ∧ (At L e).1 = true then lim - 1 else 0
theorem em1_length (L : List VD) (E : List (List Int)) (i : Nat) : (em1 L E i).length = E.length := by simp [em1]
theorem em1_zero (L : List VD) (E : List (List Int)) : em1 L E 0 = E := by
  refine List.ext_getElem (by simp [em1]) fun j h1 h2 => ?_
  simp [em1, h2]
theorem em1_yes {L : List VD} {E : List (List Int)} {i : Nat} (h : (At L (i : Int)).1 = true) : em1 L E (i + 1) = (em1 L E i).set i [] := by
  refine List.ext_getElem (by simp [em1]) fun j h1 h2 => ?_
  rw [List.getElem_set]
  simp only [em1, List.getElem_map, List.getElem_range]
  by_cases hji : i = j
  · subst hji; simp [h]
  · have : j < i + 1 ↔ j < i := by omega
    simp [hji, this]
theorem em1_no {L : List VD} {E : List (List Int)} {i : Nat} (h : (At L (i : Int)).1 = false) : em1 L E (i + 1) = em1 L E i := by
  refine List.ext_getElem (by simp [em1]) fun j h1 h2 => ?_
  simp only [em1, List.getElem_map, List.getElem_range]
  by_cases hji : j = i
  · subst hji; simp [h]
  · have : j < i + 1 ↔ j < i := by omega
    simp [this]
theorem em1_all {L : List VD} {E : List (List Int)} (hE : E.length = L.length) : em1 L E L.length = emod E (td0 L) := by
  refine List.ext_getElem (by simp [em1, emod]) fun j h1 h2 => ?_
  have hj : j < L.length := by simp [em1, hE] at h1; exact h1
  simp only [em1, emod, List.getElem_map, List.getElem_range]
  rw [td0_at hj]
  by_cases hs : (At L (j : Int)).1 = true
  · have h9 : ¬ (j : Int) = -2 := by omega
    simp [hs, hj, h9]
  · simp [hs]
theorem rm1_zero (L : List VD) (lim : Int) : rm1 L lim 0 = fun _ => 0 := by
  funext e; unfold rm1; rw [if_neg (by omega)]
theorem rm1_yes {L : List VD} {lim : Int} {i : Nat} (h : (At L (i : Int)).1 = true) : rm1 L lim (i + 1) = fun j => if j = (i : Int) then lim - 1 else rm1 L lim i j := by
  funext e
  unfold rm1
  by_cases hei : e = (i : Int)
  · subst hei; simp [h]; omega
  · have : e < (i : Int) + 1 ↔ e < (i : Int) := by omega
    simp [hei, this]
theorem rm1_no {L : List VD} {lim : Int} {i : Nat} (h : (At L (i : Int)).1 = false) : rm1 L lim (i + 1) = rm1 L lim i := by
  funext e
  unfold rm1
  by_cases hei : e = (i : Int)
  · subst hei; simp [h]
  · have : e < (i : Int) + 1 ↔ e < (i : Int) := by omega
    simp [this]
theorem cnt_td0 {L : List VD} {e : Int} (h0 : 0 ≤ e) (h1 : e < L.length) : cnt L.length (FnF (td0 L)) e = if (At L e).1 = true then 1 else 0 := by
  have key : ∀ m : Nat, m ≤ L.length → ct m (fun i => decide (FnF (td0 L) i = e)) = if e < (m : Int) ∧ (At L e).1 = true then 1 else 0 := by
    intro m
    induction m with
    | zero => intro _; rw [ct_zero, if_neg (by omega)]
    | succ m ih =>
      intro hm
      rw [ct_succ, ih (by omega), td0_at (L := L) (by omega)]
      by_cases hem : e = (m : Int)
      · subst hem
        by_cases hs : (At L (m : Int)).1 = true
        · simp [hs]; omega
        · have h9 : ¬ (-2 : Int) = (m : Int) := by omega
          simp [hs, h9]
      · have h8 : (if (At L (m : Int)).1 = true then (m : Int) else -2) ≠ e := by
          split
          · exact fun q => hem q.symm
          · omega
        have h7 : e < ((m + 1 : Nat) : Int) ↔ e < (m : Int) := by omega
        simp only [h8, h7, decide_false, Bool.false_eq_true, if_false, Nat.add_zero]
  have := key L.length (Nat.le_refl _)
  unfold cnt
  rw [this]
  simp [h1]
theorem rm1_all {L : List VD} {lim : Int} : rm1 L lim L.length = roomF (spL L) L.length (td0 L) lim := by
  funext e
  unfold rm1 roomF spL
  by_cases h0 : 0 ≤ e
  · by_cases h1 : e < (L.length : Int)
    · rw [cnt_td0 h0 h1]
      by_cases hs : (At L e).1 = true
      · simp [h0, h1, hs]
      · simp [h0, h1, hs]
    · simp [h1]
  · simp [h0]
theorem td0_not {L : List VD} {lim : Int} (h : 1 ≤ lim) : ¬ Over L.length (td0 L) lim := by
  rintro ⟨e, h0, hlt⟩
  by_cases h1 : e < (L.length : Int)
  · rw [cnt_td0 h0 h1] at hlt; split at hlt <;> omega
  · have : cnt L.length (FnF (td0 L)) e = 0 := ct_none fun i hi => decide_eq_false (by rw [td0_at hi]; split <;> omega)
    rw [this] at hlt; omega

theorem OwnR.setNil {lo hi g c : Nat} {w : World} {L : List (List Int)} (h : OwnR intKind 24 lo hi w (.slice (some ⟨g, 0, none⟩) L.length c) L) (m : Nat) (hm : m < L.length) :
    OwnR intKind 24 lo hi (w.setCell ⟨g, m, none⟩ (.slice none 0 0)) (.slice (some ⟨g, 0, none⟩) L.length c) (L.set m []) := by
  rcases h with ⟨e, _⟩ | ⟨g0, cap, cs, a, b, e, h3, h4, how, hc, hd⟩
  · simp at e
  simp only [Value.slice.injEq, Option.some.injEq, Addr.mk.injEq, and_true, true_and] at e
  obtain ⟨rfl, rfl⟩ := e
  have hl : cs.length = L.length := by rw [how.1]; omega
  have s1 := (how.stored m (.slice none 0 0)).1
  refine .inr ⟨g, c, _, a, b, by simp, h3, h4, by simpa using s1, fun i hi' => ?_, fun i j hij hj => hd i j hij (by simpa using hj)⟩
  have hi2 : i < L.length := by simpa using hi'
  obtain ⟨t, q1, q2, q3, q4, q5⟩ := hc i hi2
  by_cases him : i = m
  · subst him
    refine ⟨.slice none 0 0, by simp [hl, hi2], ?_, q3, q4, q5⟩
    rw [List.getElem_set_self]; exact .inl ⟨rfl, rfl⟩
  · refine ⟨t, by rw [List.getElem?_set_ne (Ne.symm him)]; exact q1, ?_, q3, q4, q5⟩
    rw [List.getElem_set_ne (Ne.symm him)]
    exact OwnI.setCell q2 (by omega)
theorem OwnR.rowAt {lo hi g c : Nat} {w : World} {L : List (List Int)} (h : OwnR intKind 24 lo hi w (.slice (some ⟨g, 0, none⟩) L.length c) L) (m : Nat) (hm : m < L.length) :
    lo ≤ g ∧ g < hi ∧ InW g w ∧ w.frozen? ⟨g, m, none⟩ = false ∧ ∃ t a b, w.cell? ⟨g, m, none⟩ = some t ∧ OwnI a b w t L[m] ∧ lo ≤ a ∧ b ≤ hi ∧ (g < a ∨ b ≤ g) := by
  rcases h with ⟨e, _⟩ | ⟨g0, cap, cs, a, b, e, h3, h4, how, hc, hd⟩
  · simp at e
  simp only [Value.slice.injEq, Option.some.injEq, Addr.mk.injEq, and_true, true_and] at e
  obtain ⟨rfl, rfl⟩ := e
  obtain ⟨t, q1, q2, q3, q4, q5⟩ := hc m hm
  have hl : cs.length = L.length := by rw [how.1]; omega
  refine ⟨h3, h4, ⟨(how.lt g rfl).2⟩, how.frozenAt m, t, a m, b m, ?_, q2, q3, q4, q5⟩
  rw [how.cellAt m (by omega)]; exact q1
theorem MapV.setCell {w : World} {b : Nat} {z : Value} {m : Int → Value} (h : MapV w b z m) {p : Addr} (hp : p.block ≠ b) (u : Value) : MapV (w.setCell p u) b z m := h.kept (Below.heap_setCell _ _ _ _ (fun e => hp e.symm))

/-- The greatest number at a state of the settlement. -/
theorem most_call {n eg ec rm : Nat} {E : List (List Int)} {Td : List Int} {lim : Int} {sp : Int → Bool} {w : World} (K : TdOk n E Td) (hsp : ∀ i, i < n → ∀ e, e ∈ E.getD i [] → sp e = true) (hs0 : ∀ x, sp x = true → 0 ≤ x) (ho : ¬ Over n Td lim) (h1 : 1 ≤ lim) (h2 : lim ≤ 12) (he : RowsR intKind w (.slice (some ⟨eg, 0, none⟩) n ec) (emod E Td))
    (hm : MapV w rm (.int .i64 0) (fun e => .int .i64 (roomF sp n Td lim e))) :
    Calls Try.prog 20 #[.slice (some ⟨eg, 0, none⟩) n ec, .map (some rm)] w fun e w' => ∃ v : Nat, e = .returned (.int .i64 v) ∧ v ≤ n ∧ MaxT n E Td lim (v + toldN n Td) ∧ Ext w w' := by
  have hel := K.el
  refine Calls.mono (impl_mostSettled (E := emod E Td) K.n12 (by rw [emod_length, hel]) (fun i hi => ?_) (fun i hi e hee => ?_) (fun e => ?_) he hm) ?_
  · have hi2 : i < E.length := by rwa [emod_length] at hi
    have a : (emod E Td)[i] = if FnF Td i = -2 then E.getD i [] else [] := by simp [emod]
    rw [a]
    split
    · have := K.el12 i hi2; simpa [hi2] using this
    · simp
  · replace hee : e ∈ (emod E Td).getD i [] := hee
    rw [emod_at (by omega)] at hee
    split at hee
    · exact K.row i e hee
    · cases hee
  · unfold roomF
    split
    · rename_i hse
      have h0 := hs0 e hse
      have : (cnt n (FnF Td) e : Int) ≤ lim := Int.not_lt.1 fun hh => ho ⟨e, h0, hh⟩
      omega
    · omega
  · rintro e w' ⟨v, rfl, hvn, hmx, hx⟩
    exact ⟨v, rfl, hvn, bridge K hsp ho hmx, hx⟩
end Go.Proofs.Ythcomgnokkndgaa
