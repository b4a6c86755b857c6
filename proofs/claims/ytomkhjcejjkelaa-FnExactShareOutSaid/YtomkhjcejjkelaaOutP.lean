/- Giving out by greatest rests: the stable sort's order and the repeated picks are one. Plain lists. -/
import Derived.Test.YtomkhjcejjkelaaLib
import Derived.Sort.LotA
import Derived.Sort.WalkA
namespace Go.Proofs.Ytomkhjcejjkelaa
open Go.RowKit Go.Sort

theorem nodup_inj {l : List Nat} (h : l.Nodup) {i j : Nat} (hi : i < l.length) (hj : j < l.length) (e : l[i] = l[j]) : i = j := by
  have hp := List.pairwise_iff_getElem.1 h
  rcases Nat.lt_trichotomy i j with h1 | h1 | h1
  · exact absurd e (hp i j hi hj h1)
  · exact h1
  · exact absurd e.symm (hp j i hj hi h1)
/-- A greater rest, or the same rest and a smaller place. -/
def befB (r : Nat → Int) (x y : Nat) : Bool := decide (r y < r x ∨ (r x = r y ∧ x < y))
def gtB (r : Nat → Int) (x y : Nat) : Bool := decide (r y < r x)
theorem befB_swo (r : Nat → Int) : SWO (befB r) := by
  refine ⟨fun x => ?_, fun x y z h1 h2 => ?_, fun x y z h1 h2 => ?_⟩
  · simp [befB]
  · simp only [befB, decide_eq_true_eq] at *; omega
  · simp only [befB, decide_eq_false_iff_not] at *; omega
theorem get_swp (d : Array Nat) (j k : Nat) (hj : j + 1 < d.size) : (swp d (j + 1) j)[k]! = if k = j then d[j + 1]! else if k = j + 1 then d[j]! else d[k]! := by
  by_cases h1 : k = j
  · subst h1; rw [if_pos rfl]; exact swp_right d (k + 1) k (by omega)
  · rw [if_neg h1]
    by_cases h2 : k = j + 1
    · subst h2; rw [if_pos rfl]; exact swp_left d (j + 1) j hj (by omega)
    · rw [if_neg h2]; exact swp_other d (j + 1) j k h2 h1
theorem insInner_succ (lt : Nat → Nat → Bool) (a j : Nat) (d : Array Nat) : insInner lt a (j + 1) d = if (decide (j + 1 > a) && lt d[j + 1]! d[j]!) = true then insInner lt a j (swp d (j + 1) j) else d := rfl
theorem insInner_same (r : Nat → Int) (a i : Nat) : ∀ (j : Nat) (d : Array Nat), j ≤ i → i < d.size → (∀ k, k < j → d[k]! < d[j]!) → (∀ k, k ≤ i → d[k]! ≤ i) →
    insInner (befB r) a j d = insInner (gtB r) a j d ∧ (insInner (gtB r) a j d).size = d.size ∧ (∀ k, k ≤ i → (insInner (gtB r) a j d)[k]! ≤ i) ∧ (∀ k, i < k → (insInner (gtB r) a j d)[k]! = d[k]!)
  | 0, d, _, _, _, h => ⟨rfl, rfl, h, fun _ _ => rfl⟩
  | j + 1, d, hj, hi, hlt, h => by
    have e : befB r d[j + 1]! d[j]! = gtB r d[j + 1]! d[j]! := by
      have := hlt j (by omega)
      unfold gtB befB
      rw [decide_eq_decide]
      omega
    rw [insInner_succ, insInner_succ, e]
    by_cases hc : (decide (j + 1 > a) && gtB r d[j + 1]! d[j]!) = true
    · simp only [if_pos hc]
      have ih := insInner_same r a i j (swp d (j + 1) j) (by omega) (by rw [size_swp]; omega) (fun k hk => by
        rw [get_swp _ _ _ (by omega), get_swp _ _ _ (by omega), if_neg (by omega), if_neg (by omega), if_pos rfl]
        exact hlt k (by omega)) (fun k hk => by
        rw [get_swp _ _ _ (by omega)]
        split
        · exact h _ hj
        · split
          · exact h _ (by omega)
          · exact h _ hk)
      exact ⟨ih.1, by rw [ih.2.1, size_swp], ih.2.2.1, fun k hk => by rw [ih.2.2.2 k hk, get_swp _ _ _ (by omega), if_neg (by omega), if_neg (by omega)]⟩
    · simp only [if_neg hc]
      exact ⟨trivial, trivial, h, fun _ _ => trivial⟩
theorem insOuter_same (r : Nat → Int) (a b : Nat) : ∀ (m i : Nat) (d : Array Nat), b - i = m → b ≤ d.size → (∀ k, k < i → d[k]! < i) → (∀ k, i ≤ k → k < b → d[k]! = k) →
    insOuter (gtB r) a b i d = insOuter (befB r) a b i d
  | 0, i, d, hm, _, _, _ => by rw [insOuter_stop _ _ _ _ _ (by omega), insOuter_stop _ _ _ _ _ (by omega)]
  | m + 1, i, d, hm, hb, h1, h2 => by
    have hi : i < b := by omega
    have hii := h2 i (Nat.le_refl _) hi
    rw [insOuter_go _ _ _ _ _ hi, insOuter_go _ _ _ _ _ hi]
    obtain ⟨e1, e2, e3, e4⟩ := insInner_same r a i i d (Nat.le_refl _) (by omega) (fun k hk => by rw [hii]; exact h1 k hk) (fun k hk => by
      by_cases e : k = i
      · subst e; omega
      · have := h1 k (by omega); omega)
    rw [e1]
    exact insOuter_same r a b m (i + 1) _ (by omega) (by omega) (fun k hk => by have := e3 k (by omega); omega) (fun k hk hkb => by rw [e4 k (by omega)]; exact h2 k (by omega) hkb)
def ordL (r : Nat → Int) (n : Nat) : List Nat := (insertionSort (gtB r) (Array.range n) 0 n).toList
theorem befB_total (r : Nat → Int) {x y : Nat} (h : befB r y x = false) (hne : x ≠ y) : befB r x y = true := by
  simp only [befB, decide_eq_false_iff_not, decide_eq_true_eq] at *; omega
theorem ordL_spec (r : Nat → Int) (n : Nat) : (ordL r n).Perm (List.range n) ∧ (ordL r n).Pairwise (fun x y => befB r x y = true) := by
  have he : insertionSort (gtB r) (Array.range n) 0 n = insertionSort (befB r) (Array.range n) 0 n := by
    unfold insertionSort
    by_cases h0 : n = 0
    · subst h0; rw [insOuter_stop _ _ _ _ _ (by omega), insOuter_stop _ _ _ _ _ (by omega)]
    · have hr : ∀ k, k < n → (Array.range n)[k]! = k := fun k hk => by simp [hk]
      exact insOuter_same r 0 n _ (0 + 1) _ rfl (by simp) (fun k hk => by rw [hr k (by omega)]; exact hk) (fun k _ hk => hr k hk)
  obtain ⟨⟨p1, p2, p3⟩, hs⟩ := insertionSort_holds (befB_swo r) (Array.range n) 0 n (Nat.zero_le _) (by simp)
  unfold ordL
  rw [he]
  obtain ⟨D, hD⟩ : ∃ D, insertionSort (befB r) (Array.range n) 0 n = D := ⟨_, rfl⟩
  rw [hD] at p1 p2 p3 hs ⊢
  have hds : D.size = n := by simpa using p1
  have hperm : D.toList.Perm (List.range n) := by
    have e1 : D.extract 0 n = D := by rw [← hds]; exact Array.extract_size
    have e2 : (Array.range n).extract 0 n = Array.range n := by
      conv => lhs; arg 3; rw [← Array.size_range (n := n)]
      exact Array.extract_size
    rw [e1, e2] at p3
    simpa using p3
  refine ⟨hperm, ?_⟩
  have hnd : D.toList.Nodup := hperm.nodup_iff.2 List.nodup_range
  rw [List.pairwise_iff_getElem]
  intro i j hi hj hij
  have hi' : i < D.size := by simpa using hi
  have hj' : j < D.size := by simpa using hj
  have := hs i j (Nat.zero_le _) hij (by omega)
  rw [getElem!_pos D j hj', getElem!_pos D i hi'] at this
  have hne : D.toList[i] ≠ D.toList[j] := fun e => by have := nodup_inj hnd hi hj e; omega
  simp only [Array.getElem_toList] at hne ⊢
  exact befB_total r this hne
theorem ordL_length (r : Nat → Int) (n : Nat) : (ordL r n).length = n := by rw [(ordL_spec r n).1.length_eq]; simp
theorem ordL_lt (r : Nat → Int) {n x : Nat} (h : x ∈ ordL r n) : x < n := by have := (ordL_spec r n).1.subset h; simpa using this
theorem ordL_mem (r : Nat → Int) {n x : Nat} (h : x < n) : x ∈ ordL r n := (ordL_spec r n).1.symm.subset (by simpa using h)
theorem ordL_nodup (r : Nat → Int) (n : Nat) : (ordL r n).Nodup := (ordL_spec r n).1.nodup_iff.2 List.nodup_range

/-- The place that a look along the first m places finds: a greatest rest, the first such one, among those that have not been given. -/
def pickR (r : Nat → Int) (G : List Nat) : Nat → Int
  | 0 => -1
  | m + 1 => if m ∉ G ∧ (pickR r G m < 0 ∨ r (pickR r G m).toNat < r m) then (m : Int) else pickR r G m
theorem pickR_spec (r : Nat → Int) (G : List Nat) : ∀ m, (pickR r G m = -1 ∧ ∀ i, i < m → i ∈ G) ∨ (∃ p, p < m ∧ pickR r G m = (p : Int) ∧ p ∉ G ∧ ∀ i, i < m → i ∉ G → befB r i p = false)
  | 0 => .inl ⟨rfl, fun i hi => absurd hi (by omega)⟩
  | m + 1 => by
    have ih := pickR_spec r G m
    unfold pickR
    by_cases hg : m ∈ G
    · rw [if_neg (by simp [hg])]
      rcases ih with ⟨e, h⟩ | ⟨p, hp, e, hpg, h⟩
      · refine .inl ⟨e, fun i hi => ?_⟩
        by_cases him : i = m
        · subst him; exact hg
        · exact h i (by omega)
      · refine .inr ⟨p, by omega, e, hpg, fun i hi hig => ?_⟩
        by_cases him : i = m
        · subst him; exact absurd hg hig
        · exact h i (by omega) hig
    · rcases ih with ⟨e, h⟩ | ⟨p, hp, e, hpg, h⟩
      · rw [if_pos ⟨hg, .inl (by rw [e]; omega)⟩]
        refine .inr ⟨m, by omega, rfl, hg, fun i hi hig => ?_⟩
        by_cases him : i = m
        · subst him; simp [befB]
        · exact absurd (h i (by omega)) hig
      · rw [e]
        have e2 : (p : Int).toNat = p := by omega
        rw [e2]
        by_cases hr : r p < r m
        · rw [if_pos ⟨hg, .inr hr⟩]
          refine .inr ⟨m, by omega, rfl, hg, fun i hi hig => ?_⟩
          by_cases him : i = m
          · subst him; simp [befB]
          · have := h i (by omega) hig
            simp only [befB, decide_eq_false_iff_not] at this ⊢
            omega
        · rw [if_neg (by intro hh; rcases hh.2 with h1 | h1 <;> omega)]
          refine .inr ⟨p, by omega, rfl, hpg, fun i hi hig => ?_⟩
          by_cases him : i = m
          · subst him
            simp only [befB, decide_eq_false_iff_not]; omega
          · exact h i (by omega) hig
theorem pick_ord (r : Nat → Int) {n k : Nat} (hk : k < (ordL r n).length) : pickR r ((ordL r n).take k) n = ((ordL r n)[k] : Nat) := by
  have hnd := ordL_nodup r n
  have hni : (ordL r n)[k] ∉ (ordL r n).take k := by
    intro h
    obtain ⟨j, hj, e⟩ := List.getElem_of_mem h
    rw [List.getElem_take] at e
    rw [List.length_take] at hj
    have := nodup_inj hnd (by omega) hk e
    omega
  have hlt := ordL_lt r (List.getElem_mem hk)
  rcases pickR_spec r ((ordL r n).take k) n with ⟨_, h⟩ | ⟨p, hp, e, hpg, h⟩
  · exact absurd (h _ hlt) hni
  · rw [e]
    have hm := ordL_mem r hp
    obtain ⟨j, hj, ej⟩ := List.getElem_of_mem hm
    have hjk : k ≤ j := by
      by_cases hh : k ≤ j
      · exact hh
      · refine absurd ?_ hpg
        rw [← ej]
        exact List.mem_take_iff_getElem.2 ⟨j, by omega, rfl⟩
    by_cases he : j = k
    · subst he; rw [ej]
    · have hb := List.pairwise_iff_getElem.1 (ordL_spec r n).2 k j hk hj (by omega)
      rw [ej] at hb
      rw [h _ hlt hni] at hb
      cases hb

def outQ (q : Nat → Int) (n : Nat) (G : List Nat) : List Int := (List.range n).map fun i => q i + if i ∈ G then 1 else 0
theorem outQ_length (q : Nat → Int) (n : Nat) (G : List Nat) : (outQ q n G).length = n := by simp [outQ]
theorem outQ_get (q : Nat → Int) (n : Nat) (G : List Nat) (i : Nat) (h : i < (outQ q n G).length) : (outQ q n G)[i] = q i + if i ∈ G then 1 else 0 := by simp [outQ]
theorem outQ_step (q : Nat → Int) (n : Nat) (G : List Nat) (p : Nat) : outQ q n (G ++ [p]) = (outQ q n G).set p (q p + 1) := by
  apply List.ext_getElem
  · simp [outQ]
  intro i h1 h2
  rw [outQ_get, List.getElem_set]
  by_cases e : p = i
  · subst e; rw [if_pos rfl, if_pos (by simp)]
  · rw [if_neg e, outQ_get]
    congr 1
    have : (i ∈ G ++ [p]) ↔ i ∈ G := by simp [Ne.symm e]
    by_cases hh : i ∈ G
    · rw [if_pos hh, if_pos (this.2 hh)]
    · rw [if_neg hh, if_neg (fun h => hh (this.1 h))]
theorem take_ord (r : Nat → Int) {n k : Nat} (hk : k < (ordL r n).length) : (ordL r n).take (k + 1) = (ordL r n).take k ++ [(ordL r n)[k]] ∧ (ordL r n)[k] < n ∧ (ordL r n)[k] ∉ (ordL r n).take k := by
  refine ⟨List.take_succ_eq_append_getElem hk, ordL_lt r (List.getElem_mem hk), fun h => ?_⟩
  obtain ⟨j, hj, e⟩ := List.getElem_of_mem h
  rw [List.getElem_take] at e
  rw [List.length_take] at hj
  have := nodup_inj (ordL_nodup r n) (by omega) hk e
  omega

/-- What is left after the whole parts. -/
theorem rest_sum (t s : Int) (h0 : 0 ≤ t) (hs : 1 ≤ s) : ∀ ws : List Int, (∀ w ∈ ws, 0 ≤ w) → s * (ws.map fun w => (t * w).tdiv s).sum ≤ t * ws.sum ∧ t * ws.sum ≤ s * (ws.map fun w => (t * w).tdiv s).sum + ws.length * (s - 1)
  | [], _ => by simp
  | w :: ws, h => by
    obtain ⟨a, b⟩ := rest_sum t s h0 hs ws (fun x hx => h x (List.mem_cons_of_mem _ hx))
    have hw := h w (by simp)
    have hp := Int.mul_nonneg h0 hw
    have e1 := Int.tdiv_eq_ediv_of_nonneg (b := s) hp
    have e2 := Int.mul_ediv_add_emod (t * w) s
    have e3 := Int.emod_nonneg (t * w) (show s ≠ 0 by omega)
    have e4 := Int.emod_lt_of_pos (t * w) (show 0 < s by omega)
    simp only [List.map_cons, List.sum_cons, List.length_cons]
    rw [e1, Int.mul_add, Int.mul_add]
    have e5 : ((ws.length + 1 : Nat) : Int) * (s - 1) = ws.length * (s - 1) + (s - 1) := by
      rw [Int.natCast_add, Int.add_mul]; simp
    rw [e5]
    constructor <;> omega
theorem rest_bound (t s : Int) (h0 : 0 ≤ t) (hs : 1 ≤ s) (ws : List Int) (hw : ∀ w ∈ ws, 0 ≤ w) (hsum : ws.sum = s) : 0 ≤ t - (ws.map fun w => (t * w).tdiv s).sum ∧ t - (ws.map fun w => (t * w).tdiv s).sum ≤ ws.length := by
  obtain ⟨a, b⟩ := rest_sum t s h0 hs ws hw
  rw [hsum] at a b
  obtain ⟨Q, hQ⟩ : ∃ Q, (ws.map fun w => (t * w).tdiv s).sum = Q := ⟨_, rfl⟩
  rw [hQ] at a b ⊢
  have e1 : t * s = s * t := Int.mul_comm _ _
  rw [e1] at a b
  have c1 : Q ≤ t := Int.le_of_mul_le_mul_left a (by omega)
  refine ⟨by omega, ?_⟩
  have e2 : s * t - s * Q = s * (t - Q) := by rw [Int.mul_sub]
  have e3 : (ws.length : Int) * (s - 1) ≤ s * ws.length := by
    rw [Int.mul_sub, Int.mul_comm s]; omega
  exact Int.le_of_mul_le_mul_left (show s * (t - Q) ≤ s * ws.length by omega) (by omega)

/-- What can be given out. -/
def SoP (t : Int) (ws : List Int) : Prop := (0 ≤ t ∧ t ≤ 1000000000) ∧ (1 ≤ ws.length ∧ ws.length ≤ 20) ∧ (∀ w ∈ ws, 0 ≤ w ∧ w ≤ 1000000000) ∧ 1 ≤ ws.sum ∧ ws.sum ≤ 1000000000
def qOf (t : Int) (ws : List Int) (i : Nat) : Int := (t * ws.getD i 0).tdiv ws.sum
/-- A place, the first one for what is none. -/
def ixN (n x : Nat) : Nat := if x < n then x else 0
theorem ixN_in {n x : Nat} (h : x < n) : ixN n x = x := if_pos h
theorem ixN_lt {n : Nat} (h : 0 < n) (x : Nat) : ixN n x < n := by unfold ixN; split <;> omega
def rOf (t : Int) (ws : List Int) (i : Nat) : Int := (t * ws.getD (ixN ws.length i) 0).tmod ws.sum
def cmR (r : Nat → Int) (x y : Nat) : Int := if r y < r x then -1 else if r x < r y then 1 else 0
theorem cmR_lt (r : Nat → Int) (x y : Nat) : decide (cmR r x y < 0) = gtB r x y := by
  unfold cmR gtB
  rw [decide_eq_decide]
  split
  · simp_all
  · split <;> simp_all
def leftOf (t : Int) (ws : List Int) : Nat := (t - (ws.map fun w => (t * w).tdiv ws.sum).sum).toNat
def soX (t : Int) (ws : List Int) : List Int := outQ (qOf t ws) ws.length ((ordL (rOf t ws) ws.length).take (leftOf t ws))

theorem sum_nonneg : ∀ l : List Int, (∀ x ∈ l, 0 ≤ x) → 0 ≤ l.sum
  | [], _ => by simp
  | x :: l, h => by
    have a := sum_nonneg l fun y hy => h y (List.mem_cons_of_mem _ hy)
    have b := h x (by simp)
    simp only [List.sum_cons]; omega
theorem sum_take_le (l : List Int) (h : ∀ x ∈ l, 0 ≤ x) (k : Nat) : 0 ≤ (l.take k).sum ∧ (l.take k).sum ≤ l.sum := by
  have e : l.sum = (l.take k).sum + (l.drop k).sum := by rw [← List.sum_append, List.take_append_drop]
  have a := sum_nonneg (l.take k) fun x hx => h x (List.mem_of_mem_take hx)
  have b := sum_nonneg (l.drop k) fun x hx => h x (List.mem_of_mem_drop hx)
  omega
theorem elem_le_sum (l : List Int) (h : ∀ x ∈ l, 0 ≤ x) (k : Nat) (hk : k < l.length) : l[k] ≤ l.sum := by
  have a := sum_take_le l h (k + 1)
  have b := sum_take_le l h k
  have e : (l.take (k + 1)).sum = (l.take k).sum + l[k] := by rw [List.take_succ_eq_append_getElem hk, List.sum_append]; simp
  omega
def qsL (t : Int) (ws : List Int) : List Int := ws.map fun w => (t * w).tdiv ws.sum
theorem qsL_length (t : Int) (ws : List Int) : (qsL t ws).length = ws.length := by simp [qsL]
theorem qsL_get (t : Int) (ws : List Int) (k : Nat) (h : k < (qsL t ws).length) : (qsL t ws)[k] = (t * ws[k]'(by simpa [qsL] using h)).tdiv ws.sum := by simp [qsL]
theorem outQ_nil (t : Int) (ws : List Int) : outQ (qOf t ws) ws.length [] = qsL t ws := by
  apply List.ext_getElem
  · simp [outQ, qsL]
  intro i h1 h2
  have hi : i < ws.length := by simpa [qsL] using h2
  rw [outQ_get, qsL_get]
  simp [qOf, hi]
theorem so_nonneg {t : Int} {ws : List Int} (h : SoP t ws) : ∀ x ∈ qsL t ws, 0 ≤ x := by
  intro x hx
  obtain ⟨w, hw, rfl⟩ := List.mem_map.1 hx
  exact Int.tdiv_nonneg (Int.mul_nonneg h.1.1 (h.2.2.1 w hw).1) (by have := h.2.2.2.1; omega)
theorem so_left {t : Int} {ws : List Int} (h : SoP t ws) : 0 ≤ t - (qsL t ws).sum ∧ t - (qsL t ws).sum ≤ ws.length := rest_bound t ws.sum h.1.1 h.2.2.2.1 ws (fun w hw => (h.2.2.1 w hw).1) rfl
theorem so_part {t : Int} {ws : List Int} (h : SoP t ws) (k : Nat) : 0 ≤ t - ((qsL t ws).take k).sum ∧ t - ((qsL t ws).take k).sum ≤ 1000000000 := by
  have a := sum_take_le _ (so_nonneg h) k
  have b := so_left h
  have c := h.1
  omega
theorem so_q {t : Int} {ws : List Int} (h : SoP t ws) (k : Nat) (hk : k < (qsL t ws).length) : 0 ≤ (qsL t ws)[k] ∧ (qsL t ws)[k] ≤ 1000000000 := by
  have a := elem_le_sum _ (so_nonneg h) k hk
  have b := so_left h
  have c := h.1
  exact ⟨so_nonneg h _ (List.getElem_mem hk), by omega⟩
theorem so_mul {t y : Int} (h0 : 0 ≤ t) (h1 : t ≤ 1000000000) (h2 : 0 ≤ y) (h3 : y ≤ 1000000000) : 0 ≤ t * y ∧ t * y ≤ 1000000000000000000 := by
  refine ⟨Int.mul_nonneg h0 h2, ?_⟩
  have a := Int.mul_le_mul h1 h3 h2 (by omega)
  omega
theorem so_mod {a s : Int} (h0 : 0 ≤ a) (h1 : 1 ≤ s) (h2 : s ≤ 1000000000) : 0 ≤ a.tmod s ∧ a.tmod s ≤ 1000000000 := by
  rw [Int.tmod_eq_emod_of_nonneg h0]
  have b := Int.emod_nonneg a (show s ≠ 0 by omega)
  have c := Int.emod_lt_of_pos a (show 0 < s by omega)
  omega
theorem so_div {a s : Int} (h0 : 0 ≤ a) (h1 : 1 ≤ s) (h2 : a ≤ 1000000000000000000) : 0 ≤ a.tdiv s ∧ a.tdiv s ≤ 1000000000000000000 := by
  rw [Int.tdiv_eq_ediv_of_nonneg h0]
  have b := Int.ediv_nonneg h0 (show 0 ≤ s by omega)
  have c := Int.ediv_le_self s h0
  omega
theorem leftOf_eq {t : Int} {ws : List Int} (h : SoP t ws) : ((leftOf t ws : Nat) : Int) = t - (qsL t ws).sum ∧ leftOf t ws ≤ ws.length := by
  have a := so_left h
  have e : ((leftOf t ws : Nat) : Int) = t - (qsL t ws).sum := by
    show (((t - (qsL t ws).sum).toNat : Nat) : Int) = _
    omega
  exact ⟨e, by omega⟩
theorem outQ_bd {t : Int} {ws : List Int} (h : SoP t ws) (G : List Nat) (i : Nat) (hi : i < (outQ (qOf t ws) ws.length G).length) : 0 ≤ (outQ (qOf t ws) ws.length G)[i] ∧ (outQ (qOf t ws) ws.length G)[i] ≤ 1000000001 := by
  have hi' : i < ws.length := by simpa [outQ] using hi
  have a := so_q h i (by rw [qsL_length]; exact hi')
  have e : (qsL t ws)[i]'(by rw [qsL_length]; exact hi') = qOf t ws i := by rw [qsL_get]; simp [qOf, hi']
  rw [e] at a
  rw [outQ_get]
  split <;> omega
/-- The truth values of what has been given. -/
def gavB (n : Nat) (G : List Nat) : List Bool := (List.range n).map fun i => decide (i ∈ G)
theorem gavB_length (n : Nat) (G : List Nat) : (gavB n G).length = n := by simp [gavB]
theorem gavB_get (n : Nat) (G : List Nat) (i : Nat) (h : i < (gavB n G).length) : (gavB n G)[i] = decide (i ∈ G) := by simp [gavB]
theorem gavB_nil (n : Nat) : gavB n [] = List.replicate n false := by
  apply List.ext_getElem
  · simp [gavB]
  intro i h1 h2
  simp [gavB]
theorem gavB_step (n : Nat) (G : List Nat) (p : Nat) : gavB n (G ++ [p]) = (gavB n G).set p true := by
  apply List.ext_getElem
  · simp [gavB]
  intro i h1 h2
  rw [gavB_get, List.getElem_set]
  by_cases e : p = i
  · subst e; simp
  · rw [if_neg e, gavB_get]
    simp [Ne.symm e]
theorem pickR_rng (r : Nat → Int) (G : List Nat) (m : Nat) : -1 ≤ pickR r G m ∧ pickR r G m < m := by
  rcases pickR_spec r G m with ⟨e, _⟩ | ⟨p, hp, e, _⟩ <;> omega
theorem pickR_in {r : Nat → Int} {G : List Nat} {m : Nat} (h : m ∈ G) : pickR r G (m + 1) = pickR r G m := by
  rw [pickR, if_neg (by simp [h])]
theorem pickR_first {r : Nat → Int} {G : List Nat} {m : Nat} (h : m ∉ G) (h2 : pickR r G m < 0) : pickR r G (m + 1) = m := by
  rw [pickR, if_pos ⟨h, .inl h2⟩]
theorem pickR_more {r : Nat → Int} {G : List Nat} {m p : Nat} (h : m ∉ G) (h1 : pickR r G m = p) (h2 : r p < r m) : pickR r G (m + 1) = m := by
  rw [pickR, if_pos ⟨h, .inr (by rw [h1]; simpa using h2)⟩]
theorem pickR_less {r : Nat → Int} {G : List Nat} {m p : Nat} (h1 : pickR r G m = p) (h2 : ¬ r p < r m) : pickR r G (m + 1) = pickR r G m := by
  rw [pickR, if_neg]
  rintro ⟨_, h | h⟩
  · omega
  · rw [h1] at h; exact h2 (by simpa using h)

def TotP (ws : List Int) : Prop := ws.length ≤ 20 ∧ ∀ w ∈ ws, 0 ≤ w ∧ w ≤ 1000000000
open Classical in
noncomputable def totX (ws : List Int) : Int := if TotP ws then ws.sum else -1
theorem soP_iff {t : Int} {ws : List Int} : SoP t ws ↔ inB t 0 1000000000 = true ∧ inB (totX ws) 1 1000000000 = true := by
  rw [inB_true, inB_true]
  by_cases h : TotP ws
  · rw [show totX ws = ws.sum from if_pos h]
    refine ⟨fun hh => ⟨hh.1, hh.2.2.2⟩, fun hh => ⟨hh.1, ⟨?_, h.1⟩, h.2, hh.2⟩⟩
    by_cases e : ws = []
    · rw [e] at hh; simp at hh
    · have := List.length_pos_iff.2 e; omega
  · rw [show totX ws = -1 from if_neg h]
    exact ⟨fun hh => absurd ⟨hh.2.1.2, hh.2.2.1⟩ h, fun hh => absurd hh.2.1 (by omega)⟩
theorem soP_tot {t : Int} {ws : List Int} (h : SoP t ws) : totX ws = ws.sum := if_pos ⟨h.2.1.2, h.2.2.1⟩
open Classical in
noncomputable def outB (t : Int) (ws : List Int) : Bool := decide (SoP t ws)
open Classical in
noncomputable def outX (t : Int) (ws : List Int) : List Int := if SoP t ws then soX t ws else []
open Classical in
theorem out_no {t : Int} {ws : List Int} (h : ¬ SoP t ws) : outB t ws = false ∧ outX t ws = [] := ⟨decide_eq_false h, if_neg h⟩
open Classical in
theorem out_yes {t : Int} {ws : List Int} (h : SoP t ws) : outB t ws = true ∧ outX t ws = soX t ws := ⟨decide_eq_true h, if_pos h⟩
theorem outX_small (t : Int) (ws : List Int) : (outX t ws).length ≤ 20 := by
  by_cases h : SoP t ws
  · rw [(out_yes h).2]; unfold soX; rw [outQ_length]; exact h.2.1.2
  · rw [(out_no h).2]; simp
end Go.Proofs.Ytomkhjcejjkelaa
