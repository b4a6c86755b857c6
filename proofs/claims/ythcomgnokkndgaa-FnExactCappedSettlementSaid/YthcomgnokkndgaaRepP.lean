/- Ballots kept as lists, one for each end: what such lists say of a settlement, in plain Lean. -/
import Derived.Test.YthcomgnokkndgaaMatch
namespace Go.Proofs.Ythcomgnokkndgaa

def updW {α : Type} (W : Int → α) (e : Int) (l : α) : Int → α := fun x => if x = e then l else W x
theorem updW_same {α : Type} (W : Int → α) (e : Int) (l : α) : updW W e l e = l := by simp [updW]
theorem updW_other {α : Type} {W : Int → α} {e x : Int} (l : α) (h : x ≠ e) : updW W e l x = W x := by simp [updW, h]
/-- The lists at the ends outside of S. -/
structure Rep (n : Nat) (f : Nat → Int) (S : Int → Bool) (W : Int → List Int) : Prop where
  len : ∀ e : Int, 0 ≤ e → e < (n : Int) → S e = false → (W e).length = cnt n f e
  mem : ∀ e : Int, 0 ≤ e → e < (n : Int) → S e = false → ∀ x, x ∈ W e ↔ ∃ j : Nat, j < n ∧ x = (j : Int) ∧ f j = e
  nod : ∀ e : Int, 0 ≤ e → e < (n : Int) → S e = false → ∀ a b (ha : a < (W e).length) (hb : b < (W e).length), (W e)[a] = (W e)[b] → a = b
section
variable {n : Nat} {E : Nat → List Int} {cap : Int → Int} {f f1 : Nat → Int} {S S1 : Int → Bool} {W W1 : Int → List Int} {x : Int}
theorem Rep.mono (h : Rep n f S W) (hm : ∀ e, S e = true → S1 e = true) : Rep n f S1 W := by
  have hf : ∀ e, S1 e = false → S e = false := fun e he => by
    cases hs : S e
    · rfl
    · rw [hm e hs] at he; cases he
  exact ⟨fun e a b c => h.len e a b (hf e c), fun e a b c => h.mem e a b (hf e c), fun e a b c => h.nod e a b (hf e c)⟩
theorem Rep.empty (h : ∀ j, j < n → f j = -1) : Rep n f S (fun _ => []) :=
  ⟨fun e he _ _ => (ct_none fun i hi => by rw [h i hi]; exact decide_eq_false (by omega)).symm, fun e he _ _ x => ⟨fun hx => (by cases hx), fun ⟨j, hj, _, hf⟩ => by rw [h j hj] at hf; omega⟩, fun e _ _ _ a b ha => by simp at ha⟩
theorem set_mem {l : List Int} {k : Nat} {o i y : Int} (hk : k < l.length) (ho : l[k] = o) (hn : ∀ a b (ha : a < l.length) (hb : b < l.length), l[a] = l[b] → a = b) : y ∈ l.set k i ↔ y = i ∨ (y ∈ l ∧ y ≠ o) := by
  constructor
  · intro h
    obtain ⟨j, hj, rfl⟩ := List.getElem_of_mem h
    rw [List.getElem_set]
    have hjl : j < l.length := by simpa using hj
    split
    · exact .inl rfl
    · rename_i hkj
      refine .inr ⟨List.getElem_mem _, fun e => hkj (hn k j hk hjl (by rw [ho, e]))⟩
  · rintro (rfl | ⟨hy, hne⟩)
    · exact List.mem_iff_getElem.2 ⟨k, by simpa using hk, by simp⟩
    · obtain ⟨j, hj, rfl⟩ := List.getElem_of_mem hy
      have : k ≠ j := fun e => by subst e; exact hne ho
      exact List.mem_iff_getElem.2 ⟨j, by simpa using hj, by rw [List.getElem_set_ne this]⟩
theorem Rep.base (h : Rep n f S W) {i : Nat} (hi : i < n) (h0 : 0 ≤ x) (hxn : x < (n : Int)) (hS : S x = false) (hfi : f i = -1 ∨ S (f i) = true) : Rep n (upd f i x) S (updW W x (W x ++ [(i : Int)])) := by
  have hne : ∀ e, 0 ≤ e → S e = false → f i ≠ e := fun e he hs q => by
    rcases hfi with z | z
    · omega
    · rw [q, hs] at z; cases z
  have hni : (i : Int) ∉ W x := fun hm => by
    obtain ⟨j, hj, hij, hfj⟩ := (h.mem x h0 hxn hS _).1 hm
    have : i = j := by omega
    subst this
    exact hne x h0 hS hfj
  refine ⟨fun e he hen hs => ?_, fun e he hen hs y => ?_, fun e he hen hs a b ha hb hab => ?_⟩
  · have c := cnt_upd f x e hi
    rw [if_neg (hne e he hs)] at c
    by_cases hex : e = x
    · subst hex; rw [updW_same, if_pos rfl] at *; simp only [List.length_append, List.length_singleton]; rw [h.len e he hen hs]; omega
    · rw [updW_other _ hex, h.len e he hen hs]; rw [if_neg (fun q => hex q.symm)] at c; omega
  · by_cases hex : e = x
    · subst hex
      rw [updW_same, List.mem_append, h.mem e he hen hs, List.mem_singleton]
      constructor
      · rintro (⟨j, hj, rfl, hfj⟩ | rfl)
        · by_cases hji : j = i
          · subst hji; exact ⟨j, hj, rfl, upd_same _ _ _⟩
          · exact ⟨j, hj, rfl, by rw [upd_other _ hji]; exact hfj⟩
        · exact ⟨i, hi, rfl, upd_same _ _ _⟩
      · rintro ⟨j, hj, rfl, hfj⟩
        by_cases hji : j = i
        · subst hji; exact .inr rfl
        · rw [upd_other _ hji] at hfj; exact .inl ⟨j, hj, rfl, hfj⟩
    · rw [updW_other _ hex, h.mem e he hen hs]
      constructor
      · rintro ⟨j, hj, rfl, hfj⟩
        have hji : j ≠ i := fun q => by subst q; exact hne e he hs hfj
        exact ⟨j, hj, rfl, by rw [upd_other _ hji]; exact hfj⟩
      · rintro ⟨j, hj, rfl, hfj⟩
        have hji : j ≠ i := fun q => by subst q; rw [upd_same] at hfj; exact hex hfj.symm
        rw [upd_other _ hji] at hfj; exact ⟨j, hj, rfl, hfj⟩
  · by_cases hex : e = x
    · subst hex
      simp only [updW_same] at ha hb hab
      rw [List.length_append, List.length_singleton] at ha hb
      have key : ∀ a (ha : a < (W e ++ [(i : Int)]).length), (W e ++ [(i : Int)])[a] = i → a = (W e).length := fun a ha q => by
        by_cases hal : a < (W e).length
        · rw [List.getElem_append_left hal] at q
          exact absurd (q ▸ List.getElem_mem hal) hni
        · rw [List.length_append, List.length_singleton] at ha; omega
      by_cases hal : a < (W e).length
      · by_cases hbl : b < (W e).length
        · rw [List.getElem_append_left hal, List.getElem_append_left hbl] at hab
          exact h.nod e he hen hs a b hal hbl hab
        · have q : (W e ++ [(i : Int)])[b]'(by simp; omega) = i := by rw [List.getElem_append_right (by omega)]; simp
          rw [q] at hab
          have := key a (by simp; omega) hab
          omega
      · have q : (W e ++ [(i : Int)])[a]'(by simp; omega) = i := by rw [List.getElem_append_right (by omega)]; simp
        rw [q] at hab
        have := key b (by simp; omega) hab.symm
        omega
    · simp only [updW_other _ hex] at ha hb hab
      exact h.nod e he hen hs a b ha hb hab

theorem Rep.step (h : Rep n f S W) {i o k : Nat} (hi : i < n) (ho : o < n) (ha : Aug n E cap f S1 o f1) (h1 : Rep n f1 S1 W1) (hm : ∀ e, S e = true → S1 e = true) (hW : ∀ e, S1 e = true → W1 e = W e) (h0 : 0 ≤ x) (hxn : x < (n : Int)) (hS : S x = false) (hS1 : S1 x = true)
    (hfo : f o = x) (hfi : f i = -1 ∨ S (f i) = true) (hk : k < (W x).length) (hko : (W x)[k] = (o : Int)) : Rep n (upd f1 i x) S (updW W1 x ((W x).set k (i : Int))) := by
  have hne : ∀ e, 0 ≤ e → S e = false → f i ≠ e := fun e he hs q => by
    rcases hfi with z | z
    · omega
    · rw [q, hs] at z; cases z
  have hio : i ≠ o := fun q => by subst q; exact hne x h0 hS hfo
  have e1 : f1 i = f i := by
    rcases hfi with q | q
    · rcases ha.ok i hi hio with z | z
      · exact z
      · exact absurd q z.1
    · exact ha.keep i hi hio (hm _ q)
  have hf1o : ∀ e, S1 e = true → f1 o ≠ e := fun e he q => by have := ha.out; rw [q, he] at this; cases this
  obtain ⟨ek, k1, k2, k3, k4⟩ := ha.cnts
  have both : ∀ e, 0 ≤ e → S1 e = true → ∀ j, j < n → j ≠ o → (f1 j = e ↔ f j = e) := fun e _ he j hj hjo =>
    ⟨fun q => by rw [← q, ha.keep' j hj hjo (by rw [q]; exact he)], fun q => by rw [ha.keep j hj hjo (by rw [q]; exact he)]; exact q⟩
  refine ⟨fun e he hen hs => ?_, fun e he hen hs y => ?_, fun e he hen hs a b hal hbl hab => ?_⟩
  · have c := cnt_upd f1 x e hi
    rw [e1, if_neg (hne e he hs)] at c
    by_cases hex : e = x
    · subst hex
      rw [updW_same, List.length_set, h.len e he hen hs]
      have := k4 e
      rw [if_pos hfo, if_neg (fun q => by rw [q, k2] at hS1; cases hS1)] at this
      rw [if_pos rfl] at c
      omega
    · rw [updW_other _ hex]
      rw [if_neg (fun q => hex q.symm)] at c
      cases hs1 : S1 e
      · rw [h1.len e he hen hs1]; omega
      · rw [hW e hs1, h.len e he hen hs]
        have := k4 e
        rw [if_neg (fun q => hex (q.symm.trans hfo)), if_neg (fun q => by rw [q, k2] at hs1; cases hs1)] at this
        omega
  · by_cases hex : e = x
    · subst hex
      rw [updW_same, set_mem hk hko (h.nod e he hen hs)]
      constructor
      · rintro (rfl | ⟨hy, hyo⟩)
        · exact ⟨i, hi, rfl, upd_same _ _ _⟩
        · obtain ⟨j, hj, rfl, hfj⟩ := (h.mem e he hen hs _).1 hy
          have hjo : j ≠ o := fun q => hyo (by rw [q])
          have hji : j ≠ i := fun q => by subst q; exact hne e he hs hfj
          exact ⟨j, hj, rfl, by rw [upd_other _ hji]; exact (both e he hS1 j hj hjo).2 hfj⟩
      · rintro ⟨j, hj, rfl, hfj⟩
        by_cases hji : j = i
        · subst hji; exact .inl rfl
        · rw [upd_other _ hji] at hfj
          have hjo : j ≠ o := fun q => by subst q; exact hf1o e hS1 hfj
          exact .inr ⟨(h.mem e he hen hs _).2 ⟨j, hj, rfl, (both e he hS1 j hj hjo).1 hfj⟩, fun q => hjo (by omega)⟩
    · rw [updW_other _ hex]
      have hue : ∀ j, upd f1 i x j = e ↔ j ≠ i ∧ f1 j = e := fun j => by
        by_cases hji : j = i
        · subst hji; rw [upd_same]; exact ⟨fun q => absurd q.symm hex, fun q => absurd rfl q.1⟩
        · rw [upd_other _ hji]; exact ⟨fun q => ⟨hji, q⟩, fun q => q.2⟩
      have hif : f1 i ≠ e := by rw [e1]; exact hne e he hs
      cases hs1 : S1 e
      · rw [h1.mem e he hen hs1]
        constructor
        · rintro ⟨j, hj, rfl, hfj⟩
          exact ⟨j, hj, rfl, (hue j).2 ⟨fun q => by subst q; exact hif hfj, hfj⟩⟩
        · rintro ⟨j, hj, rfl, hfj⟩
          exact ⟨j, hj, rfl, ((hue j).1 hfj).2⟩
      · rw [hW e hs1, h.mem e he hen hs]
        constructor
        · rintro ⟨j, hj, rfl, hfj⟩
          have hjo : j ≠ o := fun q => by subst q; exact hex (hfj.symm.trans hfo)
          refine ⟨j, hj, rfl, (hue j).2 ⟨fun q => by subst q; exact hne e he hs hfj, (both e he hs1 j hj hjo).2 hfj⟩⟩
        · rintro ⟨j, hj, rfl, hfj⟩
          obtain ⟨hji, q⟩ := (hue j).1 hfj
          have hjo : j ≠ o := fun q2 => by subst q2; exact hf1o e hs1 q
          exact ⟨j, hj, rfl, (both e he hs1 j hj hjo).1 q⟩
  · by_cases hex : e = x
    · subst hex
      simp only [updW_same] at hal hbl hab
      rw [List.length_set] at hal hbl
      have hni : ∀ a (ha : a < (W e).length), (W e)[a] ≠ (i : Int) := fun a ha q => by
        obtain ⟨j, hj, hij, hfj⟩ := (h.mem e he hen hs _).1 (q ▸ List.getElem_mem ha)
        have : i = j := by omega
        subst this
        exact hne e he hs hfj
      rw [List.getElem_set, List.getElem_set] at hab
      split at hab
      · split at hab
        · omega
        · exact absurd hab.symm (hni b hbl)
      · split at hab
        · exact absurd hab (hni a hal)
        · exact h.nod e he hen hs a b hal hbl hab
    · simp only [updW_other _ hex] at hal hbl hab
      cases hs1 : S1 e
      · exact h1.nod e he hen hs1 a b hal hbl hab
      · simp only [hW e hs1] at hal hbl hab
        exact h.nod e he hen hs a b hal hbl hab
end
end Go.Proofs.Ythcomgnokkndgaa
