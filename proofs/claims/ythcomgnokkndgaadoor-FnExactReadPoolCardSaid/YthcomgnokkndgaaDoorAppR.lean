/- Appending rows to a list of rows that a function owns: one row with its frame, and all rows of another list. -/
import Derived.Test.YthcomgnokkndgaaDoorApp2
namespace Go.Proofs.YthcomgnokkndgaaDoor
open Go.RowKit

section
variable {α : Type} {K : Kind α}
theorem rng_of_grown {g : Nat} {w w' : World} (hg : w.grownBy w' (some g)) : Rng g (g + 1) w w' := ⟨hg.os, hg.tape, hg.output, hg.size, fun k hk hne => hg.block k hk (by intro e; simp at e; omega)⟩
theorem Rng.trans2 {og g' : Nat} {a b c : World} (h : Rng og (og + 1) a b) (k : Rng g' (g' + 1) b c) (hg : g' = og ∨ a.heap.size ≤ g') : Rng og (og + 1) a c :=
  ⟨k.os.trans h.os, k.tape.trans h.tape, k.output.trans h.output, Nat.le_trans h.size k.size, fun i hi hr => (k.block i (Nat.lt_of_lt_of_le hi h.size) (by omega)).trans (h.block i hi hr)⟩
/-- The rows of another list behind the rows of a list: what the other's rows lie in goes over. -/
theorem OwnR.cat {T : TypeId} {lo mid0 mid hi : Nat} {w w' : World} {g c g' c' sg sc : Nat} {cs ms : List Value} {L M : List α} (hmid : mid0 ≤ mid)
    (h : OwnR K T lo mid0 w (.slice (some ⟨g, 0, none⟩) L.length c) L) (ht : OwnR K T mid hi w (.slice (some ⟨sg, 0, none⟩) M.length sc) M) (hlo : lo ≤ mid) (hhi : hi ≤ w.heap.size) (hmw : mid ≤ w.heap.size)
    (hcs : w.ownsRow lo T 1 (.slice (some ⟨g, 0, none⟩) L.length c) L.length cs) (hms : w.ownsRow mid T 1 (.slice (some ⟨sg, 0, none⟩) M.length sc) M.length ms)
    (h2 : w'.ownsRow lo T 1 (.slice (some ⟨g', 0, none⟩) (L.length + M.length) c') (L.length + M.length) (cs ++ ms))
    (hg : w.grownBy w' (some g)) (hw : g' = w.heap.size ∨ g = g') : OwnR K T lo w'.heap.size w' (.slice (some ⟨g', 0, none⟩) (L ++ M).length c') (L ++ M) := by
  rcases h with ⟨e, _⟩ | ⟨g0, cap, cs0, a, b, e, h3, h4, how, hc, hd⟩
  · simp at e
  simp only [Value.slice.injEq, Option.some.injEq, Addr.mk.injEq, and_true, true_and] at e
  obtain ⟨rfl, rfl⟩ := e
  rcases ht with ⟨e, _⟩ | ⟨g0, cap, ms0, a', b', e, h3', h4', how', hc', hd'⟩
  · simp at e
  simp only [Value.slice.injEq, Option.some.injEq, Addr.mk.injEq, and_true, true_and] at e
  obtain ⟨rfl, rfl⟩ := e
  have hsz := hg.size
  have same : ∀ {base : Nat} {v : Value} {n : Nat} {xs ys : List Value}, w.ownsRow base T 1 v n xs → w.ownsRow base T 1 v n ys → (∃ q cp, v = .slice (some ⟨q, 0, none⟩) n cp) → xs = ys := by
    rintro base v n xs ys hx hy ⟨q, cp, rfl⟩
    apply List.ext_getElem?
    intro j
    by_cases hj : j < n
    · have e1 := hx.cellAt j (by omega)
      have e2 := hy.cellAt j (by omega)
      rw [← e1, ← e2]
    · have l1 : xs.length = n := by rw [hx.1]; omega
      have l2 : ys.length = n := by rw [hy.1]; omega
      rw [List.getElem?_eq_none (by omega), List.getElem?_eq_none (by omega)]
  obtain rfl := same how hcs ⟨_, _, rfl⟩
  obtain rfl := same how' hms ⟨_, _, rfl⟩
  have l1 : cs0.length = L.length := by rw [how.1]; omega
  have l2 : ms0.length = M.length := by rw [how'.1]; omega
  have hlt' := (h2.lt g' rfl)
  have hr := rng_of_grown hg
  refine .inr ⟨g', c', cs0 ++ ms0, fun i => if i < L.length then a i else a' (i - L.length), fun i => if i < L.length then b i else b' (i - L.length), rfl, hlt'.1, hlt'.2, by rw [List.length_append]; exact h2, fun i hi' => ?_, fun i j hij hj => ?_⟩
  · by_cases hil : i < L.length
    · obtain ⟨u, q1, q2, q3, q4, q5⟩ := hc i hil
      simp only [hil, if_true]
      refine ⟨u, by rw [List.getElem?_append_left (by omega)]; exact q1, ?_, q3, by omega, by omega⟩
      rw [List.getElem_append_left hil]
      exact K.own_rng q2 hr (by omega)
    · have hi2 : i - L.length < M.length := by simp at hi'; omega
      obtain ⟨u, q1, q2, q3, q4, q5⟩ := hc' (i - L.length) hi2
      simp only [hil, if_false]
      refine ⟨u, by rw [List.getElem?_append_right (by omega), l1]; exact q1, ?_, by omega, by omega, by omega⟩
      rw [List.getElem_append_right (by omega)]
      exact K.own_rng q2 hr (by omega)
  · simp only [List.length_append] at hj
    by_cases hjl : j < L.length
    · simp only [show i < L.length by omega, hjl, if_true]; exact hd i j hij hjl
    · simp only [hjl, if_false]
      obtain ⟨_, _, _, r3, _, _⟩ := hc' (j - L.length) (by omega)
      by_cases hil : i < L.length
      · obtain ⟨u, q1, q2, q3, q4, q5⟩ := hc i hil
        simp only [hil, if_true]
        left; omega
      · simp only [hil, if_false]
        exact hd' (i - L.length) (j - L.length) (by omega) (by omega)
theorem OwnR.at0 {T : TypeId} {lo hi : Nat} {w : World} {g n c : Nat} {L : List α} (h : OwnR K T lo hi w (.slice (some ⟨g, 0, none⟩) n c) L) : n = L.length ∧ lo ≤ g ∧ g < hi ∧ g < w.heap.size := by
  rcases h with ⟨e, _⟩ | ⟨g0, cap, cs0, a, b, e, h3, h4, how, hc, hd⟩
  · simp at e
  simp only [Value.slice.injEq, Option.some.injEq, Addr.mk.injEq, and_true] at e
  obtain ⟨rfl, rfl, rfl⟩ := e
  exact ⟨rfl, h3, h4, (how.lt g rfl).2⟩
end

end Go.Proofs.YthcomgnokkndgaaDoor
