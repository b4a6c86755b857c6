/- Whom a path leads to, by a list that grows while it is read: plain. -/
import Derived.Test.YthcomgnokkndgaaBfs
namespace Go.Proofs.Ythcomgnokkndgaa
open Go.RowKit

/-- F has been found; the first i of F are done, of the next one the first j whom it trusts. -/
structure Fnd (L : List VD) (a : Int) (F : List Int) (i j : Nat) : Prop where
  vrt : ∀ x ∈ F, Rt L [] a x
  start : a ∈ F
  clos : ∀ k (h : k < F.length), k < i → (At L F[k]).1 = false → ∀ c ∈ (At L F[k]).2, c ∈ F
  part : ∀ (h : i < F.length), (At L F[i]).1 = false → ∀ k (h' : k < (At L F[i]).2.length), k < j → (At L F[i]).2[k] ∈ F
  nd : ∀ k (h : k < F.length), 0 ≤ F[k] ∧ F[k] < L.length ∧ F[k] ∉ F.take k

section
variable {L : List VD} {a : Int} {F : List Int} {i j : Nat}
theorem Fnd.first (h0 : 0 ≤ a) (h1 : a < L.length) : Fnd L a [a] 0 0 :=
  ⟨fun x h => by rw [List.mem_singleton.1 h]; exact .here (by simp), by simp, fun k _ h => by omega, fun _ _ k _ h => by omega, fun k h => by
    have : k = 0 := by simpa using h
    subst this
    exact ⟨h0, h1, by simp⟩⟩
theorem Fnd.few (h : Fnd L a F i j) : F.length ≤ L.length := nodup_length L.length F h.nd
theorem Fnd.speaks (h : Fnd L a F i 0) (hi : i < F.length) (hs : (At L F[i]).1 = true) : Fnd L a F (i + 1) 0 :=
  ⟨h.vrt, h.start, fun k hk hki hn c hc => by
    by_cases e : k = i
    · subst e; rw [hs] at hn; cases hn
    · exact h.clos k hk (by omega) hn c hc, fun _ _ k _ h => by omega, h.nd⟩
theorem Fnd.next (h : Fnd L a F i j) (hi : i < F.length) (hj : (At L F[i]).2.length ≤ j) : Fnd L a F (i + 1) 0 :=
  ⟨h.vrt, h.start, fun k hk hki hn c hc => by
    by_cases e : k = i
    · subst e
      obtain ⟨q, hq, e⟩ := List.getElem_of_mem hc
      rw [← e]; exact h.part hk hn q hq (by omega)
    · exact h.clos k hk (by omega) hn c hc, fun _ _ k _ h => by omega, h.nd⟩
theorem Fnd.had (h : Fnd L a F i j) (hi : i < F.length) (hj : j < (At L F[i]).2.length) (hm : (At L F[i]).2[j] ∈ F) : Fnd L a F i (j + 1) :=
  ⟨h.vrt, h.start, h.clos, fun hh hs k hk hkj => by
    by_cases e : k = j
    · subst e; exact hm
    · exact h.part hh hs k hk (by omega), h.nd⟩
theorem getElem_snoc {x : Int} {k : Nat} (hk : k < F.length) : (F ++ [x])[k]'(by simp; omega) = F[k] := List.getElem_append_left hk
theorem Fnd.add (hok : OkV L) (h : Fnd L a F i j) (hi : i < F.length) (hs : (At L F[i]).1 = false) (hj : j < (At L F[i]).2.length) (hm : (At L F[i]).2[j] ∉ F) : Fnd L a (F ++ [(At L F[i]).2[j]]) i (j + 1) := by
  have hr := hok.range hj
  refine ⟨fun x hx => ?_, List.mem_append_left _ h.start, fun k hk hki hn c hc => ?_, fun hh hs' k hk hkj => ?_, fun k hk => ?_⟩
  · rcases List.mem_append.1 hx with e | e
    · exact h.vrt x e
    · rw [List.mem_singleton.1 e]; exact (h.vrt _ (List.getElem_mem hi)).step hs (List.getElem_mem hj) (by simp)
  · have hk' : k < F.length := by omega
    rw [getElem_snoc hk'] at hn hc
    exact List.mem_append_left _ (h.clos k hk' hki hn c hc)
  · have e0 := getElem_snoc (x := (At L F[i]).2[j]) hi
    have hk2 : k < (At L F[i]).2.length := by rw [← e0]; exact hk
    have e1 : (At L (F ++ [(At L F[i]).2[j]])[i]).2[k] = (At L F[i]).2[k] := by congr 1; rw [e0]
    rw [e1]
    by_cases e : k = j
    · subst e; simp
    · exact List.mem_append_left _ (h.part hi hs k hk2 (by omega))
  · by_cases hkp : k < F.length
    · rw [getElem_snoc hkp, List.take_append_of_le_length (by omega)]; exact h.nd k hkp
    · have : k = F.length := by simp at hk; omega
      subst this
      rw [List.getElem_append_right (Nat.le_refl _)]
      simp only [Nat.sub_self, List.getElem_cons_zero]
      exact ⟨hr.1, hr.2, by rw [List.take_append_of_le_length (Nat.le_refl _), List.take_length]; exact hm⟩
theorem Fnd.all (h : Fnd L a F i j) (hi : F.length ≤ i) (x : Int) : x ∈ F ↔ Rt L [] a x := by
  refine ⟨h.vrt x, fun hx => ?_⟩
  induction hx with
  | here hn => exact h.start
  | step _ hs hc hn ih =>
    obtain ⟨k, hk, e⟩ := List.getElem_of_mem ih
    subst e
    exact h.clos k hk (by omega) hs _ hc
end

/-- The ends among the first n. -/
noncomputable def endsTo (L : List VD) (a : Int) (n : Nat) : List Int := by
  classical exact ((List.range n).map fun i : Nat => (i : Int)).filter fun s => decide ((At L s).1 = true ∧ Rt L [] a s)
theorem endsTo_yes {L : List VD} {a : Int} {n : Nat} (h : (At L n).1 = true ∧ Rt L [] a (n : Int)) : endsTo L a (n + 1) = endsTo L a n ++ [(n : Int)] := by
  simp [endsTo, List.range_succ, List.filter_append, h]
theorem endsTo_no {L : List VD} {a : Int} {n : Nat} (h : ¬ ((At L n).1 = true ∧ Rt L [] a (n : Int))) : endsTo L a (n + 1) = endsTo L a n := by
  simp only [endsTo, List.range_succ, List.filter_append, List.map_append]
  simp [h]
theorem endsTo_length (L : List VD) (a : Int) (n : Nat) : (endsTo L a n).length ≤ n := by
  unfold endsTo
  exact Nat.le_trans (List.length_filter_le _ _) (by simp)
theorem endsTo_all (L : List VD) (a : Int) : endsTo L a L.length = endsL L [] a := rfl
theorem endsL_length (L : List VD) (a : Int) : (endsL L [] a).length ≤ L.length := by rw [← endsTo_all]; exact endsTo_length _ _ _
theorem endsL_range {L : List VD} {a s : Int} (h : s ∈ endsL L [] a) : 0 ≤ s ∧ s < L.length := by
  unfold endsL at h
  obtain ⟨h, -⟩ := List.mem_filter.1 h
  obtain ⟨i, hi, rfl⟩ := List.mem_map.1 h
  have := List.mem_range.1 hi
  omega
/-- The ends of all members. -/
noncomputable def allE (L : List VD) (n : Nat) : List (List Int) := (List.range n).map fun i : Nat => endsL L [] (i : Int)
theorem allE_succ (L : List VD) (n : Nat) : allE L (n + 1) = allE L n ++ [endsL L [] (n : Int)] := by simp [allE, List.range_succ]
theorem allE_length (L : List VD) (n : Nat) : (allE L n).length = n := by simp [allE]
theorem allE_at (L : List VD) (n i : Nat) (h : i < (allE L n).length) : (allE L n)[i] = endsL L [] (i : Int) := by simp [allE]
end Go.Proofs.Ythcomgnokkndgaa
