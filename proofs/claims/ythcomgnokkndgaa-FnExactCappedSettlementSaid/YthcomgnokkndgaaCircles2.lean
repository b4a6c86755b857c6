/- FirstCircles on both sides: the walks. -/
import Derived.Test.YthcomgnokkndgaaCircles
import Derived.Test.YthcomgnokkndgaaGraph
import Derived.Test.YthcomgnokkndgaaRowsMark
import Derived.Test.YthcomgnokkndgaaCells
namespace Go.Proofs.Ythcomgnokkndgaa
open Go.RowKit

theorem RetB.told' {P : Prop} {e : Ending} {b : Bool} (h : RetB P e) (hb : b = true ↔ P) : e = .returned (.bool b) := by
  obtain ⟨c, rfl, hc⟩ := h
  have : c = b := by rw [Bool.eq_iff_iff, hc, hb]
  rw [this]
open Classical in
noncomputable def okB (L : List VD) : Bool := decide (OkV L)
theorem okB_iff {L : List VD} {b : Bool} (h : okB L = b) : b = true ↔ OkV L := by subst h; simp [okB]
open Classical in
noncomputable def circX (L : List VD) : List (List Int) := if OkV L then circlesTo L L.length else []


theorem orb_next {L : List VD} {m : Int} {k : Nat} (h : 0 ≤ orb L m k) : orb L m (k + 1) = fst1 L (orb L m k) := by rw [orb, if_neg (by omega)]
theorem own_one (x : World) (n : Int) : OwnI x.heap.size (x.heap.size + 1) (x.alloc (.cells #[iv n] 2)) (.slice (some ⟨x.heap.size, 0, none⟩) 1 1) [n] :=
  .inr ⟨_, _, rfl, Nat.le_refl _, by omega, World.ownsRow_lit x #[iv n] 1 (Nat.le_refl _) (by unfold maxLen; omega) (by rfl)⟩


theorem circX_small {L : List VD} : (circX L).length ≤ 12 ∧ ∀ x ∈ circX L, x.length ≤ 12 := by
  unfold circX
  split
  · rename_i h
    have hl := h.2
    refine ⟨Nat.le_trans (circlesTo_length L _) hl.2, fun x hx => ?_⟩
    simp only [circlesTo, List.mem_flatMap, List.mem_range] at hx
    obtain ⟨m, hm, hx⟩ := hx
    by_cases hg : ∃ j, Good L (m : Int) j
    · obtain ⟨j, hj⟩ := hg
      rw [circAt_yes hj] at hx
      simp only [List.mem_singleton] at hx
      subst hx
      rw [circ_length]
      have := hj.le h (by omega) (by omega); omega
    · rw [circAt_no fun j hj => hg ⟨j, hj⟩] at hx; cases hx
  · simp
theorem cnt_few (xs : List (List Int)) (n : Nat) (h : ∀ x ∈ xs, x.length ≤ n) : cntRows intKind xs ≤ n * xs.length := by
  induction xs with
  | nil => simp [cntRows]
  | cons a l ih =>
    have h0 := h a (List.mem_cons_self ..)
    have h1 := ih fun x hx => h x (List.mem_cons_of_mem _ hx)
    have e : cntRows intKind (a :: l) = a.length + cntRows intKind l := by simp [cntRows, intKind]
    rw [e, List.length_cons, Nat.mul_add]; omega
end Go.Proofs.Ythcomgnokkndgaa
