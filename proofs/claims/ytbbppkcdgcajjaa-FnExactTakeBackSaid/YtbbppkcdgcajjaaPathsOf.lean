/- All paths that begin with some members: PathsOf on both sides. -/
import Derived.Test.YtbbppkcdgcajjaaAppR
import Derived.Test.YtbbppkcdgcajjaaCircles2
import Derived.Test.YtbbppkcdgcajjaaSilence
namespace Go.Proofs.Ytbbppkcdgcajjaa
open Go.RowKit

def allFrom (L : List VD) : Nat → List Int → List (List Int)
  | 0, _ => []
  | f + 1, p => if (At L (p.getLast?.getD 0)).1 = true then [p] else (At L (p.getLast?.getD 0)).2.flatMap fun t => if t ∈ p then [] else allFrom L f (p ++ [t])
def stepF (L : List VD) (f : Nat) (p : List Int) (t : Int) : List (List Int) := if t ∈ p then [] else allFrom L f (p ++ [t])
theorem allFrom_speaks {L : List VD} {f : Nat} {p : List Int} {a : Int} (ha : p.getLast? = some a) (h : (At L a).1 = true) : allFrom L (f + 1) p = [p] := by rw [allFrom, ha, Option.getD_some, if_pos h]
theorem allFrom_goes {L : List VD} {f : Nat} {p : List Int} {a : Int} (ha : p.getLast? = some a) (h : (At L a).1 = false) : allFrom L (f + 1) p = (At L a).2.flatMap (stepF L f p) := by
  rw [allFrom, ha, Option.getD_some, if_neg (by rw [h]; simp)]; rfl
theorem flatMap_le {α β : Type} (xs : List α) (g : α → List β) (n : Nat) (h : ∀ x, (g x).length ≤ n) : (xs.flatMap g).length ≤ xs.length * n := by
  induction xs with
  | nil => simp
  | cons a l ih => rw [List.flatMap_cons, List.length_append, List.length_cons, Nat.add_mul]; have := h a; omega
theorem allFrom_few {L : List VD} (hok : OkV L) : ∀ (f : Nat) (p : List Int), (allFrom L f p).length ≤ 4 ^ f := by
  intro f
  induction f with
  | zero => intro p; simp [allFrom]
  | succ f ih =>
    intro p
    have h1 : 1 ≤ 4 ^ (f + 1) := Nat.one_le_pow _ _ (by omega)
    cases hs : (At L (p.getLast?.getD 0)).1
    · have e : allFrom L (f + 1) p = (At L (p.getLast?.getD 0)).2.flatMap (stepF L f p) := by rw [allFrom, if_neg (by rw [hs]; simp)]; rfl
      rw [e]
      have hf := hok.few (p.getLast?.getD 0)
      have := flatMap_le (At L (p.getLast?.getD 0)).2 (stepF L f p) (4 ^ f) fun t => by
        unfold stepF; split
        · simp
        · exact ih _
      have h2 : (At L (p.getLast?.getD 0)).2.length * 4 ^ f ≤ 4 * 4 ^ f := Nat.mul_le_mul_right _ hf
      rw [Nat.pow_succ, Nat.mul_comm]; omega
    · rw [allFrom, if_pos hs]; simpa using h1
theorem allFrom_long {L : List VD} : ∀ (f : Nat) (p x : List Int), x ∈ allFrom L f p → x.length + 1 ≤ p.length + f := by
  intro f
  induction f with
  | zero => intro p x h; simp [allFrom] at h
  | succ f ih =>
    intro p x h
    rw [allFrom] at h
    split at h
    · simp at h; subst h; omega
    · rw [List.mem_flatMap] at h
      obtain ⟨t, _, h⟩ := h
      split at h
      · cases h
      · have := ih _ _ h; simp at this; omega

/-- A path in the making. -/
def Walk (L : List VD) (p : List Int) : Prop := 0 < p.length ∧ p.length ≤ L.length ∧ ∀ k (h : k < p.length), 0 ≤ p[k] ∧ p[k] < L.length ∧ p[k] ∉ p.take k
theorem Walk.snoc {L : List VD} {p : List Int} (h : Walk L p) {t : Int} (h0 : 0 ≤ t) (h1 : t < L.length) (hn : t ∉ p) : Walk L (p ++ [t]) := by
  have key : ∀ k (h : k < (p ++ [t]).length), 0 ≤ (p ++ [t])[k] ∧ (p ++ [t])[k] < L.length ∧ (p ++ [t])[k] ∉ (p ++ [t]).take k := by
    intro k hk
    by_cases hkp : k < p.length
    · rw [List.getElem_append_left hkp, List.take_append_of_le_length (by omega)]; exact h.2.2 k hkp
    · have : k = p.length := by simp at hk; omega
      subst this
      rw [List.getElem_append_right (Nat.le_refl _)]
      simp only [Nat.sub_self, List.getElem_cons_zero]
      exact ⟨h0, h1, by rw [List.take_append_of_le_length (Nat.le_refl _), List.take_length]; exact hn⟩
  exact ⟨by simp, nodup_length L.length _ key, key⟩
theorem Walk.last {L : List VD} {p : List Int} (h : Walk L p) : ∃ a, p.getLast? = some a ∧ 0 ≤ a ∧ a < L.length ∧ ∃ hh : p.length - 1 < p.length, p[p.length - 1] = a := by
  have hl : p.length - 1 < p.length := by have := h.1; omega
  refine ⟨p[p.length - 1], ?_, (h.2.2 _ hl).1, (h.2.2 _ hl).2.1, hl, rfl⟩
  rw [List.getLast?_eq_getElem?, List.getElem?_eq_getElem hl]

theorem flatMap_take {α β : Type} (xs : List α) (g : α → List β) (k : Nat) (h : k < xs.length) : (xs.take (k + 1)).flatMap g = (xs.take k).flatMap g ++ g xs[k] := by
  rw [List.take_succ_eq_append_getElem h, List.flatMap_append]; simp
theorem allFrom_cap {L : List VD} (hok : OkV L) {f : Nat} (hf : f ≤ 6) (p : List Int) : (allFrom L f p).length ≤ 1099511627776 := by
  have h1 := allFrom_few hok f p
  have h2 : 4 ^ f ≤ 4 ^ 6 := Nat.pow_le_pow_right (by omega) hf
  have h3 : 4 ^ 6 = 4096 := by decide
  omega
theorem own_snoc_len {lo hi g c : Nat} {w : World} {xs : List Int} {x : Int} (h : OwnI lo hi w (.slice (some ⟨g, 0, none⟩) (xs ++ [x]).length c) (xs ++ [x])) : OwnI lo hi w (.slice (some ⟨g, 0, none⟩) (xs.length + 1) c) (xs ++ [x]) := by simpa using h
theorem stepF_few {L : List VD} (hok : OkV L) {f : Nat} (hf : f ≤ 6) (p : List Int) (T : List Int) (hT : T.length ≤ 4) : (T.flatMap (stepF L f p)).length ≤ 16384 := by
  have h1 := flatMap_le T (stepF L f p) (4 ^ f) fun t => by
    unfold stepF; split
    · simp
    · exact allFrom_few hok _ _
  have h2 : 4 ^ f ≤ 4 ^ 6 := Nat.pow_le_pow_right (by omega) hf
  have h3 : T.length * 4 ^ f ≤ 4 * 4 ^ 6 := Nat.mul_le_mul hT h2
  have : 4 * 4 ^ 6 = 16384 := by decide
  omega



def PathsP (L : List VD) (m : Int) : Prop := MemP L m ∧ L.length ≤ 6
open Classical in
noncomputable def pthB (L : List VD) (m : Int) : Bool := decide (PathsP L m)
open Classical in
noncomputable def pthX (L : List VD) (m : Int) : List (List Int) := if PathsP L m then allFrom L L.length [m] else []
theorem pthB_iff {L : List VD} {m : Int} {b : Bool} (h : pthB L m = b) : b = true ↔ PathsP L m := by subst h; simp [pthB]
theorem walk_one {L : List VD} {m : Int} (h : MemP L m) : Walk L [m] := by
  have hl := h.1.2
  refine ⟨by simp, by simpa using hl.1, fun k hk => ?_⟩
  have : k = 0 := by simpa using hk
  subst this
  have := h.2
  exact ⟨by simpa using this.1, by simp; omega, by simp⟩
theorem pthX_small {L : List VD} {m : Int} : (pthX L m).length ≤ 4096 ∧ ∀ x ∈ pthX L m, x.length ≤ 7 := by
  unfold pthX
  split
  · rename_i h
    refine ⟨?_, fun x hx => ?_⟩
    · have h1 := allFrom_few h.1.1 L.length [m]
      have h2 : 4 ^ L.length ≤ 4 ^ 6 := Nat.pow_le_pow_right (by omega) h.2
      have h3 : 4 ^ 6 = 4096 := by decide
      omega
    · have := allFrom_long _ _ _ hx
      have := h.2
      simp at *; omega
  · simp

theorem pow_six {n : Nat} (h : n ≤ 6) : ([] : List (List Int)).length + 4 ^ n ≤ 16384 := by
  have h2 : 4 ^ n ≤ 4 ^ 6 := Nat.pow_le_pow_right (by omega) h
  have h3 : 4 ^ 6 = 4096 := by decide
  simp only [List.length_nil]; omega

end Go.Proofs.Ytbbppkcdgcajjaa
