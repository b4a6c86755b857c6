/- All teams of a pool in order: plain lists, no program. -/
import Derived.Test.YtoedphgoaifojaaSets
import Derived.Shelf.SlSortCmp.Whole1
namespace Go.Proofs.Ytoedphgoaifojaa
open Go.RowKit Go.Sort

def combos : Nat → List Int → List (List Int)
  | 0, _ => [[]]
  | _ + 1, [] => []
  | k + 1, a :: l => (combos k l).map (a :: ·) ++ combos (k + 1) l
def firstN (n : Nat) : List Int := (List.range n).map fun i : Nat => (i : Int)
/-- All sets of k of the numbers below n, in lexicographic order. -/
def teams (n k : Nat) : List (List Int) := combos k (firstN n)
/-- The place, counted from 1, of the last person who can be followed by the next one. -/
def atOf (n k : Nat) (now : List Int) : Nat → Nat
  | 0 => 0
  | a + 1 => if now.getD a 0 = (n : Int) - k + a then atOf n k now a else a + 1
def nextOf (k : Nat) (now : List Int) (a : Nat) : List Int := now.take a ++ (List.range (k - a)).map fun j : Nat => now.getD a 0 + 1 + (j : Int)
def succT (n k : Nat) (now : List Int) : Option (List Int) :=
  match atOf n k now k with
  | 0 => none
  | a + 1 => some (nextOf k now a)
def bitsUp (m i : Nat) : List Int := ((List.range i).filter fun j => m.testBit j).map fun j : Nat => (j : Int)
def bitsOf (m : Nat) : List Int := bitsUp m 7
def maskSets (n k : Nat) : List (List Int) := ((List.range (2 ^ n)).map bitsOf).filter fun s => s.length == k

theorem bits_end : ∀ m, m < 128 → ∀ i, i < 8 → m >>> i = 0 → bitsUp m i = bitsOf m := by decide +kernel
theorem bits_lt7 : ∀ m, m < 128 → m >>> 7 = 0 := by decide +kernel
theorem bitsUp_succ (m i : Nat) : bitsUp m (i + 1) = if m.testBit i then bitsUp m i ++ [(i : Int)] else bitsUp m i := by
  unfold bitsUp
  rw [List.range_succ, List.filter_append]
  by_cases h : m.testBit i <;> simp [h]
theorem bitsUp_len (m i : Nat) : (bitsUp m i).length ≤ i := by
  unfold bitsUp
  rw [List.length_map]
  exact Nat.le_trans (List.length_filter_le _ _) (by simp)

/-- slices.Compare at lists of numbers. -/
def lexC : List Int → List Int → Int
  | [], [] => 0
  | [], _ :: _ => -1
  | _ :: _, [] => 1
  | a :: l, b :: m => if a < b then -1 else if b < a then 1 else lexC l m
theorem lexC_self : ∀ a, lexC a a = 0
  | [] => rfl
  | a :: l => by simp [lexC, lexC_self l]
theorem lexC_swap : ∀ a b, lexC b a = - lexC a b
  | [], [] => rfl
  | [], _ :: _ => rfl
  | _ :: _, [] => rfl
  | a :: l, b :: m => by
    simp only [lexC]
    by_cases h1 : a < b
    · rw [if_neg (by omega), if_pos h1, if_pos h1]; decide
    · by_cases h2 : b < a
      · rw [if_pos h2, if_neg h1, if_pos h2]
      · rw [if_neg h2, if_neg h1, if_neg h1, if_neg h2]; exact lexC_swap l m
theorem lexC_zero : ∀ a b, lexC a b = 0 → a = b
  | [], [], _ => rfl
  | [], _ :: _, h => by simp [lexC] at h
  | _ :: _, [], h => by simp [lexC] at h
  | a :: l, b :: m, h => by
    simp only [lexC] at h
    split at h
    · cases h
    · split at h
      · cases h
      · rw [lexC_zero l m h, show a = b by omega]
theorem lexC_trans : ∀ a b c, lexC a b < 0 → lexC b c < 0 → lexC a c < 0
  | [], [], _, h, _ => by simp [lexC] at h
  | [], _ :: _, [], _, h => by simp [lexC] at h
  | [], _ :: _, _ :: _, _, _ => by simp [lexC]
  | _ :: _, [], _, h, _ => by simp [lexC] at h
  | _ :: _, _ :: _, [], _, h => by simp [lexC] at h
  | a :: l, b :: m, c :: n, h1, h2 => by
    simp only [lexC] at h1 h2 ⊢
    by_cases q1 : a < b
    · by_cases q2 : b < c
      · rw [if_pos (by omega)]; decide
      · rw [if_neg q2] at h2
        by_cases q3 : c < b
        · rw [if_pos q3] at h2; cases h2
        · rw [if_pos (by omega)]; decide
    · rw [if_neg q1] at h1
      by_cases q2 : b < a
      · rw [if_pos q2] at h1; cases h1
      · rw [if_neg q2] at h1
        by_cases q3 : b < c
        · rw [if_pos (by omega)]; decide
        · rw [if_neg q3] at h2
          by_cases q4 : c < b
          · rw [if_pos q4] at h2; cases h2
          · rw [if_neg q4] at h2
            rw [if_neg (by omega), if_neg (by omega)]
            exact lexC_trans l m n h1 h2
theorem lexC_swo {α : Type} (f : α → List Int) : SWO (Go.Proofs.ltOf fun x y => lexC (f x) (f y)) := by
  refine ⟨fun x => ?_, fun x y z h1 h2 => ?_, fun x y z h1 h2 => ?_⟩
  · simp [Go.Proofs.ltOf, lexC_self]
  · simp only [Go.Proofs.ltOf, decide_eq_true_eq] at *; exact lexC_trans _ _ _ h1 h2
  · simp only [Go.Proofs.ltOf, decide_eq_false_iff_not] at *
    intro h3
    by_cases q : lexC (f x) (f y) = 0
    · rw [lexC_zero _ _ q] at h3; exact h2 h3
    · have q2 : lexC (f y) (f x) < 0 := by rw [lexC_swap (f x) (f y)]; omega
      exact h2 (lexC_trans _ _ _ q2 h3)

theorem perm_sorted_eq {α : Type} (le : α → α → Prop) (anti : ∀ a b, le a b → le b a → a = b) : ∀ l₁ l₂ : List α, l₁.Perm l₂ → l₁.Pairwise le → l₂.Pairwise le → l₁ = l₂
  | [], l₂, hp, _, _ => (List.Perm.nil_eq hp)
  | a :: l, [], hp, _, _ => by have := hp.length_eq; simp at this
  | a :: l, b :: m, hp, h1, h2 => by
    have e : a = b := by
      have ha : a ∈ b :: m := hp.subset (by simp)
      have hb : b ∈ a :: l := hp.symm.subset (by simp)
      rcases List.mem_cons.1 ha with h | h
      · exact h
      · rcases List.mem_cons.1 hb with h' | h'
        · exact h'.symm
        · exact anti a b ((List.pairwise_cons.1 h1).1 b h') ((List.pairwise_cons.1 h2).1 a h)
    subst e
    rw [perm_sorted_eq le anti l m hp.cons_inv (List.pairwise_cons.1 h1).2 (List.pairwise_cons.1 h2).2]

instance (xs : List Int) (lo hi : Int) : Decidable (SetP xs lo hi) := by unfold SetP SetAt; infer_instance
def sortedB (L : List (List Int)) : Bool := (List.range L.length).all fun j => (List.range j).all fun i => decide (lexC (L.getD i []) (L.getD j []) < 0)
def teamsOk (n k : Nat) : Bool :=
  decide ((teams n k).length ≤ 35) && decide (1 ≤ (teams n k).length) && decide ((teams n k).getD 0 [] = firstN k) && (List.range (teams n k).length).all (fun i => decide (succT n k ((teams n k).getD i []) = (teams n k)[i + 1]?)) &&
    (teams n k).all (fun t => decide (t.length = k ∧ SetP t 0 ((n : Int) - 1))) && (maskSets n k).isPerm (teams n k) && sortedB (teams n k)
set_option maxRecDepth 100000 in
theorem teams_ok : ∀ n, n < 8 → ∀ k, k < 8 → 1 ≤ k → k ≤ n → teamsOk n k = true := by decide +kernel

structure TeamsF (n k : Nat) : Prop where
  most : (teams n k).length ≤ 35
  least : 1 ≤ (teams n k).length
  first : (teams n k).getD 0 [] = firstN k
  succ : ∀ i, i < (teams n k).length → succT n k ((teams n k).getD i []) = (teams n k)[i + 1]?
  team : ∀ t ∈ teams n k, t.length = k ∧ SetP t 0 ((n : Int) - 1)
  perm : (maskSets n k).Perm (teams n k)
  sorted : ∀ j, j < (teams n k).length → ∀ i, i < j → lexC ((teams n k).getD i []) ((teams n k).getD j []) < 0
theorem teamsF (n k : Nat) (h1 : 1 ≤ k) (h2 : k ≤ n) (h3 : n ≤ 7) : TeamsF n k := by
  have h := teams_ok n (by omega) k (by omega) h1 h2
  unfold teamsOk sortedB at h
  simp only [Bool.and_eq_true, decide_eq_true_eq, List.all_eq_true, List.mem_range, List.isPerm_iff] at h
  obtain ⟨⟨⟨⟨⟨⟨a, b⟩, c⟩, d⟩, e⟩, f⟩, g⟩ := h
  exact ⟨a, b, c, d, e, f, g⟩

/-- A sorted permutation of the sets by masks are the teams. -/
theorem teams_unique {n k : Nat} (h : TeamsF n k) (L : List (List Int)) (hp : L.Perm (maskSets n k)) (hs : ∀ i j, i < j → j < L.length → ¬ lexC (L.getD j []) (L.getD i []) < 0) : L = teams n k := by
  refine perm_sorted_eq (fun a b => ¬ lexC b a < 0) (fun a b h1 h2 => ?_) L (teams n k) (hp.trans h.perm) ?_ ?_
  · refine lexC_zero a b ?_
    have := lexC_swap a b
    omega
  · rw [List.pairwise_iff_getElem]
    intro i j hi hj hij
    have := hs i j hij hj
    simpa [hi, hj] using this
  · rw [List.pairwise_iff_getElem]
    intro i j hi hj hij
    have := h.sorted j hj i hij
    simp only [hi, hj, List.getD_eq_getElem?_getD, List.getElem?_eq_getElem, Option.getD_some] at this
    have h2 := lexC_swap (teams n k)[i] (teams n k)[j]
    omega
end Go.Proofs.Ytoedphgoaifojaa
