/- Who is trusted first, again and again: the first circles. Plain. -/
import Derived.Test.YthcomgnokkndgaaPath
namespace Go.Proofs.Ythcomgnokkndgaa
open Go.RowKit

/-- Whom a member trusts first, -1 if it speaks or trusts nobody. -/
def fst1 (L : List VD) (a : Int) : Int := if (At L a).1 = true ∨ (At L a).2.length = 0 then -1 else (At L a).2.getD 0 0
def orb (L : List VD) (m : Int) : Nat → Int
  | 0 => m
  | k + 1 => if orb L m k < 0 then -1 else fst1 L (orb L m k)
def circ (L : List VD) (m : Int) (k : Nat) : List Int := (List.range k).map (orb L m)
theorem circ_length (L : List VD) (m : Int) (k : Nat) : (circ L m k).length = k := by simp [circ]
theorem circ_get (L : List VD) (m : Int) (k i : Nat) (h : i < (circ L m k).length) : (circ L m k)[i] = orb L m i := by simp [circ]
theorem circ_succ (L : List VD) (m : Int) (k : Nat) : circ L m (k + 1) = circ L m k ++ [orb L m k] := by simp [circ, List.range_succ]
theorem mem_circ {L : List VD} {m : Int} {k : Nat} {x : Int} : x ∈ circ L m k ↔ ∃ i, i < k ∧ orb L m i = x := by simp [circ]

theorem orb_shift {L : List VD} {m : Int} {i k : Nat} (h : orb L m i = orb L m k) (d : Nat) : orb L m (i + d) = orb L m (k + d) := by
  induction d with
  | zero => exact h
  | succ d ih => rw [← Nat.add_assoc, ← Nat.add_assoc, orb, orb, ih]
theorem orb_neg {L : List VD} {m : Int} {k : Nat} (h : orb L m k < 0) (d : Nat) : orb L m (k + d) < 0 := by
  induction d with
  | zero => exact h
  | succ d ih => rw [← Nat.add_assoc, orb, if_pos ih]; decide
theorem fst1_range {L : List VD} (hok : OkV L) (a : Int) : -1 ≤ fst1 L a ∧ fst1 L a < L.length := by
  unfold fst1
  have h0 := hok.2
  split
  · omega
  · rename_i h
    have hl : 0 < (At L a).2.length := by
      rcases Nat.eq_zero_or_pos (At L a).2.length with e | e
      · exact absurd (.inr e) h
      · exact e
    by_cases ha : a.toNat < L.length
    · have e := At_eq L a ha
      have hk' : 0 < (L[a.toNat]).2.length := by rw [← e]; exact hl
      have := ((hok.1 a.toNat ha).1 0 hk').1
      have e2 : (At L a).2.getD 0 0 = (L[a.toNat]).2[0] := by rw [e]; simp [hk']
      rw [e2]; omega
    · have e : At L a = (false, []) := by simp [At]; rw [List.getElem?_eq_none (by omega)]; rfl
      rw [e] at hl; simp at hl
theorem orb_range {L : List VD} (hok : OkV L) {m : Int} (h0 : 0 ≤ m) (h1 : m < L.length) (k : Nat) : -1 ≤ orb L m k ∧ orb L m k < L.length := by
  cases k with
  | zero => simp only [orb]; omega
  | succ k =>
    rw [orb]; split
    · have := hok.2; omega
    · exact fst1_range hok _

/-- After j steps the way is back for the first time, and all between are greater. -/
def Good (L : List VD) (m : Int) (j : Nat) : Prop := 1 ≤ j ∧ orb L m j = m ∧ ∀ i, 0 < i → i < j → m < orb L m i
theorem Good.uniq {L : List VD} {m : Int} {j j' : Nat} (h : Good L m j) (h' : Good L m j') : j = j' := by
  rcases Nat.lt_trichotomy j j' with e | e | e
  · have := h'.2.2 j (by have := h.1; omega) e; have := h.2.1; omega
  · exact e
  · have := h.2.2 j' (by have := h'.1; omega) e; have := h'.2.1; omega
theorem Good.new {L : List VD} {m : Int} {j : Nat} (h : Good L m j) {k : Nat} (hk : k < j) : orb L m k ∉ circ L m k := by
  intro hm
  obtain ⟨i, hi, e⟩ := mem_circ.1 hm
  have h1 := orb_shift e (j - k)
  rw [show k + (j - k) = j by omega, h.2.1] at h1
  have h2 := h.2.2 (i + (j - k)) (by omega) (by omega)
  omega
theorem Good.nonneg {L : List VD} {m : Int} {j : Nat} (h : Good L m j) (h0 : 0 ≤ m) {k : Nat} (hk : k ≤ j) : 0 ≤ orb L m k := by
  rcases Int.lt_or_le (orb L m k) 0 with e | e
  · have := orb_neg e (j - k)
    rw [show k + (j - k) = j by omega, h.2.1] at this; omega
  · exact e
/-- Different members so far: at most as many as there are. -/
theorem circ_few {L : List VD} (hok : OkV L) {m : Int} (h0 : 0 ≤ m) (h1 : m < L.length) {k : Nat} (hn : ∀ i, i < k → 0 ≤ orb L m i ∧ orb L m i ∉ circ L m i) : k ≤ L.length := by
  have := nodup_length L.length (circ L m k) fun i hi => by
    rw [circ_length] at hi
    rw [circ_get]
    refine ⟨(hn i hi).1, (orb_range hok h0 h1 i).2, ?_⟩
    have e : (circ L m k).take i = circ L m i := by
      unfold circ; rw [← List.map_take, List.take_range, Nat.min_eq_left (by omega)]
    rw [e]; exact (hn i hi).2
  rwa [circ_length] at this
theorem Good.le {L : List VD} (hok : OkV L) {m : Int} (h0 : 0 ≤ m) (h1 : m < L.length) {j : Nat} (h : Good L m j) : j ≤ L.length :=
  circ_few hok h0 h1 fun _ hi => ⟨h.nonneg h0 (Nat.le_of_lt hi), h.new hi⟩

open Classical in
/-- The circle that is told of a member, if there is one. -/
noncomputable def circAt (L : List VD) (m : Int) : List (List Int) := if h : ∃ j, Good L m j then [circ L m h.choose] else []
theorem circAt_yes {L : List VD} {m : Int} {j : Nat} (h : Good L m j) : circAt L m = [circ L m j] := by
  have hx : ∃ j, Good L m j := ⟨j, h⟩
  unfold circAt
  rw [dif_pos hx, hx.choose_spec.uniq h]
theorem circAt_no {L : List VD} {m : Int} (h : ∀ j, ¬ Good L m j) : circAt L m = [] := by
  unfold circAt
  rw [dif_neg (fun ⟨j, hj⟩ => h j hj)]
noncomputable def circlesTo (L : List VD) (n : Nat) : List (List Int) := (List.range n).flatMap fun m : Nat => circAt L (m : Int)
theorem circlesTo_succ (L : List VD) (n : Nat) : circlesTo L (n + 1) = circlesTo L n ++ circAt L (n : Int) := by simp [circlesTo, List.range_succ, List.flatMap_append]
theorem circlesTo_length (L : List VD) (n : Nat) : (circlesTo L n).length ≤ n := by
  induction n with
  | zero => simp [circlesTo]
  | succ n ih =>
    rw [circlesTo_succ, List.length_append]
    have : (circAt L (n : Int)).length ≤ 1 := by
      by_cases h : ∃ j, Good L (n : Int) j
      · obtain ⟨j, hj⟩ := h; rw [circAt_yes hj]; simp
      · rw [circAt_no fun j hj => h ⟨j, hj⟩]; simp
    omega

/-- Where the program's walk ends. -/
theorem stop_impl {L : List VD} {m : Int} {k : Nat} (h0 : 0 ≤ m) (hn : ∀ i, i < k → 0 ≤ orb L m i ∧ orb L m i ∉ circ L m i) (hs : orb L m k ∈ circ L m k ∨ fst1 L (orb L m k) = -1) (hp : 0 ≤ orb L m k) :
    ((0 < k ∧ orb L m k = m ∧ ∀ x ∈ circ L m k, m ≤ x) → circAt L m = [circ L m k]) ∧ (¬ (0 < k ∧ orb L m k = m ∧ ∀ x ∈ circ L m k, m ≤ x) → circAt L m = []) := by
  refine ⟨fun ⟨h1, h2, h3⟩ => circAt_yes ⟨h1, h2, fun i hi hik => ?_⟩, fun hno => circAt_no fun j hj => hno ?_⟩
  · have a := h3 (orb L m i) (mem_circ.2 ⟨i, hik, rfl⟩)
    have b := (hn i hik).2
    have : orb L m i ≠ m := fun e => b (mem_circ.2 ⟨0, hi, by rw [e]; rfl⟩)
    omega
  · have hjk : j = k := by
      rcases Nat.lt_trichotomy j k with e | e | e
      · exact absurd (mem_circ.2 ⟨0, hj.1, by rw [hj.2.1]; rfl⟩) (hn j e).2
      · exact e
      · rcases hs with hs | hs
        · exact absurd hs (hj.new e)
        · have := hj.nonneg h0 (k := k + 1) e
          rw [orb, if_neg (by omega), hs] at this; omega
    subst hjk
    refine ⟨hj.1, hj.2.1, fun x hx => ?_⟩
    obtain ⟨i, hi, rfl⟩ := mem_circ.1 hx
    rcases Nat.eq_zero_or_pos i with e | e
    · subst e; exact Int.le_refl _
    · have := hj.2.2 i e hi; omega
/-- Where the reference's walk ends. -/
theorem stop_spec {L : List VD} (hok : OkV L) {m : Int} {k : Nat} (h0 : 0 ≤ m) (h1 : m < L.length) (hn : ∀ i, 0 < i → i ≤ k → m < orb L m i) (hs : L.length ≤ k ∨ orb L m (k + 1) ≤ m) :
    (orb L m (k + 1) = m → circAt L m = [circ L m (k + 1)]) ∧ (orb L m (k + 1) ≠ m → circAt L m = []) := by
  refine ⟨fun h => circAt_yes ⟨by omega, h, fun i hi hik => hn i hi (by omega)⟩, fun hno => circAt_no fun j hj => ?_⟩
  have hle := hj.le hok h0 h1
  have h2 : k + 1 < j := by
    rcases Nat.lt_trichotomy j (k + 1) with e | e | e
    · have := hn j hj.1 (by omega); have := hj.2.1; omega
    · subst e; exact absurd hj.2.1 hno
    · exact e
  have h3 := hj.2.2 (k + 1) (by omega) h2
  omega
end Go.Proofs.Ythcomgnokkndgaa
