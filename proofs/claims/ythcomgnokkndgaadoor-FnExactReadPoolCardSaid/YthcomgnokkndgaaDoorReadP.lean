/- Numbers read from their decimal text: plain lists. -/
import Derived.Test.YthcomgnokkndgaaDoorFrText
import Derived.Lib.ParseIntB
namespace Go.Proofs.YthcomgnokkndgaaDoor
open Go.RowKit

def stepD (n : Nat) (c : UInt8) : Nat := if 48 ≤ c.toNat ∧ c.toNat ≤ 57 then 10 * n + (c.toNat - 48) else n
/-- The number that the digits of a text spell, whatever else stands between them. -/
def valD (l : List UInt8) : Nat := l.foldl stepD 0
def valI (l : List UInt8) : Int := if l.head? = some 45 then -(valD l : Int) else valD l
theorem valD_snoc (l : List UInt8) (c : UInt8) : valD (l ++ [c]) = stepD (valD l) c := by simp [valD, List.foldl_append]
theorem digit_toNat (v : Nat) : (UInt8.ofNat (48 + v % 10)).toNat = 48 + v % 10 := by
  rw [UInt8.toNat_ofNat']
  exact Nat.mod_eq_of_lt (by omega)
theorem decDigits_digits (u : Nat) : ∀ c ∈ Lib.decDigits u, 48 ≤ c.toNat ∧ c.toNat ≤ 57 := by
  induction u using Nat.strongRecOn with
  | _ u ih =>
    intro c hc
    rcases Nat.eq_zero_or_pos u with e | e
    · subst e
      rw [Lib.decDigits, dif_pos (by decide)] at hc
      rw [List.mem_singleton.1 hc]; decide
    · rw [decDigits_step u e] at hc
      rcases List.mem_append.1 hc with h | h
      · split at h
        · cases h
        · exact ih (u / 10) (by omega) c h
      · rw [List.mem_singleton.1 h, digit_toNat]; omega
theorem valD_dec (u : Nat) : valD (Lib.decDigits u) = u := by
  induction u using Nat.strongRecOn with
  | _ u ih =>
    rcases Nat.eq_zero_or_pos u with e | e
    · subst e
      rw [Lib.decDigits, dif_pos (by decide)]; rfl
    · rw [decDigits_step u e, valD_snoc]
      have h0 : valD (if u / 10 = 0 then [] else Lib.decDigits (u / 10)) = u / 10 := by
        split
        · rename_i h; rw [h]; rfl
        · exact ih (u / 10) (by omega)
      rw [h0]
      unfold stepD
      rw [digit_toNat, if_pos (by omega)]
      omega
theorem decDigits_ne (u : Nat) : Lib.decDigits u ≠ [] := by
  intro h
  have := Lib.decDigits_length u
  rw [h] at this
  have h2 := Lib.nDigits_pos u
  simp at this; omega
theorem decDigits_head (u : Nat) : (Lib.decDigits u).head? ≠ some 45 := by
  intro h
  have hm : (45 : UInt8) ∈ Lib.decDigits u := List.mem_of_mem_head? h
  have := (decDigits_digits u _ hm).1
  revert this; decide
theorem valD_neg (l : List UInt8) : valD (45 :: l) = valD l := by
  show (45 :: l).foldl stepD 0 = l.foldl stepD 0
  rw [List.foldl_cons]; rfl
theorem valI_itoa (n : Int) : valI (Lib.itoa n) = n := by
  unfold Lib.itoa
  split
  · rename_i h
    unfold valI
    rw [if_pos (by rfl), valD_neg, valD_dec]; omega
  · rename_i h
    unfold valI
    rw [if_neg (decDigits_head _), valD_dec]; omega
theorem dec_bytes (n : Int) : (dec n).data.toList = Lib.itoa n := by simp [dec]
theorem dec_inj {a b : Int} (h : dec a = dec b) : a = b := by
  have h2 := congrArg (fun s : ByteArray => valI s.data.toList) h
  simp only [dec_bytes, valI_itoa] at h2
  exact h2
theorem valD_lt (l : List UInt8) : valD l < 10 ^ l.length := by
  have key : ∀ (l : List UInt8) (a k : Nat), a < 10 ^ k → l.foldl stepD a < 10 ^ (k + l.length) := by
    intro l
    induction l with
    | nil => intro a k h; simpa using h
    | cons c l ih =>
      intro a k h
      have hs : stepD a c < 10 ^ (k + 1) := by
        unfold stepD
        rw [Nat.pow_succ]
        split <;> omega
      have := ih (stepD a c) (k + 1) hs
      rw [List.foldl_cons, List.length_cons]
      have e : k + (l.length + 1) = k + 1 + l.length := by omega
      rw [e]; exact this
  have := key l 0 0 (by decide)
  simpa [valD] using this
theorem nDigits_le : ∀ (k u : Nat), u < 10 ^ (k + 1) → Lib.nDigits u ≤ k + 1
  | 0, u, h => by rw [Lib.nDigits_small (by simpa using h)]; omega
  | k + 1, u, h => by
    by_cases h1 : u < 10
    · rw [Lib.nDigits_small h1]; omega
    · rw [Lib.nDigits_big h1]
      have := nDigits_le k (u / 10) (by rw [Nat.pow_succ] at h; omega)
      omega
theorem itoa_short {n : Int} (h0 : -999999999 ≤ n) (h1 : n ≤ 999999999) : (Lib.itoa n).length ≤ 10 := by
  unfold Lib.itoa
  split
  · have := nDigits_le 8 n.natAbs (by have : n.natAbs ≤ 999999999 := by omega
                                      omega)
    rw [List.length_cons, Lib.decDigits_length]; omega
  · have := nDigits_le 8 n.toNat (by have : n.toNat ≤ 999999999 := by omega
                                     omega)
    rw [Lib.decDigits_length]; omega
theorem parse_digits {M : Nat} (hM : M ≤ 18446744073709551615) : ∀ (l : List UInt8) (a : Nat), (∀ c ∈ l, 48 ≤ c.toNat ∧ c.toNat ≤ 57) → l.foldl stepD a ≤ M → a ≤ l.foldl stepD a ∧ Lib.parseUintM M a l = .ok (l.foldl stepD a)
  | [], a, _, _ => ⟨Nat.le_refl _, rfl⟩
  | c :: l, a, h, hm => by
    have hc := h c (List.mem_cons_self ..)
    rw [List.foldl_cons] at hm ⊢
    obtain ⟨h1, h2⟩ := parse_digits hM l (stepD a c) (fun x hx => h x (List.mem_cons_of_mem _ hx)) hm
    have e : stepD a c = a * 10 + (c.toNat - 48) := by unfold stepD; rw [if_pos hc]; omega
    refine ⟨by omega, ?_⟩
    unfold Lib.parseUintM
    rw [if_pos hc, if_neg (by omega), if_neg (by omega), ← e]
    exact h2
theorem parse_dec (u : Nat) (h : u ≤ 18446744073709551615) : Lib.parseUintB 64 (Lib.decDigits u) = .ok u := by
  unfold Lib.parseUintB
  rw [if_neg (decDigits_ne u)]
  have e := valD_dec u
  have := (parse_digits (M := 2 ^ 64 - 1) (by decide) (Lib.decDigits u) 0 (decDigits_digits u) (by show valD _ ≤ _; rw [e]; exact h)).2
  rw [this]
  exact congrArg _ e
theorem parse_itoa (n : Int) (h0 : -9223372036854775808 ≤ n) (h1 : n ≤ 9223372036854775807) : Lib.parseIntB 64 (Lib.itoa n) = .ok n := by
  unfold Lib.itoa
  split
  · rename_i h
    unfold Lib.parseIntB
    have e1 : (45 : UInt8).toNat = 45 := rfl
    simp only [e1, or_true, if_true]
    rw [parse_dec _ (by omega)]
    simp only [not_true, false_and, if_false, true_and]
    rw [if_neg (by omega)]
    congr 1
    omega
  · rename_i h
    cases hl : Lib.decDigits n.toNat with
    | nil => exact absurd hl (decDigits_ne _)
    | cons c r =>
      have hc := decDigits_digits n.toNat c (by rw [hl]; exact List.mem_cons_self ..)
      unfold Lib.parseIntB
      dsimp only
      rw [if_neg (by omega), ← hl, parse_dec _ (by omega)]
      dsimp only
      rw [if_neg (by omega), if_neg (by omega), if_neg (by omega)]
      congr 1
      omega
theorem parse_range {l : List UInt8} {v : Int} (h : Lib.parseIntB 64 l = .ok v) : -9223372036854775808 ≤ v ∧ v ≤ 9223372036854775807 := by
  unfold Lib.parseIntB at h
  split at h
  · cases h
  · dsimp only at h
    split at h
    · cases h
    · cases h
    · rename_i u _
      split at h
      · cases h
      · split at h
        · cases h
        · injection h with h
          subst h
          split <;> omega

/-- x, b: the number between lo and hi whose text s is, and whether there is one. -/
def NumIs (lo hi : Int) (s : ByteArray) (x : Int) (b : Bool) : Prop :=
  (b = true ∧ lo ≤ x ∧ x ≤ hi ∧ dec x = s) ∨ (b = false ∧ x = 0 ∧ ∀ n, lo ≤ n → n ≤ hi → dec n ≠ s)
theorem num_some (lo hi : Int) (s : ByteArray) : ∃ x b, NumIs lo hi s x b := by
  by_cases h : ∃ n, lo ≤ n ∧ n ≤ hi ∧ dec n = s
  · obtain ⟨n, h1, h2, h3⟩ := h
    exact ⟨n, true, .inl ⟨rfl, h1, h2, h3⟩⟩
  · exact ⟨0, false, .inr ⟨rfl, rfl, fun n h1 h2 h3 => h ⟨n, h1, h2, h3⟩⟩⟩
theorem NumIs.uniq {lo hi : Int} {s : ByteArray} {x y : Int} {b c : Bool} (h : NumIs lo hi s x b) (k : NumIs lo hi s y c) : x = y ∧ b = c := by
  rcases h with ⟨rfl, h1, h2, h3⟩ | ⟨rfl, rfl, h3⟩ <;> rcases k with ⟨rfl, k1, k2, k3⟩ | ⟨rfl, rfl, k3⟩
  · exact ⟨dec_inj (h3.trans k3.symm), rfl⟩
  · exact absurd h3 (k3 _ h1 h2)
  · exact absurd k3 (h3 _ k1 k2)
  · exact ⟨rfl, rfl⟩
end Go.Proofs.YthcomgnokkndgaaDoor
