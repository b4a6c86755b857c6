/- The members with the greatest spare of voices, in plain lists; sets by the bits of a number. -/
import Derived.Test.YtomkhjcejjkelaaFnd
import Derived.Test.YtomkhjcejjkelaaPut
import Derived.Test.YtomkhjcejjkelaaCompare
namespace Go.Proofs.Ytomkhjcejjkelaa
open Go.RowKit

def bitsL (m i : Nat) : List Int := ((List.range i).filter fun j => m.testBit j).map fun j : Nat => (j : Int)
theorem bitsL_succ (m i : Nat) : bitsL m (i + 1) = if m.testBit i then bitsL m i ++ [(i : Int)] else bitsL m i := by
  unfold bitsL
  rw [List.range_succ, List.filter_append]
  by_cases h : m.testBit i <;> simp [h]
theorem bitsL_len (m i : Nat) : (bitsL m i).length ≤ i := by
  unfold bitsL
  rw [List.length_map]
  exact Nat.le_trans (List.length_filter_le _ _) (by simp)
theorem bitsL_more (m i : Nat) (h : m < 2 ^ i) : ∀ d, bitsL m (i + d) = bitsL m i
  | 0 => rfl
  | d + 1 => by
    have hb : m.testBit (i + d) = false := Nat.testBit_lt_two_pow (Nat.lt_of_lt_of_le h (Nat.pow_le_pow_right (by decide) (by omega)))
    rw [← Nat.add_assoc, bitsL_succ, hb, bitsL_more m i h d]; simp
theorem bitsL_12 (m i : Nat) (h : m < 2 ^ i) (hi : i ≤ 12) : bitsL m i = bitsL m 12 := by
  have e := bitsL_more m i h (12 - i)
  rw [Nat.add_sub_cancel' hi] at e
  exact e.symm
theorem bitsL_end (m i : Nat) (hi : i ≤ 12) (h : m >>> i = 0) : bitsL m i = bitsL m 12 := by
  refine bitsL_12 m i ?_ hi
  rw [Nat.shiftRight_eq_div_pow] at h
  exact (Nat.div_eq_zero_iff_lt (Nat.two_pow_pos i)).1 h
theorem mem_bitsL (m i : Nat) (x : Int) : x ∈ bitsL m i ↔ 0 ≤ x ∧ x < i ∧ m.testBit x.toNat = true := by
  unfold bitsL
  simp only [List.mem_map, List.mem_filter, List.mem_range]
  constructor
  · rintro ⟨a, ⟨h1, h2⟩, rfl⟩
    exact ⟨by omega, by omega, by simpa using h2⟩
  · rintro ⟨h1, h2, h3⟩
    exact ⟨x.toNat, ⟨by omega, h3⟩, by omega⟩
theorem bitsL_rising (m i : Nat) : (bitsL m i).Pairwise (· < ·) := by
  induction i with
  | zero => simp [bitsL]
  | succ i ih =>
    rw [bitsL_succ]
    split
    · refine List.pairwise_append.2 ⟨ih, by simp, fun x hx y hy => ?_⟩
      have := ((mem_bitsL m i x).1 hx).2.1
      rw [List.mem_singleton.1 hy]; exact this
    · exact ih

theorem shr_cast (m k : Nat) : ((m : Int) / 2 ^ k) = ((m >>> k : Nat) : Int) := by
  rw [Nat.shiftRight_eq_div_pow]; simp
theorem bits_and_nat (a b : Nat) (ha : a < 9223372036854775808) (hb : b < 9223372036854775808) : bits BinOp.and IntKind.i64 (a : Int) (b : Int) = ((a &&& b : Nat) : Int) := by
  have h : a &&& b < 9223372036854775808 := Nat.lt_of_le_of_lt Nat.and_le_left ha
  have e : (BitVec.ofInt 64 (a : Int) &&& BitVec.ofInt 64 (b : Int)).toNat = a &&& b := by
    rw [BitVec.ofInt_natCast, BitVec.ofInt_natCast, BitVec.toNat_and, BitVec.toNat_ofNat, BitVec.toNat_ofNat, Nat.mod_eq_of_lt (by omega), Nat.mod_eq_of_lt (by omega)]
  have e2 : bits BinOp.and IntKind.i64 (a : Int) (b : Int) = IntKind.i64.wrap ((BitVec.ofInt 64 (a : Int) &&& BitVec.ofInt 64 (b : Int)).toNat : Int) := rfl
  rw [e2, e]
  rw [IntKind.wrap_i64]
  omega
theorem bits_or_nat (a b : Nat) (ha : a < 9223372036854775808) (hb : b < 9223372036854775808) : bits BinOp.or IntKind.i64 (a : Int) (b : Int) = ((a ||| b : Nat) : Int) := by
  have h : a ||| b < 9223372036854775808 := Nat.or_lt_two_pow (n := 63) ha hb
  have e : (BitVec.ofInt 64 (a : Int) ||| BitVec.ofInt 64 (b : Int)).toNat = a ||| b := by
    rw [BitVec.ofInt_natCast, BitVec.ofInt_natCast, BitVec.toNat_or, BitVec.toNat_ofNat, BitVec.toNat_ofNat, Nat.mod_eq_of_lt (by omega), Nat.mod_eq_of_lt (by omega)]
  have e2 : bits BinOp.or IntKind.i64 (a : Int) (b : Int) = IntKind.i64.wrap ((BitVec.ofInt 64 (a : Int) ||| BitVec.ofInt 64 (b : Int)).toNat : Int) := rfl
  rw [e2, e]
  rw [IntKind.wrap_i64]
  omega
theorem bit_and (m : Nat) (hm : m < 4096) (k : Nat) : (bits BinOp.and IntKind.i64 ((m : Int) / 2 ^ k) 1 == 1) = m.testBit k := by
  have hlt : m >>> k < 4096 := Nat.lt_of_le_of_lt (Nat.shiftRight_le m k) hm
  have := bits_and_nat (m >>> k) 1 (by omega) (by decide)
  rw [Int.natCast_one] at this
  rw [shr_cast, this, Nat.and_one_is_mod, Nat.testBit_eq_decide_div_mod_eq, Nat.shiftRight_eq_div_pow]
  by_cases h : m / 2 ^ k % 2 = 1
  · simp [h]
  · have : m / 2 ^ k % 2 = 0 := by omega
    simp [this]
theorem bit_pos (m k : Nat) : ((0 : Int) < (m : Int) / 2 ^ k ↔ m >>> k ≠ 0) := by
  rw [shr_cast]
  generalize m >>> k = q
  omega
theorem bit_end (m : Nat) (hm : m < 4096) : m >>> 12 = 0 := by
  rw [Nat.shiftRight_eq_div_pow]; omega

/-- The ends by the bits of a number. -/
def orN (r : Nat) (es : List Int) : Nat := es.foldl (fun r e => r ||| 2 ^ e.toNat) r
theorem orN_lt : ∀ (es : List Int) (r : Nat), r < 4096 → (∀ e ∈ es, 0 ≤ e ∧ e < 12) → orN r es < 4096
  | [], r, h, _ => h
  | e :: es, r, h, he => by
    have h1 := he e (List.mem_cons_self ..)
    have h2 : 2 ^ e.toNat < 2 ^ 12 := Nat.pow_lt_pow_right (by decide) (by omega)
    exact orN_lt es _ (Nat.or_lt_two_pow (n := 12) h h2) fun x hx => he x (List.mem_cons_of_mem _ hx)
theorem orN_bit (j : Nat) : ∀ (es : List Int) (r : Nat), (∀ e ∈ es, 0 ≤ e) → ((orN r es).testBit j = true ↔ r.testBit j = true ∨ (j : Int) ∈ es)
  | [], r, _ => by simp [orN]
  | e :: es, r, he => by
    have h1 := he e (List.mem_cons_self ..)
    have ih := orN_bit j es (r ||| 2 ^ e.toNat) fun x hx => he x (List.mem_cons_of_mem _ hx)
    show (orN (r ||| 2 ^ e.toNat) es).testBit j = true ↔ _
    rw [ih, Nat.testBit_or, Nat.testBit_two_pow, List.mem_cons]
    simp only [Bool.or_eq_true, decide_eq_true_eq]
    have : (e.toNat = j) ↔ ((j : Int) = e) := by omega
    rw [this, or_assoc]
/-- The ends put in order. -/
def putL (xs es : List Int) : List Int := es.foldl (putA false) xs
theorem putL_rising : ∀ (es xs : List Int), xs.Pairwise (· < ·) → (putL xs es).Pairwise (· < ·)
  | [], _, h => h
  | _ :: es, xs, h => putL_rising es _ (putA_rising xs h)
theorem mem_putL {y : Int} : ∀ (es xs : List Int), y ∈ putL xs es ↔ y ∈ xs ∨ y ∈ es
  | [], xs => by simp [putL]
  | e :: es, xs => by
    show y ∈ putL (putA false xs e) es ↔ _
    rw [mem_putL es, putA_mem, List.mem_cons, or_assoc]
theorem putL_len : ∀ (es xs : List Int), (putL xs es).length ≤ xs.length + es.length
  | [], _ => by simp [putL]
  | e :: es, xs => by
    have h1 := putL_len es (putA false xs e)
    have h2 := putA_len xs e
    show (putL (putA false xs e) es).length ≤ _
    simp only [List.length_cons]; omega
theorem or_put (es : List Int) (he : ∀ e ∈ es, 0 ≤ e ∧ e < 12) : bitsL (orN 0 es) 12 = putL [] es := by
  refine rising_unique _ _ (bitsL_rising _ _) (putL_rising _ _ List.Pairwise.nil) fun x => ?_
  rw [mem_bitsL, mem_putL, orN_bit _ _ _ fun e h => (he e h).1]
  simp only [Nat.zero_testBit, Bool.false_eq_true, false_or, List.not_mem_nil]
  constructor
  · rintro ⟨h1, h2, h3⟩
    rwa [Int.toNat_of_nonneg h1] at h3
  · intro h
    have := he x h
    exact ⟨this.1, this.2, by rwa [Int.toNat_of_nonneg this.1]⟩
theorem put_twelve (es : List Int) (he : ∀ e ∈ es, 0 ≤ e ∧ e < 12) : (putL [] es).length ≤ 12 := by
  rw [← or_put es he]; exact bitsL_len _ _

/-- All ends of the first k of a set. -/
def endsOf (E : List (List Int)) (s : List Int) : List Int := s.flatMap fun m => E.getD m.toNat []
theorem endsOf_range {E : List (List Int)} (hE : ∀ e ∈ E, ∀ x ∈ e, 0 ≤ x ∧ x < 12) (s : List Int) : ∀ x ∈ endsOf E s, 0 ≤ x ∧ x < 12 := by
  intro x hx
  obtain ⟨m, -, hm⟩ := List.mem_flatMap.1 hx
  rw [List.getD_eq_getElem?_getD] at hm
  by_cases h : m.toNat < E.length
  · rw [List.getElem?_eq_getElem h] at hm
    exact hE _ (List.getElem_mem h) x hm
  · rw [List.getElem?_eq_none (by omega)] at hm; cases hm
theorem endsOf_snoc (E : List (List Int)) (s : List Int) (k : Nat) (hk : k < s.length) (hm : s[k].toNat < E.length) : endsOf E (s.take (k + 1)) = endsOf E (s.take k) ++ E[s[k].toNat] := by
  unfold endsOf
  rw [List.take_succ_eq_append_getElem hk, List.flatMap_append]
  simp [List.getElem?_eq_getElem hm]
def spare (E : List (List Int)) (lim : Int) (s : List Int) : Int := (s.length : Int) - lim * ((putL [] (endsOf E s)).length : Int)
def Beats (s b : List Int) (x most : Int) : Prop := most < x ∨ x = most ∧ (s.length < b.length ∨ s.length = b.length ∧ cmpL s b < 0)
instance (s b : List Int) (x most : Int) : Decidable (Beats s b x most) := by unfold Beats; infer_instance
/-- The best among the first m sets. -/
def capTo (E : List (List Int)) (lim : Int) : Nat → List Int × Int
  | 0 => ([], 0)
  | m + 1 => if Beats (bitsL m 12) (capTo E lim m).1 (spare E lim (bitsL m 12)) (capTo E lim m).2 then (bitsL m 12, spare E lim (bitsL m 12)) else capTo E lim m
theorem capTo_yes {E : List (List Int)} {lim : Int} {m : Nat} (h : Beats (bitsL m 12) (capTo E lim m).1 (spare E lim (bitsL m 12)) (capTo E lim m).2) : capTo E lim (m + 1) = (bitsL m 12, spare E lim (bitsL m 12)) := by
  rw [capTo, if_pos h]
theorem capTo_no {E : List (List Int)} {lim : Int} {m : Nat} (h : ¬ Beats (bitsL m 12) (capTo E lim m).1 (spare E lim (bitsL m 12)) (capTo E lim m).2) : capTo E lim (m + 1) = capTo E lim m := by
  rw [capTo, if_neg h]
theorem capTo_len (E : List (List Int)) (lim : Int) : ∀ m, (capTo E lim m).1.length ≤ 12
  | 0 => by simp [capTo]
  | m + 1 => by
    rw [capTo]
    split
    · exact bitsL_len _ _
    · exact capTo_len E lim m
end Go.Proofs.Ytomkhjcejjkelaa
