/- How the reference reads shares, in plain Lean: what has been read is a beginning of any list whose text it is. -/
import Derived.Test.YthcomgnokkndgaaDoorReadSP
namespace Go.Proofs.YthcomgnokkndgaaDoor

def isD (c : UInt8) : Bool := decide (48 ≤ c.toNat ∧ c.toNat ≤ 57)
/-- The digits at the beginning, two at most. -/
def dg2 (l : List UInt8) : List UInt8 := (l.take 2).takeWhile isD
theorem dg2_le (l : List UInt8) : (dg2 l).length ≤ 2 ∧ (dg2 l).length ≤ l.length := by
  have h1 : (dg2 l).length ≤ (l.take 2).length := List.Sublist.length_le (List.takeWhile_sublist _)
  rw [List.length_take] at h1
  omega
theorem takeWhile_all {p : UInt8 → Bool} : ∀ {a b : List UInt8}, (∀ x ∈ a, p x = true) → (a ++ b).takeWhile p = a ++ b.takeWhile p
  | [], _, _ => rfl
  | x :: a, b, h => by
    rw [List.cons_append, List.takeWhile_cons, if_pos (h x (List.mem_cons_self ..)), takeWhile_all fun y hy => h y (List.mem_cons_of_mem _ hy)]; rfl
theorem dg2_of {d r : List UInt8} (hd : ∀ x ∈ d, isD x = true) (hl : d.length ≤ 2) (hr : ∀ c, r.head? = some c → isD c = false) : dg2 (d ++ r) = d := by
  unfold dg2
  rw [List.take_append, List.take_of_length_le hl, takeWhile_all hd]
  have : (r.take (2 - d.length)).takeWhile isD = [] := by
    cases r with
    | nil => simp
    | cons c r =>
      have := hr c rfl
      cases hk : 2 - d.length with
      | zero => simp
      | succ k => simp [List.take_succ_cons, this]
  rw [this, List.append_nil]
theorem itoa_digits {n : Int} (h0 : 0 ≤ n) : ∀ x ∈ Lib.itoa n, isD x = true := by
  intro x hx
  unfold Lib.itoa at hx
  rw [if_neg (by omega)] at hx
  exact decide_eq_true (decDigits_digits _ x hx)
theorem valD_itoa {n : Int} (h0 : 0 ≤ n) : (valD (Lib.itoa n) : Int) = n := by
  unfold Lib.itoa
  rw [if_neg (by omega), valD_dec]; omega
theorem itoa_len2 {n : Int} (h0 : 0 ≤ n) (h1 : n ≤ 12) : (Lib.itoa n).length ≤ 2 := by
  unfold Lib.itoa
  rw [if_neg (by omega), Lib.decDigits_length]
  exact nDigits_le 1 n.toNat (by omega)
theorem itoa_head {n : Int} (h0 : 0 ≤ n) {r : List UInt8} : ∃ c, (Lib.itoa n ++ r).head? = some c ∧ isD c = true := by
  cases hl : Lib.itoa n with
  | nil => exact absurd hl (itoa_ne n)
  | cons c t => exact ⟨c, rfl, itoa_digits h0 c (by rw [hl]; exact List.mem_cons_self ..)⟩

def restR (R : List SD) : List UInt8 := if R = [] then [] else 59 :: stexts R
theorem join_two (x y : List UInt8) (r : List (List UInt8)) (c : UInt8) : Lib.join (x :: y :: r) [c] = x ++ c :: Lib.join (y :: r) [c] := by
  rw [Lib.join_cons, Lib.join_cons]; simp [Lib.joinTail]
theorem stexts_cons (r : SD) (R : List SD) : stexts (r :: R) = stxt r ++ restR R := by
  unfold restR stexts
  cases R with
  | nil => simp [Lib.join_cons, Lib.joinTail]
  | cons q R => rw [if_neg (by simp)]; exact join_two _ _ _ _
def restE (E : SD) : List UInt8 := if E = [] then [] else 44 :: stxt E
theorem stxt_cons (e : Int × Int) (E : SD) : stxt (e :: E) = ptxt e ++ restE E := by
  unfold restE stxt
  cases E with
  | nil => simp [Lib.join_cons, Lib.joinTail]
  | cons q R => rw [if_neg (by simp)]; exact join_two _ _ _ _
theorem ptxt_head {e : Int × Int} (h0 : 0 ≤ e.1) (r : List UInt8) : ∃ c, (ptxt e ++ r).head? = some c ∧ isD c = true := by
  unfold ptxt
  rw [List.append_assoc]
  exact itoa_head h0
theorem restR_head {R : List SD} {c : UInt8} (h : (restR R).head? = some c) : c = 59 := by
  unfold restR at h
  split at h
  · cases h
  · simp at h; exact h.symm
/-- C has been read of M at place k. -/
def Rd (s : List UInt8) (M C : List SD) (k : Nat) : Prop := ∃ C0 D E R, C = C0 ++ [D] ∧ M = C0 ++ (D ++ E) :: R ∧ s.drop k = stxt E ++ restR R
theorem Rd.start {s : List UInt8} {M : List SD} (hne : M ≠ []) (h : stexts M = s) : Rd s M [[]] 0 := by
  cases M with
  | nil => exact absurd rfl hne
  | cons r R => exact ⟨[], [], r, R, rfl, rfl, by rw [← h, stexts_cons]; rfl⟩
def Nice (M : List SD) : Prop := ∀ r ∈ M, ∀ e ∈ r, 0 ≤ e.1 ∧ e.1 ≤ 6 ∧ 1 ≤ e.2 ∧ e.2 ≤ 12
theorem OkS.nice {L : List SD} (h : OkS L) : Nice L := fun r hr e he => by
  obtain ⟨k, hk, rfl⟩ := List.getElem_of_mem hr
  obtain ⟨j, hj, rfl⟩ := List.getElem_of_mem he
  exact h.told hk hj
theorem Rd.semi {s : List UInt8} {M C : List SD} {k : Nat} (hn : Nice M) (h : Rd s M C k) (hc : (s.drop k).head? = some 59) : Rd s M (C ++ [[]]) (k + 1) := by
  obtain ⟨C0, D, E, R, rfl, rfl, hd⟩ := h
  cases E with
  | cons e E =>
    rw [hd, stxt_cons, List.append_assoc] at hc
    obtain ⟨c, h1, h2⟩ := ptxt_head (hn (D ++ e :: E) (by simp) e (by simp)).1 (restE E ++ restR R)
    rw [h1] at hc
    simp only [Option.some.injEq] at hc
    subst hc
    exact absurd h2 (by decide)
  | nil =>
    cases R with
    | nil => rw [hd] at hc; simp [stxt_nil, restR] at hc
    | cons r R =>
      refine ⟨C0 ++ [D], [], r, R, by simp, by simp, ?_⟩
      rw [← List.drop_drop, hd]
      have : stxt [] ++ restR (r :: R) = 59 :: stexts (r :: R) := by simp [stxt_nil, restR]
      rw [this, stexts_cons]; rfl
theorem Rd.share {s : List UInt8} {M C : List SD} {k : Nat} (hn : Nice M) (h : Rd s M C k) (hk : k < s.length) (hc : (s.drop k).head? ≠ some 59) :
    ∃ C0 D, C = C0 ++ [D] ∧ (if k + (dg2 (s.drop k)).length + 1 + (dg2 (s.drop (k + (dg2 (s.drop k)).length + 1))).length < s.length ∧ (s.drop (k + (dg2 (s.drop k)).length + 1 + (dg2 (s.drop (k + (dg2 (s.drop k)).length + 1))).length)).head? ≠ some 59
      then Rd s M (C0 ++ [D ++ [((valD (dg2 (s.drop k)) : Int), (valD (dg2 (s.drop (k + (dg2 (s.drop k)).length + 1))) : Int))]]) (k + (dg2 (s.drop k)).length + 1 + (dg2 (s.drop (k + (dg2 (s.drop k)).length + 1))).length + 1)
      else Rd s M (C0 ++ [D ++ [((valD (dg2 (s.drop k)) : Int), (valD (dg2 (s.drop (k + (dg2 (s.drop k)).length + 1))) : Int))]]) (k + (dg2 (s.drop k)).length + 1 + (dg2 (s.drop (k + (dg2 (s.drop k)).length + 1))).length)) := by
  obtain ⟨C0, D, E, R, rfl, rfl, hd⟩ := h
  refine ⟨C0, D, rfl, ?_⟩
  have hlen : (s.drop k).length = s.length - k := List.length_drop
  cases E with
  | nil =>
    exfalso
    simp only [stxt_nil, List.nil_append] at hd
    cases hR : (restR R).head? with
    | none =>
      have : restR R = [] := List.head?_eq_none_iff.1 hR
      rw [hd, this] at hlen; simp at hlen; omega
    | some c => rw [hd, hR, restR_head hR] at hc; exact hc rfl
  | cons e E =>
    obtain ⟨e0, e1, e2, e3⟩ := hn (D ++ e :: E) (by simp) e (by simp)
    have hd1 : s.drop k = Lib.itoa e.1 ++ (58 :: (Lib.itoa e.2 ++ (restE E ++ restR R))) := by
      rw [hd, stxt_cons]; unfold ptxt; simp
    have g1 : dg2 (s.drop k) = Lib.itoa e.1 := by
      rw [hd1]
      exact dg2_of (itoa_digits e0) (itoa_len2 e0 (by omega)) fun c h => by simp at h; subst h; decide
    have hd2 : s.drop (k + (Lib.itoa e.1).length + 1) = Lib.itoa e.2 ++ (restE E ++ restR R) := by
      rw [Nat.add_assoc, ← List.drop_drop, hd1, ← List.drop_drop, List.drop_left]; rfl
    have htail : ∀ c, (restE E ++ restR R).head? = some c → isD c = false := fun c h => by
      unfold restE at h
      split at h
      · rw [List.nil_append] at h; rw [restR_head h]; decide
      · simp at h; subst h; decide
    have g2 : dg2 (s.drop (k + (Lib.itoa e.1).length + 1)) = Lib.itoa e.2 := by
      rw [hd2]
      exact dg2_of (itoa_digits (by omega)) (itoa_len2 (by omega) e3) htail
    have hd3 : s.drop (k + (Lib.itoa e.1).length + 1 + (Lib.itoa e.2).length) = restE E ++ restR R := by
      rw [← List.drop_drop, hd2, List.drop_left]
    rw [g1, g2, valD_itoa e0, valD_itoa (by omega : (0 : Int) ≤ e.2), hd3]
    have hl3 : (restE E ++ restR R).length = s.length - (k + (Lib.itoa e.1).length + 1 + (Lib.itoa e.2).length) := by rw [← hd3, List.length_drop]
    cases E with
    | nil =>
      have e4 : restE [] ++ restR R = restR R := rfl
      rw [if_neg]
      · exact ⟨C0, D ++ [e], [], R, rfl, by simp, by rw [hd3]; simp [restE, stxt_nil]⟩
      · rintro ⟨a1, a2⟩
        rw [e4] at hl3 a2
        cases hR : (restR R).head? with
        | none =>
          have : restR R = [] := List.head?_eq_none_iff.1 hR
          rw [this] at hl3; simp at hl3; omega
        | some c => rw [hR, restR_head hR] at a2; exact a2 rfl
    | cons q E =>
      have e4 : restE (q :: E) ++ restR R = 44 :: (stxt (q :: E) ++ restR R) := by unfold restE; rw [if_neg (by simp)]; rfl
      rw [if_pos]
      · exact ⟨C0, D ++ [e], q :: E, R, rfl, by simp, by rw [← List.drop_drop, hd3, e4]; rfl⟩
      · rw [e4]
        refine ⟨?_, by simp⟩
        rw [e4] at hl3; simp only [List.length_cons] at hl3; omega
theorem Rd.done {s : List UInt8} {M C : List SD} {k : Nat} (h : Rd s M C k) (hn : Nice M) (hk : s.length ≤ k) : M = C := by
  obtain ⟨C0, D, E, R, rfl, rfl, hd⟩ := h
  rw [List.drop_of_length_le hk] at hd
  have h1 := congrArg List.length hd
  rw [List.length_append] at h1
  simp only [List.length_nil] at h1
  have hE : E = [] := stxt_empty (List.length_eq_zero_iff.1 (by omega))
  have hR : R = [] := by
    by_cases hR : R = []
    · exact hR
    · have : restR R = 59 :: stexts R := if_neg hR
      rw [this] at h1; simp at h1
  subst hE hR
  simp
theorem Rd.le {s : List UInt8} {M C : List SD} {k : Nat} (h : Rd s M C k) : C.length ≤ M.length := by
  obtain ⟨C0, D, E, R, rfl, rfl, -⟩ := h
  simp
end Go.Proofs.YthcomgnokkndgaaDoor
