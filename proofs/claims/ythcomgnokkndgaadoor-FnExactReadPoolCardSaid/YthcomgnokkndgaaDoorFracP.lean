/- A fraction read from its text: plain lists. -/
import Derived.Test.YthcomgnokkndgaaDoorRead
import Derived.Lib.IndexMore
namespace Go.Proofs.YthcomgnokkndgaaDoor
open Go.RowKit

/-! ### Where a byte first stands -/
theorem index_sep (c : UInt8) : ∀ l : List UInt8, (c ∉ l → Lib.index l [c] = -1) ∧ ∀ a b, l = a ++ c :: b → c ∉ a → Lib.index l [c] = a.length
  | [] => ⟨fun _ => rfl, fun a b h _ => by simp at h⟩
  | x :: l => by
    obtain ⟨h1, h2⟩ := index_sep c l
    refine ⟨fun h => ?_, fun a b h ha => ?_⟩
    · simp only [List.mem_cons, not_or] at h
      unfold Lib.index
      rw [if_neg (by simp [List.isPrefixOf]; exact h.1), h1 h.2]; rfl
    · cases a with
      | nil =>
        simp only [List.nil_append, List.cons.injEq] at h
        obtain ⟨rfl, rfl⟩ := h
        unfold Lib.index
        rw [if_pos (by simp [List.isPrefixOf])]; rfl
      | cons y a =>
        simp only [List.cons_append, List.cons.injEq] at h
        obtain ⟨rfl, h⟩ := h
        simp only [List.mem_cons, not_or] at ha
        have := h2 a b h ha.2
        unfold Lib.index
        rw [if_neg (by simp [List.isPrefixOf]; exact ha.1), this, if_neg (by simp)]
        simp
theorem cut_none {c : UInt8} {l : List UInt8} (h : c ∉ l) : Lib.cut l [c] = (l, [], false) := by
  unfold Lib.cut
  rw [(index_sep c l).1 h, if_neg (by decide)]
theorem cut_some {c : UInt8} {a b : List UInt8} (h : c ∉ a) : Lib.cut (a ++ c :: b) [c] = (a, b, true) := by
  unfold Lib.cut
  rw [(index_sep c (a ++ c :: b)).2 a b rfl h, if_pos (by omega), Int.toNat_natCast]
  simp
theorem itoa_no {c : UInt8} (h1 : c ≠ 45) (h2 : c.toNat < 48 ∨ 57 < c.toNat) (n : Int) : c ∉ Lib.itoa n := by
  have key : ∀ u, c ∉ Lib.decDigits u := fun u h => by have := decDigits_digits u c h; omega
  unfold Lib.itoa
  split
  · simp only [List.mem_cons, not_or]; exact ⟨h1, key _⟩
  · exact key _
theorem itoa_no47 (n : Int) : (47 : UInt8) ∉ Lib.itoa n := itoa_no (by decide) (by decide) n
theorem okF_range {n d : Int} (h : okF n d = true) : -1000000000 ≤ n ∧ n ≤ 1000000000 ∧ 1 ≤ d ∧ d ≤ 1000000000 := by
  simp only [okF, Bool.and_eq_true, inB_true] at h
  exact ⟨h.1.2.1, h.1.2.2, h.1.1.1, h.1.1.2⟩
theorem txt_list (n d : Int) : (txt n d).data.toList = if d = 1 then Lib.itoa n else Lib.itoa n ++ 47 :: Lib.itoa d := by
  unfold txt
  split
  · exact dec_bytes n
  · rw [ByteArray.data_append, Array.toList_append, ByteArray.data_append, Array.toList_append, dec_bytes, dec_bytes]; simp
theorem num_of {lo hi x n : Int} {s : ByteArray} {b : Bool} (h : NumIs lo hi s x b) (h0 : lo ≤ n) (h1 : n ≤ hi) (hs : dec n = s) : b = true ∧ x = n := by
  have := h.uniq (.inl ⟨rfl, h0, h1, hs⟩)
  exact ⟨this.2, this.1⟩
theorem list_dec {n : Int} {l : List UInt8} (h : l = Lib.itoa n) : dec n = ⟨l.toArray⟩ := by subst h; rfl
/-- What the program reads at the first '/': the fraction, where there is one. -/
theorem cut_key {s : ByteArray} {n d : Int} (hok : okF n d = true) (hs : txt n d = s) {x y : Int} {bx yb : Bool}
    (hx : NumIs (-1000000000) 1000000000 ⟨(Lib.cut s.data.toList [47]).1.toArray⟩ x bx) (hy : NumIs 1 1000000000 ⟨(Lib.cut s.data.toList [47]).2.1.toArray⟩ y yb) :
    x = n ∧ (if (Lib.cut s.data.toList [47]).2.2 then y else 1) = d := by
  obtain ⟨r1, r2, r3, r4⟩ := okF_range hok
  have hl := txt_list n d
  rw [hs] at hl
  by_cases h1 : d = 1
  · rw [if_pos h1] at hl
    rw [hl, cut_none (itoa_no47 n)] at hx hy
    rw [hl, cut_none (itoa_no47 n)]
    exact ⟨(num_of hx r1 r2 rfl).2, by simp [h1]⟩
  · rw [if_neg h1] at hl
    rw [hl, cut_some (itoa_no47 n)] at hx hy
    rw [hl, cut_some (itoa_no47 n)]
    exact ⟨(num_of hx r1 r2 rfl).2, by simp; exact (num_of hy r3 r4 rfl).2⟩
/-- n, d, b: the valid fraction whose text s is, and whether there is one. -/
def FracIs (s : ByteArray) (n d : Int) (b : Bool) : Prop :=
  (b = true ∧ okF n d = true ∧ txt n d = s) ∨ (b = false ∧ n = 0 ∧ d = 0 ∧ ∀ n d, okF n d = true → txt n d ≠ s)
theorem frac_some (s : ByteArray) : ∃ n d b, FracIs s n d b := by
  by_cases h : ∃ n d, okF n d = true ∧ txt n d = s
  · obtain ⟨n, d, h1, h2⟩ := h
    exact ⟨n, d, true, .inl ⟨rfl, h1, h2⟩⟩
  · exact ⟨0, 0, false, .inr ⟨rfl, rfl, rfl, fun n d h1 h2 => h ⟨n, d, h1, h2⟩⟩⟩
/-- The reference's cut: c is the first place of '/', or the end. -/
def CutAt (s : ByteArray) (c : Nat) : Prop := c ≤ s.size ∧ (∀ j (h : j < s.size), j < c → s[j] ≠ 47) ∧ ∀ h : c < s.size, s[c] = 47
theorem cut_at {s : ByteArray} {c : Nat} (h : CutAt s c) : (c = s.size ∧ (47 : UInt8) ∉ s.data.toList) ∨ (c < s.size ∧ s.data.toList = s.data.toList.take c ++ 47 :: s.data.toList.drop (c + 1) ∧ (47 : UInt8) ∉ s.data.toList.take c) := by
  obtain ⟨h1, h2, h3⟩ := h
  have hn : (47 : UInt8) ∉ s.data.toList.take c := by
    intro hm
    obtain ⟨j, hj, e⟩ := List.getElem_of_mem hm
    rw [List.length_take, size_list] at hj
    rw [List.getElem_take, get_list s j (by omega)] at e
    exact h2 j (by omega) (by omega) e
  by_cases hc : c < s.size
  · refine .inr ⟨hc, ?_, hn⟩
    have e := h3 hc
    rw [← get_list s c hc] at e
    rw [← e, ← List.drop_eq_getElem_cons (by rw [size_list]; exact hc), List.take_append_drop]
  · refine .inl ⟨by omega, ?_⟩
    rw [List.take_of_length_le (by rw [size_list]; omega)] at hn
    exact hn
theorem split_unique {a b a' b' : List UInt8} (h : a ++ 47 :: b = a' ++ 47 :: b') (ha : (47 : UInt8) ∉ a) (ha' : (47 : UInt8) ∉ a') : a = a' ∧ b = b' := by
  have h1 := cut_some (b := b) ha
  rw [h, cut_some ha'] at h1
  simp only [Prod.mk.injEq, and_true] at h1
  exact ⟨h1.1.symm, h1.2.symm⟩
theorem extract_list (s : ByteArray) (a b : Nat) : (s.extract a b).data.toList = (s.data.toList.drop a).take (b - a) := by
  rw [Lib.extract_eq]
theorem bytes_eta' {s : ByteArray} {l : List UInt8} (h : s.data.toList = l) : s = ⟨l.toArray⟩ := bytes_eq h
theorem ref_key {s : ByteArray} {n d : Int} (hok : okF n d = true) (hs : txt n d = s) {c : Nat} (hc : CutAt s c) {x y : Int} {bx yb : Bool}
    (hx : NumIs (-1000000000) 1000000000 (s.extract 0 c) x bx) (hy : NumIs (-1000000000) 1000000000 (s.extract (c + 1) s.size) y yb) :
    bx = true ∧ x = n ∧ ((c < s.size ∧ yb = true ∧ y = d) ∨ (¬ c < s.size ∧ d = 1)) := by
  obtain ⟨r1, r2, r3, r4⟩ := okF_range hok
  have hl := txt_list n d
  rw [hs] at hl
  rcases cut_at hc with ⟨e, hno⟩ | ⟨hlt, hsp, hno⟩
  · by_cases h1 : d = 1
    · rw [if_pos h1] at hl
      have e2 : dec n = s.extract 0 c := by
        refine (list_dec ?_).trans (bytes_eta' rfl).symm
        rw [extract_list, List.drop_zero, List.take_of_length_le (by rw [size_list]; omega), hl]
      have := num_of hx r1 r2 e2
      exact ⟨this.1, this.2, .inr ⟨by omega, h1⟩⟩
    · rw [if_neg h1] at hl
      rw [hl] at hno
      simp at hno
  · by_cases h1 : d = 1
    · rw [if_pos h1] at hl
      have := itoa_no47 n
      rw [← hl, hsp] at this
      simp at this
    · rw [if_neg h1] at hl
      rw [hl] at hsp
      have hu := split_unique hsp (itoa_no47 n) (by rw [← hl]; exact hno)
      rw [← hl] at hu
      have e2 : dec n = s.extract 0 c := by
        refine (list_dec ?_).trans (bytes_eta' rfl).symm
        rw [extract_list, List.drop_zero, Nat.sub_zero, hu.1]
      have e3 : dec d = s.extract (c + 1) s.size := by
        refine (list_dec ?_).trans (bytes_eta' rfl).symm
        rw [extract_list, List.take_of_length_le (by rw [List.length_drop, size_list]; omega), hu.2]
      have k1 := num_of hx r1 r2 e2
      have k2 := num_of hy (by omega) r4 e3
      exact ⟨k1.1, k1.2, .inl ⟨hlt, k2.1, k2.2⟩⟩
end Go.Proofs.YthcomgnokkndgaaDoor
