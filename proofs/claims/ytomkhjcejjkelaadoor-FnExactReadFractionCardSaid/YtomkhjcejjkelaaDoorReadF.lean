/- A fraction read from its text, on both sides. -/
import Derived.Test.YtomkhjcejjkelaaDoorFracP
import Derived.Test.YtomkhjcejjkelaaDoorShC
namespace Go.Proofs.YtomkhjcejjkelaaDoor
open Go.RowKit

/-- The library's bound of a search is some number. -/
def ML (w : World) : Prop := ∃ m, w.cell? ⟨0, 0, none⟩ = some (.int .i64 m)
theorem ML.ext {w w' : World} (h : ML w) (hx : Ext w w') : ML w' := by
  obtain ⟨m, hm⟩ := h
  exact ⟨m, by rw [Below.cell hx (InW.of_cell hm).lt]; exact hm⟩
theorem ml_of {w : World} (h : w.ShapedOpen Tryd.prog) : ML w := Tryd.laysM145.s1_3 w h
theorem cut_len (l : List UInt8) (c : UInt8) : (Lib.cut l [c]).1.length ≤ l.length ∧ (Lib.cut l [c]).2.1.length ≤ l.length := by
  unfold Lib.cut
  split
  · exact ⟨by rw [List.length_take]; omega, by rw [List.length_drop]; omega⟩
  · exact ⟨Nat.le_refl _, by simp⟩
theorem cut_call (s : ByteArray) (c : UInt8) (w : World) (hs : s.size ≤ 1048576) (hm : ML w) (A B : ByteArray) (has : Bool) (hA : ⟨(Lib.cut s.data.toList [c]).1.toArray⟩ = A) (hB : ⟨(Lib.cut s.data.toList [c]).2.1.toArray⟩ = B) (hh : (Lib.cut s.data.toList [c]).2.2 = has) :
    Calls Tryd.prog 54 #[.string s, .string ⟨#[c]⟩] w fun e w' => e = .returned (.tuple #[.string A, .string B, .bool has]) ∧ Ext w w' := by
  obtain ⟨m, hm⟩ := hm
  subst hA hB hh
  exact (Tryd.strings_Cut s ⟨#[c]⟩ m w (by omega) hm).mono fun e w' h => ⟨h.1, by obtain ⟨n, rfl⟩ := h.2; exact (Ext.refl _).drewN n⟩

set_option maxHeartbeats 2000000 in
set_option maxRecDepth 100000 in
theorem spec_l01Digits (s : ByteArray) (x : Int) (b : Bool) (hn : NumIs (-1000000000) 1000000000 s x b) (w : World) (hs : s.size ≤ 1048576) :
    Calls Tryd.prog 90 #[.string s] w fun e w' => e = .returned (.tuple #[.int .i64 x, .bool b]) ∧ Ext w w' := by
  have R1 := fun y => spec_l01Dec 1000000000 (by decide) (by decide) y
  have R2 := fun y => spec_l01Dec (-1000000000) (by decide) (by decide) y
  by_cases h1 : s = dec 1000000000
  · have HF := Lib.hid (num_of hn (by decide) (by decide) h1.symm)
    rw [← h1] at R1
    clear hn h1 R2
    go_enter Tryd.func90, Tryd.ntmps90
    go_wp2_with (first | (go_at_call 70; (with_reducible refine (R1 _).mono ?_); rintro e w' ⟨rfl, hx⟩; obtain ⟨g, rfl⟩ := hx.grow; clear hx))
    refine bodyPost_ret (v := .tuple #[.int .i64 1000000000, .bool true]) (by simp [results, Tryd.results90, go_sem]) rfl ?_
    exact ⟨by rw [HF.out.1, HF.out.2], ExtC.ext⟩
  have d1 := ne_list h1
  have d2 : (s.toList == (dec 1000000000).toList) = false := by simp [d1]
  by_cases h2 : s = dec (-1000000000)
  · have HF := Lib.hid (num_of hn (by decide) (by decide) h2.symm)
    obtain ⟨D, hD⟩ : ∃ D, dec 1000000000 = D := ⟨_, rfl⟩
    rw [hD] at R1 d1 d2
    rw [← h2] at R2
    clear hn h1 h2 hD
    go_enter Tryd.func90, Tryd.ntmps90
    go_wp2_with (first | (go_at_call 70; (with_reducible refine Calls.mono (by first | exact R1 _ | exact R2 _) ?_); rintro e w' ⟨rfl, hx⟩; obtain ⟨g, rfl⟩ := hx.grow; clear hx))
    refine bodyPost_ret (v := .tuple #[.int .i64 (-1000000000), .bool true]) (by simp [results, Tryd.results90, go_sem]) rfl ?_
    exact ⟨by rw [HF.out.1, HF.out.2], ExtC.ext⟩
  have d3 := ne_list h2
  have d4 : (s.toList == (dec (-1000000000)).toList) = false := by simp [d3]
  have hn2 : NumIs (-999999999) 999999999 s x b := by
    rcases hn with ⟨k0, k1, k2, k3⟩ | ⟨k0, k1, k3⟩
    · refine .inl ⟨k0, ?_, ?_, k3⟩
      · have : x ≠ -1000000000 := fun e => h2 (by rw [← k3, e])
        omega
      · have : x ≠ 1000000000 := fun e => h1 (by rw [← k3, e])
        omega
    · exact .inr ⟨k0, k1, fun n a c => k3 n (by omega) (by omega)⟩
  have R3 := fun y => spec_l01Read s x b hn2 y hs
  obtain ⟨D, hD⟩ : ∃ D, dec 1000000000 = D := ⟨_, rfl⟩
  obtain ⟨E, hE⟩ : ∃ E, dec (-1000000000) = E := ⟨_, rfl⟩
  rw [hD] at R1 d1 d2
  rw [hE] at R2 d3 d4
  clear hn hn2 h1 h2 hD hE
  go_enter Tryd.func90, Tryd.ntmps90
  go_wp2_with (first | (go_at_call 70; (with_reducible refine Calls.mono (by first | exact R1 _ | exact R2 _) ?_); rintro e w' ⟨rfl, hx⟩; obtain ⟨g, rfl⟩ := hx.grow; clear hx) | (go_at_call 89; (with_reducible refine (R3 _).mono ?_); rintro e w' ⟨rfl, hx⟩; obtain ⟨g, rfl⟩ := hx.grow; clear hx))
  refine bodyPost_ret (v := .tuple #[.int .i64 x, .bool b]) (by simp [results, Tryd.results90, go_sem]) rfl ?_
  exact ⟨rfl, ExtC.ext⟩

set_option maxHeartbeats 4000000 in
set_option maxRecDepth 100000 in
theorem impl_ReadFraction (s : ByteArray) (n d : Int) (b : Bool) (hf : FracIs s n d b) (w : World) (hs : s.size ≤ 1048576) (hp : Pow w) (he : Errs w) (hm : ML w) :
    Calls Tryd.prog 48 #[.string s] w fun e w' => e = .returned (.tuple #[.agg #[.int .i64 n, .int .i64 d], .bool b]) ∧ Ext w w' := by
  obtain ⟨A, hA⟩ : ∃ A : ByteArray, ⟨(Lib.cut s.data.toList [47]).1.toArray⟩ = A := ⟨_, rfl⟩
  obtain ⟨B, hB⟩ : ∃ B : ByteArray, ⟨(Lib.cut s.data.toList [47]).2.1.toArray⟩ = B := ⟨_, rfl⟩
  obtain ⟨has, hh⟩ : ∃ has, (Lib.cut s.data.toList [47]).2.2 = has := ⟨_, rfl⟩
  obtain ⟨x, bx, hx⟩ := num_some (-1000000000) 1000000000 A
  obtain ⟨y, yb, hy⟩ := num_some 1 1000000000 B
  have hAs : A.size ≤ 1048576 := by rw [← hA]; have := (cut_len s.data.toList 47).1; rw [size_list] at this; exact Nat.le_trans this hs
  have hBs : B.size ≤ 1048576 := by rw [← hB]; have := (cut_len s.data.toList 47).2; rw [size_list] at this; exact Nat.le_trans this hs
  have hxr : -1000000000 ≤ x ∧ x ≤ 1000000000 := by rcases hx with ⟨-, k1, k2, -⟩ | ⟨-, k1, -⟩ <;> omega
  have hyr : 0 ≤ y ∧ y ≤ 1000000000 := by rcases hy with ⟨-, k1, k2, -⟩ | ⟨-, k1, -⟩ <;> omega
  have KEY := Lib.hid (fun (n d : Int) (hok : okF n d = true) (ht : txt n d = s) => (by
    have := cut_key hok ht (by rw [hA]; exact hx) (by rw [hB]; exact hy)
    rw [hh] at this; exact this : x = n ∧ (if has then y else 1) = d))
  have R0 := fun z (hz : Ext w z) => cut_call s 47 z hs (hm.ext hz) A B has hA hB hh
  have R1 := fun z (hz : Ext w z) => impl_readNumber A (-1000000000) 1000000000 x bx hx z hAs (by decide) (by decide) (hp.ext hz) (he.ext hz)
  have R2 := fun z (hz : Ext w z) => impl_readNumber B 1 1000000000 y yb hy z hBs (by decide) (by decide) (hp.ext hz) (he.ext hz)
  clear hA hB hh hx hy he hm
  cases has
  · have KYES := Lib.hid (fun (h1 : okF x 1 = true) (h2 : txt x 1 = s) => (by
      rcases hf with ⟨k0, k1, k2⟩ | ⟨-, -, -, k3⟩
      · have := KEY.out n d k1 k2; simp at this; exact ⟨k0, this.1.symm, this.2.symm⟩
      · exact absurd h2 (k3 _ _ h1) : b = true ∧ n = x ∧ d = 1))
    have KNO := Lib.hid (fun (h : okF x 1 = false ∨ ¬ txt x 1 = s) => (by
      rcases hf with ⟨k0, k1, k2⟩ | ⟨k0, k1, k2, -⟩
      · have := KEY.out n d k1 k2; simp at this; rw [this.1, this.2] at h
        rcases h with h | h
        · rw [k1] at h; cases h
        · exact absurd k2 h
      · exact ⟨k0, k1, k2⟩ : b = false ∧ n = 0 ∧ d = 0))
    clear KEY hf
    cases hq : okF x 1
    · have HF := Lib.hid (KNO.out (.inl hq))
      have R3 := fun z (hz : Ext w z) => impl_FractionText x 1 (by omega) (by omega) false hq z (hp.ext hz)
      clear hp hq
      go_enter Tryd.func48, Tryd.ntmps48
      go_wp2_with (first | (go_at_call 54; (with_reducible refine (R0 _ ExtC.ext).mono ?_); rintro e w' ⟨rfl, hx⟩; obtain ⟨g, rfl⟩ := hx.grow; clear hx) | (go_at_call 55; (with_reducible refine Calls.mono (by first | exact R1 _ ExtC.ext | exact R2 _ ExtC.ext) ?_); rintro e w' ⟨rfl, hx⟩; obtain ⟨g, rfl⟩ := hx.grow; clear hx) | (go_at_call 32; (with_reducible refine (R3 _ ExtC.ext).mono ?_); rintro e w' ⟨rfl, hx⟩; obtain ⟨g, rfl⟩ := hx.grow; clear hx))
      refine bodyPost_ret (v := .tuple #[.agg #[.int .i64 0, .int .i64 0], .bool false]) (by simp [results, Tryd.results48, go_sem]) rfl ?_
      exact ⟨by rw [HF.out.1, HF.out.2.1, HF.out.2.2], ExtC.ext⟩
    have R3 := fun z (hz : Ext w z) => impl_FractionText x 1 (by omega) (by omega) true hq z (hp.ext hz)
    by_cases ht : txt x 1 = s
    · have HF := Lib.hid (KYES.out hq ht)
      rw [ht] at R3
      clear hp hq ht
      go_enter Tryd.func48, Tryd.ntmps48
      go_wp2_with (first | (go_at_call 54; (with_reducible refine (R0 _ ExtC.ext).mono ?_); rintro e w' ⟨rfl, hx⟩; obtain ⟨g, rfl⟩ := hx.grow; clear hx) | (go_at_call 55; (with_reducible refine Calls.mono (by first | exact R1 _ ExtC.ext | exact R2 _ ExtC.ext) ?_); rintro e w' ⟨rfl, hx⟩; obtain ⟨g, rfl⟩ := hx.grow; clear hx) | (go_at_call 32; (with_reducible refine (R3 _ ExtC.ext).mono ?_); rintro e w' ⟨rfl, hx⟩; obtain ⟨g, rfl⟩ := hx.grow; clear hx))
      refine bodyPost_ret (v := .tuple #[.agg #[.int .i64 x, .int .i64 1], .bool true]) (by simp [results, Tryd.results48, go_sem]) rfl ?_
      exact ⟨by rw [HF.out.1, HF.out.2.1, HF.out.2.2], ExtC.ext⟩
    · have HF := Lib.hid (KNO.out (.inr ht))
      have d1 := ne_list ht
      have d2 : ((txt x 1).toList == s.toList) = false := by simp [d1]
      obtain ⟨t, htt⟩ : ∃ t, txt x 1 = t := ⟨_, rfl⟩
      rw [htt] at R3 d1 d2
      clear hp hq ht htt
      go_enter Tryd.func48, Tryd.ntmps48
      go_wp2_with (first | (go_at_call 54; (with_reducible refine (R0 _ ExtC.ext).mono ?_); rintro e w' ⟨rfl, hx⟩; obtain ⟨g, rfl⟩ := hx.grow; clear hx) | (go_at_call 55; (with_reducible refine Calls.mono (by first | exact R1 _ ExtC.ext | exact R2 _ ExtC.ext) ?_); rintro e w' ⟨rfl, hx⟩; obtain ⟨g, rfl⟩ := hx.grow; clear hx) | (go_at_call 32; (with_reducible refine (R3 _ ExtC.ext).mono ?_); rintro e w' ⟨rfl, hx⟩; obtain ⟨g, rfl⟩ := hx.grow; clear hx))
      refine bodyPost_ret (v := .tuple #[.agg #[.int .i64 0, .int .i64 0], .bool false]) (by simp [results, Tryd.results48, go_sem]) rfl ?_
      exact ⟨by rw [HF.out.1, HF.out.2.1, HF.out.2.2], ExtC.ext⟩
  · have KYES := Lib.hid (fun (h1 : okF x y = true) (h2 : txt x y = s) => (by
      rcases hf with ⟨k0, k1, k2⟩ | ⟨-, -, -, k3⟩
      · have := KEY.out n d k1 k2; simp at this; exact ⟨k0, this.1.symm, this.2.symm⟩
      · exact absurd h2 (k3 _ _ h1) : b = true ∧ n = x ∧ d = y))
    have KNO := Lib.hid (fun (h : okF x y = false ∨ ¬ txt x y = s) => (by
      rcases hf with ⟨k0, k1, k2⟩ | ⟨k0, k1, k2, -⟩
      · have := KEY.out n d k1 k2; simp at this; rw [this.1, this.2] at h
        rcases h with h | h
        · rw [k1] at h; cases h
        · exact absurd k2 h
      · exact ⟨k0, k1, k2⟩ : b = false ∧ n = 0 ∧ d = 0))
    clear KEY hf
    cases hq : okF x y
    · have HF := Lib.hid (KNO.out (.inl hq))
      have R3 := fun z (hz : Ext w z) => impl_FractionText x y (by omega) (by omega) false hq z (hp.ext hz)
      clear hp hq
      go_enter Tryd.func48, Tryd.ntmps48
      go_wp2_with (first | (go_at_call 54; (with_reducible refine (R0 _ ExtC.ext).mono ?_); rintro e w' ⟨rfl, hx⟩; obtain ⟨g, rfl⟩ := hx.grow; clear hx) | (go_at_call 55; (with_reducible refine Calls.mono (by first | exact R1 _ ExtC.ext | exact R2 _ ExtC.ext) ?_); rintro e w' ⟨rfl, hx⟩; obtain ⟨g, rfl⟩ := hx.grow; clear hx) | (go_at_call 32; (with_reducible refine (R3 _ ExtC.ext).mono ?_); rintro e w' ⟨rfl, hx⟩; obtain ⟨g, rfl⟩ := hx.grow; clear hx))
      refine bodyPost_ret (v := .tuple #[.agg #[.int .i64 0, .int .i64 0], .bool false]) (by simp [results, Tryd.results48, go_sem]) rfl ?_
      exact ⟨by rw [HF.out.1, HF.out.2.1, HF.out.2.2], ExtC.ext⟩
    have R3 := fun z (hz : Ext w z) => impl_FractionText x y (by omega) (by omega) true hq z (hp.ext hz)
    by_cases ht : txt x y = s
    · have HF := Lib.hid (KYES.out hq ht)
      rw [ht] at R3
      clear hp hq ht
      go_enter Tryd.func48, Tryd.ntmps48
      go_wp2_with (first | (go_at_call 54; (with_reducible refine (R0 _ ExtC.ext).mono ?_); rintro e w' ⟨rfl, hx⟩; obtain ⟨g, rfl⟩ := hx.grow; clear hx) | (go_at_call 55; (with_reducible refine Calls.mono (by first | exact R1 _ ExtC.ext | exact R2 _ ExtC.ext) ?_); rintro e w' ⟨rfl, hx⟩; obtain ⟨g, rfl⟩ := hx.grow; clear hx) | (go_at_call 32; (with_reducible refine (R3 _ ExtC.ext).mono ?_); rintro e w' ⟨rfl, hx⟩; obtain ⟨g, rfl⟩ := hx.grow; clear hx))
      refine bodyPost_ret (v := .tuple #[.agg #[.int .i64 x, .int .i64 y], .bool true]) (by simp [results, Tryd.results48, go_sem]) rfl ?_
      exact ⟨by rw [HF.out.1, HF.out.2.1, HF.out.2.2], ExtC.ext⟩
    · have HF := Lib.hid (KNO.out (.inr ht))
      have d1 := ne_list ht
      have d2 : ((txt x y).toList == s.toList) = false := by simp [d1]
      obtain ⟨t, htt⟩ : ∃ t, txt x y = t := ⟨_, rfl⟩
      rw [htt] at R3 d1 d2
      clear hp hq ht htt
      go_enter Tryd.func48, Tryd.ntmps48
      go_wp2_with (first | (go_at_call 54; (with_reducible refine (R0 _ ExtC.ext).mono ?_); rintro e w' ⟨rfl, hx⟩; obtain ⟨g, rfl⟩ := hx.grow; clear hx) | (go_at_call 55; (with_reducible refine Calls.mono (by first | exact R1 _ ExtC.ext | exact R2 _ ExtC.ext) ?_); rintro e w' ⟨rfl, hx⟩; obtain ⟨g, rfl⟩ := hx.grow; clear hx) | (go_at_call 32; (with_reducible refine (R3 _ ExtC.ext).mono ?_); rintro e w' ⟨rfl, hx⟩; obtain ⟨g, rfl⟩ := hx.grow; clear hx))
      refine bodyPost_ret (v := .tuple #[.agg #[.int .i64 0, .int .i64 0], .bool false]) (by simp [results, Tryd.results48, go_sem]) rfl ?_
      exact ⟨by rw [HF.out.1, HF.out.2.1, HF.out.2.2], ExtC.ext⟩

/-- c is the first place of '/' from k on, or the end. -/
def CutFrom (s : ByteArray) (k c : Nat) : Prop := k ≤ c ∧ c ≤ s.size ∧ (∀ j (h : j < s.size), k ≤ j → j < c → s[j] ≠ 47) ∧ ∀ h : c < s.size, s[c] = 47
theorem size_extract' (s : ByteArray) (a b : Nat) : (s.extract a b).size ≤ s.size := by
  rw [← size_list, extract_list, List.length_take, List.length_drop, size_list]; omega

set_option maxHeartbeats 8000000 in
set_option maxRecDepth 100000 in
theorem spec_ReadFraction (s : ByteArray) (n d : Int) (b : Bool) (hf : FracIs s n d b) (w : World) (hs : s.size ≤ 1048576) :
    Calls Tryd.prog 47 #[.string s] w fun e w' => e = .returned (.tuple #[.agg #[.int .i64 n, .int .i64 d], .bool b]) ∧ Ext w w' := by
  have HFI := Lib.hid hf
  clear hf
  go_enter Tryd.func47, Tryd.ntmps47
  go_wp2_with fail
  go_loopw [4, 5] (fun o i wr => ∃ (k c : Nat), k ≤ s.size ∧ c ≤ s.size ∧ i = .int .i64 ((k : Int) - 1) ∧ o = .int .i64 c ∧ Ext (w.alloc (.cells #[.int .i64 0, .int .i64 0] 46)) wr ∧ Hid (CutFrom s k c)) (fun _ i _ => (intOf i + 1).toNat)
  case atStart => exact ⟨s.size, s.size, Nat.le_refl _, Nat.le_refl _, rfl, rfl, ExtC.ext, Lib.hid ⟨Nat.le_refl _, Nat.le_refl _, fun j h a c => absurd a (by omega), fun h => absurd h (by omega)⟩⟩
  case round =>
    obtain ⟨k, c, hk, hc, rfl, rfl, hx, HC⟩ := hrel
    obtain ⟨g0, rfl⟩ := hx.grow; clear hx
    by_cases hlt : 0 < k
    · obtain ⟨m, rfl⟩ : ∃ m, k = m + 1 := ⟨k - 1, by omega⟩
      have em : ((m + 1 : Nat) : Int) - 1 = (m : Int) := by omega
      have hms : m < s.size := by omega
      rw [em]
      by_cases h47 : s[m].toNat = 47
      · go_wp2_with fail
        go_roundw
        case rel =>
          refine ⟨m, m, by omega, by omega, rfl, rfl, ExtC.ext, Lib.hid ⟨Nat.le_refl _, by omega, fun j h a c => absurd a (by omega), fun h => UInt8.toNat_inj.1 h47⟩⟩
        case measure => first | (simp [intOf]; done) | (simp [intOf]; omega)
      · have h47' : ((s[m].toNat : Int) == 47) = false := by simp; omega
        go_wp2_with fail
        go_roundw
        case rel =>
          obtain ⟨a1, a2, a3, a4⟩ := HC.out
          refine ⟨m, c, by omega, hc, rfl, rfl, ExtC.ext, Lib.hid ⟨by omega, a2, fun j h p q => ?_, a4⟩⟩
          by_cases e : j = m
          · subst e; intro e2; exact h47 (by rw [e2]; rfl)
          · exact a3 j h (by omega) q
        case measure => first | (simp [intOf]; done) | (simp [intOf]; omega)
    · have hk0 : k = 0 := by omega
      subst hk0
      have HCA : Hid (CutAt s c) := Lib.hid ⟨HC.out.2.1, fun j h q => HC.out.2.2.1 j h (Nat.zero_le _) q, HC.out.2.2.2⟩
      obtain ⟨x, bx, hx⟩ := num_some (-1000000000) 1000000000 (s.extract 0 c)
      obtain ⟨y, yb, hy⟩ := num_some (-1000000000) 1000000000 (s.extract (c + 1) s.size)
      have hxr : -1000000000 ≤ x ∧ x ≤ 1000000000 := by rcases hx with ⟨-, k1, k2, -⟩ | ⟨-, k1, -⟩ <;> omega
      have hyr : -1000000000 ≤ y ∧ y ≤ 1000000000 := by rcases hy with ⟨-, k1, k2, -⟩ | ⟨-, k1, -⟩ <;> omega
      have KEY := Lib.hid (fun (n d : Int) (hok : okF n d = true) (ht : txt n d = s) => ref_key hok ht HCA.out hx hy)
      have R1 := fun z => spec_l01Digits (s.extract 0 c) x bx hx z (Nat.le_trans (size_extract' _ _ _) hs)
      have R2 := fun z => spec_l01Digits (s.extract (c + 1) s.size) y yb hy z (Nat.le_trans (size_extract' _ _ _) hs)
      clear hx hy HC
      obtain ⟨S1, hS1⟩ : ∃ S, s.extract 0 c = S := ⟨_, rfl⟩
      obtain ⟨S2, hS2⟩ : ∃ S, s.extract (c + 1) s.size = S := ⟨_, rfl⟩
      rw [hS1] at R1
      rw [hS2] at R2
      have bad : (bx = false ∨ (c < s.size ∧ yb = false)) → b = false ∧ n = 0 ∧ d = 0 := fun h => by
        rcases HFI.out with ⟨-, k1, k2⟩ | ⟨k0, k1, k2, -⟩
        · have := KEY.out n d k1 k2
          rcases h with h | ⟨h, h'⟩
          · rw [h] at this; cases this.1
          · rcases this.2.2 with ⟨-, q, -⟩ | ⟨q, -⟩
            · rw [h'] at q; cases q
            · exact absurd h q
        · exact ⟨k0, k1, k2⟩
      have BAD := Lib.hid bad
      clear bad
      cases bx
      · have HF := Lib.hid (BAD.out (.inl rfl))
        clear KEY BAD
        go_wp2_with (first | (go_at_call 90; (with_reducible refine (R1 _).mono ?_); rintro e w' ⟨rfl, hx⟩; obtain ⟨g, rfl⟩ := hx.grow; clear hx))
        refine bodyPost_ret (v := .tuple #[.agg #[.int .i64 0, .int .i64 0], .bool false]) (by simp [results, Tryd.results47, go_sem]) rfl ?_
        exact ⟨by rw [HF.out.1, HF.out.2.1, HF.out.2.2], ExtC.ext⟩
      by_cases hcs : c < s.size
      · cases yb
        · have HF := Lib.hid (BAD.out (.inr ⟨hcs, rfl⟩))
          clear KEY BAD
          go_wp2_with (first | (go_at_call 90; (with_reducible refine Calls.mono (by first | exact R1 _ | exact R2 _) ?_); rintro e w' ⟨rfl, hx⟩; obtain ⟨g, rfl⟩ := hx.grow; clear hx))
          refine bodyPost_ret (v := .tuple #[.agg #[.int .i64 0, .int .i64 0], .bool false]) (by simp [results, Tryd.results47, go_sem]) rfl ?_
          exact ⟨by rw [HF.out.1, HF.out.2.1, HF.out.2.2], ExtC.ext⟩
        have KYES := Lib.hid (fun (h1 : okF x y = true) (h2 : txt x y = s) => (by
          rcases HFI.out with ⟨k0, k1, k2⟩ | ⟨-, -, -, k3⟩
          · have := KEY.out n d k1 k2
            exact ⟨k0, this.2.1.symm, by rcases this.2.2 with ⟨-, -, q⟩ | ⟨q, -⟩; exact q.symm; exact absurd hcs q⟩
          · exact absurd h2 (k3 _ _ h1) : b = true ∧ n = x ∧ d = y))
        have KNO := Lib.hid (fun (h : okF x y = false ∨ ¬ txt x y = s) => (by
          rcases HFI.out with ⟨k0, k1, k2⟩ | ⟨k0, k1, k2, -⟩
          · have := KEY.out n d k1 k2
            have e : y = d := by rcases this.2.2 with ⟨-, -, q⟩ | ⟨q, -⟩; exact q; exact absurd hcs q
            rw [this.2.1, e] at h
            rcases h with h | h
            · rw [k1] at h; cases h
            · exact absurd k2 h
          · exact ⟨k0, k1, k2⟩ : b = false ∧ n = 0 ∧ d = 0))
        clear KEY BAD
        have R3 := fun z => spec_l01Text x y (by omega) (by omega) z
        cases hq : okF x y
        · have HF := Lib.hid (KNO.out (.inl hq))
          have R4 := fun z => spec_l01Ok x y false hq z
          clear hq
          go_wp2_with (first | (go_at_call 90; (with_reducible refine Calls.mono (by first | exact R1 _ | exact R2 _) ?_); rintro e w' ⟨rfl, hx⟩; obtain ⟨g, rfl⟩ := hx.grow; clear hx) | (go_at_call 72; (with_reducible refine (R4 _).mono ?_); rintro e w' ⟨rfl, hx⟩; obtain ⟨g, rfl⟩ := hx.grow; clear hx) | (go_at_call 73; (with_reducible refine (R3 _).mono ?_); rintro e w' ⟨rfl, hx⟩; obtain ⟨g, rfl⟩ := hx.grow; clear hx))
          refine bodyPost_ret (v := .tuple #[.agg #[.int .i64 0, .int .i64 0], .bool false]) (by simp [results, Tryd.results47, go_sem]) rfl ?_
          exact ⟨by rw [HF.out.1, HF.out.2.1, HF.out.2.2], ExtC.ext⟩
        have R4 := fun z => spec_l01Ok x y true hq z
        by_cases ht : txt x y = s
        · have HF := Lib.hid (KYES.out hq ht)
          rw [ht] at R3
          clear hq ht
          go_wp2_with (first | (go_at_call 90; (with_reducible refine Calls.mono (by first | exact R1 _ | exact R2 _) ?_); rintro e w' ⟨rfl, hx⟩; obtain ⟨g, rfl⟩ := hx.grow; clear hx) | (go_at_call 72; (with_reducible refine (R4 _).mono ?_); rintro e w' ⟨rfl, hx⟩; obtain ⟨g, rfl⟩ := hx.grow; clear hx) | (go_at_call 73; (with_reducible refine (R3 _).mono ?_); rintro e w' ⟨rfl, hx⟩; obtain ⟨g, rfl⟩ := hx.grow; clear hx))
          refine bodyPost_ret (v := .tuple #[.agg #[.int .i64 x, .int .i64 y], .bool true]) (by simp [results, Tryd.results47, go_sem]) rfl ?_
          exact ⟨by rw [HF.out.1, HF.out.2.1, HF.out.2.2], ExtC.ext⟩
        · have HF := Lib.hid (KNO.out (.inr ht))
          have d1 := ne_list ht
          have d2 : ((txt x y).toList == s.toList) = false := by simp [d1]
          obtain ⟨t, htt⟩ : ∃ t, txt x y = t := ⟨_, rfl⟩
          rw [htt] at R3 d1 d2
          clear hq ht htt
          go_wp2_with (first | (go_at_call 90; (with_reducible refine Calls.mono (by first | exact R1 _ | exact R2 _) ?_); rintro e w' ⟨rfl, hx⟩; obtain ⟨g, rfl⟩ := hx.grow; clear hx) | (go_at_call 72; (with_reducible refine (R4 _).mono ?_); rintro e w' ⟨rfl, hx⟩; obtain ⟨g, rfl⟩ := hx.grow; clear hx) | (go_at_call 73; (with_reducible refine (R3 _).mono ?_); rintro e w' ⟨rfl, hx⟩; obtain ⟨g, rfl⟩ := hx.grow; clear hx))
          refine bodyPost_ret (v := .tuple #[.agg #[.int .i64 0, .int .i64 0], .bool false]) (by simp [results, Tryd.results47, go_sem]) rfl ?_
          exact ⟨by rw [HF.out.1, HF.out.2.1, HF.out.2.2], ExtC.ext⟩
      · skip
        have KYES := Lib.hid (fun (h1 : okF x 1 = true) (h2 : txt x 1 = s) => (by
          rcases HFI.out with ⟨k0, k1, k2⟩ | ⟨-, -, -, k3⟩
          · have := KEY.out n d k1 k2
            exact ⟨k0, this.2.1.symm, by rcases this.2.2 with ⟨q, -, -⟩ | ⟨-, q⟩; exact absurd q hcs; exact q⟩
          · exact absurd h2 (k3 _ _ h1) : b = true ∧ n = x ∧ d = 1))
        have KNO := Lib.hid (fun (h : okF x 1 = false ∨ ¬ txt x 1 = s) => (by
          rcases HFI.out with ⟨k0, k1, k2⟩ | ⟨k0, k1, k2, -⟩
          · have := KEY.out n d k1 k2
            have e : 1 = d := by rcases this.2.2 with ⟨q, -, -⟩ | ⟨-, q⟩; exact absurd q hcs; exact q.symm
            rw [this.2.1, e] at h
            rcases h with h | h
            · rw [k1] at h; cases h
            · exact absurd k2 h
          · exact ⟨k0, k1, k2⟩ : b = false ∧ n = 0 ∧ d = 0))
        clear KEY BAD
        have R3 := fun z => spec_l01Text x 1 (by omega) (by omega) z
        cases hq : okF x 1
        · have HF := Lib.hid (KNO.out (.inl hq))
          have R4 := fun z => spec_l01Ok x 1 false hq z
          clear hq
          go_wp2_with (first | (go_at_call 90; (with_reducible refine Calls.mono (by first | exact R1 _ | exact R2 _) ?_); rintro e w' ⟨rfl, hx⟩; obtain ⟨g, rfl⟩ := hx.grow; clear hx) | (go_at_call 72; (with_reducible refine (R4 _).mono ?_); rintro e w' ⟨rfl, hx⟩; obtain ⟨g, rfl⟩ := hx.grow; clear hx) | (go_at_call 73; (with_reducible refine (R3 _).mono ?_); rintro e w' ⟨rfl, hx⟩; obtain ⟨g, rfl⟩ := hx.grow; clear hx))
          refine bodyPost_ret (v := .tuple #[.agg #[.int .i64 0, .int .i64 0], .bool false]) (by simp [results, Tryd.results47, go_sem]) rfl ?_
          exact ⟨by rw [HF.out.1, HF.out.2.1, HF.out.2.2], ExtC.ext⟩
        have R4 := fun z => spec_l01Ok x 1 true hq z
        by_cases ht : txt x 1 = s
        · have HF := Lib.hid (KYES.out hq ht)
          rw [ht] at R3
          clear hq ht
          go_wp2_with (first | (go_at_call 90; (with_reducible refine Calls.mono (by first | exact R1 _ | exact R2 _) ?_); rintro e w' ⟨rfl, hx⟩; obtain ⟨g, rfl⟩ := hx.grow; clear hx) | (go_at_call 72; (with_reducible refine (R4 _).mono ?_); rintro e w' ⟨rfl, hx⟩; obtain ⟨g, rfl⟩ := hx.grow; clear hx) | (go_at_call 73; (with_reducible refine (R3 _).mono ?_); rintro e w' ⟨rfl, hx⟩; obtain ⟨g, rfl⟩ := hx.grow; clear hx))
          refine bodyPost_ret (v := .tuple #[.agg #[.int .i64 x, .int .i64 1], .bool true]) (by simp [results, Tryd.results47, go_sem]) rfl ?_
          exact ⟨by rw [HF.out.1, HF.out.2.1, HF.out.2.2], ExtC.ext⟩
        · have HF := Lib.hid (KNO.out (.inr ht))
          have d1 := ne_list ht
          have d2 : ((txt x 1).toList == s.toList) = false := by simp [d1]
          obtain ⟨t, htt⟩ : ∃ t, txt x 1 = t := ⟨_, rfl⟩
          rw [htt] at R3 d1 d2
          clear hq ht htt
          go_wp2_with (first | (go_at_call 90; (with_reducible refine Calls.mono (by first | exact R1 _ | exact R2 _) ?_); rintro e w' ⟨rfl, hx⟩; obtain ⟨g, rfl⟩ := hx.grow; clear hx) | (go_at_call 72; (with_reducible refine (R4 _).mono ?_); rintro e w' ⟨rfl, hx⟩; obtain ⟨g, rfl⟩ := hx.grow; clear hx) | (go_at_call 73; (with_reducible refine (R3 _).mono ?_); rintro e w' ⟨rfl, hx⟩; obtain ⟨g, rfl⟩ := hx.grow; clear hx))
          refine bodyPost_ret (v := .tuple #[.agg #[.int .i64 0, .int .i64 0], .bool false]) (by simp [results, Tryd.results47, go_sem]) rfl ?_
          exact ⟨by rw [HF.out.1, HF.out.2.1, HF.out.2.2], ExtC.ext⟩
end Go.Proofs.YtomkhjcejjkelaaDoor
