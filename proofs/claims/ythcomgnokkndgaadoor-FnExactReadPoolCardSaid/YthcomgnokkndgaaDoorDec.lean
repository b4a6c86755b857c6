/- Numbers in decimal: strconv.FormatInt at base 10 (the kit's contract) against spec.l01Dec. -/
import Derived.Test.YthcomgnokkndgaaDoorTail
import Derived.Test.YthcomgnokkndgaaDoorShA
import Derived.Lib.LaidTab
import Derived.Lib.AppendIntMem
import Derived.Lib.ItoaMem
import Derived.Lib.ItoaLen
import Derived.Laws.Concat
import Derived.Laws.IdiomStrings
namespace Go.Proofs.YthcomgnokkndgaaDoor
open Go.RowKit

/-- The bytes of a number in decimal. -/
def dec (n : Int) : ByteArray := ⟨(Lib.itoa n).toArray⟩
/-- The table of powers of ten lies where the program's text lays it. -/
def Pow (w : World) : Prop := Lib.TabIs Tryd.prog w "internal/strconv.uint64pow10" .u64 Lib.pow10Tab
theorem tab_ext {P : Program} {w w' : World} {name : String} {k : IntKind} {zs : List Int} (h : Lib.TabIs P w name k zs) (hx : Ext w w') : Lib.TabIs P w' name k zs := by
  unfold Lib.TabIs World.var? at *
  cases hg : P.globalNamed name with
  | none => simp [hg] at h
  | some g =>
    simp only [hg, Option.bind_some] at h ⊢
    have hlt : g < w.heap.size := by
      rcases Nat.lt_or_ge g w.heap.size with h' | h'
      · exact h'
      · rw [Array.getElem?_eq_none h'] at h; simp at h
    rw [hx.block g hlt]
    exact h
theorem Pow.ext {w w' : World} (h : Pow w) (hx : Ext w w') : Pow w' := tab_ext h hx

theorem impl_Decimal (n : Int) (h0 : -9223372036854775808 ≤ n) (h1 : n ≤ 9223372036854775807) (w : World) (hp : Pow w) :
    Calls Tryd.prog 49 #[.int .i64 n] w fun e w' => e = .returned (.string (dec n)) ∧ Ext w w' := by
  have R := fun x (hx : Ext w x) => (Tryd.strconv_FormatInt_10 n h0 h1 x (hp.ext hx)).mono fun e w' (h : e = .returned (.string ⟨(Lib.itoa n).toArray⟩) ∧ ∃ k os, w' = Sort.grow (x.drewN k) os) => (⟨h.1, by obtain ⟨k, os, rfl⟩ := h.2; exact Lib.below_grow _ x (Nat.le_refl _) k os⟩ : e = .returned (.string (dec n)) ∧ Ext x w')
  clear hp
  go_enter Tryd.func49, Tryd.ntmps49
  go_wp2_with (first | (go_at_call 69; (with_reducible refine (R _ ExtC.ext).mono ?_); rintro e w' ⟨rfl, hx⟩; obtain ⟨g, rfl⟩ := hx.grow; clear hx))
  go_ret
  exact ⟨rfl, ExtC.ext⟩

theorem dec_length (u : Nat) (h : u ≤ 9223372036854775808) : (Lib.decDigits u).length ≤ 20 := by
  have h1 := Lib.itoa_length_le (-(u : Int)) (by omega) (by omega)
  rcases Nat.eq_zero_or_pos u with e | e
  · subst e; rw [Lib.decDigits_length]; simp [Lib.nDigits]
  · rw [Lib.itoa_neg u e] at h1
    simp only [List.length_cons] at h1
    omega
theorem decDigits_step (v : Nat) (hv : 0 < v) : Lib.decDigits v = (if v / 10 = 0 then [] else Lib.decDigits (v / 10)) ++ [UInt8.ofNat (48 + v % 10)] := by
  rw [Lib.decDigits]
  split
  · rename_i h
    rw [if_pos (by omega), Nat.mod_eq_of_lt h]; rfl
  · rename_i h
    rw [if_neg (by omega)]
theorem conv_one (w : World) (n : Int) (T : TypeId) (h0 : 0 ≤ n) (h1 : n < 256) : (convert 92 9 (.slice (some ⟨w.heap.size, 0, none⟩) 1 1)).run Tryd.prog (w.alloc (.cells #[.int .u8 n] T)) = .ok (.string ⟨#[UInt8.ofNat n.toNat]⟩) (w.alloc (.cells #[.int .u8 n] T)) :=
  run_convert_bytes_back (w.alloc (.cells #[.int .u8 n] T)) 92 9 5 ⟨w.heap.size, 0, none⟩ 1 [UInt8.ofNat n.toNat] Tryd.underlying92 Tryd.underlying5 Tryd.underlying9 (fun j hj => by
    have : j = 0 := by simpa using hj
    subst this
    have e : (⟨w.heap.size, 0, none⟩ : Addr).add 0 = ⟨w.heap.size, 0, none⟩ := by unfold Addr.add; split <;> simp_all
    have e2 : ((UInt8.ofNat n.toNat).toNat : Int) = n := by
      rw [UInt8.toNat_ofNat']
      have : n.toNat % 2 ^ 8 = n.toNat := Nat.mod_eq_of_lt (by omega)
      rw [this]; omega
    rw [e, World.cell?_alloc_at _ _ _ _ rfl]
    simp only [List.getElem_cons_zero, e2]
    rfl)
theorem dec_zero : dec 0 = ⟨#[48]⟩ := by
  unfold dec Lib.itoa
  rw [if_neg (by decide), show (0 : Int).toNat = 0 from rfl, Lib.decDigits, dif_pos (by decide)]
  rfl
theorem cons_bytes (b : UInt8) (s : ByteArray) : ((⟨#[b]⟩ : ByteArray) ++ s).data.toList = b :: s.data.toList := by
  rw [ByteArray.data_append]; simp
theorem bytes_eq {s : ByteArray} {l : List UInt8} (h : s.data.toList = l) : s = ⟨l.toArray⟩ := by
  subst h
  cases s; simp

set_option maxHeartbeats 4000000 in
theorem spec_l01Dec (n : Int) (h0 : -9223372036854775808 ≤ n) (h1 : n ≤ 9223372036854775807) (w : World) :
    Calls Tryd.prog 45 #[.int .i64 n] w fun e w' => e = .returned (.string (dec n)) ∧ Ext w w' := by
  by_cases hz : n = 0
  · subst hz
    have HZ := Lib.hid dec_zero
    go_enter Tryd.func45, Tryd.ntmps45
    go_wp2
    go_ret
    exact ⟨by rw [HZ.out]; rfl, ExtC.ext⟩
  obtain ⟨u, hu⟩ : ∃ u : Nat, n.natAbs = u := ⟨_, rfl⟩
  have hu8 : u ≤ 9223372036854775808 := by omega
  have HL := Lib.hid (dec_length u hu8)
  by_cases hneg : n < 0
  · have d1 : decide (0 < n) = false := by simp; omega
    have d2 : decide (n < 0) = true := by simp; omega
    have d3 : (n == 0) = false := by simp [hz]
    have HD := Lib.hid (show dec n = _ from (by unfold dec Lib.itoa; rw [if_pos hneg, hu]))
    have HNU := Lib.hid (show n = -(u : Int) by omega)
    clear hu
    go_enter Tryd.func45, Tryd.ntmps45
    go_wp2_with fail
    go_loopw [3, 4] (fun m o wr => ∃ (v : Nat) (z : Int) (s : ByteArray), m = .int .i64 z ∧ o = .string s ∧ -9223372036854775808 ≤ z ∧ z ≤ 0 ∧ s.size ≤ 20 ∧ Ext w wr ∧ Hid (z = -(v : Int)) ∧ Hid (Lib.decDigits u = (if v = 0 then [] else Lib.decDigits v) ++ s.data.toList)) (fun m _ _ => (intOf m).natAbs)
    case atStart => exact ⟨u, n, ⟨#[]⟩, rfl, rfl, by omega, by omega, by simp [ByteArray.size], ExtC.ext, HNU, Lib.hid (by rw [if_neg (by have := HNU.out; omega)]; simp)⟩
    case round =>
      obtain ⟨v, z, s, rfl, rfl, hz0, hz1, hs, hx, HZ, HS⟩ := hrel
      obtain ⟨g0, rfl⟩ := hx.grow; clear hx
      by_cases hlt : z < 0
      · have hv : 0 < v := by have := HZ.out; omega
        have hs19 : s.size ≤ 19 := by
          have h2 := congrArg List.length HS.out
          have h3 := HL.out
          have h4 := Lib.nDigits_pos v
          rw [if_neg (by omega), List.length_append, Lib.decDigits_length v] at h2
          have : s.data.toList.length = s.size := Array.length_toList
          omega
        obtain ⟨r, hr⟩ : ∃ r, z.tmod 10 = r := ⟨_, rfl⟩
        obtain ⟨q, hq⟩ : ∃ q, z.tdiv 10 = q := ⟨_, rfl⟩
        have HR := Lib.hid (show r = -((v % 10 : Nat) : Int) by rw [← hr, HZ.out, Int.neg_tmod, Int.tmod_eq_emod_of_nonneg (by omega)]; omega)
        have HQ := Lib.hid (show q = -((v / 10 : Nat) : Int) by rw [← hq, HZ.out, Int.neg_tdiv, Int.tdiv_eq_ediv_of_nonneg (by omega)]; omega)
        have hr0 : -9 ≤ r := by have := HR.out; omega
        have hr1 : r ≤ 0 := by have := HR.out; omega
        have hq0 : -9223372036854775808 ≤ q := by have := HQ.out; have := HZ.out; omega
        have hq1 : q ≤ 0 := by have := HQ.out; omega
        have hcv := fun (x : World) => conv_one x (48 - r) 5 (by omega) (by omega)
        go_wp2_with fail
        go_roundw
        case rel =>
          refine ⟨v / 10, q, _, rfl, rfl, hq0, hq1, by simp only [ByteArray.size_append', ByteArray.size_mk', List.size_toArray, List.length_cons, List.length_nil]; omega, ExtC.ext, HQ, Lib.hid ?_⟩
          have e : (48 - r).toNat = 48 + v % 10 := by have := HR.out; omega
          rw [HS.out, if_neg (by omega), cons_bytes, decDigits_step v hv, e]
          simp
        case measure => simp [intOf]; have := HQ.out; have := HZ.out; omega
      · have e : v = 0 := by have := HZ.out; omega
        have hz0 : s.data.toList = Lib.decDigits u := by have := HS.out; rw [if_pos e] at this; simpa using this.symm
        have HE := Lib.hid hz0
        go_wp2_with fail
        go_ret
        refine ⟨?_, ExtC.ext⟩
        have hz0 := HE.out
        rw [HD.out]
        exact congrArg (fun b => Ending.returned (.string b)) (bytes_eq (by rw [cons_bytes, hz0]))
  · have d1 : decide (0 < n) = true := by simp; omega
    have d2 : decide (n < 0) = false := by simp; omega
    have d3 : (n == 0) = false := by simp [hz]
    have HD := Lib.hid (show dec n = _ from (by unfold dec Lib.itoa; rw [if_neg hneg, show n.toNat = u by omega]))
    have HNU := Lib.hid (show -n = -(u : Int) by omega)
    clear hu
    go_enter Tryd.func45, Tryd.ntmps45
    go_wp2_with fail
    go_loopw [3, 4] (fun m o wr => ∃ (v : Nat) (z : Int) (s : ByteArray), m = .int .i64 z ∧ o = .string s ∧ -9223372036854775808 ≤ z ∧ z ≤ 0 ∧ s.size ≤ 20 ∧ Ext w wr ∧ Hid (z = -(v : Int)) ∧ Hid (Lib.decDigits u = (if v = 0 then [] else Lib.decDigits v) ++ s.data.toList)) (fun m _ _ => (intOf m).natAbs)
    case atStart => exact ⟨u, -n, ⟨#[]⟩, rfl, rfl, by omega, by omega, by simp [ByteArray.size], ExtC.ext, HNU, Lib.hid (by rw [if_neg (by have := HNU.out; omega)]; simp)⟩
    case round =>
      obtain ⟨v, z, s, rfl, rfl, hz0, hz1, hs, hx, HZ, HS⟩ := hrel
      obtain ⟨g0, rfl⟩ := hx.grow; clear hx
      by_cases hlt : z < 0
      · have hv : 0 < v := by have := HZ.out; omega
        have hs19 : s.size ≤ 19 := by
          have h2 := congrArg List.length HS.out
          have h3 := HL.out
          have h4 := Lib.nDigits_pos v
          rw [if_neg (by omega), List.length_append, Lib.decDigits_length v] at h2
          have : s.data.toList.length = s.size := Array.length_toList
          omega
        obtain ⟨r, hr⟩ : ∃ r, z.tmod 10 = r := ⟨_, rfl⟩
        obtain ⟨q, hq⟩ : ∃ q, z.tdiv 10 = q := ⟨_, rfl⟩
        have HR := Lib.hid (show r = -((v % 10 : Nat) : Int) by rw [← hr, HZ.out, Int.neg_tmod, Int.tmod_eq_emod_of_nonneg (by omega)]; omega)
        have HQ := Lib.hid (show q = -((v / 10 : Nat) : Int) by rw [← hq, HZ.out, Int.neg_tdiv, Int.tdiv_eq_ediv_of_nonneg (by omega)]; omega)
        have hr0 : -9 ≤ r := by have := HR.out; omega
        have hr1 : r ≤ 0 := by have := HR.out; omega
        have hq0 : -9223372036854775808 ≤ q := by have := HQ.out; have := HZ.out; omega
        have hq1 : q ≤ 0 := by have := HQ.out; omega
        have hcv := fun (x : World) => conv_one x (48 - r) 5 (by omega) (by omega)
        go_wp2_with fail
        go_roundw
        case rel =>
          refine ⟨v / 10, q, _, rfl, rfl, hq0, hq1, by simp only [ByteArray.size_append', ByteArray.size_mk', List.size_toArray, List.length_cons, List.length_nil]; omega, ExtC.ext, HQ, Lib.hid ?_⟩
          have e : (48 - r).toNat = 48 + v % 10 := by have := HR.out; omega
          rw [HS.out, if_neg (by omega), cons_bytes, decDigits_step v hv, e]
          simp
        case measure => simp [intOf]; have := HQ.out; have := HZ.out; omega
      · have e : v = 0 := by have := HZ.out; omega
        have hz0 : s.data.toList = Lib.decDigits u := by have := HS.out; rw [if_pos e] at this; simpa using this.symm
        have HE := Lib.hid hz0
        go_wp2_with fail
        go_ret
        refine ⟨?_, ExtC.ext⟩
        have hz0 := HE.out
        rw [HD.out]
        exact congrArg (fun b => Ending.returned (.string b)) (bytes_eq hz0)

end Go.Proofs.YthcomgnokkndgaaDoor
