/- Numbers read from their decimal text: impl.readNumber (strconv.ParseInt by the kit's contract) and spec.l01Read. -/
import Derived.Test.YthcomgnokkndgaaDoorReadP
import Derived.Test.YthcomgnokkndgaaDoorShP
import Derived.Test.YthcomgnokkndgaaDoorBasic
import Derived.Lib.SmallJoins
namespace Go.Proofs.YthcomgnokkndgaaDoor
open Go.RowKit

/-- The library's two errors of reading a number lie in their variables. -/
def Errs (w : World) : Prop := (∃ tp p, w.var? Tryd.prog "strconv.ErrSyntax" = some #[.iface tp p]) ∧ ∃ tp p, w.var? Tryd.prog "strconv.ErrRange" = some #[.iface tp p]
theorem var_ext {P : Program} {w w' : World} {name : String} {cs : Array Value} (h : w.var? P name = some cs) (hx : Ext w w') : w'.var? P name = some cs := by
  unfold World.var? at *
  cases hg : P.globalNamed name with
  | none => simp [hg] at h
  | some g =>
    simp only [hg, Option.bind_some] at h ⊢
    have hlt : g < w.heap.size := by
      rcases Nat.lt_or_ge g w.heap.size with h' | h'
      · exact h'
      · rw [Array.getElem?_eq_none h'] at h; simp at h
    rw [hx.block g hlt]
    exact h
theorem Errs.ext {w w' : World} (h : Errs w) (hx : Ext w w') : Errs w' := by
  obtain ⟨⟨a, b, h1⟩, c, d, h2⟩ := h
  exact ⟨⟨a, b, var_ext h1 hx⟩, c, d, var_ext h2 hx⟩

theorem ne_list {a b : ByteArray} (h : ¬ a = b) : ¬ a.toList = b.toList := by
  intro e
  rw [ByteArray.toList_eq, ByteArray.toList_eq] at e
  apply h
  cases a; cases b
  simp only [ByteArray.mk.injEq] at e ⊢
  exact Array.toList_inj.1 e

set_option maxHeartbeats 2000000 in
set_option maxRecDepth 100000 in
theorem impl_readNumber (s : ByteArray) (lo hi x : Int) (b : Bool) (hn : NumIs lo hi s x b) (w : World) (hs : s.size ≤ 1048576) (h0 : -9223372036854775808 ≤ lo) (h1 : hi ≤ 9223372036854775807) (hp : Pow w) (he : Errs w) :
    Calls Tryd.prog 26 #[.string s, .int .i64 lo, .int .i64 hi] w fun e w' => e = .returned (.tuple #[.int .i64 x, .bool b]) ∧ Ext w w' := by
  have HNO := Lib.hid (fun (hno : ∀ v, Lib.parseIntB 64 s.data.toList ≠ .ok v) => (show b = false ∧ x = 0 by
    rcases hn with ⟨-, k1, k2, k3⟩ | ⟨k1, k2, -⟩
    · have := parse_itoa x (by omega) (by omega)
      rw [← k3, dec_bytes] at hno
      exact absurd this (hno x)
    · exact ⟨k1, k2⟩))
  cases hps : Lib.parseIntB 64 s.data.toList with
  | ok v =>
    have hv := parse_range hps
    have HPS := Lib.hid hps
    have R1 := fun y (_ : Ext w y) => (Tryd.strconv_ParseInt_10_at64_ok s (by omega) v hps y).mono fun e w' (h : e = .returned (.tuple #[.int .i64 v, .nilIface]) ∧ (w' = y ∨ ∃ t, w' = Lib.bytesWorld y 5 t)) => (⟨h.1, by
      rcases h.2 with rfl | ⟨t, rfl⟩
      · exact Ext.refl _
      · exact Go.Joins.below_bytesWorld _ _ _ _ (Nat.le_refl _)⟩ : e = .returned (.tuple #[.int .i64 v, .nilIface]) ∧ Ext y w')
    have R2 := fun y (hy : Ext w y) => impl_Decimal v hv.1 hv.2 y (hp.ext hy)
    clear hp he hps HNO
    by_cases hd : dec v = s
    · rw [hd] at R2
      cases q : inB v lo hi
      · have HF := Lib.hid (show b = false ∧ x = 0 by
          rcases hn with ⟨-, k1, k2, k3⟩ | ⟨k1, k2, -⟩
          · have := dec_inj (hd.trans k3.symm); subst this
            exact absurd ⟨k1, k2⟩ (inB_false.1 q)
          · exact ⟨k1, k2⟩)
        clear hn hd
        go_enter Tryd.func26, Tryd.ntmps26
        go_wp2_with (first | (go_at_call 48; (with_reducible refine (R1 _ ExtC.ext).mono ?_); rintro e w' ⟨rfl, hx⟩; obtain ⟨g, rfl⟩ := hx.grow; clear hx) | (go_at_call 49; (with_reducible refine (R2 _ ExtC.ext).mono ?_); rintro e w' ⟨rfl, hx⟩; obtain ⟨g, rfl⟩ := hx.grow; clear hx) | (go_at_call 50; (with_reducible refine (impl_within _ _ _ _ (by assumption) _).mono ?_); rintro e w' ⟨rfl, hx⟩; obtain ⟨g, rfl⟩ := hx.grow; clear hx))
        refine bodyPost_ret (v := .tuple #[.int .i64 0, .bool false]) (by simp [results, Tryd.results26, go_sem]) rfl ?_
        exact ⟨by rw [HF.out.1, HF.out.2], ExtC.ext⟩
      · have HF := Lib.hid (show b = true ∧ x = v by
          rcases hn with ⟨k0, k1, k2, k3⟩ | ⟨-, -, k3⟩
          · exact ⟨k0, dec_inj (k3.trans hd.symm)⟩
          · have := inB_true.1 q
            exact absurd hd (k3 v this.1 this.2))
        clear hn hd
        go_enter Tryd.func26, Tryd.ntmps26
        go_wp2_with (first | (go_at_call 48; (with_reducible refine (R1 _ ExtC.ext).mono ?_); rintro e w' ⟨rfl, hx⟩; obtain ⟨g, rfl⟩ := hx.grow; clear hx) | (go_at_call 49; (with_reducible refine (R2 _ ExtC.ext).mono ?_); rintro e w' ⟨rfl, hx⟩; obtain ⟨g, rfl⟩ := hx.grow; clear hx) | (go_at_call 50; (with_reducible refine (impl_within _ _ _ _ (by assumption) _).mono ?_); rintro e w' ⟨rfl, hx⟩; obtain ⟨g, rfl⟩ := hx.grow; clear hx))
        refine bodyPost_ret (v := .tuple #[.int .i64 v, .bool true]) (by simp [results, Tryd.results26, go_sem]) rfl ?_
        exact ⟨by rw [HF.out.1, HF.out.2], ExtC.ext⟩
    · have HF := Lib.hid (show b = false ∧ x = 0 by
        rcases hn with ⟨-, k1, k2, k3⟩ | ⟨k1, k2, -⟩
        · have hpx := parse_itoa x (by omega) (by omega)
          rw [← dec_bytes, k3, HPS.out] at hpx
          injection hpx with e
          subst e
          exact absurd k3 hd
        · exact ⟨k1, k2⟩)
      have hd2 := ne_list hd
      obtain ⟨d, hdd⟩ : ∃ d, dec v = d := ⟨_, rfl⟩
      rw [hdd] at R2 hd2
      clear hn hdd hd
      go_enter Tryd.func26, Tryd.ntmps26
      go_wp2_with (first | (go_at_call 48; (with_reducible refine (R1 _ ExtC.ext).mono ?_); rintro e w' ⟨rfl, hx⟩; obtain ⟨g, rfl⟩ := hx.grow; clear hx) | (go_at_call 49; (with_reducible refine (R2 _ ExtC.ext).mono ?_); rintro e w' ⟨rfl, hx⟩; obtain ⟨g, rfl⟩ := hx.grow; clear hx) | (go_at_call 50; (with_reducible refine (impl_within _ _ _ _ (by assumption) _).mono ?_); rintro e w' ⟨rfl, hx⟩; obtain ⟨g, rfl⟩ := hx.grow; clear hx))
      refine bodyPost_ret (v := .tuple #[.int .i64 0, .bool false]) (by simp [results, Tryd.results26, go_sem]) rfl ?_
      exact ⟨by rw [HF.out.1, HF.out.2], ExtC.ext⟩
  | «syntax» =>
    have HF := Lib.hid (HNO.out (fun v h => by rw [hps] at h; cases h))
    obtain ⟨tp, q, he⟩ := he.1
    have R1 := fun y (hy : Ext w y) => (Tryd.strconv_ParseInt_10_at64_syntax_var s (by omega) hps tp q y (var_ext he hy)).mono fun e w' h => (⟨h.choose, h.choose_spec.1, h.choose_spec.2.2.2⟩ : ∃ N, e = .returned (.tuple #[.int .i64 0, .iface 116 (.pointer (some ⟨N, 0, none⟩))]) ∧ Ext y w')
    clear he hn hp hps HNO
    go_enter Tryd.func26, Tryd.ntmps26
    go_wp2_with (first | (go_at_call 48; (with_reducible refine (R1 _ ExtC.ext).mono ?_); rintro e w' ⟨N, rfl, hx⟩; obtain ⟨g, rfl⟩ := hx.grow; clear hx R1))
    refine bodyPost_ret (v := .tuple #[.int .i64 0, .bool false]) (by simp [results, Tryd.results26, go_sem]) rfl ?_
    exact ⟨by rw [HF.out.1, HF.out.2], ExtC.ext⟩
  | range =>
    have HF := Lib.hid (HNO.out (fun v h => by rw [hps] at h; cases h))
    obtain ⟨tp, q, he⟩ := he.2
    have R1 := fun y (hy : Ext w y) => (Tryd.strconv_ParseInt_10_at64_range_var s (by omega) hps tp q y (var_ext he hy)).mono fun e w' h => (⟨h.choose, h.choose_spec.1, h.choose_spec.2.2.2⟩ : ∃ N, e = .returned (.tuple #[.int .i64 (Lib.intSat 64 s.data.toList), .iface 116 (.pointer (some ⟨N, 0, none⟩))]) ∧ Ext y w')
    clear he hn hp hps HNO
    go_enter Tryd.func26, Tryd.ntmps26
    go_wp2_with (first | (go_at_call 48; (with_reducible refine (R1 _ ExtC.ext).mono ?_); rintro e w' ⟨N, rfl, hx⟩; obtain ⟨g, rfl⟩ := hx.grow; clear hx R1))
    refine bodyPost_ret (v := .tuple #[.int .i64 0, .bool false]) (by simp [results, Tryd.results26, go_sem]) rfl ?_
    exact ⟨by rw [HF.out.1, HF.out.2], ExtC.ext⟩

theorem valI_dec {n : Int} {s : ByteArray} (h : dec n = s) : valI s.data.toList = n := by rw [← h, dec_bytes, valI_itoa]
theorem size_list (s : ByteArray) : s.data.toList.length = s.size := Array.length_toList
theorem get_list (s : ByteArray) (k : Nat) (h : k < s.size) : s.data.toList[k]'(by rw [size_list]; exact h) = s[k] := by
  rw [Array.getElem_toList]; rfl
theorem list_none {s : ByteArray} (h : ¬ 0 < s.size) : s.data.toList = [] := List.length_eq_zero_iff.1 (by rw [size_list]; omega)
theorem take_snoc (s : ByteArray) (k : Nat) (h : k < s.size) : valD (s.data.toList.take (k + 1)) = stepD (valD (s.data.toList.take k)) s[k] := by
  rw [List.take_succ_eq_append_getElem (by rw [size_list]; exact h), valD_snoc, get_list s k h]
theorem take_lt (s : ByteArray) (k : Nat) : valD (s.data.toList.take k) < 10 ^ k := by
  refine Nat.lt_of_lt_of_le (valD_lt _) (Nat.pow_le_pow_right (by decide) ?_)
  rw [List.length_take]; exact Nat.min_le_left _ _

set_option maxHeartbeats 4000000 in
set_option maxRecDepth 100000 in
theorem spec_l01Read (s : ByteArray) (x : Int) (b : Bool) (hn : NumIs (-999999999) 999999999 s x b) (w : World) (hs : s.size ≤ 1048576) :
    Calls Tryd.prog 74 #[.string s] w fun e w' => e = .returned (.tuple #[.int .i64 x, .bool b]) ∧ Ext w w' := by
  by_cases h10 : 10 < s.size
  · have HF := Lib.hid (show b = false ∧ x = 0 by
      rcases hn with ⟨-, k1, k2, k3⟩ | ⟨k1, k2, -⟩
      · have := itoa_short k1 k2
        rw [← dec_bytes, k3, size_list] at this
        omega
      · exact ⟨k1, k2⟩)
    clear hn
    go_enter Tryd.func74, Tryd.ntmps74
    go_wp2_with fail
    refine bodyPost_ret (v := .tuple #[.int .i64 0, .bool false]) (by simp [results, Tryd.results74, go_sem]) rfl ?_
    exact ⟨by rw [HF.out.1, HF.out.2], ExtC.ext⟩
  obtain ⟨v, hv⟩ : ∃ v, valI s.data.toList = v := ⟨_, rfl⟩
  have HEND := Lib.hid (show (∀ (_ : inB v (-999999999) 999999999 = true) (_ : dec v = s), b = true ∧ x = v) ∧ ((inB v (-999999999) 999999999 = false ∨ ¬ dec v = s) → b = false ∧ x = 0) by
    refine ⟨fun h1 h2 => ?_, fun h => ?_⟩
    · rcases hn with ⟨k0, k1, k2, k3⟩ | ⟨-, -, k3⟩
      · exact ⟨k0, dec_inj (k3.trans h2.symm)⟩
      · have := inB_true.1 h1
        exact absurd h2 (k3 v this.1 this.2)
    · rcases hn with ⟨-, k1, k2, k3⟩ | ⟨k1, k2, -⟩
      · have e := valI_dec k3
        rw [hv] at e
        subst e
        rcases h with h | h
        · exact absurd ⟨k1, k2⟩ (inB_false.1 h)
        · exact absurd k3 h
      · exact ⟨k1, k2⟩)
  have HV := Lib.hid hv
  clear hn hv
  go_enter Tryd.func74, Tryd.ntmps74
  go_wp2_with fail
  go_loopw [4, 5] (fun o i wr => ∃ (k z : Nat), k ≤ s.size ∧ i = .int .i64 k ∧ o = .int .i64 z ∧ z < 10000000000 ∧ Ext w wr ∧ Hid (z = valD (s.data.toList.take k))) (fun _ i _ => s.size - (intOf i).toNat)
  case atStart => exact ⟨0, 0, Nat.zero_le _, rfl, rfl, by omega, ExtC.ext, Lib.hid rfl⟩
  case round =>
    obtain ⟨k, z, hk, rfl, rfl, hz, hx, HZ⟩ := hrel
    obtain ⟨g0, rfl⟩ := hx.grow; clear hx
    by_cases hlt : k < s.size
    · have hz9 : z < 1000000000 := by
        rw [HZ.out]
        exact Nat.lt_of_lt_of_le (take_lt s k) (Nat.pow_le_pow_right (n := 10) (by decide) (show k ≤ 9 by omega))
      have HST := Lib.hid (take_snoc s k hlt)
      have HZ1 := Lib.hid (take_lt s (k + 1))
      by_cases h1 : (s[k].toNat : Int) < 48
      · have HS : Hid (valD (s.data.toList.take (k + 1)) = z) := Lib.hid (by rw [HST.out, HZ.out]; unfold stepD; rw [if_neg (by omega)])
        have d1 : decide (48 ≤ (s[k].toNat : Int)) = false := by simp; omega
        go_wp2_with fail
        go_roundw
        case rel => exact ⟨k + 1, z, by omega, by go_num, rfl, hz, ExtC.ext, Lib.hid HS.out.symm⟩
        case measure => simp [intOf]; omega
      · by_cases h2 : 57 < (s[k].toNat : Int)
        · have HS : Hid (valD (s.data.toList.take (k + 1)) = z) := Lib.hid (by rw [HST.out, HZ.out]; unfold stepD; rw [if_neg (by omega)])
          go_wp2_with fail
          go_roundw
          case rel => exact ⟨k + 1, z, by omega, by go_num, rfl, hz, ExtC.ext, Lib.hid HS.out.symm⟩
          case measure => simp [intOf]; omega
        · have HS : Hid (valD (s.data.toList.take (k + 1)) = 10 * z + (s[k].toNat - 48)) := Lib.hid (by rw [HST.out, HZ.out]; unfold stepD; rw [if_pos (by omega)])
          have hk1 : k + 1 ≤ 10 := by omega
          have HZ2 := Lib.hid (show 10 * z + (s[k].toNat - 48) < 10000000000 by rw [← HS.out]; exact Nat.lt_of_lt_of_le HZ1.out (Nat.pow_le_pow_right (n := 10) (by decide) hk1))
          obtain ⟨c, hc⟩ : ∃ c, s[k].toNat = c := ⟨_, rfl⟩
          rw [hc] at h1 h2 HS HZ2
          go_wp2_with fail
          go_roundw
          case rel => exact ⟨k + 1, 10 * z + (c - 48), by omega, by go_num, by congr 1; omega, HZ2.out, ExtC.ext, Lib.hid HS.out.symm⟩
          case measure => simp [intOf]; omega
    · have HE := Lib.hid (show z = valD s.data.toList by rw [HZ.out, List.take_of_length_le (by rw [size_list]; omega)])
      by_cases h0 : 0 < s.size
      · obtain ⟨c, hc⟩ : ∃ c, s[0].toNat = c := ⟨_, rfl⟩
        have HHD := Lib.hid (show s.data.toList.head? = some s[0] by rw [List.head?_eq_getElem?, List.getElem?_eq_getElem (by rw [size_list]; exact h0), get_list s 0 h0])
        by_cases h45 : c = 45
        · subst h45
          have HU := Lib.hid (show -(z : Int) = v by rw [← HV.out, HE.out]; unfold valI; rw [if_pos (by rw [HHD.out]; congr 1; exact UInt8.toNat_inj.1 hc)])
          cases q : inB (-(z : Int)) (-999999999) 999999999
          · have HF := Lib.hid (HEND.out.2 (.inl (by rw [← HU.out]; exact q)))
            have R1 := fun y => spec_l00In (-(z : Int)) (-999999999) 999999999 false q y
            clear q
            go_wp2_with (first | (go_at_call 44; (with_reducible refine (R1 _).mono ?_); rintro e w' ⟨rfl, hx⟩; obtain ⟨g, rfl⟩ := hx.grow; clear hx))
            refine bodyPost_ret (v := .tuple #[.int .i64 0, .bool false]) (by simp [results, Tryd.results74, go_sem]) rfl ?_
            exact ⟨by rw [HF.out.1, HF.out.2], ExtC.ext⟩
          have hr := inB_true.1 q
          have R1 := fun y => spec_l00In (-(z : Int)) (-999999999) 999999999 true q y
          have R2 := fun y => spec_l01Dec (-(z : Int)) (by omega) (by omega) y
          by_cases hd : dec (-(z : Int)) = s
          · have HF := Lib.hid (HEND.out.1 (by rw [← HU.out]; exact q) (by rw [← HU.out]; exact hd))
            rw [hd] at R2
            clear q hd hr
            go_wp2_with (first | (go_at_call 44; (with_reducible refine (R1 _).mono ?_); rintro e w' ⟨rfl, hx⟩; obtain ⟨g, rfl⟩ := hx.grow; clear hx) | (go_at_call 45; (with_reducible refine (R2 _).mono ?_); rintro e w' ⟨rfl, hx⟩; obtain ⟨g, rfl⟩ := hx.grow; clear hx))
            refine bodyPost_ret (v := .tuple #[.int .i64 ((-(z : Int))), .bool true]) (by simp [results, Tryd.results74, go_sem]) rfl ?_
            exact ⟨by rw [HF.out.1, HF.out.2, ← HU.out], ExtC.ext⟩
          · have HF := Lib.hid (HEND.out.2 (.inr (by rw [← HU.out]; exact hd)))
            have hd2 := ne_list hd
            obtain ⟨d, hdd⟩ : ∃ d, dec (-(z : Int)) = d := ⟨_, rfl⟩
            rw [hdd] at R2 hd2
            have hd3 : (d.toList == s.toList) = false := by simp [hd2]
            clear q hd hr hdd
            go_wp2_with (first | (go_at_call 44; (with_reducible refine (R1 _).mono ?_); rintro e w' ⟨rfl, hx⟩; obtain ⟨g, rfl⟩ := hx.grow; clear hx) | (go_at_call 45; (with_reducible refine (R2 _).mono ?_); rintro e w' ⟨rfl, hx⟩; obtain ⟨g, rfl⟩ := hx.grow; clear hx))
            refine bodyPost_ret (v := .tuple #[.int .i64 0, .bool false]) (by simp [results, Tryd.results74, go_sem]) rfl ?_
            exact ⟨by rw [HF.out.1, HF.out.2], ExtC.ext⟩
        · have HU := Lib.hid (show (z : Int) = v by rw [← HV.out, HE.out]; unfold valI; rw [if_neg (by rw [HHD.out]; intro e; injection e with e; rw [e] at hc; exact h45 hc.symm)])
          cases q : inB (z : Int) (-999999999) 999999999
          · have HF := Lib.hid (HEND.out.2 (.inl (by rw [← HU.out]; exact q)))
            have R1 := fun y => spec_l00In (z : Int) (-999999999) 999999999 false q y
            clear q
            go_wp2_with (first | (go_at_call 44; (with_reducible refine (R1 _).mono ?_); rintro e w' ⟨rfl, hx⟩; obtain ⟨g, rfl⟩ := hx.grow; clear hx))
            refine bodyPost_ret (v := .tuple #[.int .i64 0, .bool false]) (by simp [results, Tryd.results74, go_sem]) rfl ?_
            exact ⟨by rw [HF.out.1, HF.out.2], ExtC.ext⟩
          have hr := inB_true.1 q
          have R1 := fun y => spec_l00In (z : Int) (-999999999) 999999999 true q y
          have R2 := fun y => spec_l01Dec (z : Int) (by omega) (by omega) y
          by_cases hd : dec (z : Int) = s
          · have HF := Lib.hid (HEND.out.1 (by rw [← HU.out]; exact q) (by rw [← HU.out]; exact hd))
            rw [hd] at R2
            clear q hd hr
            go_wp2_with (first | (go_at_call 44; (with_reducible refine (R1 _).mono ?_); rintro e w' ⟨rfl, hx⟩; obtain ⟨g, rfl⟩ := hx.grow; clear hx) | (go_at_call 45; (with_reducible refine (R2 _).mono ?_); rintro e w' ⟨rfl, hx⟩; obtain ⟨g, rfl⟩ := hx.grow; clear hx))
            refine bodyPost_ret (v := .tuple #[.int .i64 ((z : Int)), .bool true]) (by simp [results, Tryd.results74, go_sem]) rfl ?_
            exact ⟨by rw [HF.out.1, HF.out.2, ← HU.out], ExtC.ext⟩
          · have HF := Lib.hid (HEND.out.2 (.inr (by rw [← HU.out]; exact hd)))
            have hd2 := ne_list hd
            obtain ⟨d, hdd⟩ : ∃ d, dec (z : Int) = d := ⟨_, rfl⟩
            rw [hdd] at R2 hd2
            have hd3 : (d.toList == s.toList) = false := by simp [hd2]
            clear q hd hr hdd
            go_wp2_with (first | (go_at_call 44; (with_reducible refine (R1 _).mono ?_); rintro e w' ⟨rfl, hx⟩; obtain ⟨g, rfl⟩ := hx.grow; clear hx) | (go_at_call 45; (with_reducible refine (R2 _).mono ?_); rintro e w' ⟨rfl, hx⟩; obtain ⟨g, rfl⟩ := hx.grow; clear hx))
            refine bodyPost_ret (v := .tuple #[.int .i64 0, .bool false]) (by simp [results, Tryd.results74, go_sem]) rfl ?_
            exact ⟨by rw [HF.out.1, HF.out.2], ExtC.ext⟩
      · have HU := Lib.hid (show (z : Int) = v by rw [← HV.out, HE.out]; unfold valI; rw [if_neg (by rw [list_none h0]; simp)])
        cases q : inB (z : Int) (-999999999) 999999999
        · have HF := Lib.hid (HEND.out.2 (.inl (by rw [← HU.out]; exact q)))
          have R1 := fun y => spec_l00In (z : Int) (-999999999) 999999999 false q y
          clear q
          go_wp2_with (first | (go_at_call 44; (with_reducible refine (R1 _).mono ?_); rintro e w' ⟨rfl, hx⟩; obtain ⟨g, rfl⟩ := hx.grow; clear hx))
          refine bodyPost_ret (v := .tuple #[.int .i64 0, .bool false]) (by simp [results, Tryd.results74, go_sem]) rfl ?_
          exact ⟨by rw [HF.out.1, HF.out.2], ExtC.ext⟩
        have hr := inB_true.1 q
        have R1 := fun y => spec_l00In (z : Int) (-999999999) 999999999 true q y
        have R2 := fun y => spec_l01Dec (z : Int) (by omega) (by omega) y
        by_cases hd : dec (z : Int) = s
        · have HF := Lib.hid (HEND.out.1 (by rw [← HU.out]; exact q) (by rw [← HU.out]; exact hd))
          rw [hd] at R2
          clear q hd hr
          go_wp2_with (first | (go_at_call 44; (with_reducible refine (R1 _).mono ?_); rintro e w' ⟨rfl, hx⟩; obtain ⟨g, rfl⟩ := hx.grow; clear hx) | (go_at_call 45; (with_reducible refine (R2 _).mono ?_); rintro e w' ⟨rfl, hx⟩; obtain ⟨g, rfl⟩ := hx.grow; clear hx))
          refine bodyPost_ret (v := .tuple #[.int .i64 ((z : Int)), .bool true]) (by simp [results, Tryd.results74, go_sem]) rfl ?_
          exact ⟨by rw [HF.out.1, HF.out.2, ← HU.out], ExtC.ext⟩
        · have HF := Lib.hid (HEND.out.2 (.inr (by rw [← HU.out]; exact hd)))
          have hd2 := ne_list hd
          obtain ⟨d, hdd⟩ : ∃ d, dec (z : Int) = d := ⟨_, rfl⟩
          rw [hdd] at R2 hd2
          have hd3 : (d.toList == s.toList) = false := by simp [hd2]
          clear q hd hr hdd
          go_wp2_with (first | (go_at_call 44; (with_reducible refine (R1 _).mono ?_); rintro e w' ⟨rfl, hx⟩; obtain ⟨g, rfl⟩ := hx.grow; clear hx) | (go_at_call 45; (with_reducible refine (R2 _).mono ?_); rintro e w' ⟨rfl, hx⟩; obtain ⟨g, rfl⟩ := hx.grow; clear hx))
          refine bodyPost_ret (v := .tuple #[.int .i64 0, .bool false]) (by simp [results, Tryd.results74, go_sem]) rfl ?_
          exact ⟨by rw [HF.out.1, HF.out.2], ExtC.ext⟩
end Go.Proofs.YthcomgnokkndgaaDoor
