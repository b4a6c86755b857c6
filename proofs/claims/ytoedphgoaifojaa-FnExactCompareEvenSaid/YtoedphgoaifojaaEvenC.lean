/- The first difference of two sorted lists, and spec.CompareEven. -/
import Derived.Test.YtoedphgoaifojaaEvenS
namespace Go.Proofs.Ytoedphgoaifojaa
open Go.RowKit

set_option maxHeartbeats 2000000 in
theorem spec_l04Compare (v u : Value) (xs ys : SD) (w : World) (h : RP w v xs) (h' : RP w u ys) (hl : xs.length ≤ 7) (hle : ys.length = xs.length) (hvx : OkFs xs) (hvy : OkFs ys) (r : Int) (hr : cmpL (sortF xs) (sortF ys) = r) :
    Calls Try.prog 65 #[v, u] w fun e w' => e = .returned (.int .i64 r) ∧ Ext w w' := by
  have hlx : (sortF xs).length = xs.length := (sortF_perm hvx).length_eq
  have hly : (sortF ys).length = xs.length := by rw [← hle]; exact (sortF_perm hvy).length_eq
  have hokx : OkFs (sortF xs) := fun f hf => hvx f ((sortF_perm hvx).subset hf)
  have hoky : OkFs (sortF ys) := fun f hf => hvy f ((sortF_perm hvy).subset hf)
  have C1 := fun z (hx : Ext w z) => spec_l04Sorted v xs z (h.ext hx) hl hvx _ rfl
  have C2 := fun z (hx : Ext w z) => spec_l04Sorted u ys z (h'.ext hx) (by omega) hvy _ rfl
  obtain ⟨p, c, rfl, -, -⟩ := h.form
  obtain ⟨q, c', rfl, -, -⟩ := h'.form
  obtain ⟨S, hS⟩ : ∃ S, sortF xs = S := ⟨_, rfl⟩
  obtain ⟨T, hT⟩ : ∃ S, sortF ys = S := ⟨_, rfl⟩
  rw [hS] at hlx hokx hr C1
  rw [hT] at hly hoky hr C2
  obtain ⟨n, hn⟩ : ∃ n, xs.length = n := ⟨_, rfl⟩
  rw [hn] at hlx hly hl C1 hle ⊢
  rw [hle] at C2 ⊢
  rw [hlx] at C1
  rw [hly] at C2
  have HV := Lib.hid (And.intro hokx (And.intro hoky hr))
  have HLX := Lib.hid (And.intro hlx hly)
  clear hokx hoky hr h h' hvx hvy hlx hly hS hT hn hle
  go_enter Try.func65, Try.ntmps65
  go_wp2_with (first | (go_at_call 96; (with_reducible refine (C1 _ ExtC.ext).mono ?_); rintro e w' ⟨b1, c1, rfl, ho, hx⟩; obtain ⟨g1, rfl⟩ := hx.grow; clear hx; have HS := Lib.hid ho; clear ho) | (go_at_call 96; (with_reducible refine (C2 _ ExtC.ext).mono ?_); rintro e w' ⟨b2, c2, rfl, ho, hx⟩; obtain ⟨g2, rfl⟩ := hx.grow; clear hx; have HT := Lib.hid ho; clear ho))
  obtain ⟨-, k1, -, -, i1, f1⟩ := HS.out.ps
  obtain ⟨-, k2, -, -, i2, f2⟩ := HT.out.ps
  have HC := Lib.hid (And.intro f1 f2); clear f1 f2
  go_loopw [7] (fun i wr => ∃ k : Nat, k ≤ n ∧ i = .int .i64 k ∧ Ext g2.fin wr ∧ Hid (cmpL (S.drop k) (T.drop k) = r)) (fun i _ => n - (intOf i).toNat)
  case atStart => exact ⟨0, Nat.zero_le _, rfl, Ext.refl _, Lib.hid HV.out.2.2⟩
  case round =>
    obtain ⟨k, hk, rfl, hx, HK⟩ := hrel
    obtain ⟨g0, rfl⟩ := hx.grow; clear hx
    by_cases hlt : k < n
    · obtain ⟨e1, e2⟩ := HLX.out
      obtain ⟨d1, d2⟩ := HC.out.1 k (by omega)
      obtain ⟨d3, d4⟩ := HC.out.2 k (by omega)
      have hs := cmpL_step (xs := S) (ys := T) (k := k) (by omega) (by omega)
      rw [HK.out] at hs
      have o1 := HV.out.1 _ (List.getElem_mem (show k < S.length by omega))
      have o2 := HV.out.2.1 _ (List.getElem_mem (show k < T.length by omega))
      obtain ⟨⟨xn, xd⟩, hxe⟩ : ∃ f, S[k]'(by omega) = f := ⟨_, rfl⟩
      obtain ⟨⟨yn, yd⟩, hye⟩ : ∃ f, T[k]'(by omega) = f := ⟨_, rfl⟩
      rw [hxe] at d1 d2 hs o1
      rw [hye] at d3 d4 hs o2
      dsimp only at d1 d2 d3 d4 o1 o2
      have hcm := fun z => spec_l01Cmp xn xd yn yd o1 o2 z
      change ∀ z, Calls Try.prog 97 _ z fun e' w' => e' = .returned (.int .i64 (cmpF (xn, xd) (yn, yd))) ∧ Ext z w' at hcm
      obtain ⟨cv, hcv⟩ : ∃ cv, cmpF (xn, xd) (yn, yd) = cv := ⟨_, rfl⟩
      rw [hcv] at hs
      simp only [hcv] at hcm
      have HST := Lib.hid hs
      clear hs o1 o2 hxe hye hcv e1 e2
      by_cases hz : cv = 0
      · subst hz
        go_wp2_with fail
        refine wp_region_grow (by kernel_rfl) (by kernel_rfl) ?_
        repeat (go_big_quiet_step ((first | (go_at_call 97; with_reducible exact grow_of (hcm _)))))
        refine wpQuiet_nil ?_
        intro _ hw'
        obtain ⟨g, hw''⟩ := hw'
        subst hw''
        go_wp2_with fail
        go_roundw
        case rel => exact ⟨k + 1, by omega, by go_num, ExtC.ext, Lib.hid (by simpa using HST.out.symm)⟩
        case measure => simp [intOf]; omega
      · have e : (cv != 0) = true := by simpa using hz
        have HZ := Lib.hid hz; clear hz
        go_wp2_with fail
        refine wp_region_grow (by kernel_rfl) (by kernel_rfl) ?_
        repeat (go_big_quiet_step ((first | (go_at_call 97; with_reducible exact grow_of (hcm _)))))
        refine wpQuiet_nil ?_
        intro _ hw'
        obtain ⟨g, hw''⟩ := hw'
        subst hw''
        go_wp2_with fail
        go_ret
        exact ⟨ret_int (by rw [HST.out, if_neg HZ.out]), ExtC.ext⟩
    · have hkn : k = n := by omega
      subst hkn
      have hr0 : r = 0 := by rw [← HK.out, List.drop_of_length_le (by rw [HLX.out.1]; exact Nat.le_refl _)]; rfl
      subst hr0
      go_wp2_with fail
      go_ret
      exact ⟨rfl, ExtC.ext⟩

theorem ceX_yes {xs ys : SD} (h : CeP xs ys) : ceX xs ys = cmpL (sortF xs) (sortF ys) := if_pos h
theorem ceX_no {xs ys : SD} (h : ¬ CeP xs ys) : ceX xs ys = 0 := if_neg h
/-- The four cases of the guard. -/
theorem ce_cases (xs ys : SD) (b : Bool) (hb : b = true ↔ CeP xs ys) : (¬ FsE xs ∧ b = false ∧ ceX xs ys = 0) ∨ (FsE xs ∧ ¬ FsE ys ∧ b = false ∧ ceX xs ys = 0) ∨ (FsE xs ∧ FsE ys ∧ xs.length ≠ ys.length ∧ b = false ∧ ceX xs ys = 0) ∨ (FsE xs ∧ FsE ys ∧ xs.length = ys.length ∧ b = true ∧ ceX xs ys = cmpL (sortF xs) (sortF ys)) := by
  have no : ¬ CeP xs ys → b = false := fun h => by cases b <;> simp_all
  by_cases h1 : FsE xs
  · by_cases h2 : FsE ys
    · by_cases h3 : xs.length = ys.length
      · exact .inr (.inr (.inr ⟨h1, h2, h3, hb.2 ⟨h1, h2, h3⟩, ceX_yes ⟨h1, h2, h3⟩⟩))
      · have : ¬ CeP xs ys := fun h => h3 h.2.2
        exact .inr (.inr (.inl ⟨h1, h2, h3, no this, ceX_no this⟩))
    · have : ¬ CeP xs ys := fun h => h2 h.2.1
      exact .inr (.inl ⟨h1, h2, no this, ceX_no this⟩)
  · have : ¬ CeP xs ys := fun h => h1 h.1
    exact .inl ⟨h1, no this, ceX_no this⟩

set_option maxHeartbeats 2000000 in
theorem spec_CompareEven' (v u : Value) (xs ys : SD) (w : World) (h : RP w v xs) (h' : RP w u ys) (hn : xs.length ≤ 1048576) (hm : ys.length ≤ 1048576) (b : Bool) (hb : b = true ↔ CeP xs ys) (r : Int) (hr : ceX xs ys = r) :
    Calls Try.prog 26 #[v, u] w fun e w' => e = .returned (.tuple #[.int .i64 r, .bool b]) ∧ Ext w w' := by
  have H := Lib.hid (And.intro h h')
  obtain ⟨p, c, rfl, -, -⟩ := h.form
  obtain ⟨q, c', rfl, -, -⟩ := h'.form
  rcases ce_cases xs ys b hb with ⟨h1, rfl, e⟩ | ⟨h1, h2, rfl, e⟩ | ⟨h1, h2, h3, rfl, e⟩ | ⟨h1, h2, h3, rfl, e⟩
  · rw [e] at hr; subst hr
    have L1 := fun z (hx : Ext w z) => spec_l04Listed _ xs z (H.out.1.ext hx) hn false (by simp [h1])
    clear h h' hb e h1
    go_enter Try.func26, Try.ntmps26
    go_wp2_with (first | (go_at_call 64; (with_reducible refine (L1 _ ExtC.ext).mono ?_); rintro e w' ⟨rfl, hx⟩; obtain ⟨g, rfl⟩ := hx.grow; clear hx))
    refine bodyPost_ret (v := .tuple #[.int .i64 0, .bool false]) (by simp [results, Try.results26, go_sem]) rfl ⟨rfl, ?_⟩
    exact ExtC.ext
  · rw [e] at hr; subst hr
    have L1 := fun z (hx : Ext w z) => spec_l04Listed _ xs z (H.out.1.ext hx) hn true (by simp [h1])
    have L2 := fun z (hx : Ext w z) => spec_l04Listed _ ys z (H.out.2.ext hx) hm false (by simp [h2])
    clear h h' hb e h1 h2
    go_enter Try.func26, Try.ntmps26
    go_wp2_with (first | (go_at_call 64; (with_reducible refine (L1 _ ExtC.ext).mono ?_); rintro e w' ⟨rfl, hx⟩; obtain ⟨g, rfl⟩ := hx.grow; clear hx) | (go_at_call 64; (with_reducible refine (L2 _ ExtC.ext).mono ?_); rintro e w' ⟨rfl, hx⟩; obtain ⟨g, rfl⟩ := hx.grow; clear hx))
    refine bodyPost_ret (v := .tuple #[.int .i64 0, .bool false]) (by simp [results, Try.results26, go_sem]) rfl ⟨rfl, ?_⟩
    exact ExtC.ext
  · rw [e] at hr; subst hr
    have L1 := fun z (hx : Ext w z) => spec_l04Listed _ xs z (H.out.1.ext hx) hn true (by simp [h1])
    have L2 := fun z (hx : Ext w z) => spec_l04Listed _ ys z (H.out.2.ext hx) hm true (by simp [h2])
    have e3 : ((xs.length : Int) != (ys.length : Int)) = true := by simp; omega
    clear h h' hb e h1 h2 h3
    go_enter Try.func26, Try.ntmps26
    go_wp2_with (first | (go_at_call 64; (with_reducible refine (L1 _ ExtC.ext).mono ?_); rintro e w' ⟨rfl, hx⟩; obtain ⟨g, rfl⟩ := hx.grow; clear hx) | (go_at_call 64; (with_reducible refine (L2 _ ExtC.ext).mono ?_); rintro e w' ⟨rfl, hx⟩; obtain ⟨g, rfl⟩ := hx.grow; clear hx))
    refine bodyPost_ret (v := .tuple #[.int .i64 0, .bool false]) (by simp [results, Try.results26, go_sem]) rfl ⟨rfl, ?_⟩
    exact ExtC.ext
  · rw [e] at hr
    have L1 := fun z (hx : Ext w z) => spec_l04Listed _ xs z (H.out.1.ext hx) hn true (by simp [h1])
    have L2 := fun z (hx : Ext w z) => spec_l04Listed _ ys z (H.out.2.ext hx) hm true (by simp [h2])
    have L3 := fun z (hx : Ext w z) => spec_l04Compare _ _ xs ys z (H.out.1.ext hx) (H.out.2.ext hx) h1.1 h3.symm h1.2 h2.2 r hr
    have e3 : ((xs.length : Int) != (ys.length : Int)) = false := by simp; omega
    clear h h' hb e h1 h2 h3 hr
    go_enter Try.func26, Try.ntmps26
    go_wp2_with (first | (go_at_call 64; (with_reducible refine (L1 _ ExtC.ext).mono ?_); rintro e w' ⟨rfl, hx⟩; obtain ⟨g, rfl⟩ := hx.grow; clear hx) | (go_at_call 64; (with_reducible refine (L2 _ ExtC.ext).mono ?_); rintro e w' ⟨rfl, hx⟩; obtain ⟨g, rfl⟩ := hx.grow; clear hx) | (go_at_call 65; (with_reducible refine (L3 _ ExtC.ext).mono ?_); rintro e w' ⟨rfl, hx⟩; obtain ⟨g, rfl⟩ := hx.grow; clear hx))
    refine bodyPost_ret (v := .tuple #[.int .i64 r, .bool true]) (by simp [results, Try.results26, go_sem]) rfl ⟨rfl, ?_⟩
    exact ExtC.ext
end Go.Proofs.Ytoedphgoaifojaa
