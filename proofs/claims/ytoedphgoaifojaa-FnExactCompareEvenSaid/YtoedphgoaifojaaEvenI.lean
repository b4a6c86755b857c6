/- impl.CompareEven. -/
import Derived.Test.YtoedphgoaifojaaEvenC
namespace Go.Proofs.Ytoedphgoaifojaa
open Go.RowKit

theorem neq_frac (a b c d : Int) (z : Bool) (hz : decide ((a, b) = (c, d)) = z) (w : World) : (binOp .neq 60 (.agg #[.int .i64 a, .int .i64 b]) (.agg #[.int .i64 c, .int .i64 d])).run Try.prog w = .ok (.bool (!z)) w := by
  subst hz
  rw [run_neq_struct]
  have hf : Try.prog.underlying 60 = some (.struct (Try.prog.fieldsOf 60)) := by kernel_rfl
  rw [show (10000 : Nat) = 9998 + 1 + 1 from rfl, run_equalIn_agg _ _ _ _ _ hf (by kernel_rfl)]
  have hl : (Try.prog.fieldsOf 60).toList.map (fun f => (f.name != "_", f.type, f.offset)) = [(true, 2, 0), (true, 2, 1)] := by kernel_rfl
  have hu := Try.underlying2
  have hg := Try.isAgg2
  have hs := Try.sizeOf2
  generalize (Try.prog.fieldsOf 60).toList = L at hl
  have hlen : L.length = 2 := by have := congrArg List.length hl; simpa using this
  obtain ⟨f0, L, rfl⟩ := List.exists_cons_of_length_pos (show 0 < L.length by omega)
  obtain ⟨f1, L, rfl⟩ := List.exists_cons_of_length_pos (show 0 < L.length by simp at hlen; omega)
  have hL0 : L = [] := by simpa using hlen
  subst hL0
  simp only [List.map_cons, List.map_nil, List.cons.injEq, and_true, Prod.mk.injEq, bne_iff_ne, ne_eq] at hl
  obtain ⟨⟨a1, a2, a3⟩, b1, b2, b3⟩ := hl
  simp only [Op.eqFields, a2, a3, b2, b3]
  simp [go_sem, hu, hg, hs]
  by_cases e1 : a = c <;> by_cases e2 : b = d <;> simp [a1, b1, e1, e2]

theorem OwnF.ps2 {lo hi : Nat} {w : World} {g c : Nat} {xs : SD} (h : OwnF lo hi w (.slice (some ⟨g, 0, none⟩) xs.length c) xs) : PS w (.slice (some ⟨g, 0, none⟩) xs.length c) xs := by
  obtain ⟨-, k, -, -, i, f⟩ := h.ps
  exact ⟨g, 0, c, rfl, k, i, fun j hj => by simpa using f j hj⟩
set_option maxHeartbeats 8000000 in
theorem impl_CompareEven' (v u : Value) (xs ys : SD) (w : World) (h : PS w v xs) (h' : PS w u ys) (hn : xs.length ≤ 1048576) (hm : ys.length ≤ 1048576) (b : Bool) (hb : b = true ↔ CeP xs ys) (r : Int) (hr : ceX xs ys = r) :
    Calls Try.prog 28 #[v, u] w fun e w' => e = .returned (.tuple #[.int .i64 r, .bool b]) ∧ Ext w w' := by
  have H := Lib.hid (And.intro (show RP w v xs from .inl h) (show RP w u ys from .inl h'))
  have HP := Lib.hid (And.intro h h')
  obtain ⟨b0, off, c, rfl, -, -, -⟩ := h
  obtain ⟨b0', off', c', rfl, -, -, -⟩ := h'
  rcases ce_cases xs ys b hb with ⟨h1, rfl, e⟩ | ⟨h1, h2, rfl, e⟩ | ⟨h1, h2, h3, rfl, e⟩ | ⟨h1, h2, h3, rfl, e⟩
  · rw [e] at hr; subst hr
    have L1 := fun z (hx : Ext w z) => impl_areFractions _ xs z (H.out.1.ext hx) hn false (by simp [h1])
    clear hb e h1
    go_enter Try.func28, Try.ntmps28
    go_wp2_with (first | (go_at_call 67; (with_reducible refine (L1 _ ExtC.ext).mono ?_); rintro e w' ⟨rfl, hx⟩; obtain ⟨g, rfl⟩ := hx.grow; clear hx))
    refine bodyPost_ret (v := .tuple #[.int .i64 0, .bool false]) (by simp [results, Try.results28, go_sem]) rfl ⟨rfl, ?_⟩
    exact ExtC.ext
  · rw [e] at hr; subst hr
    have L1 := fun z (hx : Ext w z) => impl_areFractions _ xs z (H.out.1.ext hx) hn true (by simp [h1])
    have L2 := fun z (hx : Ext w z) => impl_areFractions _ ys z (H.out.2.ext hx) hm false (by simp [h2])
    clear hb e h1 h2
    go_enter Try.func28, Try.ntmps28
    go_wp2_with (first | (go_at_call 67; (with_reducible refine (L1 _ ExtC.ext).mono ?_); rintro e w' ⟨rfl, hx⟩; obtain ⟨g, rfl⟩ := hx.grow; clear hx) | (go_at_call 67; (with_reducible refine (L2 _ ExtC.ext).mono ?_); rintro e w' ⟨rfl, hx⟩; obtain ⟨g, rfl⟩ := hx.grow; clear hx))
    refine bodyPost_ret (v := .tuple #[.int .i64 0, .bool false]) (by simp [results, Try.results28, go_sem]) rfl ⟨rfl, ?_⟩
    exact ExtC.ext
  · rw [e] at hr; subst hr
    have L1 := fun z (hx : Ext w z) => impl_areFractions _ xs z (H.out.1.ext hx) hn true (by simp [h1])
    have L2 := fun z (hx : Ext w z) => impl_areFractions _ ys z (H.out.2.ext hx) hm true (by simp [h2])
    have e3 : ((xs.length : Int) != (ys.length : Int)) = true := by simp; omega
    clear hb e h1 h2 h3
    go_enter Try.func28, Try.ntmps28
    go_wp2_with (first | (go_at_call 67; (with_reducible refine (L1 _ ExtC.ext).mono ?_); rintro e w' ⟨rfl, hx⟩; obtain ⟨g, rfl⟩ := hx.grow; clear hx) | (go_at_call 67; (with_reducible refine (L2 _ ExtC.ext).mono ?_); rintro e w' ⟨rfl, hx⟩; obtain ⟨g, rfl⟩ := hx.grow; clear hx))
    refine bodyPost_ret (v := .tuple #[.int .i64 0, .bool false]) (by simp [results, Try.results28, go_sem]) rfl ⟨rfl, ?_⟩
    exact ExtC.ext
  · rw [e] at hr
    have hn7 := h1.1
    have L1 := fun z (hx : Ext w z) => impl_areFractions _ xs z (H.out.1.ext hx) hn true (by simp [h1])
    have L2 := fun z (hx : Ext w z) => impl_areFractions _ ys z (H.out.2.ext hx) hm true (by simp [h2])
    have K1 := fun z (hx : Ext w z) => slices_CloneF _ xs z (HP.out.1.ext hx) hn
    have K2 := fun z (hx : Ext w z) => slices_CloneF _ ys z (HP.out.2.ext hx) hm
    have e3 : ((xs.length : Int) != (ys.length : Int)) = false := by simp; omega
    have HX := Lib.hid (And.intro h1.2 (And.intro h2.2 hr))
    obtain ⟨n, hnn⟩ : ∃ n, xs.length = n := ⟨_, rfl⟩
    have HN := Lib.hid (And.intro hnn h3)
    rw [hnn] at L1 K1 e3 hn7 h3 ⊢
    rw [← h3] at L2 K2 e3 ⊢
    clear hb e h1 h2 h3 hr hnn hn hm
    go_enter Try.func28, Try.ntmps28
    go_wp2_with (first | (go_at_call 67; (with_reducible refine (L1 _ ExtC.ext).mono ?_); rintro e w' ⟨rfl, hx⟩; obtain ⟨g, rfl⟩ := hx.grow; clear hx) | (go_at_call 67; (with_reducible refine (L2 _ ExtC.ext).mono ?_); rintro e w' ⟨rfl, hx⟩; obtain ⟨g, rfl⟩ := hx.grow; clear hx) | (go_at_call 68; (with_reducible refine (K1 _ ExtC.ext).mono ?_); rintro e w' ⟨b1, c1, rfl, ho, hx⟩; obtain ⟨g1, rfl⟩ := hx.grow; clear hx; have HS := Lib.hid ho; clear ho) | (go_at_call 68; (with_reducible refine (K2 _ ExtC.ext).mono ?_); rintro e w' ⟨b2, c2, rfl, ho, hx⟩; obtain ⟨g2, rfl⟩ := hx.grow; clear hx; have HT := Lib.hid ho; clear ho))
    obtain ⟨-, k1, l1, l2, -, -⟩ := HS.out.ps
    obtain ⟨-, k2, l3, l4, -, -⟩ := HT.out.ps
    have l0 := (ExtC.ext : Ext w g.fin).size
    have l5 := (ExtC.ext : Ext w g1.fin).size
    refine Calls.mono (sort_fr xs _ (HS.out.ext ExtC.ext) (by have := HN.out.1; omega) HX.out.1) ?_
    rintro e w' ⟨rfl, zs, hp, hs, ho, hr⟩
    obtain rfl : zs = sortF xs := sortF_uniq HX.out.1 hp hs
    have hx2 := Ext.rng (ExtC.ext : Ext w g2.fin) hr (by omega)
    have HT2 := Lib.hid (HT.out.rng hr (.inr (by omega)))
    obtain ⟨g3, rfl⟩ := hx2.grow; clear hx2
    have HS2 := Lib.hid ho; clear ho hp hs hr
    go_wp2_with fail
    refine Calls.mono (sort_fr ys _ HT2.out (by have := HN.out; omega) HX.out.2.1) ?_
    rintro e w' ⟨rfl, zs, hp, hs, ho, hr⟩
    obtain rfl : zs = sortF ys := sortF_uniq HX.out.2.1 hp hs
    have hx2 := Ext.rng (ExtC.ext : Ext w g3.fin) hr (by omega)
    have HS3 := Lib.hid (HS2.out.rng hr (.inl (by omega)))
    obtain ⟨g4, rfl⟩ := hx2.grow; clear hx2
    have HT3 := Lib.hid ho; clear ho hp hs hr HT2 HS2 HT HS
    clear l0 l1 l2 l3 l4 l5
    have hlx : (sortF xs).length = n := by rw [(sortF_perm HX.out.1).length_eq]; exact HN.out.1
    have hly : (sortF ys).length = n := by rw [(sortF_perm HX.out.2.1).length_eq, ← HN.out.2]; exact HN.out.1
    have hokx : OkFs (sortF xs) := fun f hf => HX.out.1 f ((sortF_perm HX.out.1).subset hf)
    have hoky : OkFs (sortF ys) := fun f hf => HX.out.2.1 f ((sortF_perm HX.out.2.1).subset hf)
    have hrr := HX.out.2.2
    obtain ⟨S, hS⟩ : ∃ S, sortF xs = S := ⟨_, rfl⟩
    obtain ⟨T, hT⟩ : ∃ S, sortF ys = S := ⟨_, rfl⟩
    rw [hS] at HS3 hlx hokx hrr
    rw [hT] at HT3 hly hoky hrr
    obtain ⟨-, -, -, -, i1, f1⟩ := HS3.out.ps
    obtain ⟨-, -, -, -, i2, f2⟩ := HT3.out.ps
    have HC := Lib.hid (And.intro f1 f2)
    have HV := Lib.hid (And.intro hokx (And.intro hoky hrr))
    have HLX := Lib.hid (And.intro hlx hly)
    clear f1 f2 hokx hoky hrr hlx hly HS3 HT3 hS hT HX HN L1 L2 K1 K2
    go_wp2_with fail
    go_loopw [37] (fun i wr => ∃ k : Nat, k ≤ n ∧ i = .int .i64 k ∧ Ext g4.fin wr ∧ Hid (cmpL (S.drop k) (T.drop k) = r)) (fun i _ => n - (intOf i).toNat)
    case atStart => exact ⟨0, Nat.zero_le _, rfl, Ext.refl _, Lib.hid HV.out.2.2⟩
    case round =>
      obtain ⟨k, hk, rfl, hx, HK⟩ := hrel
      obtain ⟨g0, rfl⟩ := hx.grow; clear hx
      by_cases hlt : k < n
      · obtain ⟨e1, e2⟩ := HLX.out
        obtain ⟨d1, d2⟩ := HC.out.1 k (by omega)
        obtain ⟨d3, d4⟩ := HC.out.2 k (by omega)
        have hs := cmpL_step (xs := S) (ys := T) (k := k) (by omega) (by omega)
        rw [HK.out] at hs
        have o1 := HV.out.1 _ (List.getElem_mem (show k < S.length by omega))
        have o2 := HV.out.2.1 _ (List.getElem_mem (show k < T.length by omega))
        obtain ⟨⟨xn, xd⟩, hxe⟩ : ∃ f, S[k]'(by omega) = f := ⟨_, rfl⟩
        obtain ⟨⟨yn, yd⟩, hye⟩ : ∃ f, T[k]'(by omega) = f := ⟨_, rfl⟩
        rw [hxe] at d1 d2 hs o1
        rw [hye] at d3 d4 hs o2
        dsimp only at d1 d2 d3 d4 o1 o2
        have hcm := fun z => impl_compare xn xd yn yd o1 o2 z
        change ∀ z, Calls Try.prog 70 _ z fun e' w' => e' = .returned (.int .i64 (cmpF (xn, xd) (yn, yd))) ∧ Ext z w' at hcm
        have hng : Try.prog.eqGuardType Try.prog.depth 60 = false := by kernel_rfl
        by_cases hz : (xn, xd) = (yn, yd)
        · have hst : cmpL (S.drop (k + 1)) (T.drop (k + 1)) = r := by rw [hz, cmpF_self, if_pos rfl] at hs; exact hs.symm
          have HST := Lib.hid hst
          have q := fun z => neq_frac xn xd yn yd true (by rw [hz]; simp) z
          clear hs o1 o2 hxe hye e1 e2 hz hst hcm
          go_wp2_with fail
          refine wp_region_grow (by kernel_rfl) (by kernel_rfl) ?_
          repeat (go_big_quiet_step ((fail)))
          refine wpQuiet_nil ?_
          intro _ hw'
          obtain ⟨g, hw''⟩ := hw'
          subst hw''
          go_wp2_with fail
          go_roundw
          case rel => exact ⟨k + 1, by omega, by go_num, ExtC.ext, HST⟩
          case measure => simp [intOf]; omega
        · have hst : cmpF (xn, xd) (yn, yd) = r := by rw [if_neg (fun h => hz (cmpF_zero o1 o2 h))] at hs; exact hs.symm
          have HST := Lib.hid hst
          have q := fun z => neq_frac xn xd yn yd false (by simpa using hz) z
          rw [hst] at hcm
          clear hs o1 o2 hxe hye e1 e2 hz hst
          go_wp2_with fail
          refine wp_region_grow (by kernel_rfl) (by kernel_rfl) ?_
          repeat (go_big_quiet_step ((fail)))
          refine wpQuiet_nil ?_
          intro _ hw'
          obtain ⟨g, hw''⟩ := hw'
          subst hw''
          go_wp2_with fail
          refine wp_region_grow (by kernel_rfl) (by kernel_rfl) ?_
          repeat (go_big_quiet_step ((first | (go_at_call 70; with_reducible exact grow_of (hcm _)))))
          refine wpQuiet_nil ?_
          intro _ hw'
          obtain ⟨g, hw''⟩ := hw'
          subst hw''
          go_wp2_with fail
          refine bodyPost_ret (v := .tuple #[.int .i64 r, .bool true]) (by simp [results, Try.results28, go_sem]) rfl ⟨rfl, ?_⟩
          exact ExtC.ext
      · have hkn : k = n := by omega
        subst hkn
        have hr0 : r = 0 := by rw [← HK.out, List.drop_of_length_le (by rw [HLX.out.1]; exact Nat.le_refl _)]; rfl
        subst hr0
        go_wp2_with fail
        refine bodyPost_ret (v := .tuple #[.int .i64 0, .bool true]) (by simp [results, Try.results28, go_sem]) rfl ⟨rfl, ?_⟩
        exact ExtC.ext
end Go.Proofs.Ytoedphgoaifojaa
