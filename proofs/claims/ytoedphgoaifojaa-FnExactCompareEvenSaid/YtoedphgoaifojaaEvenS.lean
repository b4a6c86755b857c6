/- Fractions sorted by insertion: spec.l04Sorted. -/
import Derived.Test.YtoedphgoaifojaaEvenA
import Derived.Test.YtoedphgoaifojaaTail
namespace Go.Proofs.Ytoedphgoaifojaa
open Go.RowKit

theorem OwnF.ps {lo hi : Nat} {w : World} {g n c : Nat} {xs : SD} (h : OwnF lo hi w (.slice (some ⟨g, 0, none⟩) n c) xs) : n = xs.length ∧ n ≤ c ∧ lo ≤ g ∧ g < hi ∧ InW g w ∧ ∀ i (hi' : i < xs.length), w.cell? ⟨g, i * 2, none⟩ = some (iv xs[i].1) ∧ w.cell? ⟨g, i * 2 + 1, none⟩ = some (iv xs[i].2) := by
  rcases h with ⟨e, _⟩ | ⟨g', cap, cs, e, h1, h2, how, hc⟩
  · cases e
  simp only [Value.slice.injEq, Option.some.injEq, Addr.mk.injEq, and_true] at e
  obtain ⟨rfl, rfl, rfl⟩ := e
  refine ⟨rfl, own_le how, h1, h2, ⟨(how.lt g rfl).2⟩, fun i hi' => ?_⟩
  rw [how.cellAt _ (by omega), how.cellAt _ (by omega)]
  exact hc i hi'
theorem cells_twoF (x : World) (a b : Int) (T : TypeId) : (x.alloc (.cells #[iv a, iv b] T)).cell? ((⟨x.heap.size, 0, none⟩ : Addr).add 0) = some (iv a) ∧ (x.alloc (.cells #[iv a, iv b] T)).cell? ((⟨x.heap.size, 0, none⟩ : Addr).add 1) = some (iv b) := by
  rw [add_plain', add_plain', World.cell?_alloc_at _ _ _ _ rfl, World.cell?_alloc_at _ _ _ _ rfl]; exact ⟨rfl, rfl⟩
theorem rp_take {w : World} {g c : Nat} {xs : SD} (ib : InW g w) (hc : ∀ i (h : i < xs.length), w.cell? ⟨g, i * 2, none⟩ = some (iv xs[i].1) ∧ w.cell? ⟨g, i * 2 + 1, none⟩ = some (iv xs[i].2)) (a : Nat) (ha : a ≤ xs.length) (hcap : xs.length ≤ c) : RP w (.slice (some ⟨g, 0, none⟩) a c) (xs.take a) := by
  have e : (xs.take a).length = a := by rw [List.length_take]; omega
  refine .inl ⟨g, 0, c, by rw [e], by rw [e]; omega, ib, fun i hi => ?_⟩
  rw [List.getElem_take, Nat.zero_add]
  exact hc i (by omega)
theorem rp_drop {w : World} {g c : Nat} {xs : SD} (ib : InW g w) (hc : ∀ i (h : i < xs.length), w.cell? ⟨g, i * 2, none⟩ = some (iv xs[i].1) ∧ w.cell? ⟨g, i * 2 + 1, none⟩ = some (iv xs[i].2)) (a : Nat) (ha : a ≤ xs.length) (hcap : xs.length ≤ c) : RP w (.slice (some ⟨g, a * 2, none⟩) (xs.length - a) (c - a)) (xs.drop a) := by
  have e : (xs.drop a).length = xs.length - a := by rw [List.length_drop]
  refine .inl ⟨g, a * 2, c - a, by rw [e], by rw [e]; omega, ib, fun i hi => ?_⟩
  rw [List.getElem_drop]
  have := hc (a + i) (by omega)
  rw [show a * 2 + i * 2 = (a + i) * 2 by omega]
  exact this

theorem insF_length (out : SD) (x : Int × Int) : (insF out x).length = out.length + 1 := by rw [(insF_perm out x).length_eq]; simp
theorem insF_at {out : SD} {x : Int × Int} {a : Nat} (h : insAt x out out.length = a) : insF out x = out.take a ++ [x] ++ out.drop a := by unfold insF; rw [h]

set_option maxHeartbeats 8000000 in
set_option maxRecDepth 100000 in
theorem spec_l04Sorted (v : Value) (xs : SD) (w : World) (h : RP w v xs) (hl : xs.length ≤ 7) (hv : OkFs xs) (ys : SD) (hys : sortF xs = ys) :
    Calls Try.prog 96 #[v] w fun e w' => ∃ g c, e = .returned (.slice (some ⟨g, 0, none⟩) ys.length c) ∧ OwnF w.heap.size w'.heap.size w' (.slice (some ⟨g, 0, none⟩) ys.length c) ys ∧ Ext w w' := by
  obtain ⟨p, c, rfl, -, hq⟩ := h.form
  have HQ := Lib.hid hq
  have HV := Lib.hid (And.intro hv hys)
  have HE := Lib.hid (own_frac_nil w w.heap.size (Nat.le_refl _))
  clear hq h hv hys
  go_enter Try.func96, Try.ntmps96
  go_wp2_with fail
  go_loopw [3, 4] (fun o i wr => ∃ (k og oc : Nat) (C : SD), k ≤ xs.length ∧ i = .int .i64 k ∧ o = .slice (some ⟨og, 0, none⟩) k oc ∧ C.length = k ∧ Ext w wr ∧ Hid (C = (xs.take k).foldl insF []) ∧ Hid (OwnF w.heap.size wr.heap.size wr (.slice (some ⟨og, 0, none⟩) k oc) C)) (fun _ i _ => xs.length - (intOf i).toNat)
  case atStart => exact ⟨0, _, _, [], Nat.zero_le _, rfl, rfl, rfl, ExtC.ext, Lib.hid rfl, Lib.hid (by have := HE.out; simp only [World.size_alloc] at this ⊢; exact this)⟩
  case round =>
    clear HE
    obtain ⟨k, og, oc, C, hk, rfl, rfl, hC, hx, HCk, HO⟩ := hrel
    obtain ⟨g0, rfl⟩ := hx.grow; clear hx
    by_cases hlt : k < xs.length
    · obtain ⟨xb, xo, hxp, ixb, hxx⟩ := HQ.out (by omega)
      subst hxp
      obtain ⟨d1, d2⟩ := hxx k hlt
      have hokx := HV.out.1 _ (List.getElem_mem hlt)
      have hfold := foldl_take hlt
      rw [← HCk.out] at hfold
      have hvC : OkFs C := by
        rw [HCk.out]
        have hsub : OkFs (xs.take k) := fun f hf => HV.out.1 f (List.mem_of_mem_take hf)
        exact fun f hf => hsub f ((sortF_perm hsub).subset hf)
      obtain ⟨⟨xn, xd⟩, hxe⟩ : ∃ f, xs[k] = f := ⟨_, rfl⟩
      rw [hxe] at d1 d2 hokx hfold
      dsimp only at d1 d2 hokx
      obtain ⟨-, hcap, hogl, hogh, iog, hcc⟩ := HO.out.ps
      have HCC := Lib.hid (And.intro hcc (And.intro hvC (And.intro hfold hokx)))
      clear hxx hcc hvC hfold hxe
      go_wp2_with fail
      go_loopw [5] (fun s wr => ∃ a : Nat, a ≤ k ∧ s = .int .i64 a ∧ Ext g0.fin wr ∧ Hid (insAt (xn, xd) C k = insAt (xn, xd) C a)) (fun s _ => (intOf s).toNat)
      case atStart => exact ⟨k, Nat.le_refl _, rfl, Ext.refl _, Lib.hid rfl⟩
      case round =>
        obtain ⟨a, ha, rfl, hx, HA⟩ := hrel
        obtain ⟨g1, rfl⟩ := hx.grow; clear hx
        rcases a with _ | a
        · go_wp2_with fail
          refine wp_region_grow (by kernel_rfl) (by kernel_rfl) ?_
          repeat (go_big_quiet_step ((fail)))
          refine wpQuiet_nil ?_
          intro _ hw'
          obtain ⟨g, hw''⟩ := hw'
          subst hw''
          have HRT : Hid (RP g0.fin (.slice (some ⟨og, 0, none⟩) 0 oc) []) := Lib.hid (by have := rp_take iog HCC.out.1 0 (by omega) (by omega : C.length ≤ oc); simpa using this)
          have HNE := Lib.hid (own_frac_nil g.fin g0.fin.heap.size (ExtC.ext : Ext g0.fin g.fin).size)
          have HIN : Hid (insAt (xn, xd) C C.length = 0) := Lib.hid (by rw [hC]; exact HA.out)
          by_cases hca : oc = 0
          · subst hca
            obtain rfl : k = 0 := by omega
            have HRD := Lib.hid (show RP g0.fin (.slice (some ⟨og, 0, none⟩) 0 0) C from .inr ⟨List.length_eq_zero_iff.1 hC, _, _, rfl⟩)
            simp only [Nat.zero_mul, Nat.add_zero] at d1 d2
            go_wp2_with (first | (at_builtin; refine app_rf (w0 := g0.fin) (lo := g0.fin.heap.size) (hi := g.fin.heap.size + 1) _ _ g.fin.heap.size 0 0 0 _ [] [] rfl rfl rfl rfl rfl (HNE.out.ext ExtC.ext) rfl (HRT.out.ext ExtC.ext) (by omega) (by simp) ExtC.ext (Nat.le_refl _) (by have := (ExtC.ext : Ext g0.fin g.fin).size; simp only [World.size_alloc]; omega) ?_; intro n1 m1 w' ho hx; obtain ⟨g5, rfl⟩ := hx.grow; clear hx; have HO5 : Hid (OwnF g0.fin.heap.size g5.fin.heap.size g5.fin (.slice (some ⟨n1, 0, none⟩) 0 m1) []) := Lib.hid ho; clear ho; rw [Nat.add_zero]) | (at_builtin; refine app_frac (w0 := g0.fin) (lo := g0.fin.heap.size) _ _ n1 m1 0 [] ⟨g5.fin.heap.size, 0, none⟩ 1 xn xd rfl rfl rfl rfl (HO5.out.ext ExtC.ext) rfl (cells_twoF _ _ _ _).1 (cells_twoF _ _ _ _).2 (by omega) ExtC.ext (Nat.le_refl _) ?_; intro n2 m2 w' ho hx; obtain ⟨g6, rfl⟩ := hx.grow; clear hx; have HO6 : Hid (OwnF g0.fin.heap.size g6.fin.heap.size g6.fin (.slice (some ⟨n2, 0, none⟩) 1 m2) [(xn, xd)]) := Lib.hid ho; clear ho; rw [Nat.zero_add]) | (at_builtin; refine app_rf (w0 := g0.fin) (lo := g0.fin.heap.size) (hi := g6.fin.heap.size) _ _ n2 m2 1 0 _ [(xn, xd)] C rfl rfl rfl (by omega) rfl (HO6.out.ext ExtC.ext) rfl (HRD.out.ext ExtC.ext) (by omega) (by omega) ExtC.ext (Nat.le_refl _) (ExtC.ext : Ext g0.fin g6.fin).size ?_; intro n3 m3 w' ho hx; obtain ⟨g7, rfl⟩ := hx.grow; clear hx; have HO7 := Lib.hid ho; clear ho))
            have h7 := HO7.out.mono (lo' := w.heap.size) (ExtC.ext : Ext w g0.fin).size (Nat.le_refl _)
            rw [show 1 + 0 = 0 + 1 by omega] at h7
            have hie : insF C (xn, xd) = _ := insF_at HIN.out
            refine ⟨⟨0 + 1, n3, m3, insF C (xn, xd), by omega, by go_num, by first | rfl | (congr 1; omega), by rw [insF_length, hC], ExtC.ext, Lib.hid HCC.out.2.2.1.symm, Lib.hid ?_⟩, by simp [intOf]; omega⟩
            rw [hie]
            simpa using h7
          · have hrd := rp_drop iog HCC.out.1 0 (by omega) (by omega : C.length ≤ oc)
            rw [hC, Nat.zero_mul, Nat.sub_zero, Nat.sub_zero, List.drop_zero] at hrd
            have HRD := Lib.hid hrd
            clear hrd
            go_wp2_with (first | (at_builtin; refine app_rf (w0 := g0.fin) (lo := g0.fin.heap.size) (hi := g.fin.heap.size + 1) _ _ g.fin.heap.size 0 0 0 _ [] [] rfl rfl rfl rfl rfl (HNE.out.ext ExtC.ext) rfl (HRT.out.ext ExtC.ext) (by omega) (by simp) ExtC.ext (Nat.le_refl _) (by have := (ExtC.ext : Ext g0.fin g.fin).size; simp only [World.size_alloc]; omega) ?_; intro n1 m1 w' ho hx; obtain ⟨g5, rfl⟩ := hx.grow; clear hx; have HO5 : Hid (OwnF g0.fin.heap.size g5.fin.heap.size g5.fin (.slice (some ⟨n1, 0, none⟩) 0 m1) []) := Lib.hid ho; clear ho; rw [Nat.add_zero]) | (at_builtin; refine app_frac (w0 := g0.fin) (lo := g0.fin.heap.size) _ _ n1 m1 0 [] ⟨g5.fin.heap.size, 0, none⟩ 1 xn xd rfl rfl rfl rfl (HO5.out.ext ExtC.ext) rfl (cells_twoF _ _ _ _).1 (cells_twoF _ _ _ _).2 (by omega) ExtC.ext (Nat.le_refl _) ?_; intro n2 m2 w' ho hx; obtain ⟨g6, rfl⟩ := hx.grow; clear hx; have HO6 : Hid (OwnF g0.fin.heap.size g6.fin.heap.size g6.fin (.slice (some ⟨n2, 0, none⟩) 1 m2) [(xn, xd)]) := Lib.hid ho; clear ho; rw [Nat.zero_add]) | (at_builtin; refine app_rf (w0 := g0.fin) (lo := g0.fin.heap.size) (hi := g6.fin.heap.size) _ _ n2 m2 1 k _ [(xn, xd)] C rfl rfl rfl (by omega) rfl (HO6.out.ext ExtC.ext) rfl (HRD.out.ext ExtC.ext) (by omega) (by omega) ExtC.ext (Nat.le_refl _) (ExtC.ext : Ext g0.fin g6.fin).size ?_; intro n3 m3 w' ho hx; obtain ⟨g7, rfl⟩ := hx.grow; clear hx; have HO7 := Lib.hid ho; clear ho))
            have h7 := HO7.out.mono (lo' := w.heap.size) (ExtC.ext : Ext w g0.fin).size (Nat.le_refl _)
            rw [show 1 + k = k + 1 by omega] at h7
            have hie : insF C (xn, xd) = _ := insF_at HIN.out
            refine ⟨⟨k + 1, n3, m3, insF C (xn, xd), by omega, by go_num, by first | rfl | (congr 1; omega), by rw [insF_length, hC], ExtC.ext, Lib.hid HCC.out.2.2.1.symm, Lib.hid ?_⟩, by simp [intOf]; omega⟩
            rw [hie]
            simpa using h7
        · have hac : a < C.length := by omega
          obtain ⟨c1, c2⟩ := HCC.out.1 a hac
          have hokc := HCC.out.2.1 _ (List.getElem_mem hac)
          have hst : insAt (xn, xd) C (a + 1) = if cmpF (xn, xd) (C.getD a (0, 1)) < 0 then insAt (xn, xd) C a else a + 1 := rfl
          rw [show C.getD a (0, 1) = C[a] by simp [hac]] at hst
          obtain ⟨⟨yn, yd⟩, hye⟩ : ∃ f, C[a] = f := ⟨_, rfl⟩
          rw [hye] at c1 c2 hokc hst
          dsimp only at c1 c2 hokc
          have hcm := fun z => spec_l01Cmp xn xd yn yd HCC.out.2.2.2 hokc z
          change ∀ z, Calls Try.prog 97 _ z fun e' w' => e' = .returned (.int .i64 (cmpF (xn, xd) (yn, yd))) ∧ Ext z w' at hcm
          obtain ⟨cv, hcv⟩ : ∃ cv, cmpF (xn, xd) (yn, yd) = cv := ⟨_, rfl⟩
          rw [hcv] at hst
          simp only [hcv] at hcm
          have z1 : IntKind.i64.wrap (((a + 1 : Nat) : Int) - 1) = (a : Int) := by rw [IntWalk.i64_in _ (by omega)]; omega
          have z2 : (0 : Int) < ((a + 1 : Nat) : Int) := by omega
          have HST := Lib.hid hst
          clear hst hokc hye hcv
          by_cases hneg : cv < 0
          · have e1 : decide (cv < 0) = true := decide_eq_true hneg
            have HA2 : Hid (insAt (xn, xd) C k = insAt (xn, xd) C a) := Lib.hid (by rw [HA.out, HST.out, if_pos hneg])
            clear hneg
            go_wp2_with fail
            refine wp_region_grow (by kernel_rfl) (by kernel_rfl) ?_
            repeat (go_big_quiet_step ((first | (go_at_call 97; with_reducible exact grow_of (hcm _)))))
            refine wpQuiet_nil ?_
            intro _ hw'
            obtain ⟨g, hw''⟩ := hw'
            subst hw''
            go_wp2_with fail
            exact ⟨⟨a, by omega, rfl, ExtC.ext, HA2⟩, by simp [intOf]⟩
          · have e1 : decide (cv < 0) = false := decide_eq_false hneg
            have HA2 : Hid (insAt (xn, xd) C k = a + 1) := Lib.hid (by rw [HA.out, HST.out, if_neg hneg])
            clear hneg
            go_wp2_with fail
            refine wp_region_grow (by kernel_rfl) (by kernel_rfl) ?_
            repeat (go_big_quiet_step ((first | (go_at_call 97; with_reducible exact grow_of (hcm _)))))
            refine wpQuiet_nil ?_
            intro _ hw'
            obtain ⟨g, hw''⟩ := hw'
            subst hw''
            have HRT := Lib.hid (rp_take iog HCC.out.1 (a + 1) (by omega) (by omega : C.length ≤ oc))
            have HNE := Lib.hid (own_frac_nil g.fin g0.fin.heap.size (ExtC.ext : Ext g0.fin g.fin).size)
            have HIN : Hid (insAt (xn, xd) C C.length = (a + 1)) := Lib.hid (by rw [hC]; exact HA2.out)
            by_cases hca : oc = (a + 1)
            · subst hca
              obtain rfl : k = (a + 1) := by omega
              have HRD := Lib.hid (show RP g0.fin (.slice (some ⟨og, 0, none⟩) 0 0) (C.drop (a + 1)) from .inr ⟨List.drop_of_length_le (by omega), _, _, rfl⟩)
              go_wp2_with (first | (at_builtin; refine app_rf (w0 := g0.fin) (lo := g0.fin.heap.size) (hi := g.fin.heap.size + 1) _ _ g.fin.heap.size 0 0 (a + 1) _ [] (C.take (a + 1)) rfl rfl rfl (by rw [List.length_take]; omega) rfl (HNE.out.ext ExtC.ext) rfl (HRT.out.ext ExtC.ext) (by omega) (by rw [List.length_take]; omega) ExtC.ext (Nat.le_refl _) (by have := (ExtC.ext : Ext g0.fin g.fin).size; simp only [World.size_alloc]; omega) ?_; intro n1 m1 w' ho hx; obtain ⟨g5, rfl⟩ := hx.grow; clear hx; have HO5 := Lib.hid ho; clear ho) | (at_builtin; refine app_frac (w0 := g0.fin) (lo := g0.fin.heap.size) _ _ n1 m1 (0 + (a + 1)) ([] ++ C.take (a + 1)) ⟨g5.fin.heap.size, 0, none⟩ 1 xn xd rfl rfl (by rw [List.length_append, List.length_take]; simp; omega) (by first | rfl | (simp; rfl)) (HO5.out.ext ExtC.ext) rfl (cells_twoF _ _ _ _).1 (cells_twoF _ _ _ _).2 (by omega) ExtC.ext (Nat.le_refl _) ?_; intro n2 m2 w' ho hx; obtain ⟨g6, rfl⟩ := hx.grow; clear hx; have HO6 := Lib.hid ho; clear ho) | (at_builtin; refine app_rf (w0 := g0.fin) (lo := g0.fin.heap.size) (hi := g6.fin.heap.size) _ _ n2 m2 (0 + (a + 1) + 1) 0 _ ([] ++ C.take (a + 1) ++ [(xn, xd)]) (C.drop (a + 1)) rfl rfl (by rw [List.length_append, List.length_append, List.length_take]; simp; omega) (by rw [List.length_drop]; omega) (by first | rfl | (simp; rfl)) (HO6.out.ext ExtC.ext) rfl (HRD.out.ext ExtC.ext) (by omega) (by rw [List.length_drop]; omega) ExtC.ext (Nat.le_refl _) (ExtC.ext : Ext g0.fin g6.fin).size ?_; intro n3 m3 w' ho hx; obtain ⟨g7, rfl⟩ := hx.grow; clear hx; have HO7 := Lib.hid ho; clear ho))
              have h7 := HO7.out.mono (lo' := w.heap.size) (ExtC.ext : Ext w g0.fin).size (Nat.le_refl _)
              rw [show 0 + (a + 1) + 1 + 0 = (a + 1) + 1 by omega] at h7
              have hie : insF C (xn, xd) = _ := insF_at HIN.out
              refine ⟨⟨(a + 1) + 1, n3, m3, insF C (xn, xd), by omega, by go_num, by first | rfl | (congr 1; omega), by rw [insF_length, hC], ExtC.ext, Lib.hid HCC.out.2.2.1.symm, Lib.hid ?_⟩, by simp [intOf]; omega⟩
              rw [hie]
              simpa using h7
            · have hrd := rp_drop iog HCC.out.1 (a + 1) (by omega) (by omega : C.length ≤ oc)
              rw [hC] at hrd
              have HRD := Lib.hid hrd
              clear hrd
              go_wp2_with (first | (at_builtin; refine app_rf (w0 := g0.fin) (lo := g0.fin.heap.size) (hi := g.fin.heap.size + 1) _ _ g.fin.heap.size 0 0 (a + 1) _ [] (C.take (a + 1)) rfl rfl rfl (by rw [List.length_take]; omega) rfl (HNE.out.ext ExtC.ext) rfl (HRT.out.ext ExtC.ext) (by omega) (by rw [List.length_take]; omega) ExtC.ext (Nat.le_refl _) (by have := (ExtC.ext : Ext g0.fin g.fin).size; simp only [World.size_alloc]; omega) ?_; intro n1 m1 w' ho hx; obtain ⟨g5, rfl⟩ := hx.grow; clear hx; have HO5 := Lib.hid ho; clear ho) | (at_builtin; refine app_frac (w0 := g0.fin) (lo := g0.fin.heap.size) _ _ n1 m1 (0 + (a + 1)) ([] ++ C.take (a + 1)) ⟨g5.fin.heap.size, 0, none⟩ 1 xn xd rfl rfl (by rw [List.length_append, List.length_take]; simp; omega) (by first | rfl | (simp; rfl)) (HO5.out.ext ExtC.ext) rfl (cells_twoF _ _ _ _).1 (cells_twoF _ _ _ _).2 (by omega) ExtC.ext (Nat.le_refl _) ?_; intro n2 m2 w' ho hx; obtain ⟨g6, rfl⟩ := hx.grow; clear hx; have HO6 := Lib.hid ho; clear ho) | (at_builtin; refine app_rf (w0 := g0.fin) (lo := g0.fin.heap.size) (hi := g6.fin.heap.size) _ _ n2 m2 (0 + (a + 1) + 1) (k - (a + 1)) _ ([] ++ C.take (a + 1) ++ [(xn, xd)]) (C.drop (a + 1)) rfl rfl (by rw [List.length_append, List.length_append, List.length_take]; simp; omega) (by rw [List.length_drop]; omega) (by first | rfl | (simp; rfl)) (HO6.out.ext ExtC.ext) rfl (HRD.out.ext ExtC.ext) (by omega) (by rw [List.length_drop]; omega) ExtC.ext (Nat.le_refl _) (ExtC.ext : Ext g0.fin g6.fin).size ?_; intro n3 m3 w' ho hx; obtain ⟨g7, rfl⟩ := hx.grow; clear hx; have HO7 := Lib.hid ho; clear ho))
              have h7 := HO7.out.mono (lo' := w.heap.size) (ExtC.ext : Ext w g0.fin).size (Nat.le_refl _)
              rw [show 0 + (a + 1) + 1 + (k - (a + 1)) = k + 1 by omega] at h7
              have hie : insF C (xn, xd) = _ := insF_at HIN.out
              refine ⟨⟨k + 1, n3, m3, insF C (xn, xd), by omega, by go_num, by first | rfl | (congr 1; omega), by rw [insF_length, hC], ExtC.ext, Lib.hid HCC.out.2.2.1.symm, Lib.hid ?_⟩, by simp [intOf]; omega⟩
              rw [hie]
              simpa using h7
    · have hkn : k = xs.length := by omega
      subst hkn
      have hCy : C = ys := by rw [HCk.out, List.take_length]; exact HV.out.2
      have hyl : ys.length = xs.length := by rw [← hCy]; exact hC
      go_wp2_with fail
      refine bodyPost_ret (v := .slice (some ⟨og, 0, none⟩) xs.length oc) (by simp [results, Try.results96, go_sem]) rfl ?_
      rw [hyl, ← hCy]
      exact ⟨_, _, rfl, HO.out, ExtC.ext⟩
end Go.Proofs.Ytoedphgoaifojaa
