/- The program's best paths by depth. -/
import Derived.Test.YtbbppkcdgcajjaaBestI
namespace Go.Proofs.Ytbbppkcdgcajjaa
open Go.RowKit

set_option maxHeartbeats 8000000 in
set_option maxRecDepth 100000 in
theorem impl_bestPath_2 (v : Value) (m : Int) (L : List VD) (R : List Int) (w : World) (h : VS w v L) (hs : Short L) (hok : OkV L) (h0 : 0 ≤ m) (h1 : m < L.length) (hno : ¬ Rch L [] m → R = []) (hway : Rch L [] m → WayD L R [m] m 48) :
    Calls Try.prog 83 #[v, .int .i64 2, .int .i64 m] w (PathR L R m w) := by
  have hln := hok.2
  have HK := Lib.hid hok
  have HE := fun x (hx : Ext w x) => impl_endsFrom v (.slice none 0 0) m L [] x (h.ext hx) hs hok h0 h1 (.inl ⟨rfl, rfl⟩) (by simp)
  have HD : ∀ x, Ext w x → Calls Try.prog 157 #[v, .func (.func 155) #[] #[]] x _ := fun x hx => impl_distances v false L x (h.ext hx) hok
  have HE2 := Lib.hid (fun (t : Int) (u : Value) (bar : List Int) x (hx : Ext w x) (t0 : 0 ≤ t) (t1 : t < L.length) (hu : IS x u bar) (hb : bar.length ≤ 1048576) => impl_endsFrom v u t L bar x (h.ext hx) hs hok t0 t1 (.inr hu) hb)
  obtain ⟨vb, vo, vc, rfl, hvb, hc⟩ := h.at
  have HC := Lib.hid hc
  have hnil := endsL_nil hok (bar := []) h0 h1
  obtain ⟨mn, rfl⟩ := Int.eq_ofNat_of_zero_le h0
  clear hc h hok
  go_enter Try.func83, Try.ntmps83
  go_wp2_with fail
  refine Calls.mono (HE _ ExtC.ext) ?_
  rintro e w' ⟨ge, ce, rfl, -, hx⟩; obtain ⟨g1, rfl⟩ := hx.grow; clear hx HE
  by_cases he : (endsL L [] (mn : Int)).length = 0
  · have hz : (((endsL L [] (mn : Int)).length : Int) == 0) = true := by simp [he]
    have HN := Lib.hid (And.intro (hnil.1 he) (hno (hnil.1 he)))
    clear hnil he hno hway
    go_wp2_with fail
    go_ret
    exact ⟨.inl ⟨HN.out.1, rfl, HN.out.2⟩, ExtC.ext⟩
  have hz : (((endsL L [] (mn : Int)).length : Int) == 0) = false := by simpa using he
  have hr : Rch L [] (mn : Int) := Classical.byContradiction fun hn => he (hnil.2 hn)
  have HR := Lib.hid hr
  have HW := Lib.hid (hway hr)
  clear hnil he hno hway hr
  go_wp2_with fail
  clear hz
  refine Calls.mono (HD _ ExtC.ext) ?_
  rintro e w' ⟨lv, cs, rfl, hcs, hmid, hx⟩; obtain ⟨g2, rfl⟩ := hx.grow; clear hx HD
  obtain ⟨lb, lo, lc, rfl, -, hlb, hlx⟩ := hcs
  have hcl := hmid.len
  have HM := Lib.hid (fun j hj => dist_at HK.out (costOf_pos false) (costOf_four false) hmid j hj)
  have HXC := Lib.hid hlx
  clear hmid hlx
  rw [hcl]
  go_wp2_with fail
  go_loopw [9] (fun p wr => ∃ (P : List Int) (an f pg pc : Nat), p = .slice (some ⟨pg, 0, none⟩) P.length pc ∧ an < L.length ∧ P.length + f = 49 ∧ Ext g2.fin wr ∧ Hid (WayD L R P an f) ∧ Hid (OwnI g2.fin.heap.size wr.heap.size wr (.slice (some ⟨pg, 0, none⟩) P.length pc) P)) (fun p _ => 49 - slen p)
  case atStart => exact ⟨[(mn : Int)], mn, 48, _, _, rfl, by omega, rfl, ExtC.ext, HW, Lib.hid ((own_one g2.fin (mn : Int)).mono (Nat.le_refl _) (by simp))⟩
  case round =>
    obtain ⟨P, an, f, pg, pc, rfl, han, hPf, hx, HWY, HO⟩ := hrel
    obtain ⟨g3, rfl⟩ := hx.grow; clear hx
    obtain ⟨hp0, hp1⟩ := last_get HWY.out.last
    obtain ⟨ub, uo, uc', hue, hul, hub, hux⟩ := IS.of_own HO.out
    simp only [Value.slice.injEq, Option.some.injEq, Addr.mk.injEq, and_true] at hue
    obtain ⟨⟨rfl, rfl⟩, -, rfl⟩ := hue
    have du := hux (P.length - 1) hp0
    rw [hp1, Nat.zero_add] at du
    clear hux hp1
    have q1 : IntKind.i64.wrap ((P.length : Int) - 1) = (P.length : Int) - 1 := IntWalk.i64_in _ (by omega)
    have q2 : (1 : Int) ≤ P.length := by omega
    have q3 : ((P.length : Int) - 1).toNat = P.length - 1 := by omega
    obtain ⟨c1, t, c2, c3⟩ := HC.out (an : Int) (by omega) (by omega)
    simp only [Int.toNat_natCast] at c1 c2
    obtain ⟨s, hs⟩ : ∃ s, (At L (an : Int)).1 = s := ⟨_, rfl⟩
    rw [hs] at c1
    obtain ⟨T, hT⟩ : ∃ T, (At L (an : Int)).2 = T := ⟨_, rfl⟩
    rw [hT] at c3
    obtain ⟨tp, tc, rfl, -, hcx⟩ := c3.form
    have hfew := HK.out.few (an : Int)
    rw [hT] at hfew
    have HX := Lib.hid hcx; clear hcx c3
    have HT := Lib.hid hT; clear hT
    have HS := Lib.hid hs; clear hs
    cases s
    · have hex : ∃ k, ∃ hk : k < T.length, Rch L P T[k] := by
        have := HWY.out.ex HS.out
        rwa [HT.out] at this
      have HEX := Lib.hid hex; clear hex
      go_wp2_with fail
      go_loopw [9, 43] (fun p kk wr => ∃ k : Nat, k ≤ T.length ∧ p = .slice (some ⟨pg, 0, none⟩) P.length pc ∧ kk = .int .i64 k ∧ Ext g3.fin wr ∧ Hid (∀ j (hj : j < T.length), j < k → ¬ Rch L P T[j])) (fun _ kk _ => T.length - (intOf kk).toNat)
      case atStart => exact ⟨0, Nat.zero_le _, rfl, rfl, ExtC.ext, Lib.hid fun j _ hj => absurd hj (by omega)⟩
      case round =>
        obtain ⟨k, hk, rfl, rfl, hx, HNO⟩ := hrel
        obtain ⟨g4, rfl⟩ := hx.grow; clear hx
        by_cases hlk : k < T.length
        · obtain ⟨tb, to, htp, itb, hcx⟩ := HX.out (by omega)
          subst htp
          have d := hcx k hlk
          have HCX := Lib.hid hcx; clear hcx
          have hrange := HK.out.range (a := (an : Int)) (k := k) (by rw [HT.out]; exact hlk)
          have eT : (At L (an : Int)).2[k]'(by rw [HT.out]; exact hlk) = T[k] := by first | (congr 1; done) | (congr 1; exact HT.out)
          rw [eT] at hrange
          obtain ⟨tn, htn⟩ := Int.eq_ofNat_of_zero_le hrange.1
          rw [htn] at d hrange
          have htl : tn < L.length := by omega
          have HTN := Lib.hid (And.intro eT htn)
          have hno' : ∀ j (hj : j < (At L (an : Int)).2.length), j < k → ¬ Rch L P (At L (an : Int)).2[j] := fun j hj hjk => by
            have := HNO.out j (by rw [← HT.out]; exact hj) hjk
            have eT : (At L (an : Int)).2[j] = T[j]'(by rw [← HT.out]; exact hj) := by first | (congr 1; done) | (congr 1; exact HT.out)
            rw [eT]; exact this
          have HNO2 := Lib.hid hno'; clear hno'
          have r1 : ((2 : Int) == 2) = true := rfl
          have r2 : ((2 : Int) != 2) = false := rfl
          have hnr := endsL_nil HK.out (bar := P) (a := (tn : Int)) (by omega) (by omega)
          cases q : decide ((tn : Int) ∈ P)
          · have HQ := Lib.hid (show (tn : Int) ∉ P by simpa using q)
            obtain ⟨N, hN⟩ : ∃ N, (endsL L P (tn : Int)).length = N := ⟨_, rfl⟩
            rw [hN] at hnr
            have HN := Lib.hid hN; clear hN
            by_cases hz0 : N = 0
            · have hng := hnr.1 hz0
              rw [← HTN.out.2] at hng
              have HNG := Lib.hid hng
              clear hnr
              subst hz0
              go_wp2_with fail
              refine wp_region_mk 36 [(0, false), (1, false), (2, false), (3, false), (4, false), (5, false), (6, false), (7, false), (8, false), (9, false), (10, false), (11, false), (12, true), (13, false), (14, false), (15, false), (16, false), (17, false), (18, false), (19, false), (20, false), (21, false), (22, false), (23, false), (24, false), (25, false), (26, false), (27, false), (28, false), (29, false), (30, false), (31, false), (32, false), (33, false), (34, false), (35, false)] (by kernel_rfl) (by kernel_rfl) ?_
              simp only [pickOps, List.getElem?_cons_succ, List.getElem?_cons_zero, List.drop_succ_cons, List.drop_zero]
              repeat (refine mks_q (fun K hK => ?_); go_simp; first | (refine hK _ ?_; clear hK K) | (apply Exists.intro; refine ⟨fun _ => ?_, hK _ ?_⟩; ((first | (go_at_call 86; exact growE_of (slices_Contains _ P _ _ (by assumption) _ (HO.out.ri.ext ExtC.ext) (by omega))))); clear hK K))
              refine mks_m rfl (IsSl 0) (fun v x => Ext _ x) (fun v x y h k => h.trans k) (fun v x h => h) (fun x hx => ?_) ?_
              · go_simp
                refine (HE2.out (tn : Int) _ P x ((ExtC.ext : Ext w g4.fin).trans hx) (by omega) (by omega) ((IS.of_own HO.out).ext ((ExtC.ext : Ext g3.fin g4.fin).trans hx)) (by omega)).mono ?_
                rintro e y ⟨g', c', rfl, -, hy⟩
                exact ⟨_, rfl, ⟨g', c', by rw [HN.out]⟩, hx.trans hy⟩
              rintro _ ⟨b3, c3, rfl⟩ K hK
              go_simp
              refine hK _ ?_; clear hK K
              repeat (refine mks_q (fun K hK => ?_); go_simp; first | (refine hK _ ?_; clear hK K) | (apply Exists.intro; refine ⟨fun _ => ?_, hK _ ?_⟩; (fail); clear hK K))
              refine mks_nil ?_
              rintro x hx
              obtain ⟨g, rfl⟩ := hx.grow; clear hx
              go_wp2_with fail
              go_roundw
              case rel =>
                refine ⟨k + 1, by omega, rfl, by go_num, ExtC.ext, Lib.hid fun j hj hjk => ?_⟩
                by_cases e : j = k
                · subst e; exact HNG.out
                · exact HNO.out j hj (by omega)
              case measure => simp [intOf]; omega
            · have hrt : Rch L P (tn : Int) := Classical.byContradiction fun hh => hz0 (hnr.2 hh)
              have dz : decide (0 < N) = true := decide_eq_true (by omega)
              obtain ⟨f', hf', hwy'⟩ := HWY.out.go HK.out HS.out (k := k) (by rw [HT.out]; exact hlk) (by rw [HTN.out.1, HTN.out.2]; exact hrt) HNO2.out
              rw [HTN.out.1, HTN.out.2] at hwy'
              have HW2 := Lib.hid hwy'
              clear hwy' hnr hrt hz0
              go_wp2_with fail
              refine wp_region_mk 36 [(0, false), (1, false), (2, false), (3, false), (4, false), (5, false), (6, false), (7, false), (8, false), (9, false), (10, false), (11, false), (12, true), (13, false), (14, false), (15, false), (16, false), (17, false), (18, false), (19, false), (20, false), (21, false), (22, false), (23, false), (24, false), (25, false), (26, false), (27, false), (28, false), (29, false), (30, false), (31, false), (32, false), (33, false), (34, false), (35, false)] (by kernel_rfl) (by kernel_rfl) ?_
              simp only [pickOps, List.getElem?_cons_succ, List.getElem?_cons_zero, List.drop_succ_cons, List.drop_zero]
              repeat (refine mks_q (fun K hK => ?_); go_simp; first | (refine hK _ ?_; clear hK K) | (apply Exists.intro; refine ⟨fun _ => ?_, hK _ ?_⟩; ((first | (go_at_call 86; exact growE_of (slices_Contains _ P _ _ (by assumption) _ (HO.out.ri.ext ExtC.ext) (by omega))))); clear hK K))
              refine mks_m rfl (IsSl N) (fun v x => Ext _ x) (fun v x y h k => h.trans k) (fun v x h => h) (fun x hx => ?_) ?_
              · go_simp
                refine (HE2.out (tn : Int) _ P x ((ExtC.ext : Ext w g4.fin).trans hx) (by omega) (by omega) ((IS.of_own HO.out).ext ((ExtC.ext : Ext g3.fin g4.fin).trans hx)) (by omega)).mono ?_
                rintro e y ⟨g', c', rfl, -, hy⟩
                exact ⟨_, rfl, ⟨g', c', by rw [HN.out]⟩, hx.trans hy⟩
              rintro _ ⟨b3, c3, rfl⟩ K hK
              go_simp
              refine hK _ ?_; clear hK K
              repeat (refine mks_q (fun K hK => ?_); go_simp; first | (refine hK _ ?_; clear hK K) | (apply Exists.intro; refine ⟨fun _ => ?_, hK _ ?_⟩; (fail); clear hK K))
              refine mks_nil ?_
              rintro x hx
              obtain ⟨g, rfl⟩ := hx.grow; clear hx
              go_wp2_with (at_builtin; refine app_int (w0 := g2.fin) (lo := g2.fin.heap.size) (hi := g3.fin.heap.size) _ _ (.slice (some ⟨pg, 0, none⟩) P.length pc) P ⟨g.fin.heap.size, 0, none⟩ 1 [(tn : Int)] rfl rfl rfl (HO.out.ext ExtC.ext) rfl (cells_one _ _ _) (by simp; omega) ExtC.ext (Nat.le_refl _) (by have := (ExtC.ext : Ext g2.fin g.fin).size; simp; omega) (by simp) ?_; intro g' c' w' ho hx; obtain ⟨g6, rfl⟩ := hx.grow; clear hx; have HO2 := Lib.hid (own_snoc_len ho); clear ho)
              go_roundw
              case rel => exact ⟨P ++ [(tn : Int)], tn, f', g', c', by simp, htl, by simp; omega, ExtC.ext, HW2, Lib.hid (by have := HO2.out; simpa using this)⟩
              case measure => simp [slen]; omega
          · have HNG := Lib.hid (show ¬ Rch L P T[k] by
              rw [HTN.out.2]
              rintro ⟨m', x', hw⟩
              exact hw.notin (by simpa using q))
            go_wp2_with fail
            refine wp_region_grow (by kernel_rfl) (by kernel_rfl) ?_
            repeat (go_big_quiet_step ((first | (go_at_call 86; with_reducible exact grow_of (slices_Contains _ P _ _ (by assumption) _ (HO.out.ri.ext ExtC.ext) (by omega))))))
            refine wpQuiet_nil ?_
            intro _ hw'
            obtain ⟨g, hw''⟩ := hw'
            subst hw''
            go_wp2_with fail
            go_roundw
            case rel =>
              refine ⟨k + 1, by omega, rfl, by go_num, ExtC.ext, Lib.hid fun j hj hjk => ?_⟩
              by_cases e : j = k
              · subst e; exact HNG.out
              · exact HNO.out j hj (by omega)
            case measure => simp [intOf]; omega
        · obtain ⟨j, hj, hg⟩ := HEX.out
          exact absurd hg (HNO.out j hj (by omega))
    · have HDN := Lib.hid (HWY.out.done HS.out)
      go_wp2_with fail
      go_ret
      refine ⟨.inr ⟨HR.out, pg, pc, by rw [← HDN.out]; rfl, ?_⟩, ExtC.ext⟩
      rw [← HDN.out]
      exact HO.out.mono (ExtC.ext : Ext w g2.fin).size (Nat.le_refl _)
end Go.Proofs.Ytbbppkcdgcajjaa
