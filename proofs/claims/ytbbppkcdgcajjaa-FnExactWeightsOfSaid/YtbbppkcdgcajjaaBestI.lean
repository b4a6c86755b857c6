/- The program's best paths. -/
import Derived.Test.YtbbppkcdgcajjaaCheap
import Derived.Test.YtbbppkcdgcajjaaDist
import Derived.Test.YtbbppkcdgcajjaaAppV
namespace Go.Proofs.Ytbbppkcdgcajjaa
open Go.RowKit

theorem dist_at {L : List VD} {c : Nat → Nat} (hok : OkV L) (hc : ∀ k, 1 ≤ c k) (hc4 : ∀ k, k < 4 → c k ≤ 4) {cs : List Int} (h : Mid L c [] LeI (SnI L c []) BdI L.length 0 0 cs) (j : Nat) (hj : j < cs.length) : 0 ≤ cs[j] ∧ cs[j] ≤ 1000 ∧ ∀ n : Nat, Lst L c [] j n ↔ cs[j] = n ∧ cs[j] < 1000 := by
  rcases endI hok hc hc4 h j hj with ⟨e, hn⟩ | ⟨x, e, hl, h44⟩
  · refine ⟨by omega, by omega, fun x => ⟨fun hx => ?_, fun hx => by omega⟩⟩
    obtain ⟨m, hm⟩ := hx.1
    exact absurd hm (hn _ _)
  · refine ⟨by omega, by omega, fun y => ⟨fun hy => ?_, fun hy => ?_⟩⟩
    · have := hl.uniq hy; omega
    · have : x = y := by omega
      subst this; exact hl
theorem goodI_iff {L : List VD} {c : Nat → Nat} {a : Int} {x y : Int} {k : Nat} {t : Int} (ha : ∀ n : Nat, Lst L c [] a n ↔ x = n ∧ x < 1000) (ht : ∀ n : Nat, Lst L c [] t n ↔ y = n ∧ y < 1000) (hx : 0 ≤ x) (hx2 : x < 1000) (hy : 0 ≤ y) (hc : 1 ≤ c k) : GoodC L c a k t ↔ y + (c k : Int) = x := by
  constructor
  · rintro ⟨n, m, h1, h2, e⟩
    have := (ha n).1 h1
    have := (ht m).1 h2
    omega
  · intro h1
    exact ⟨x.toNat, y.toNat, (ha _).2 ⟨by omega, hx2⟩, (ht _).2 ⟨by omega, by omega⟩, by omega⟩
theorem last_get {P : List Int} {a : Int} (h : P.getLast? = some a) : ∃ h : P.length - 1 < P.length, P[P.length - 1] = a := by
  have h0 : 0 < P.length := by
    rcases Nat.eq_zero_or_pos P.length with e | e
    · rw [List.length_eq_zero_iff.1 e] at h; simp at h
    · exact e
  refine ⟨by omega, ?_⟩
  rw [List.getLast?_eq_getElem?, List.getElem?_eq_getElem (by omega)] at h
  exact Option.some.inj h

set_option maxHeartbeats 8000000 in
set_option maxRecDepth 100000 in
theorem impl_bestPath_0 (v : Value) (m : Int) (L : List VD) (R : List Int) (w : World) (h : VS w v L) (hs : Short L) (hok : OkV L) (h0 : 0 ≤ m) (h1 : m < L.length) (hno : ¬ Rch L [] m → R = []) (hway : Rch L [] m → WayC L (costOf false) R [m] m 48) :
    Calls Try.prog 83 #[v, .int .i64 0, .int .i64 m] w (PathR L R m w) := by
  have hln := hok.2
  have HK := Lib.hid hok
  have HE := fun x (hx : Ext w x) => impl_endsFrom v (.slice none 0 0) m L [] x (h.ext hx) hs hok h0 h1 (.inl ⟨rfl, rfl⟩) (by simp)
  have HD : ∀ x, Ext w x → Calls Try.prog 157 #[v, .func (.func 155) #[] #[]] x _ := fun x hx => impl_distances v false L x (h.ext hx) hok
  have HE2 := Lib.hid (fun (t : Int) (u : Value) (bar : List Int) x (hx : Ext w x) (t0 : 0 ≤ t) (t1 : t < L.length) (hu : IS x u bar) (hb : bar.length ≤ 1048576) => impl_endsFrom v u t L bar x (h.ext hx) hs hok t0 t1 (.inr hu) hb)
  obtain ⟨vb, vo, vc, rfl, hvb, hc⟩ := h.at
  have HC := Lib.hid hc
  have hnil := endsL_nil hok (bar := []) h0 h1
  obtain ⟨mn, rfl⟩ := Int.eq_ofNat_of_zero_le h0
  clear hc h hok
  go_enter Try.func83, Try.ntmps83
  go_wp2_with fail
  refine Calls.mono (HE _ ExtC.ext) ?_
  rintro e w' ⟨ge, ce, rfl, -, hx⟩; obtain ⟨g1, rfl⟩ := hx.grow; clear hx HE
  by_cases he : (endsL L [] (mn : Int)).length = 0
  · have hz : (((endsL L [] (mn : Int)).length : Int) == 0) = true := by simp [he]
    have HN := Lib.hid (And.intro (hnil.1 he) (hno (hnil.1 he)))
    clear hnil he hno hway
    go_wp2_with fail
    go_ret
    exact ⟨.inl ⟨HN.out.1, rfl, HN.out.2⟩, ExtC.ext⟩
  have hz : (((endsL L [] (mn : Int)).length : Int) == 0) = false := by simpa using he
  have hr : Rch L [] (mn : Int) := Classical.byContradiction fun hn => he (hnil.2 hn)
  have HR := Lib.hid hr
  have HW := Lib.hid (hway hr)
  clear hnil he hno hway hr
  go_wp2_with fail
  clear hz
  refine Calls.mono (HD _ ExtC.ext) ?_
  rintro e w' ⟨lv, cs, rfl, hcs, hmid, hx⟩; obtain ⟨g2, rfl⟩ := hx.grow; clear hx HD
  obtain ⟨lb, lo, lc, rfl, -, hlb, hlx⟩ := hcs
  have hcl := hmid.len
  have HM := Lib.hid (fun j hj => dist_at HK.out (costOf_pos false) (costOf_four false) hmid j hj)
  have HXC := Lib.hid hlx
  clear hmid hlx
  rw [hcl]
  go_wp2_with fail
  go_loopw [9] (fun p wr => ∃ (P : List Int) (an f pg pc : Nat), p = .slice (some ⟨pg, 0, none⟩) P.length pc ∧ an < L.length ∧ P.length + f = 49 ∧ Ext g2.fin wr ∧ Hid (WayC L (costOf false) R P an f) ∧ Hid (OwnI g2.fin.heap.size wr.heap.size wr (.slice (some ⟨pg, 0, none⟩) P.length pc) P)) (fun p _ => 49 - slen p)
  case atStart => exact ⟨[(mn : Int)], mn, 48, _, _, rfl, by omega, rfl, ExtC.ext, HW, Lib.hid ((own_one g2.fin (mn : Int)).mono (Nat.le_refl _) (by simp))⟩
  case round =>
    obtain ⟨P, an, f, pg, pc, rfl, han, hPf, hx, HWY, HO⟩ := hrel
    obtain ⟨g3, rfl⟩ := hx.grow; clear hx
    obtain ⟨hp0, hp1⟩ := last_get HWY.out.last
    obtain ⟨ub, uo, uc', hue, hul, hub, hux⟩ := IS.of_own HO.out
    simp only [Value.slice.injEq, Option.some.injEq, Addr.mk.injEq, and_true] at hue
    obtain ⟨⟨rfl, rfl⟩, -, rfl⟩ := hue
    have du := hux (P.length - 1) hp0
    rw [hp1, Nat.zero_add] at du
    clear hux hp1
    have q1 : IntKind.i64.wrap ((P.length : Int) - 1) = (P.length : Int) - 1 := IntWalk.i64_in _ (by omega)
    have q2 : (1 : Int) ≤ P.length := by omega
    have q3 : ((P.length : Int) - 1).toNat = P.length - 1 := by omega
    obtain ⟨c1, t, c2, c3⟩ := HC.out (an : Int) (by omega) (by omega)
    simp only [Int.toNat_natCast] at c1 c2
    obtain ⟨s, hs⟩ : ∃ s, (At L (an : Int)).1 = s := ⟨_, rfl⟩
    rw [hs] at c1
    obtain ⟨T, hT⟩ : ∃ T, (At L (an : Int)).2 = T := ⟨_, rfl⟩
    rw [hT] at c3
    obtain ⟨tp, tc, rfl, -, hcx⟩ := c3.form
    have hfew := HK.out.few (an : Int)
    rw [hT] at hfew
    have HX := Lib.hid hcx; clear hcx c3
    have HT := Lib.hid hT; clear hT
    have HS := Lib.hid hs; clear hs
    cases s
    · have hex : ∃ k, ∃ hk : k < T.length, GoodC L (costOf false) (an : Int) k T[k] := by
        obtain ⟨x, hx, _⟩ := HWY.out.lst
        have := goodC_ex hx HS.out
        rwa [HT.out] at this
      have HEX := Lib.hid hex; clear hex
      go_wp2_with fail
      go_loopw [9, 43] (fun p kk wr => ∃ k : Nat, k ≤ T.length ∧ p = .slice (some ⟨pg, 0, none⟩) P.length pc ∧ kk = .int .i64 k ∧ Ext g3.fin wr ∧ Hid (∀ j (hj : j < T.length), j < k → ¬ GoodC L (costOf false) (an : Int) j T[j])) (fun _ kk _ => T.length - (intOf kk).toNat)
      case atStart => exact ⟨0, Nat.zero_le _, rfl, rfl, ExtC.ext, Lib.hid fun j _ hj => absurd hj (by omega)⟩
      case round =>
        obtain ⟨k, hk, rfl, rfl, hx, HNO⟩ := hrel
        obtain ⟨g4, rfl⟩ := hx.grow; clear hx
        by_cases hlk : k < T.length
        · obtain ⟨tb, to, htp, itb, hcx⟩ := HX.out (by omega)
          subst htp
          have d := hcx k hlk
          have HCX := Lib.hid hcx; clear hcx
          have hrange := HK.out.range (a := (an : Int)) (k := k) (by rw [HT.out]; exact hlk)
          have eT : (At L (an : Int)).2[k]'(by rw [HT.out]; exact hlk) = T[k] := by first | (congr 1; done) | (congr 1; exact HT.out)
          rw [eT] at hrange
          obtain ⟨tn, htn⟩ := Int.eq_ofNat_of_zero_le hrange.1
          rw [htn] at d hrange
          have htl : tn < L.length := by omega
          have HTN := Lib.hid (And.intro eT htn)
          have hno' : ∀ j (hj : j < (At L (an : Int)).2.length), j < k → ¬ GoodC L (costOf false) (an : Int) j (At L (an : Int)).2[j] := fun j hj hjk => by
            have := HNO.out j (by rw [← HT.out]; exact hj) hjk
            have eT : (At L (an : Int)).2[j] = T[j]'(by rw [← HT.out]; exact hj) := by first | (congr 1; done) | (congr 1; exact HT.out)
            rw [eT]; exact this
          have HNO2 := Lib.hid hno'; clear hno'
          have e1 := HXC.out tn (by omega)
          have e2 := HXC.out an (by omega)
          have m1 := HM.out tn (by omega)
          have m2 := HM.out an (by omega)
          obtain ⟨y, hy⟩ : ∃ y, cs[tn]'(by omega) = y := ⟨_, rfl⟩
          obtain ⟨z, hz⟩ : ∃ z, cs[an]'(by omega) = z := ⟨_, rfl⟩
          rw [hy] at e1 m1
          rw [hz] at e2 m2
          obtain ⟨y0, y1, my⟩ := m1
          obtain ⟨z0, z1, mz⟩ := m2
          have z9 : z < 1000 := by
            obtain ⟨x, hx, _⟩ := HWY.out.lst
            exact ((mz x).1 hx).2
          have hck : ((costOf false k : Nat) : Int) = (1 : Int) := by simp [costOf]
          have hgood : GoodC L (costOf false) (an : Int) k T[k] ↔ y + (1 : Int) = z := by
            rw [htn, goodI_iff mz my z0 z9 y0 (costOf_pos _ _), hck]
          have HG := Lib.hid hgood
          clear hy hz my mz hgood hck htn eT z9
          have q4 : IntKind.i64.wrap ((k : Int) + 1) = (k : Int) + 1 := IntWalk.i64_in _ (by omega)
          have q5 : IntKind.i64.wrap (y + (1 : Int)) = y + (1 : Int) := IntWalk.i64_in _ (by omega)
          have r1 : ((0 : Int) == 2) = false := rfl
          have r2 : ((0 : Int) != 2) = true := rfl
          by_cases z2 : y + (1 : Int) = z
          · have dz : (y + (1 : Int) == z) = true := by simp [z2]
            obtain ⟨f', hf', hwy'⟩ := HWY.out.go HK.out (costOf_pos false) HS.out (k := k) (by rw [HT.out]; exact hlk) (by rw [HTN.out.1]; exact HG.out.2 z2) HNO2.out
            rw [HTN.out.1, HTN.out.2] at hwy'
            have HW2 := Lib.hid hwy'
            clear hwy' z2
            go_wp2_with fail
            refine wp_region_grow (by kernel_rfl) (by kernel_rfl) ?_
            repeat (go_big_quiet_step ((first | (go_at_call 155; with_reducible exact grow_of (impl_cost1 _ _)))))
            refine wpQuiet_nil ?_
            intro _ hw'
            obtain ⟨g, hw''⟩ := hw'
            subst hw''
            go_wp2_with (at_builtin; refine app_int (w0 := g2.fin) (lo := g2.fin.heap.size) (hi := g3.fin.heap.size) _ _ (.slice (some ⟨pg, 0, none⟩) P.length pc) P ⟨g.fin.heap.size, 0, none⟩ 1 [(tn : Int)] rfl rfl rfl (HO.out.ext ExtC.ext) rfl (cells_one _ _ _) (by simp; omega) ExtC.ext (Nat.le_refl _) (by have := (ExtC.ext : Ext g2.fin g.fin).size; simp; omega) (by simp) ?_; intro g' c' w' ho hx; obtain ⟨g6, rfl⟩ := hx.grow; clear hx; have HO2 := Lib.hid (own_snoc_len ho); clear ho)
            go_roundw
            case rel => exact ⟨P ++ [(tn : Int)], tn, f', g', c', by simp, htl, by simp; omega, ExtC.ext, HW2, Lib.hid (by have := HO2.out; simpa using this)⟩
            case measure => simp [slen]; omega
          · have dz : (y + (1 : Int) == z) = false := by simpa using z2
            have HNG := Lib.hid (fun hg => z2 (HG.out.1 hg))
            clear z2
            go_wp2_with fail
            refine wp_region_grow (by kernel_rfl) (by kernel_rfl) ?_
            repeat (go_big_quiet_step ((first | (go_at_call 155; with_reducible exact grow_of (impl_cost1 _ _)))))
            refine wpQuiet_nil ?_
            intro _ hw'
            obtain ⟨g, hw''⟩ := hw'
            subst hw''
            go_wp2_with fail
            go_roundw
            case rel =>
              refine ⟨k + 1, by omega, rfl, by go_num, ExtC.ext, Lib.hid fun j hj hjk => ?_⟩
              by_cases e : j = k
              · subst e; exact HNG.out
              · exact HNO.out j hj (by omega)
            case measure => simp [intOf]; omega
        · obtain ⟨j, hj, hg⟩ := HEX.out
          exact absurd hg (HNO.out j hj (by omega))
    · have HDN := Lib.hid (HWY.out.done HS.out)
      go_wp2_with fail
      go_ret
      refine ⟨.inr ⟨HR.out, pg, pc, by rw [← HDN.out]; rfl, ?_⟩, ExtC.ext⟩
      rw [← HDN.out]
      exact HO.out.mono (ExtC.ext : Ext w g2.fin).size (Nat.le_refl _)

set_option maxHeartbeats 8000000 in
set_option maxRecDepth 100000 in
theorem impl_bestPath_1 (v : Value) (m : Int) (L : List VD) (R : List Int) (w : World) (h : VS w v L) (hs : Short L) (hok : OkV L) (h0 : 0 ≤ m) (h1 : m < L.length) (hno : ¬ Rch L [] m → R = []) (hway : Rch L [] m → WayC L (costOf true) R [m] m 48) :
    Calls Try.prog 83 #[v, .int .i64 1, .int .i64 m] w (PathR L R m w) := by
  have hln := hok.2
  have HK := Lib.hid hok
  have HE := fun x (hx : Ext w x) => impl_endsFrom v (.slice none 0 0) m L [] x (h.ext hx) hs hok h0 h1 (.inl ⟨rfl, rfl⟩) (by simp)
  have HD : ∀ x, Ext w x → Calls Try.prog 157 #[v, .func (.func 156) #[] #[]] x _ := fun x hx => impl_distances v true L x (h.ext hx) hok
  have HE2 := Lib.hid (fun (t : Int) (u : Value) (bar : List Int) x (hx : Ext w x) (t0 : 0 ≤ t) (t1 : t < L.length) (hu : IS x u bar) (hb : bar.length ≤ 1048576) => impl_endsFrom v u t L bar x (h.ext hx) hs hok t0 t1 (.inr hu) hb)
  obtain ⟨vb, vo, vc, rfl, hvb, hc⟩ := h.at
  have HC := Lib.hid hc
  have hnil := endsL_nil hok (bar := []) h0 h1
  obtain ⟨mn, rfl⟩ := Int.eq_ofNat_of_zero_le h0
  clear hc h hok
  go_enter Try.func83, Try.ntmps83
  go_wp2_with fail
  refine Calls.mono (HE _ ExtC.ext) ?_
  rintro e w' ⟨ge, ce, rfl, -, hx⟩; obtain ⟨g1, rfl⟩ := hx.grow; clear hx HE
  by_cases he : (endsL L [] (mn : Int)).length = 0
  · have hz : (((endsL L [] (mn : Int)).length : Int) == 0) = true := by simp [he]
    have HN := Lib.hid (And.intro (hnil.1 he) (hno (hnil.1 he)))
    clear hnil he hno hway
    go_wp2_with fail
    go_ret
    exact ⟨.inl ⟨HN.out.1, rfl, HN.out.2⟩, ExtC.ext⟩
  have hz : (((endsL L [] (mn : Int)).length : Int) == 0) = false := by simpa using he
  have hr : Rch L [] (mn : Int) := Classical.byContradiction fun hn => he (hnil.2 hn)
  have HR := Lib.hid hr
  have HW := Lib.hid (hway hr)
  clear hnil he hno hway hr
  go_wp2_with fail
  clear hz
  refine Calls.mono (HD _ ExtC.ext) ?_
  rintro e w' ⟨lv, cs, rfl, hcs, hmid, hx⟩; obtain ⟨g2, rfl⟩ := hx.grow; clear hx HD
  obtain ⟨lb, lo, lc, rfl, -, hlb, hlx⟩ := hcs
  have hcl := hmid.len
  have HM := Lib.hid (fun j hj => dist_at HK.out (costOf_pos true) (costOf_four true) hmid j hj)
  have HXC := Lib.hid hlx
  clear hmid hlx
  rw [hcl]
  go_wp2_with fail
  go_loopw [9] (fun p wr => ∃ (P : List Int) (an f pg pc : Nat), p = .slice (some ⟨pg, 0, none⟩) P.length pc ∧ an < L.length ∧ P.length + f = 49 ∧ Ext g2.fin wr ∧ Hid (WayC L (costOf true) R P an f) ∧ Hid (OwnI g2.fin.heap.size wr.heap.size wr (.slice (some ⟨pg, 0, none⟩) P.length pc) P)) (fun p _ => 49 - slen p)
  case atStart => exact ⟨[(mn : Int)], mn, 48, _, _, rfl, by omega, rfl, ExtC.ext, HW, Lib.hid ((own_one g2.fin (mn : Int)).mono (Nat.le_refl _) (by simp))⟩
  case round =>
    obtain ⟨P, an, f, pg, pc, rfl, han, hPf, hx, HWY, HO⟩ := hrel
    obtain ⟨g3, rfl⟩ := hx.grow; clear hx
    obtain ⟨hp0, hp1⟩ := last_get HWY.out.last
    obtain ⟨ub, uo, uc', hue, hul, hub, hux⟩ := IS.of_own HO.out
    simp only [Value.slice.injEq, Option.some.injEq, Addr.mk.injEq, and_true] at hue
    obtain ⟨⟨rfl, rfl⟩, -, rfl⟩ := hue
    have du := hux (P.length - 1) hp0
    rw [hp1, Nat.zero_add] at du
    clear hux hp1
    have q1 : IntKind.i64.wrap ((P.length : Int) - 1) = (P.length : Int) - 1 := IntWalk.i64_in _ (by omega)
    have q2 : (1 : Int) ≤ P.length := by omega
    have q3 : ((P.length : Int) - 1).toNat = P.length - 1 := by omega
    obtain ⟨c1, t, c2, c3⟩ := HC.out (an : Int) (by omega) (by omega)
    simp only [Int.toNat_natCast] at c1 c2
    obtain ⟨s, hs⟩ : ∃ s, (At L (an : Int)).1 = s := ⟨_, rfl⟩
    rw [hs] at c1
    obtain ⟨T, hT⟩ : ∃ T, (At L (an : Int)).2 = T := ⟨_, rfl⟩
    rw [hT] at c3
    obtain ⟨tp, tc, rfl, -, hcx⟩ := c3.form
    have hfew := HK.out.few (an : Int)
    rw [hT] at hfew
    have HX := Lib.hid hcx; clear hcx c3
    have HT := Lib.hid hT; clear hT
    have HS := Lib.hid hs; clear hs
    cases s
    · have hex : ∃ k, ∃ hk : k < T.length, GoodC L (costOf true) (an : Int) k T[k] := by
        obtain ⟨x, hx, _⟩ := HWY.out.lst
        have := goodC_ex hx HS.out
        rwa [HT.out] at this
      have HEX := Lib.hid hex; clear hex
      go_wp2_with fail
      go_loopw [9, 43] (fun p kk wr => ∃ k : Nat, k ≤ T.length ∧ p = .slice (some ⟨pg, 0, none⟩) P.length pc ∧ kk = .int .i64 k ∧ Ext g3.fin wr ∧ Hid (∀ j (hj : j < T.length), j < k → ¬ GoodC L (costOf true) (an : Int) j T[j])) (fun _ kk _ => T.length - (intOf kk).toNat)
      case atStart => exact ⟨0, Nat.zero_le _, rfl, rfl, ExtC.ext, Lib.hid fun j _ hj => absurd hj (by omega)⟩
      case round =>
        obtain ⟨k, hk, rfl, rfl, hx, HNO⟩ := hrel
        obtain ⟨g4, rfl⟩ := hx.grow; clear hx
        by_cases hlk : k < T.length
        · obtain ⟨tb, to, htp, itb, hcx⟩ := HX.out (by omega)
          subst htp
          have d := hcx k hlk
          have HCX := Lib.hid hcx; clear hcx
          have hrange := HK.out.range (a := (an : Int)) (k := k) (by rw [HT.out]; exact hlk)
          have eT : (At L (an : Int)).2[k]'(by rw [HT.out]; exact hlk) = T[k] := by first | (congr 1; done) | (congr 1; exact HT.out)
          rw [eT] at hrange
          obtain ⟨tn, htn⟩ := Int.eq_ofNat_of_zero_le hrange.1
          rw [htn] at d hrange
          have htl : tn < L.length := by omega
          have HTN := Lib.hid (And.intro eT htn)
          have hno' : ∀ j (hj : j < (At L (an : Int)).2.length), j < k → ¬ GoodC L (costOf true) (an : Int) j (At L (an : Int)).2[j] := fun j hj hjk => by
            have := HNO.out j (by rw [← HT.out]; exact hj) hjk
            have eT : (At L (an : Int)).2[j] = T[j]'(by rw [← HT.out]; exact hj) := by first | (congr 1; done) | (congr 1; exact HT.out)
            rw [eT]; exact this
          have HNO2 := Lib.hid hno'; clear hno'
          have e1 := HXC.out tn (by omega)
          have e2 := HXC.out an (by omega)
          have m1 := HM.out tn (by omega)
          have m2 := HM.out an (by omega)
          obtain ⟨y, hy⟩ : ∃ y, cs[tn]'(by omega) = y := ⟨_, rfl⟩
          obtain ⟨z, hz⟩ : ∃ z, cs[an]'(by omega) = z := ⟨_, rfl⟩
          rw [hy] at e1 m1
          rw [hz] at e2 m2
          obtain ⟨y0, y1, my⟩ := m1
          obtain ⟨z0, z1, mz⟩ := m2
          have z9 : z < 1000 := by
            obtain ⟨x, hx, _⟩ := HWY.out.lst
            exact ((mz x).1 hx).2
          have hck : ((costOf true k : Nat) : Int) = ((k : Int) + 1) := by simp [costOf]
          have hgood : GoodC L (costOf true) (an : Int) k T[k] ↔ y + ((k : Int) + 1) = z := by
            rw [htn, goodI_iff mz my z0 z9 y0 (costOf_pos _ _), hck]
          have HG := Lib.hid hgood
          clear hy hz my mz hgood hck htn eT z9
          have q4 : IntKind.i64.wrap ((k : Int) + 1) = (k : Int) + 1 := IntWalk.i64_in _ (by omega)
          have q5 : IntKind.i64.wrap (y + ((k : Int) + 1)) = y + ((k : Int) + 1) := IntWalk.i64_in _ (by omega)
          have r1 : ((1 : Int) == 2) = false := rfl
          have r2 : ((1 : Int) != 2) = true := rfl
          by_cases z2 : y + ((k : Int) + 1) = z
          · have dz : (y + ((k : Int) + 1) == z) = true := by simp [z2]
            obtain ⟨f', hf', hwy'⟩ := HWY.out.go HK.out (costOf_pos true) HS.out (k := k) (by rw [HT.out]; exact hlk) (by rw [HTN.out.1]; exact HG.out.2 z2) HNO2.out
            rw [HTN.out.1, HTN.out.2] at hwy'
            have HW2 := Lib.hid hwy'
            clear hwy' z2
            go_wp2_with fail
            refine wp_region_grow (by kernel_rfl) (by kernel_rfl) ?_
            repeat (go_big_quiet_step ((first | (go_at_call 156; with_reducible exact grow_of (impl_cost2 _ _)))))
            refine wpQuiet_nil ?_
            intro _ hw'
            obtain ⟨g, hw''⟩ := hw'
            subst hw''
            go_wp2_with (at_builtin; refine app_int (w0 := g2.fin) (lo := g2.fin.heap.size) (hi := g3.fin.heap.size) _ _ (.slice (some ⟨pg, 0, none⟩) P.length pc) P ⟨g.fin.heap.size, 0, none⟩ 1 [(tn : Int)] rfl rfl rfl (HO.out.ext ExtC.ext) rfl (cells_one _ _ _) (by simp; omega) ExtC.ext (Nat.le_refl _) (by have := (ExtC.ext : Ext g2.fin g.fin).size; simp; omega) (by simp) ?_; intro g' c' w' ho hx; obtain ⟨g6, rfl⟩ := hx.grow; clear hx; have HO2 := Lib.hid (own_snoc_len ho); clear ho)
            go_roundw
            case rel => exact ⟨P ++ [(tn : Int)], tn, f', g', c', by simp, htl, by simp; omega, ExtC.ext, HW2, Lib.hid (by have := HO2.out; simpa using this)⟩
            case measure => simp [slen]; omega
          · have dz : (y + ((k : Int) + 1) == z) = false := by simpa using z2
            have HNG := Lib.hid (fun hg => z2 (HG.out.1 hg))
            clear z2
            go_wp2_with fail
            refine wp_region_grow (by kernel_rfl) (by kernel_rfl) ?_
            repeat (go_big_quiet_step ((first | (go_at_call 156; with_reducible exact grow_of (impl_cost2 _ _)))))
            refine wpQuiet_nil ?_
            intro _ hw'
            obtain ⟨g, hw''⟩ := hw'
            subst hw''
            go_wp2_with fail
            go_roundw
            case rel =>
              refine ⟨k + 1, by omega, rfl, by go_num, ExtC.ext, Lib.hid fun j hj hjk => ?_⟩
              by_cases e : j = k
              · subst e; exact HNG.out
              · exact HNO.out j hj (by omega)
            case measure => simp [intOf]; omega
        · obtain ⟨j, hj, hg⟩ := HEX.out
          exact absurd hg (HNO.out j hj (by omega))
    · have HDN := Lib.hid (HWY.out.done HS.out)
      go_wp2_with fail
      go_ret
      refine ⟨.inr ⟨HR.out, pg, pc, by rw [← HDN.out]; rfl, ?_⟩, ExtC.ext⟩
      rw [← HDN.out]
      exact HO.out.mono (ExtC.ext : Ext w g2.fin).size (Nat.le_refl _)


end Go.Proofs.Ytbbppkcdgcajjaa
