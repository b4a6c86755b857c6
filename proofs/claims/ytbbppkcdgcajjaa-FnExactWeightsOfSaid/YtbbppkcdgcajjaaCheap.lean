/- The reference's best paths. -/
import Derived.Test.YtbbppkcdgcajjaaLost
import Derived.Test.YtbbppkcdgcajjaaBest
namespace Go.Proofs.Ytbbppkcdgcajjaa
open Go.RowKit

/-- A path that a function has made, or nil if there is none. -/
def PathR (L : List VD) (R : List Int) (m : Int) (w : World) (e : Ending) (w' : World) : Prop :=
  ((¬ Rch L [] m ∧ e = .returned (.slice none 0 0) ∧ R = []) ∨ (Rch L [] m ∧ ∃ g c, e = .returned (.slice (some ⟨g, 0, none⟩) R.length c) ∧ OwnI w.heap.size w'.heap.size w' (.slice (some ⟨g, 0, none⟩) R.length c) R)) ∧ Ext w w'

theorem cost_at {L : List VD} {c : Nat → Nat} {bar : List Int} (hok : OkV L) (hc : ∀ k, 1 ≤ c k) (hc4 : ∀ k, k < 4 → c k ≤ 4) {cs : List Int} (h : Mid L c bar LeS (SnS L c bar) BdS L.length 0 0 cs) (j : Nat) (hj : j < cs.length) : -1 ≤ cs[j] ∧ cs[j] ≤ 44 ∧ ∀ x : Nat, Lst L c bar j x ↔ cs[j] = x := by
  rcases endS hok hc hc4 h j hj with ⟨e, hn⟩ | ⟨x, e, hl, h44⟩
  · refine ⟨by omega, by omega, fun x => ⟨fun hx => ?_, fun hx => by omega⟩⟩
    obtain ⟨m, hm⟩ := hx.1
    exact absurd hm (hn _ _)
  · refine ⟨by omega, by omega, fun y => ⟨fun hy => ?_, fun hy => ?_⟩⟩
    · have := hl.uniq hy; omega
    · have : x = y := by omega
      subst this; exact hl
theorem goodC_iff {L : List VD} {c : Nat → Nat} {a : Int} {x y : Int} {k : Nat} {t : Int} (ha : ∀ n : Nat, Lst L c [] a n ↔ x = n) (ht : ∀ n : Nat, Lst L c [] t n ↔ y = n) (hx : -1 ≤ x) (hy : -1 ≤ y) : GoodC L c a k t ↔ 0 ≤ y ∧ (c k : Int) + y = x := by
  constructor
  · rintro ⟨n, m, h1, h2, e⟩
    have := (ha n).1 h1
    have := (ht m).1 h2
    omega
  · rintro ⟨h1, h2⟩
    exact ⟨x.toNat, y.toNat, (ha _).2 (by omega), (ht _).2 (by omega), by omega⟩

set_option maxHeartbeats 4000000 in
set_option maxRecDepth 100000 in
theorem spec_l02Cheapest_false (v : Value) (m : Int) (L : List VD) (R : List Int) (w : World) (h : VS w v L) (hok : OkV L) (h0 : 0 ≤ m) (h1 : m < L.length) (hno : ¬ Rch L [] m → R = []) (hway : Rch L [] m → WayC L (costOf false) R [m] m 48) :
    Calls Try.prog 153 #[v, .bool false, .int .i64 m] w (PathR L R m w) := by
  have hln := hok.2
  have HK := Lib.hid hok
  have HE := fun u x (hx : Ext w x) (hu : RI x u []) => spec_l02Costs v u false L [] x (h.ext hx) hok hu (by simp)
  obtain ⟨vb, vo, vc, rfl, hvb, hc⟩ := h.at
  have HC := Lib.hid hc
  obtain ⟨mn, rfl⟩ := Int.eq_ofNat_of_zero_le h0
  clear hc h hok
  go_enter Try.func153, Try.ntmps153
  go_wp2_with fail
  refine Calls.mono (HE _ _ ExtC.ext (own_empty w w.heap.size (Nat.le_refl _)).ri) ?_
  rintro e w' ⟨cv, cs, rfl, hcs, hmid, hx⟩; obtain ⟨g1, rfl⟩ := hx.grow; clear hx HE
  obtain ⟨cb, co, cc, rfl, -, hcb, hcx⟩ := hcs
  have hcl := hmid.len
  have HM := Lib.hid (fun j hj => cost_at HK.out (costOf_pos false) (costOf_four false) hmid j hj)
  have HNEG := Lib.hid (fun j hj => cost_neg HK.out (costOf_pos false) (costOf_four false) hmid j hj)
  have HXC := Lib.hid hcx
  clear hmid hcx
  have dm := HXC.out mn (by omega)
  have hn := (HNEG.out mn (by omega)).1
  rw [hcl]
  by_cases hneg : cs[mn]'(by omega) < 0
  · have hd : decide (cs[mn]'(by omega) < 0) = true := by simp [hneg]
    have HN := Lib.hid (And.intro (hn.1 hneg) (hno (hn.1 hneg)))
    clear hn hno hway
    go_wp2_with fail
    go_ret
    exact ⟨.inl ⟨HN.out.1, rfl, HN.out.2⟩, ExtC.ext⟩
  have hd : decide (cs[mn]'(by omega) < 0) = false := by simp; omega
  have hr : Rch L [] (mn : Int) := Classical.byContradiction fun hh => hneg (hn.2 hh)
  have HR := Lib.hid hr
  have HW := Lib.hid (hway hr)
  clear hn hno hway hneg hr
  go_wp2_with fail
  clear dm hd
  go_loopw [8, 9] (fun p a wr => ∃ (P : List Int) (an f pg pc : Nat), p = .slice (some ⟨pg, 0, none⟩) P.length pc ∧ a = .int .i64 (an : Int) ∧ an < L.length ∧ P.length + f = 49 ∧ Ext g1.fin wr ∧ Hid (WayC L (costOf false) R P an f) ∧ Hid (OwnI g1.fin.heap.size wr.heap.size wr (.slice (some ⟨pg, 0, none⟩) P.length pc) P)) (fun p _ _ => 49 - slen p)
  case atStart => exact ⟨[(mn : Int)], mn, 48, _, _, rfl, rfl, by omega, rfl, ExtC.ext, HW, Lib.hid ((own_one g1.fin (mn : Int)).mono (Nat.le_refl _) (by simp))⟩
  case round =>
    obtain ⟨P, an, f, pg, pc, rfl, rfl, han, hPf, hx, HWY, HO⟩ := hrel
    obtain ⟨g2, rfl⟩ := hx.grow; clear hx
    obtain ⟨c1, t, c2, c3⟩ := HC.out (an : Int) (by omega) (by omega)
    simp only [Int.toNat_natCast] at c1 c2
    obtain ⟨a, ha⟩ : ∃ a : Int, (an : Int) = a := ⟨_, rfl⟩
    obtain ⟨s, hs⟩ : ∃ s, (At L (an : Int)).1 = s := ⟨_, rfl⟩
    rw [hs] at c1
    obtain ⟨T, hT⟩ : ∃ T, (At L (an : Int)).2 = T := ⟨_, rfl⟩
    rw [hT] at c3
    obtain ⟨tp, tc, rfl, -, hcx⟩ := c3.form
    have hfew := HK.out.few (an : Int)
    rw [hT] at hfew
    have HX := Lib.hid hcx; clear hcx c3
    have HT := Lib.hid hT; clear hT
    have HS := Lib.hid hs; clear hs
    clear ha a
    cases s
    · have hex : ∃ k, ∃ hk : k < T.length, GoodC L (costOf false) (an : Int) k T[k] := by
        obtain ⟨x, hx, _⟩ := HWY.out.lst
        have := goodC_ex hx HS.out
        rwa [HT.out] at this
      have HEX := Lib.hid hex; clear hex
      go_wp2_with fail
      go_loopw [9, 10] (fun a kk wr => ∃ k : Nat, k ≤ T.length ∧ a = .int .i64 (an : Int) ∧ kk = .int .i64 k ∧ Ext g2.fin wr ∧ Hid (∀ j (hj : j < T.length), j < k → ¬ GoodC L (costOf false) (an : Int) j T[j])) (fun _ kk _ => T.length - (intOf kk).toNat)
      case atStart => exact ⟨0, Nat.zero_le _, rfl, rfl, ExtC.ext, Lib.hid fun j _ hj => absurd hj (by omega)⟩
      case round =>
        obtain ⟨k, hk, rfl, rfl, hx, HNO⟩ := hrel
        obtain ⟨g3, rfl⟩ := hx.grow; clear hx
        by_cases hlk : k < T.length
        ·
          obtain ⟨tb, to, htp, itb, hcx⟩ := HX.out (by omega)
          subst htp
          have d := hcx k hlk
          have HCX := Lib.hid hcx; clear hcx
          have hrange := HK.out.range (a := (an : Int)) (k := k) (by rw [HT.out]; exact hlk)
          have eT : (At L (an : Int)).2[k]'(by rw [HT.out]; exact hlk) = T[k] := by first | (congr 1; done) | (congr 1; exact HT.out)
          rw [eT] at hrange
          obtain ⟨tn, htn⟩ := Int.eq_ofNat_of_zero_le hrange.1
          rw [htn] at d hrange
          have htl : tn < L.length := by omega
          have HTN := Lib.hid (And.intro eT htn)
          have e1 := HXC.out tn (by omega)
          have e2 := HXC.out an (by omega)
          have m1 := HM.out tn (by omega)
          have m2 := HM.out an (by omega)
          obtain ⟨y, hy⟩ : ∃ y, cs[tn]'(by omega) = y := ⟨_, rfl⟩
          obtain ⟨z, hz⟩ : ∃ z, cs[an]'(by omega) = z := ⟨_, rfl⟩
          rw [hy] at e1 m1
          rw [hz] at e2 m2
          obtain ⟨y0, y1, my⟩ := m1
          obtain ⟨z0, z1, mz⟩ := m2
          have hck : ((costOf false k : Nat) : Int) = (1 : Int) := by simp [costOf]
          have hgood : GoodC L (costOf false) (an : Int) k T[k] ↔ 0 ≤ y ∧ (1 : Int) + y = z := by
            rw [htn, goodC_iff mz my z0 y0, hck]
          have HG := Lib.hid hgood
          clear hy hz my mz hgood hck htn eT
          by_cases y2 : 0 ≤ y
          · have dy : decide (0 ≤ y) = true := by simp [y2]
            by_cases z2 : (1 : Int) + y = z
            · have dz : ((1 : Int) + y == z) = true := by simp [z2]
              have hgo := HWY.out.go HK.out (costOf_pos false) HS.out (k := k) (by rw [HT.out]; exact hlk) (by rw [HTN.out.1]; exact HG.out.2 ⟨y2, z2⟩) (fun j hj hjk => by
                have := HNO.out j (by rw [← HT.out]; exact hj) hjk
                have eT : (At L (an : Int)).2[j] = T[j]'(by rw [← HT.out]; exact hj) := by first | (congr 1; done) | (congr 1; exact HT.out)
                rw [eT]; exact this)
              obtain ⟨f', hf', hwy'⟩ := hgo
              rw [HTN.out.1, HTN.out.2] at hwy'
              have HW2 := Lib.hid hwy'
              clear hwy' z2
              go_wp2_with fail
              refine wp_region_grow (by kernel_rfl) (by kernel_rfl) ?_
              repeat (go_big_quiet_step (fail))
              refine wpQuiet_nil ?_
              intro _ hw'
              obtain ⟨g, hw''⟩ := hw'
              subst hw''
              go_wp2_with (at_builtin; refine app_int (w0 := g1.fin) (lo := g1.fin.heap.size) (hi := g2.fin.heap.size) _ _ (.slice (some ⟨pg, 0, none⟩) P.length pc) P ⟨g.fin.heap.size, 0, none⟩ 1 [(tn : Int)] rfl rfl rfl (HO.out.ext ExtC.ext) rfl (cells_one _ _ _) (by simp; omega) ExtC.ext (Nat.le_refl _) (by have := (ExtC.ext : Ext g1.fin g.fin).size; simp; omega) (by simp) ?_; intro g' c' w' ho hx; obtain ⟨g5, rfl⟩ := hx.grow; clear hx; have HO2 := Lib.hid (own_snoc_len ho); clear ho)
              go_roundw
              case rel => exact ⟨P ++ [(tn : Int)], tn, f', g', c', by simp, rfl, htl, by simp; omega, ExtC.ext, HW2, Lib.hid (by have := HO2.out; simpa using this)⟩
              case measure => simp [slen]; omega
            · have dz : ((1 : Int) + y == z) = false := by simpa using z2
              have HNG := Lib.hid (fun hg => z2 (HG.out.1 hg).2)
              clear z2
              go_wp2_with fail
              refine wp_region_grow (by kernel_rfl) (by kernel_rfl) ?_
              repeat (go_big_quiet_step (fail))
              refine wpQuiet_nil ?_
              intro _ hw'
              obtain ⟨g, hw''⟩ := hw'
              subst hw''
              go_wp2_with fail
              go_roundw
              case rel =>
                refine ⟨k + 1, by omega, rfl, by go_num, ExtC.ext, Lib.hid fun j hj hjk => ?_⟩
                by_cases e : j = k
                · subst e; exact HNG.out
                · exact HNO.out j hj (by omega)
              case measure => simp [intOf]; omega
          · have dy : decide (0 ≤ y) = false := by simp; omega
            have HNG := Lib.hid (fun hg => y2 (HG.out.1 hg).1)
            clear y2
            go_wp2_with fail
            refine wp_region_grow (by kernel_rfl) (by kernel_rfl) ?_
            repeat (go_big_quiet_step (fail))
            refine wpQuiet_nil ?_
            intro _ hw'
            obtain ⟨g, hw''⟩ := hw'
            subst hw''
            go_wp2_with fail
            go_roundw
            case rel =>
              refine ⟨k + 1, by omega, rfl, by go_num, ExtC.ext, Lib.hid fun j hj hjk => ?_⟩
              by_cases e : j = k
              · subst e; exact HNG.out
              · exact HNO.out j hj (by omega)
            case measure => simp [intOf]; omega
        · obtain ⟨j, hj, hg⟩ := HEX.out
          exact absurd hg (HNO.out j hj (by omega))
    · have HD := Lib.hid (HWY.out.done HS.out)
      go_wp2_with fail
      go_ret
      refine ⟨.inr ⟨HR.out, pg, pc, by rw [← HD.out]; rfl, ?_⟩, ExtC.ext⟩
      rw [← HD.out]
      exact HO.out.mono (ExtC.ext : Ext w g1.fin).size (Nat.le_refl _)

set_option maxHeartbeats 4000000 in
set_option maxRecDepth 100000 in
theorem spec_l02Cheapest_true (v : Value) (m : Int) (L : List VD) (R : List Int) (w : World) (h : VS w v L) (hok : OkV L) (h0 : 0 ≤ m) (h1 : m < L.length) (hno : ¬ Rch L [] m → R = []) (hway : Rch L [] m → WayC L (costOf true) R [m] m 48) :
    Calls Try.prog 153 #[v, .bool true, .int .i64 m] w (PathR L R m w) := by
  have hln := hok.2
  have HK := Lib.hid hok
  have HE := fun u x (hx : Ext w x) (hu : RI x u []) => spec_l02Costs v u true L [] x (h.ext hx) hok hu (by simp)
  obtain ⟨vb, vo, vc, rfl, hvb, hc⟩ := h.at
  have HC := Lib.hid hc
  obtain ⟨mn, rfl⟩ := Int.eq_ofNat_of_zero_le h0
  clear hc h hok
  go_enter Try.func153, Try.ntmps153
  go_wp2_with fail
  refine Calls.mono (HE _ _ ExtC.ext (own_empty w w.heap.size (Nat.le_refl _)).ri) ?_
  rintro e w' ⟨cv, cs, rfl, hcs, hmid, hx⟩; obtain ⟨g1, rfl⟩ := hx.grow; clear hx HE
  obtain ⟨cb, co, cc, rfl, -, hcb, hcx⟩ := hcs
  have hcl := hmid.len
  have HM := Lib.hid (fun j hj => cost_at HK.out (costOf_pos true) (costOf_four true) hmid j hj)
  have HNEG := Lib.hid (fun j hj => cost_neg HK.out (costOf_pos true) (costOf_four true) hmid j hj)
  have HXC := Lib.hid hcx
  clear hmid hcx
  have dm := HXC.out mn (by omega)
  have hn := (HNEG.out mn (by omega)).1
  rw [hcl]
  by_cases hneg : cs[mn]'(by omega) < 0
  · have hd : decide (cs[mn]'(by omega) < 0) = true := by simp [hneg]
    have HN := Lib.hid (And.intro (hn.1 hneg) (hno (hn.1 hneg)))
    clear hn hno hway
    go_wp2_with fail
    go_ret
    exact ⟨.inl ⟨HN.out.1, rfl, HN.out.2⟩, ExtC.ext⟩
  have hd : decide (cs[mn]'(by omega) < 0) = false := by simp; omega
  have hr : Rch L [] (mn : Int) := Classical.byContradiction fun hh => hneg (hn.2 hh)
  have HR := Lib.hid hr
  have HW := Lib.hid (hway hr)
  clear hn hno hway hneg hr
  go_wp2_with fail
  clear dm hd
  go_loopw [8, 9] (fun p a wr => ∃ (P : List Int) (an f pg pc : Nat), p = .slice (some ⟨pg, 0, none⟩) P.length pc ∧ a = .int .i64 (an : Int) ∧ an < L.length ∧ P.length + f = 49 ∧ Ext g1.fin wr ∧ Hid (WayC L (costOf true) R P an f) ∧ Hid (OwnI g1.fin.heap.size wr.heap.size wr (.slice (some ⟨pg, 0, none⟩) P.length pc) P)) (fun p _ _ => 49 - slen p)
  case atStart => exact ⟨[(mn : Int)], mn, 48, _, _, rfl, rfl, by omega, rfl, ExtC.ext, HW, Lib.hid ((own_one g1.fin (mn : Int)).mono (Nat.le_refl _) (by simp))⟩
  case round =>
    obtain ⟨P, an, f, pg, pc, rfl, rfl, han, hPf, hx, HWY, HO⟩ := hrel
    obtain ⟨g2, rfl⟩ := hx.grow; clear hx
    obtain ⟨c1, t, c2, c3⟩ := HC.out (an : Int) (by omega) (by omega)
    simp only [Int.toNat_natCast] at c1 c2
    obtain ⟨a, ha⟩ : ∃ a : Int, (an : Int) = a := ⟨_, rfl⟩
    obtain ⟨s, hs⟩ : ∃ s, (At L (an : Int)).1 = s := ⟨_, rfl⟩
    rw [hs] at c1
    obtain ⟨T, hT⟩ : ∃ T, (At L (an : Int)).2 = T := ⟨_, rfl⟩
    rw [hT] at c3
    obtain ⟨tp, tc, rfl, -, hcx⟩ := c3.form
    have hfew := HK.out.few (an : Int)
    rw [hT] at hfew
    have HX := Lib.hid hcx; clear hcx c3
    have HT := Lib.hid hT; clear hT
    have HS := Lib.hid hs; clear hs
    clear ha a
    cases s
    · have hex : ∃ k, ∃ hk : k < T.length, GoodC L (costOf true) (an : Int) k T[k] := by
        obtain ⟨x, hx, _⟩ := HWY.out.lst
        have := goodC_ex hx HS.out
        rwa [HT.out] at this
      have HEX := Lib.hid hex; clear hex
      go_wp2_with fail
      go_loopw [9, 10] (fun a kk wr => ∃ k : Nat, k ≤ T.length ∧ a = .int .i64 (an : Int) ∧ kk = .int .i64 k ∧ Ext g2.fin wr ∧ Hid (∀ j (hj : j < T.length), j < k → ¬ GoodC L (costOf true) (an : Int) j T[j])) (fun _ kk _ => T.length - (intOf kk).toNat)
      case atStart => exact ⟨0, Nat.zero_le _, rfl, rfl, ExtC.ext, Lib.hid fun j _ hj => absurd hj (by omega)⟩
      case round =>
        obtain ⟨k, hk, rfl, rfl, hx, HNO⟩ := hrel
        obtain ⟨g3, rfl⟩ := hx.grow; clear hx
        by_cases hlk : k < T.length
        ·
          obtain ⟨tb, to, htp, itb, hcx⟩ := HX.out (by omega)
          subst htp
          have d := hcx k hlk
          have HCX := Lib.hid hcx; clear hcx
          have hrange := HK.out.range (a := (an : Int)) (k := k) (by rw [HT.out]; exact hlk)
          have eT : (At L (an : Int)).2[k]'(by rw [HT.out]; exact hlk) = T[k] := by first | (congr 1; done) | (congr 1; exact HT.out)
          rw [eT] at hrange
          obtain ⟨tn, htn⟩ := Int.eq_ofNat_of_zero_le hrange.1
          rw [htn] at d hrange
          have htl : tn < L.length := by omega
          have HTN := Lib.hid (And.intro eT htn)
          have e1 := HXC.out tn (by omega)
          have e2 := HXC.out an (by omega)
          have m1 := HM.out tn (by omega)
          have m2 := HM.out an (by omega)
          obtain ⟨y, hy⟩ : ∃ y, cs[tn]'(by omega) = y := ⟨_, rfl⟩
          obtain ⟨z, hz⟩ : ∃ z, cs[an]'(by omega) = z := ⟨_, rfl⟩
          rw [hy] at e1 m1
          rw [hz] at e2 m2
          obtain ⟨y0, y1, my⟩ := m1
          obtain ⟨z0, z1, mz⟩ := m2
          have hck : ((costOf true k : Nat) : Int) = ((k : Int) + 1) := by simp [costOf]
          have hgood : GoodC L (costOf true) (an : Int) k T[k] ↔ 0 ≤ y ∧ ((k : Int) + 1) + y = z := by
            rw [htn, goodC_iff mz my z0 y0, hck]
          have HG := Lib.hid hgood
          clear hy hz my mz hgood hck htn eT
          by_cases y2 : 0 ≤ y
          · have dy : decide (0 ≤ y) = true := by simp [y2]
            by_cases z2 : ((k : Int) + 1) + y = z
            · have dz : (((k : Int) + 1) + y == z) = true := by simp [z2]
              have hgo := HWY.out.go HK.out (costOf_pos true) HS.out (k := k) (by rw [HT.out]; exact hlk) (by rw [HTN.out.1]; exact HG.out.2 ⟨y2, z2⟩) (fun j hj hjk => by
                have := HNO.out j (by rw [← HT.out]; exact hj) hjk
                have eT : (At L (an : Int)).2[j] = T[j]'(by rw [← HT.out]; exact hj) := by first | (congr 1; done) | (congr 1; exact HT.out)
                rw [eT]; exact this)
              obtain ⟨f', hf', hwy'⟩ := hgo
              rw [HTN.out.1, HTN.out.2] at hwy'
              have HW2 := Lib.hid hwy'
              clear hwy' z2
              go_wp2_with fail
              refine wp_region_grow (by kernel_rfl) (by kernel_rfl) ?_
              repeat (go_big_quiet_step (fail))
              refine wpQuiet_nil ?_
              intro _ hw'
              obtain ⟨g, hw''⟩ := hw'
              subst hw''
              go_wp2_with (at_builtin; refine app_int (w0 := g1.fin) (lo := g1.fin.heap.size) (hi := g2.fin.heap.size) _ _ (.slice (some ⟨pg, 0, none⟩) P.length pc) P ⟨g.fin.heap.size, 0, none⟩ 1 [(tn : Int)] rfl rfl rfl (HO.out.ext ExtC.ext) rfl (cells_one _ _ _) (by simp; omega) ExtC.ext (Nat.le_refl _) (by have := (ExtC.ext : Ext g1.fin g.fin).size; simp; omega) (by simp) ?_; intro g' c' w' ho hx; obtain ⟨g5, rfl⟩ := hx.grow; clear hx; have HO2 := Lib.hid (own_snoc_len ho); clear ho)
              go_roundw
              case rel => exact ⟨P ++ [(tn : Int)], tn, f', g', c', by simp, rfl, htl, by simp; omega, ExtC.ext, HW2, Lib.hid (by have := HO2.out; simpa using this)⟩
              case measure => simp [slen]; omega
            · have dz : (((k : Int) + 1) + y == z) = false := by simpa using z2
              have HNG := Lib.hid (fun hg => z2 (HG.out.1 hg).2)
              clear z2
              go_wp2_with fail
              refine wp_region_grow (by kernel_rfl) (by kernel_rfl) ?_
              repeat (go_big_quiet_step (fail))
              refine wpQuiet_nil ?_
              intro _ hw'
              obtain ⟨g, hw''⟩ := hw'
              subst hw''
              go_wp2_with fail
              go_roundw
              case rel =>
                refine ⟨k + 1, by omega, rfl, by go_num, ExtC.ext, Lib.hid fun j hj hjk => ?_⟩
                by_cases e : j = k
                · subst e; exact HNG.out
                · exact HNO.out j hj (by omega)
              case measure => simp [intOf]; omega
          · have dy : decide (0 ≤ y) = false := by simp; omega
            have HNG := Lib.hid (fun hg => y2 (HG.out.1 hg).1)
            clear y2
            go_wp2_with fail
            refine wp_region_grow (by kernel_rfl) (by kernel_rfl) ?_
            repeat (go_big_quiet_step (fail))
            refine wpQuiet_nil ?_
            intro _ hw'
            obtain ⟨g, hw''⟩ := hw'
            subst hw''
            go_wp2_with fail
            go_roundw
            case rel =>
              refine ⟨k + 1, by omega, rfl, by go_num, ExtC.ext, Lib.hid fun j hj hjk => ?_⟩
              by_cases e : j = k
              · subst e; exact HNG.out
              · exact HNO.out j hj (by omega)
            case measure => simp [intOf]; omega
        · obtain ⟨j, hj, hg⟩ := HEX.out
          exact absurd hg (HNO.out j hj (by omega))
    · have HD := Lib.hid (HWY.out.done HS.out)
      go_wp2_with fail
      go_ret
      refine ⟨.inr ⟨HR.out, pg, pc, by rw [← HD.out]; rfl, ?_⟩, ExtC.ext⟩
      rw [← HD.out]
      exact HO.out.mono (ExtC.ext : Ext w g1.fin).size (Nat.le_refl _)

set_option maxHeartbeats 4000000 in
set_option maxRecDepth 100000 in
theorem spec_l02Deepest (v : Value) (m : Int) (L : List VD) (R : List Int) (w : World) (h : VS w v L) (hok : OkV L) (h0 : 0 ≤ m) (h1 : m < L.length) (hno : ¬ Rch L [] m → R = []) (hway : Rch L [] m → WayD L R [m] m 48) :
    Calls Try.prog 152 #[v, .int .i64 m] w (PathR L R m w) := by
  have hln := hok.2
  have HK := Lib.hid hok
  have HE := fun u bar x (hx : Ext w x) (hu : RI x u bar) (hb : bar.length ≤ 1048576) => spec_l02Costs v u false L bar x (h.ext hx) hok hu hb
  obtain ⟨vb, vo, vc, rfl, hvb, hc⟩ := h.at
  have HC := Lib.hid hc
  obtain ⟨mn, rfl⟩ := Int.eq_ofNat_of_zero_le h0
  clear hc h hok
  go_enter Try.func152, Try.ntmps152
  go_wp2_with fail
  refine Calls.mono (HE _ [] _ ExtC.ext (own_empty w w.heap.size (Nat.le_refl _)).ri (by simp)) ?_
  rintro e w' ⟨cv, cs, rfl, hcs, hmid, hx⟩; obtain ⟨g1, rfl⟩ := hx.grow; clear hx
  obtain ⟨cb, co, cc, rfl, -, hcb, hcx⟩ := hcs
  have hcl := hmid.len
  have hn := (cost_neg HK.out (costOf_pos false) (costOf_four false) hmid mn (by omega)).1
  have dm := hcx mn (by omega)
  clear hmid hcx
  rw [hcl]
  by_cases hneg : cs[mn]'(by omega) < 0
  · have hd : decide (cs[mn]'(by omega) < 0) = true := by simp [hneg]
    have HN := Lib.hid (And.intro (hn.1 hneg) (hno (hn.1 hneg)))
    clear hn hno hway
    go_wp2_with fail
    go_ret
    exact ⟨.inl ⟨HN.out.1, rfl, HN.out.2⟩, ExtC.ext⟩
  have hd : decide (cs[mn]'(by omega) < 0) = false := by simp; omega
  have hr : Rch L [] (mn : Int) := Classical.byContradiction fun hh => hneg (hn.2 hh)
  have HR := Lib.hid hr
  have HW := Lib.hid (hway hr)
  clear hn hno hway hneg hr
  go_wp2_with fail
  clear dm hd
  go_loopw [5, 6] (fun p a wr => ∃ (P : List Int) (an f pg pc : Nat), p = .slice (some ⟨pg, 0, none⟩) P.length pc ∧ a = .int .i64 (an : Int) ∧ an < L.length ∧ P.length + f = 49 ∧ Ext g1.fin wr ∧ Hid (WayD L R P an f) ∧ Hid (OwnI g1.fin.heap.size wr.heap.size wr (.slice (some ⟨pg, 0, none⟩) P.length pc) P)) (fun p _ _ => 49 - slen p)
  case atStart => exact ⟨[(mn : Int)], mn, 48, _, _, rfl, rfl, by omega, rfl, ExtC.ext, HW, Lib.hid ((own_one g1.fin (mn : Int)).mono (Nat.le_refl _) (by simp))⟩
  case round =>
    obtain ⟨P, an, f, pg, pc, rfl, rfl, han, hPf, hx, HWY, HO⟩ := hrel
    obtain ⟨g2, rfl⟩ := hx.grow; clear hx
    obtain ⟨c1, t, c2, c3⟩ := HC.out (an : Int) (by omega) (by omega)
    simp only [Int.toNat_natCast] at c1 c2
    obtain ⟨s, hs⟩ : ∃ s, (At L (an : Int)).1 = s := ⟨_, rfl⟩
    rw [hs] at c1
    obtain ⟨T, hT⟩ : ∃ T, (At L (an : Int)).2 = T := ⟨_, rfl⟩
    rw [hT] at c3
    obtain ⟨tp, tc, rfl, -, hcx⟩ := c3.form
    have hfew := HK.out.few (an : Int)
    rw [hT] at hfew
    have HX := Lib.hid hcx; clear hcx c3
    have HT := Lib.hid hT; clear hT
    have HS := Lib.hid hs; clear hs
    cases s
    · have hex : ∃ k, ∃ hk : k < T.length, Rch L P T[k] := by
        have := HWY.out.ex HS.out
        rwa [HT.out] at this
      have HEX := Lib.hid hex; clear hex
      go_wp2_with fail
      refine Calls.mono (HE _ P _ ExtC.ext (HO.out.ri.ext ExtC.ext) (by omega)) ?_
      rintro e w' ⟨cv, ds, rfl, hds, hmid, hx⟩; obtain ⟨g3, rfl⟩ := hx.grow; clear hx
      obtain ⟨db, dof, dc, rfl, -, hdb, hdx⟩ := hds
      have hdl := hmid.len
      have HM := Lib.hid (fun j hj => cost_neg HK.out (costOf_pos false) (costOf_four false) hmid j hj)
      have HXC := Lib.hid hdx
      clear hmid hdx
      rw [hdl]
      go_wp2_with fail
      go_loopw [6, 8] (fun a kk wr => ∃ k : Nat, k ≤ T.length ∧ a = .int .i64 (an : Int) ∧ kk = .int .i64 k ∧ Ext g3.fin wr ∧ Hid (∀ j (hj : j < T.length), j < k → ¬ Rch L P T[j])) (fun _ kk _ => T.length - (intOf kk).toNat)
      case atStart => exact ⟨0, Nat.zero_le _, rfl, rfl, ExtC.ext, Lib.hid fun j _ hj => absurd hj (by omega)⟩
      case round =>
        obtain ⟨k, hk, rfl, rfl, hx, HNO⟩ := hrel
        obtain ⟨g4, rfl⟩ := hx.grow; clear hx
        by_cases hlk : k < T.length
        ·
          obtain ⟨tb, to, htp, itb, hcx⟩ := HX.out (by omega)
          subst htp
          have d := hcx k hlk
          have HCX := Lib.hid hcx; clear hcx
          have hrange := HK.out.range (a := (an : Int)) (k := k) (by rw [HT.out]; exact hlk)
          have eT : (At L (an : Int)).2[k]'(by rw [HT.out]; exact hlk) = T[k] := by first | (congr 1; done) | (congr 1; exact HT.out)
          rw [eT] at hrange
          obtain ⟨tn, htn⟩ := Int.eq_ofNat_of_zero_le hrange.1
          rw [htn] at d hrange
          have htl : tn < L.length := by omega
          have HTN := Lib.hid (And.intro eT htn)
          have e1 := HXC.out tn (by omega)
          obtain ⟨hneg, m0, m1⟩ := HM.out tn (by omega)
          obtain ⟨y, hy⟩ : ∃ y, ds[tn]'(by omega) = y := ⟨_, rfl⟩
          rw [hy] at e1 hneg m0 m1
          clear hy htn eT
          by_cases y2 : 0 ≤ y
          · have dy : decide (0 ≤ y) = true := by simp [y2]
            have hrt : Rch L P (tn : Int) := Classical.byContradiction fun hh => by have := hneg.2 hh; omega
            have hgo := HWY.out.go HK.out HS.out (k := k) (by rw [HT.out]; exact hlk) (by rw [HTN.out.1, HTN.out.2]; exact hrt) (fun j hj hjk => by
              have := HNO.out j (by rw [← HT.out]; exact hj) hjk
              have eT : (At L (an : Int)).2[j] = T[j]'(by rw [← HT.out]; exact hj) := by first | (congr 1; done) | (congr 1; exact HT.out)
              rw [eT]; exact this)
            obtain ⟨f', hf', hwy'⟩ := hgo
            rw [HTN.out.1, HTN.out.2] at hwy'
            have HW2 := Lib.hid hwy'
            clear hwy' hneg hrt
            go_wp2_with (at_builtin; refine app_int (w0 := g1.fin) (lo := g1.fin.heap.size) (hi := g2.fin.heap.size) _ _ (.slice (some ⟨pg, 0, none⟩) P.length pc) P ⟨g4.fin.heap.size, 0, none⟩ 1 [(tn : Int)] rfl rfl rfl (HO.out.ext ExtC.ext) rfl (cells_one _ _ _) (by simp; omega) ExtC.ext (Nat.le_refl _) (by have := (ExtC.ext : Ext g1.fin g4.fin).size; simp; omega) (by simp) ?_; intro g' c' w' ho hx; obtain ⟨g5, rfl⟩ := hx.grow; clear hx; have HO2 := Lib.hid (own_snoc_len ho); clear ho)
            go_roundw
            case rel => exact ⟨P ++ [(tn : Int)], tn, f', g', c', by simp, rfl, htl, by simp; omega, ExtC.ext, HW2, Lib.hid (by have := HO2.out; simpa using this)⟩
            case measure => simp [slen]; omega
          · have dy : decide (0 ≤ y) = false := by simp; omega
            have HNG := Lib.hid (show ¬ Rch L P T[k] by rw [HTN.out.2]; exact hneg.1 (by omega))
            clear hneg
            go_wp2_with fail
            go_roundw
            case rel =>
              refine ⟨k + 1, by omega, rfl, by go_num, ExtC.ext, Lib.hid fun j hj hjk => ?_⟩
              by_cases e : j = k
              · subst e; exact HNG.out
              · exact HNO.out j hj (by omega)
            case measure => simp [intOf]; omega
        · obtain ⟨j, hj, hg⟩ := HEX.out
          exact absurd hg (HNO.out j hj (by omega))
    · have HD := Lib.hid (HWY.out.done HS.out)
      go_wp2_with fail
      go_ret
      refine ⟨.inr ⟨HR.out, pg, pc, by rw [← HD.out]; rfl, ?_⟩, ExtC.ext⟩
      rw [← HD.out]
      exact HO.out.mono (ExtC.ext : Ext w g1.fin).size (Nat.le_refl _)

theorem spec_l02Best (v : Value) (rule m : Int) (L : List VD) (w : World) (h : VS w v L) (hok : OkV L) (hr : 0 ≤ rule ∧ rule ≤ 2) (h0 : 0 ≤ m) (h1 : m < L.length) :
    Calls Try.prog 79 #[v, .int .i64 rule, .int .i64 m] w (PathR L (best L rule m) m w) := by
  have hcase : rule = 0 ∨ rule = 1 ∨ rule = 2 := by omega
  rcases hcase with rfl | rfl | rfl
  · have HF := fun x (hx : Ext w x) => spec_l02Cheapest_false v m L (best L 0 m) x (h.ext hx) hok h0 h1 best_no (fun h => wayC_start (rule := 0) hok h0 h1 h (by decide))
    go_enter Try.func79, Try.ntmps79
    go_wp2_with fail
    refine Calls.mono (HF _ ExtC.ext) ?_
    rintro e w' ⟨hc | ⟨hc, g, c, rfl, ho⟩, hx⟩
    · obtain ⟨hn, rfl, he⟩ := hc
      obtain ⟨g1, rfl⟩ := hx.grow; clear hx
      have HN := Lib.hid (And.intro hn he); clear hn he
      go_wp2_with fail
      go_ret
      exact ⟨.inl ⟨HN.out.1, rfl, HN.out.2⟩, ExtC.ext⟩
    · obtain ⟨g1, rfl⟩ := hx.grow; clear hx
      have HN := Lib.hid (And.intro hc ho); clear hc ho
      go_wp2_with fail
      go_ret
      exact ⟨.inr ⟨HN.out.1, g, c, rfl, HN.out.2⟩, ExtC.ext⟩
  · have HF := fun x (hx : Ext w x) => spec_l02Cheapest_true v m L (best L 1 m) x (h.ext hx) hok h0 h1 best_no (fun h => wayC_start (rule := 1) hok h0 h1 h (by decide))
    go_enter Try.func79, Try.ntmps79
    go_wp2_with fail
    refine Calls.mono (HF _ ExtC.ext) ?_
    rintro e w' ⟨hc | ⟨hc, g, c, rfl, ho⟩, hx⟩
    · obtain ⟨hn, rfl, he⟩ := hc
      obtain ⟨g1, rfl⟩ := hx.grow; clear hx
      have HN := Lib.hid (And.intro hn he); clear hn he
      go_wp2_with fail
      go_ret
      exact ⟨.inl ⟨HN.out.1, rfl, HN.out.2⟩, ExtC.ext⟩
    · obtain ⟨g1, rfl⟩ := hx.grow; clear hx
      have HN := Lib.hid (And.intro hc ho); clear hc ho
      go_wp2_with fail
      go_ret
      exact ⟨.inr ⟨HN.out.1, g, c, rfl, HN.out.2⟩, ExtC.ext⟩
  · have HF := fun x (hx : Ext w x) => spec_l02Deepest v m L (best L 2 m) x (h.ext hx) hok h0 h1 best_no (fun h => wayD_start hok h0 h1 h)
    go_enter Try.func79, Try.ntmps79
    go_wp2_with fail
    refine Calls.mono (HF _ ExtC.ext) ?_
    rintro e w' ⟨hc | ⟨hc, g, c, rfl, ho⟩, hx⟩
    · obtain ⟨hn, rfl, he⟩ := hc
      obtain ⟨g1, rfl⟩ := hx.grow; clear hx
      have HN := Lib.hid (And.intro hn he); clear hn he
      go_wp2_with fail
      go_ret
      exact ⟨.inl ⟨HN.out.1, rfl, HN.out.2⟩, ExtC.ext⟩
    · obtain ⟨g1, rfl⟩ := hx.grow; clear hx
      have HN := Lib.hid (And.intro hc ho); clear hc ho
      go_wp2_with fail
      go_ret
      exact ⟨.inr ⟨HN.out.1, g, c, rfl, HN.out.2⟩, ExtC.ext⟩
end Go.Proofs.Ytbbppkcdgcajjaa
