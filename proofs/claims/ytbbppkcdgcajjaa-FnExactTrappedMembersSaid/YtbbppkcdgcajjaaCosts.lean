/- The reference's least costs. -/
import Derived.Test.YtbbppkcdgcajjaaCost
import Derived.Test.YtbbppkcdgcajjaaQueue
import Derived.Test.YtbbppkcdgcajjaaLib
namespace Go.Proofs.Ytbbppkcdgcajjaa
open Go.RowKit

/-- A row of numbers of some type of numbers. -/
def RowI (T : TypeId) (lo : Nat) (w : World) (v : Value) (xs : List Int) : Prop := w.ownsRow lo T 1 v xs.length (xs.map iv)
section
variable {T : TypeId} {lo g n c : Nat} {w : World} {xs : List Int}
theorem RowI.len (h : RowI T lo w (.slice (some ⟨g, 0, none⟩) n c) xs) : lo ≤ g ∧ g < w.heap.size := World.ownsRow.lt h g rfl
theorem RowI.eq (h : RowI T lo w (.slice (some ⟨g, 0, none⟩) n c) xs) : n = xs.length := by
  rcases h.2 with ⟨e, _⟩ | ⟨g', cap', cur, e, _⟩
  · cases e
  · simp only [Value.slice.injEq] at e; exact e.2.1
theorem RowI.cell (h : RowI T lo w (.slice (some ⟨g, 0, none⟩) n c) xs) (i : Nat) (hi : i < xs.length) : w.cell? ⟨g, i, none⟩ = some (.int .i64 xs[i]) := by
  obtain rfl := h.eq
  rw [World.ownsRow.cellAt h i (by omega)]; simp [hi]
theorem RowI.frozen (h : RowI T lo w (.slice (some ⟨g, 0, none⟩) n c) xs) (i : Nat) : w.frozen? ⟨g, i, none⟩ = false := by
  obtain rfl := h.eq
  exact World.ownsRow.frozenAt h i
theorem RowI.ext {w' : World} {v : Value} (h : RowI T lo w v xs) (hx : Ext w w') : RowI T lo w' v xs := ownsRow_ext h hx
theorem RowI.store (h : RowI T lo w (.slice (some ⟨g, 0, none⟩) n c) xs) (i : Nat) (v : Int) : RowI T lo (w.setCell ⟨g, i, none⟩ (.int .i64 v)) (.slice (some ⟨g, 0, none⟩) n c) (xs.set i v) := by
  obtain rfl := h.eq
  unfold RowI
  rw [List.length_set, List.map_set]
  exact (World.ownsRow.stored h i (iv v)).1
theorem RowI.is (h : RowI T lo w (.slice (some ⟨g, 0, none⟩) xs.length c) xs) : IS w (.slice (some ⟨g, 0, none⟩) xs.length c) xs :=
  ⟨g, 0, c, rfl, own_le h, ⟨h.len.2⟩, fun i hi => by rw [Nat.zero_add]; exact h.cell i hi⟩
theorem row_full {w : World} {v : Value} {cs : List Value} (how : w.ownsRow lo T 1 v xs.length cs) (hcs : ∀ j, (hj : j < xs.length) → cs[j]? = some (iv xs[j])) : RowI T lo w v xs := by
  have hl : cs.length = xs.length := by rw [how.1]; omega
  have e : cs = xs.map iv := by
    apply List.ext_getElem?
    intro j
    by_cases hj : j < xs.length
    · rw [hcs j hj]; simp [hj]
    · rw [List.getElem?_eq_none (by omega), List.getElem?_eq_none (by simp; omega)]
  unfold RowI; rw [← e]; exact how
end
theorem listSet_get {cs : List Value} {k j : Nat} {v : Value} (hk : k < cs.length) : (cs.set k v)[j]? = if k = j then some v else cs[j]? := by
  rw [List.getElem?_set]; simp [hk]

/-- Where the costs start. -/
def init0 (L : List VD) (bar : List Int) (j : Nat) : Int := if (At L j).1 = true ∧ (j : Int) ∉ bar then 0 else -1

set_option maxHeartbeats 8000000 in
set_option maxRecDepth 100000 in
theorem spec_l02Costs (v u : Value) (ranked : Bool) (L : List VD) (bar : List Int) (w : World) (h : VS w v L) (hok : OkV L) (hu : RI w u bar) (hbl : bar.length ≤ 1048576) :
    Calls Try.prog 180 #[v, .bool ranked, u] w fun e w' => ∃ (v' : Value) (cs : List Int), e = .returned v' ∧ IS w' v' cs ∧ Mid L (costOf ranked) bar LeS (SnS L (costOf ranked) bar) BdS L.length 0 0 cs ∧ Ext w w' := by
  obtain ⟨i0, hi, hz0, hz1, hz2⟩ := info_parts Try.info_i64
  have hln := hok.2
  have HK := Lib.hid hok
  obtain ⟨vb, vo, vc, rfl, hvb, hc⟩ := h.at
  have HC := Lib.hid hc
  obtain ⟨up, uc, rfl, -, -⟩ := hu.form
  have HU := Lib.hid hu
  clear hc h hok hu
  go_enter Try.func180, Try.ntmps180
  go_wp2_with (at_make; refine wpList_make_full _ rfl _ _ 24 rfl w.heap.size 2 i0 (.int .i64 0) 1 Try.underlying24 hi hz0 hz1 _ _ _ _ L.length rfl rfl rfl rfl (by rw [hz2]; omega) (by unfold maxLen; omega) (Nat.le_refl _) ?_; intro w1 hown hgrow)
  have hx1 := grownBy_ext hgrow (fun k h => by cases h)
  go_loopw [8] (fun i wr => ∃ k : Nat, k ≤ L.length ∧ i = .int .i64 k ∧ Ext w wr ∧ ∃ cs : List Value, wr.ownsRow w.heap.size 2 1 (.slice (some ⟨w.heap.size, 0, none⟩) L.length L.length) L.length cs ∧ Hid (∀ j, j < k → cs[j]? = some (iv (init0 L bar j)))) (fun i _ => L.length - (intOf i).toNat)
  case atStart => exact ⟨0, Nat.zero_le _, rfl, hx1, _, hown, Lib.hid fun j hj => by omega⟩
  case round =>
    obtain ⟨k, hk, rfl, hx, cs, how, HI⟩ := hrel
    clear hown hgrow hx1
    have hlt0 := (how.lt w.heap.size rfl).2
    by_cases hlt : k < L.length
    · obtain ⟨c1, t, c2, c3⟩ := HC.out (k : Int) (by omega) (by omega)
      clear c2 c3
      simp only [Int.toNat_natCast] at c1
      obtain ⟨s, hs⟩ : ∃ s, (At L (k : Int)).1 = s := ⟨_, rfl⟩
      rw [hs] at c1
      have iw : InW w.heap.size wr := ⟨hlt0⟩
      have hl : cs.length = L.length := by rw [how.1]; omega
      obtain ⟨u1, f1⟩ : ∃ u, wr.cell? ⟨w.heap.size, k, none⟩ = some u := ⟨cs[k], by rw [how.cellAt _ (by omega)]; simp⟩
      have f2 := how.frozenAt k
      have d1 : wr.cell? ⟨vb, vo + k * 2, none⟩ = some (.bool s) := by rw [Below.cell hx hvb.lt]; exact c1
      have i1 : InW vb wr := ⟨Nat.lt_of_lt_of_le hvb.lt hx.size⟩
      have hne : vb < w.heap.size := hvb.lt
      have hxc : ExtC w wr := ⟨hx⟩
      have s1 := Lib.hid ((how.stored k (iv (-1))).1)
      have HL := Lib.hid hl; clear hl
      have HS := Lib.hid hs; clear hs c1
      have HH := Lib.hid how; clear how
      have q0 : ¬ vb = w.heap.size := by omega
      cases s
      · go_wp2_with fail
        go_roundw
        case rel =>
          refine ⟨k + 1, by omega, by go_num, ExtC.ext, _, s1.out, Lib.hid fun j hj => ?_⟩
          rw [listSet_get (by rw [HL.out]; exact hlt)]
          split
          · rename_i e; subst e; rw [init0, if_neg (by rw [HS.out]; simp)]
          · exact HI.out j (by omega)
        case measure => simp [intOf]; omega
      · cases q : decide ((k : Int) ∈ bar)
        · have HQ := Lib.hid (show (k : Int) ∉ bar by simpa using q)
          go_wp2_with (first | (go_at_call 85; (with_reducible refine (spec_l00Has _ bar _ _ (by assumption) _ (HU.out.ext ExtC.ext) (by omega)).mono ?_); rintro e w' ⟨rfl, hx⟩; obtain ⟨g2, rfl⟩ := hx.grow; clear hx))
          go_roundw
          case rel =>
            have s2 := ((ownsRow_ext s1.out g2.ext).stored k (iv 0)).1
            refine ⟨k + 1, by omega, by go_num, ExtC.ext, _, s2, Lib.hid fun j hj => ?_⟩
            rw [List.set_set, listSet_get (by rw [HL.out]; exact hlt)]
            split
            · rename_i e; subst e; rw [init0, if_pos ⟨HS.out, HQ.out⟩]
            · exact HI.out j (by omega)
          case measure => simp [intOf]; omega
        · have HQ := Lib.hid (show (k : Int) ∈ bar by simpa using q)
          go_wp2_with (first | (go_at_call 85; (with_reducible refine (spec_l00Has _ bar _ _ (by assumption) _ (HU.out.ext ExtC.ext) (by omega)).mono ?_); rintro e w' ⟨rfl, hx⟩; obtain ⟨g2, rfl⟩ := hx.grow; clear hx))
          go_roundw
          case rel =>
            refine ⟨k + 1, by omega, by go_num, ExtC.ext, _, ownsRow_ext s1.out g2.ext, Lib.hid fun j hj => ?_⟩
            rw [listSet_get (by rw [HL.out]; exact hlt)]
            split
            · rename_i e; subst e; rw [init0, if_neg (fun e => e.2 HQ.out)]
            · exact HI.out j (by omega)
          case measure => simp [intOf]; omega
    · have e : k = L.length := by omega
      subst e
      have hst : RowI 2 w.heap.size wr (.slice (some ⟨w.heap.size, 0, none⟩) L.length L.length) ((List.range L.length).map (init0 L bar)) := by
        refine row_full (xs := (List.range L.length).map (init0 L bar)) (cs := cs) (by simpa using how) fun j hj => ?_
        rw [HI.out j (by simpa using hj)]; simp
      have hmid : Mid L (costOf ranked) bar LeS (SnS L (costOf ranked) bar) BdS 0 0 0 ((List.range L.length).map (init0 L bar)) := startS _ (by simp) fun j hj => by simp [init0]
      have H0 := Lib.hid hst
      have M0 := Lib.hid hmid
      clear hst hmid how HI
      obtain ⟨g1, rfl⟩ := hx.grow; clear hx
      go_wp2_with fail
      go_loopw [9] (fun i wr => ∃ (r : Nat) (cs : List Int), r ≤ L.length ∧ i = .int .i64 r ∧ Ext w wr ∧ Hid (RowI 2 w.heap.size wr (.slice (some ⟨w.heap.size, 0, none⟩) L.length L.length) cs) ∧ Hid (Mid L (costOf ranked) bar LeS (SnS L (costOf ranked) bar) BdS r 0 0 cs)) (fun i _ => L.length - (intOf i).toNat)
      case atStart => exact ⟨0, _, Nat.zero_le _, rfl, ExtC.ext, H0, M0⟩
      case round =>
        obtain ⟨r, cs, hr, rfl, hx, HR, HM⟩ := hrel
        clear H0 M0
        obtain ⟨g2, rfl⟩ := hx.grow; clear hx
        by_cases hlr : r < L.length
        · go_wp2_with fail
          go_loopw [10] (fun i wr => ∃ (j : Nat) (cs : List Int), j ≤ L.length ∧ i = .int .i64 j ∧ Ext w wr ∧ Hid (RowI 2 w.heap.size wr (.slice (some ⟨w.heap.size, 0, none⟩) L.length L.length) cs) ∧ Hid (Mid L (costOf ranked) bar LeS (SnS L (costOf ranked) bar) BdS r j 0 cs)) (fun i _ => L.length - (intOf i).toNat)
          case atStart => exact ⟨0, cs, Nat.zero_le _, rfl, ExtC.ext, HR, HM⟩
          case round =>
            obtain ⟨i, cs, hi', rfl, hx, HR, HM⟩ := hrel
            obtain ⟨g3, rfl⟩ := hx.grow; clear hx
            by_cases hli : i < L.length
            · obtain ⟨c1, t, c2, c3⟩ := HC.out (i : Int) (by omega) (by omega)
              simp only [Int.toNat_natCast] at c1 c2
              obtain ⟨s, hs⟩ : ∃ s, (At L (i : Int)).1 = s := ⟨_, rfl⟩
              rw [hs] at c1
              have HS := Lib.hid hs; clear hs
              obtain ⟨T, hT⟩ : ∃ T, (At L (i : Int)).2 = T := ⟨_, rfl⟩
              rw [hT] at c3
              obtain ⟨tp, tc, rfl, -, hcx⟩ := c3.form
              have hfew := HK.out.few (i : Int)
              rw [hT] at hfew
              have HX := Lib.hid hcx; clear hcx c3
              have HT := Lib.hid hT; clear hT
              cases s
              · cases q : decide ((i : Int) ∈ bar)
                · have HQ := Lib.hid (show (i : Int) ∉ bar by simpa using q)
                  go_wp2_with (first | (go_at_call 85; (with_reducible refine (spec_l00Has _ bar _ _ (by assumption) _ (HU.out.ext ExtC.ext) (by omega)).mono ?_); rintro e w' ⟨rfl, hx⟩; obtain ⟨g4, rfl⟩ := hx.grow; clear hx))
                  clear q
                  go_loopw [11] (fun kk wr => ∃ (k : Nat) (cs : List Int), k ≤ T.length ∧ kk = .int .i64 k ∧ Ext w wr ∧ Hid (RowI 2 w.heap.size wr (.slice (some ⟨w.heap.size, 0, none⟩) L.length L.length) cs) ∧ Hid (Mid L (costOf ranked) bar LeS (SnS L (costOf ranked) bar) BdS r i k cs)) (fun kk _ => T.length - (intOf kk).toNat)
                  case atStart => exact ⟨0, cs, Nat.zero_le _, rfl, ExtC.ext, Lib.hid (HR.out.ext (ExtC.ext : Ext g3.fin g4.fin)), HM⟩
                  case round =>
                    obtain ⟨k, cs, hk, rfl, hx, HR, HM⟩ := hrel
                    obtain ⟨g5, rfl⟩ := hx.grow; clear hx
                    by_cases hlk : k < T.length
                    · obtain ⟨tb, to, htp, itb, hcx⟩ := HX.out (by omega)
                      subst htp
                      have d := hcx k hlk
                      have HCX := Lib.hid hcx; clear hcx
                      have hrange := HK.out.range (a := (i : Int)) (k := k) (by rw [HT.out]; exact hlk)
                      have eT : (At L (i : Int)).2[k]'(by rw [HT.out]; exact hlk) = T[k] := by first | (congr 1; done) | (congr 1; exact HT.out)
                      rw [eT] at hrange
                      obtain ⟨tn, htn⟩ := Int.eq_ofNat_of_zero_le hrange.1
                      rw [htn] at d hrange
                      have htl : tn < L.length := by omega
                      have hcl : cs.length = L.length := HM.out.len
                      have HTN := Lib.hid (eT.trans htn)
                      have e1 := HR.out.cell tn (by omega)
                      have e2 := HR.out.cell i (by omega)
                      have e3 := HR.out.frozen i
                      have hsn := HM.out.snd tn (by omega)
                      have hbn := HM.out.bd tn (by omega)
                      have hsi := HM.out.snd i (by omega)
                      have hbi := HM.out.bd i (by omega)
                      obtain ⟨y, hy⟩ : ∃ y, cs[tn]'(by omega) = y := ⟨_, rfl⟩
                      obtain ⟨z, hz⟩ : ∃ z, cs[i]'(by omega) = z := ⟨_, rfl⟩
                      rw [hy] at e1 hsn hbn
                      rw [hz] at e2 hsi hbi
                      have y0 : -1 ≤ y := by rcases hsn with e | ⟨_, x, e, _⟩ <;> omega
                      have z0 : -1 ≤ z := by rcases hsi with e | ⟨_, x, e, _⟩ <;> omega
                      have y1 : y ≤ 4096 := by unfold BdS at hbn; omega
                      have z1 : z ≤ 4096 := by unfold BdS at hbi; omega
                      have iw : InW w.heap.size g5.fin := ⟨HR.out.len.2⟩
                      have HYZ := Lib.hid (And.intro hy hz)
                      have HCL := Lib.hid hcl
                      clear hy hz hsn hbn hsi hbi htn eT
                      have hck4 := costOf_four ranked k (by omega)
                      cases ranked
                      · skip
                        have hck : ((costOf false k : Nat) : Int) = (1 : Int) := by simp [costOf]
                        have HCK := Lib.hid (And.intro hck hck4); clear hck hck4
                        by_cases y2 : 0 ≤ y
                        · have dy : decide (0 ≤ y) = true := by simp [y2]
                          by_cases z2 : z < 0
                          · have dz : decide (z < 0) = true := by simp [z2]
                            go_wp2_with fail
                            go_roundw
                            case rel =>
                              have h1 := stepS HK.out HM.out (by rw [HCL.out]; exact hli) (by rw [HT.out]; exact hlk) HCK.out.2 HTN.out (by rw [HCL.out]; exact htl) HS.out HQ.out (by rw [HYZ.out.1]; exact y2) (by rw [HYZ.out.1, HYZ.out.2, HCK.out.1]; omega)
                              rw [HYZ.out.1, HCK.out.1] at h1
                              exact ⟨k + 1, _, by omega, by go_num, ExtC.ext, Lib.hid (HR.out.store i _), Lib.hid h1⟩
                            case measure => simp [intOf]; omega
                          · have dz : decide (z < 0) = false := by simp; omega
                            by_cases z3 : (1 : Int) + y < z
                            · have dz3 : decide ((1 : Int) + y < z) = true := by simp [z3]
                              go_wp2_with fail
                              go_roundw
                              case rel =>
                                have h1 := stepS HK.out HM.out (by rw [HCL.out]; exact hli) (by rw [HT.out]; exact hlk) HCK.out.2 HTN.out (by rw [HCL.out]; exact htl) HS.out HQ.out (by rw [HYZ.out.1]; exact y2) (by rw [HYZ.out.1, HYZ.out.2, HCK.out.1]; omega)
                                rw [HYZ.out.1, HCK.out.1] at h1
                                exact ⟨k + 1, _, by omega, by go_num, ExtC.ext, Lib.hid (HR.out.store i _), Lib.hid h1⟩
                              case measure => simp [intOf]; omega
                            · have dz3 : decide ((1 : Int) + y < z) = false := by simp; omega
                              go_wp2_with fail
                              go_roundw
                              case rel => exact ⟨k + 1, cs, by omega, by go_num, ExtC.ext, HR, Lib.hid (stayS HM.out (by rw [HCL.out]; exact hli) (by rw [HT.out]; exact hlk) HTN.out (by rw [HCL.out]; exact htl) (by rw [HYZ.out.1, HYZ.out.2, HCK.out.1]; omega))⟩
                              case measure => simp [intOf]; omega
                        · have dy : decide (0 ≤ y) = false := by simp; omega
                          go_wp2_with fail
                          go_roundw
                          case rel => exact ⟨k + 1, cs, by omega, by go_num, ExtC.ext, HR, Lib.hid (stayS HM.out (by rw [HCL.out]; exact hli) (by rw [HT.out]; exact hlk) HTN.out (by rw [HCL.out]; exact htl) (by rw [HYZ.out.1, HYZ.out.2, HCK.out.1]; omega))⟩
                          case measure => simp [intOf]; omega
                      · skip
                        have hck : ((costOf true k : Nat) : Int) = ((k : Int) + 1) := by simp [costOf]
                        have HCK := Lib.hid (And.intro hck hck4); clear hck hck4
                        by_cases y2 : 0 ≤ y
                        · have dy : decide (0 ≤ y) = true := by simp [y2]
                          by_cases z2 : z < 0
                          · have dz : decide (z < 0) = true := by simp [z2]
                            go_wp2_with fail
                            go_roundw
                            case rel =>
                              have h1 := stepS HK.out HM.out (by rw [HCL.out]; exact hli) (by rw [HT.out]; exact hlk) HCK.out.2 HTN.out (by rw [HCL.out]; exact htl) HS.out HQ.out (by rw [HYZ.out.1]; exact y2) (by rw [HYZ.out.1, HYZ.out.2, HCK.out.1]; omega)
                              rw [HYZ.out.1, HCK.out.1] at h1
                              exact ⟨k + 1, _, by omega, by go_num, ExtC.ext, Lib.hid (HR.out.store i _), Lib.hid h1⟩
                            case measure => simp [intOf]; omega
                          · have dz : decide (z < 0) = false := by simp; omega
                            by_cases z3 : ((k : Int) + 1) + y < z
                            · have dz3 : decide (((k : Int) + 1) + y < z) = true := by simp [z3]
                              go_wp2_with fail
                              go_roundw
                              case rel =>
                                have h1 := stepS HK.out HM.out (by rw [HCL.out]; exact hli) (by rw [HT.out]; exact hlk) HCK.out.2 HTN.out (by rw [HCL.out]; exact htl) HS.out HQ.out (by rw [HYZ.out.1]; exact y2) (by rw [HYZ.out.1, HYZ.out.2, HCK.out.1]; omega)
                                rw [HYZ.out.1, HCK.out.1] at h1
                                exact ⟨k + 1, _, by omega, by go_num, ExtC.ext, Lib.hid (HR.out.store i _), Lib.hid h1⟩
                              case measure => simp [intOf]; omega
                            · have dz3 : decide (((k : Int) + 1) + y < z) = false := by simp; omega
                              go_wp2_with fail
                              go_roundw
                              case rel => exact ⟨k + 1, cs, by omega, by go_num, ExtC.ext, HR, Lib.hid (stayS HM.out (by rw [HCL.out]; exact hli) (by rw [HT.out]; exact hlk) HTN.out (by rw [HCL.out]; exact htl) (by rw [HYZ.out.1, HYZ.out.2, HCK.out.1]; omega))⟩
                              case measure => simp [intOf]; omega
                        · have dy : decide (0 ≤ y) = false := by simp; omega
                          go_wp2_with fail
                          go_roundw
                          case rel => exact ⟨k + 1, cs, by omega, by go_num, ExtC.ext, HR, Lib.hid (stayS HM.out (by rw [HCL.out]; exact hli) (by rw [HT.out]; exact hlk) HTN.out (by rw [HCL.out]; exact htl) (by rw [HYZ.out.1, HYZ.out.2, HCK.out.1]; omega))⟩
                          case measure => simp [intOf]; omega
                    · have e : k = T.length := by omega
                      subst e
                      go_wp2
                      go_roundw
                      case rel =>
                        have h1 := HM.out
                        rw [← HT.out] at h1
                        exact ⟨i + 1, cs, by omega, by go_num, ExtC.ext, HR, Lib.hid (h1.next bdS_mono HK.out HS.out)⟩
                      case measure => simp [intOf]; omega
                · have HQ := Lib.hid (show (i : Int) ∈ bar by simpa using q)
                  go_wp2_with (first | (go_at_call 85; (with_reducible refine (spec_l00Has _ bar _ _ (by assumption) _ (HU.out.ext ExtC.ext) (by omega)).mono ?_); rintro e w' ⟨rfl, hx⟩; obtain ⟨g4, rfl⟩ := hx.grow; clear hx))
                  go_roundw
                  case rel => exact ⟨i + 1, cs, by omega, by go_num, ExtC.ext, Lib.hid (HR.out.ext (ExtC.ext : Ext g3.fin g4.fin)), Lib.hid (HM.out.skip bdS_mono (.inr HQ.out))⟩
                  case measure => simp [intOf]; omega
              · go_wp2_with fail
                go_roundw
                case rel => exact ⟨i + 1, cs, by omega, by go_num, ExtC.ext, HR, Lib.hid (HM.out.skip bdS_mono (.inl HS.out))⟩
                case measure => simp [intOf]; omega
            · have e : i = L.length := by omega
              subst e
              go_wp2
              go_roundw
              case rel => exact ⟨r + 1, cs, by omega, by go_num, ExtC.ext, HR, Lib.hid (HM.out.round bdS_mono HK.out)⟩
              case measure => simp [intOf]; omega
        · have e : r = L.length := by omega
          subst e
          go_wp2
          go_ret
          have hl := HM.out.len
          have hr := HR.out
          rw [← hl] at hr
          refine ⟨_, cs, rfl, ?_, HM.out, ExtC.ext⟩
          have := hr.is
          rwa [hl] at this
end Go.Proofs.Ytbbppkcdgcajjaa
