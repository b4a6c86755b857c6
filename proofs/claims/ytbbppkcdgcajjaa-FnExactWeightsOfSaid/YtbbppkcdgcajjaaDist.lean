/- The program's distances. -/
import Derived.Test.YtbbppkcdgcajjaaCosts
import Derived.Test.YtbbppkcdgcajjaaTail
namespace Go.Proofs.Ytbbppkcdgcajjaa
open Go.RowKit

theorem Try.info_int : (Try.prog.info? 3).map (fun i => (i.zero, i.size, i.bytes)) = some (some (.int .i64 0), 1, 8) := by kernel_rfl
theorem row_zeros {T : TypeId} {lo g n c : Nat} {w : World} (h : w.ownsRow lo T 1 (.slice (some ⟨g, 0, none⟩) n c) n (madeCells (Value.int .i64 0).cells (n * 1)).toList) : RowI T lo w (.slice (some ⟨g, 0, none⟩) n c) (List.replicate n 0) := by
  unfold RowI
  rw [List.length_replicate, List.map_replicate]
  have := h
  rw [Nat.mul_one] at this
  rwa [show (Value.int IntKind.i64 0).cells = #[Value.int IntKind.i64 0] from rfl, toList_madeCells_one] at this
/-- What a step costs, as a function value. -/
def costV (ranked : Bool) : Value := if ranked then .func (.func 156) #[] #[] else .func (.func 155) #[] #[]
theorem impl_cost1 (k : Int) (w : World) : Calls Try.prog 155 #[.int .i64 k] w fun e w' => e = .returned (.int .i64 1) ∧ Ext w w' := by
  go_enter Try.func155, Try.ntmps155
  go_wp2
  go_ret
  exact ⟨rfl, Ext.refl _⟩
theorem impl_cost2 (k : Int) (w : World) : Calls Try.prog 156 #[.int .i64 k] w fun e w' => e = .returned (.int .i64 k) ∧ Ext w w' := by
  go_enter Try.func156, Try.ntmps156
  go_wp2
  go_ret
  exact ⟨rfl, Ext.refl _⟩
def initI (L : List VD) (j : Nat) : Int := if (At L j).1 = true then 0 else 1000

set_option maxHeartbeats 8000000 in
set_option maxRecDepth 100000 in
theorem impl_distances (v : Value) (ranked : Bool) (L : List VD) (w : World) (h : VS w v L) (hok : OkV L) :
    Calls Try.prog 157 #[v, costV ranked] w fun e w' => ∃ (v' : Value) (cs : List Int), e = .returned v' ∧ IS w' v' cs ∧ Mid L (costOf ranked) [] LeI (SnI L (costOf ranked) []) BdI L.length 0 0 cs ∧ Ext w w' := by
  obtain ⟨i0, hi, hz0, hz1, hz2⟩ := info_parts Try.info_int
  have hln := hok.2
  have HK := Lib.hid hok
  obtain ⟨vb, vo, vc, rfl, hvb, hc⟩ := h.at
  have HC := Lib.hid hc
  obtain ⟨fv, hfv⟩ : ∃ fv, costV ranked = fv := ⟨_, rfl⟩
  rw [hfv]
  have HFV := Lib.hid hfv
  clear hc h hok hfv
  go_enter Try.func157, Try.ntmps157
  go_wp2_with (at_make; refine wpList_make_full _ rfl _ _ 144 rfl w.heap.size 3 i0 (.int .i64 0) 1 Try.underlying144 hi hz0 hz1 _ _ _ _ L.length rfl rfl rfl rfl (by rw [hz2]; omega) (by unfold maxLen; omega) (Nat.le_refl _) ?_; intro w1 hown hgrow)
  have hx1 := grownBy_ext hgrow (fun k h => by cases h)
  have H00 := Lib.hid (row_zeros hown)
  clear hown hgrow
  go_loopw [17] (fun i wr => ∃ (k : Nat) (cs : List Int), k ≤ L.length ∧ i = .int .i64 k ∧ Ext w wr ∧ Hid (RowI 3 w.heap.size wr (.slice (some ⟨w.heap.size, 0, none⟩) L.length L.length) cs) ∧ Hid (cs.length = L.length ∧ (∀ j (h : j < cs.length), j < k → cs[j] = initI L j) ∧ ∀ j (h : j < cs.length), k ≤ j → cs[j] = 0)) (fun i _ => L.length - (intOf i).toNat)
  case atStart => exact ⟨0, _, Nat.zero_le _, rfl, hx1, H00, Lib.hid ⟨by simp, fun j _ hj => absurd hj (by omega), fun j hj _ => by simp⟩⟩
  case round =>
    obtain ⟨k, cs, hk, rfl, hx, HR, HI⟩ := hrel
    clear hx1 H00
    obtain ⟨g0, rfl⟩ := hx.grow; clear hx
    by_cases hlt : k < L.length
    · obtain ⟨c1, t, c2, c3⟩ := HC.out (k : Int) (by omega) (by omega)
      simp only [Int.toNat_natCast] at c1 c2
      obtain ⟨tp, tc, rfl, -, -⟩ := c3.form
      clear c3
      obtain ⟨s, hs⟩ : ∃ s, (At L (k : Int)).1 = s := ⟨_, rfl⟩
      rw [hs] at c1
      have hcl := HI.out.1
      have hkc : k < cs.length := by omega
      have e2 := HR.out.cell k hkc
      have e3 := HR.out.frozen k
      have iw : InW w.heap.size g0.fin := ⟨HR.out.len.2⟩
      have HCL := Lib.hid hcl; clear hcl
      have HS := Lib.hid hs; clear hs
      cases s
      · go_wp2_with fail
        go_roundw
        case rel =>
          refine ⟨k + 1, cs.set k 1000, by omega, by go_num, ExtC.ext, Lib.hid ((HR.out.store k 1000).ext ExtC.ext), Lib.hid ⟨by rw [List.length_set]; exact HCL.out, fun j hj hjk => ?_, fun j hj hjk => ?_⟩⟩
          · rw [List.getElem_set]; split
            · rename_i e; subst e; rw [initI, if_neg (by rw [HS.out]; simp)]
            · exact HI.out.2.1 j (by simpa using hj) (by omega)
          · rw [List.getElem_set_ne (by omega)]; exact HI.out.2.2 j (by simpa using hj) (by omega)
        case measure => simp [intOf]; omega
      · go_wp2_with fail
        go_roundw
        case rel =>
          refine ⟨k + 1, cs, by omega, by go_num, ExtC.ext, Lib.hid (HR.out.ext (ExtC.ext : Ext g0.fin _)), Lib.hid ⟨HCL.out, fun j hj hjk => ?_, fun j hj hjk => HI.out.2.2 j hj (by omega)⟩⟩
          by_cases e : j = k
          · subst e; rw [HI.out.2.2 j hj (Nat.le_refl _), initI, if_pos HS.out]
          · exact HI.out.2.1 j hj (by omega)
        case measure => simp [intOf]; omega
    · have e : k = L.length := by omega
      subst e
      have hmid : Mid L (costOf ranked) [] LeI (SnI L (costOf ranked) []) BdI 0 0 0 cs := startI _ HI.out.1 fun j hj => by rw [HI.out.2.1 j hj (by have := HI.out.1; omega)]; rfl
      have M0 := Lib.hid hmid
      clear hmid
      go_wp2_with fail
      go_loopw [31] (fun i wr => ∃ (r : Nat) (cs : List Int), r ≤ L.length ∧ i = .int .i64 r ∧ Ext w wr ∧ Hid (RowI 3 w.heap.size wr (.slice (some ⟨w.heap.size, 0, none⟩) L.length L.length) cs) ∧ Hid (Mid L (costOf ranked) [] LeI (SnI L (costOf ranked) []) BdI r 0 0 cs)) (fun i _ => L.length - (intOf i).toNat)
      case atStart => exact ⟨0, cs, Nat.zero_le _, rfl, ExtC.ext, HR, M0⟩
      case round =>
        obtain ⟨r, cs, hr, rfl, hx, HR, HM⟩ := hrel
        clear M0
        obtain ⟨g2, rfl⟩ := hx.grow; clear hx
        by_cases hlr : r < L.length
        · go_wp2_with fail
          go_loopw [35] (fun i wr => ∃ (j : Nat) (cs : List Int), j ≤ L.length ∧ i = .int .i64 j ∧ Ext w wr ∧ Hid (RowI 3 w.heap.size wr (.slice (some ⟨w.heap.size, 0, none⟩) L.length L.length) cs) ∧ Hid (Mid L (costOf ranked) [] LeI (SnI L (costOf ranked) []) BdI r j 0 cs)) (fun i _ => L.length - (intOf i).toNat)
          case atStart => exact ⟨0, cs, Nat.zero_le _, rfl, ExtC.ext, HR, HM⟩
          case round =>
            obtain ⟨i, cs, hi', rfl, hx, HR, HM⟩ := hrel
            obtain ⟨g3, rfl⟩ := hx.grow; clear hx
            by_cases hli : i < L.length
            · obtain ⟨c1, t, c2, c3⟩ := HC.out (i : Int) (by omega) (by omega)
              simp only [Int.toNat_natCast] at c1 c2
              obtain ⟨s, hs⟩ : ∃ s, (At L (i : Int)).1 = s := ⟨_, rfl⟩
              rw [hs] at c1
              have HS := Lib.hid hs; clear hs
              obtain ⟨T, hT⟩ : ∃ T, (At L (i : Int)).2 = T := ⟨_, rfl⟩
              rw [hT] at c3
              obtain ⟨tp, tc, rfl, -, hcx⟩ := c3.form
              have hfew := HK.out.few (i : Int)
              rw [hT] at hfew
              have HX := Lib.hid hcx; clear hcx c3
              have HT := Lib.hid hT; clear hT
              cases s
              · go_wp2_with fail
                go_loopw [45] (fun kk wr => ∃ (k : Nat) (cs : List Int), k ≤ T.length ∧ kk = .int .i64 k ∧ Ext w wr ∧ Hid (RowI 3 w.heap.size wr (.slice (some ⟨w.heap.size, 0, none⟩) L.length L.length) cs) ∧ Hid (Mid L (costOf ranked) [] LeI (SnI L (costOf ranked) []) BdI r i k cs)) (fun kk _ => T.length - (intOf kk).toNat)
                case atStart => exact ⟨0, cs, Nat.zero_le _, rfl, ExtC.ext, Lib.hid (HR.out.ext (ExtC.ext : Ext g3.fin _)), HM⟩
                case round =>
                  obtain ⟨k, cs, hk, rfl, hx, HR, HM⟩ := hrel
                  obtain ⟨g5, rfl⟩ := hx.grow; clear hx
                  by_cases hlk : k < T.length
                  · obtain ⟨tb, to, htp, itb, hcx⟩ := HX.out (by omega)
                    subst htp
                    have d := hcx k hlk
                    have HCX := Lib.hid hcx; clear hcx
                    have hrange := HK.out.range (a := (i : Int)) (k := k) (by rw [HT.out]; exact hlk)
                    have eT : (At L (i : Int)).2[k]'(by rw [HT.out]; exact hlk) = T[k] := by first | (congr 1; done) | (congr 1; exact HT.out)
                    rw [eT] at hrange
                    obtain ⟨tn, htn⟩ := Int.eq_ofNat_of_zero_le hrange.1
                    rw [htn] at d hrange
                    have htl : tn < L.length := by omega
                    have hcl : cs.length = L.length := HM.out.len
                    have HTN := Lib.hid (eT.trans htn)
                    have e1 := HR.out.cell tn (by omega)
                    have e2 := HR.out.cell i (by omega)
                    have e3 := HR.out.frozen i
                    have hsn := HM.out.snd tn (by omega)
                    have hbn := HM.out.bd tn (by omega)
                    have hsi := HM.out.snd i (by omega)
                    have hbi := HM.out.bd i (by omega)
                    have hstep := stepI HM.out (by omega) (by rw [HT.out]; exact hlk) HTN.out (by omega) HS.out
                    obtain ⟨y, hy⟩ : ∃ y, cs[tn]'(by omega) = y := ⟨_, rfl⟩
                    obtain ⟨z, hz⟩ : ∃ z, cs[i]'(by omega) = z := ⟨_, rfl⟩
                    rw [hy] at e1 hsn hbn hstep
                    rw [hz] at e2 hsi hbi hstep
                    have y0 : 0 ≤ y := hsn.1
                    have z0 : 0 ≤ z := hsi.1
                    have y1 : y ≤ 1000 := hbn
                    have z1 : z ≤ 1000 := hbi
                    have iw : InW w.heap.size g5.fin := ⟨HR.out.len.2⟩
                    have HST := Lib.hid hstep
                    clear hy hz hsn hbn hsi hbi htn eT hstep hcl
                    have hfv := HFV.out
                    cases ranked
                    · skip
                      have HCK := Lib.hid (show ((costOf false k : Nat) : Int) = (1 : Int) by simp [costOf])
                      have hfv2 : fv = .func (.func 155) #[] #[] := hfv.symm
                      clear hfv
                      subst hfv2
                      have q2 : IntKind.i64.wrap (y + (1 : Int)) = y + (1 : Int) := IntWalk.i64_in _ (by omega)
                      by_cases hle : z ≤ y + (1 : Int)
                      · have hmin : min z (y + (1 : Int)) = z := by omega
                        have hnl : ¬ y + (1 : Int) < z := by omega
                        have HMIN := Lib.hid hmin
                        go_wp2_with fail
                        refine wp_region_tail 17 (by kernel_rfl) (by kernel_rfl) ?_
                        simp only [List.take_succ_cons, List.take_zero, List.drop_succ_cons, List.drop_zero]
                        repeat (go_big_quiet_step ((first | (go_at_call 155; with_reducible exact grow_of (impl_cost1 _ _)))))
                        refine wpQuiet_nil ?_
                        intro g
                        go_wp2_with fail
                        go_roundw
                        case rel =>
                          have h1 := HST.out
                          rw [HCK.out, HMIN.out] at h1
                          exact ⟨k + 1, _, by omega, by go_num, ExtC.ext, Lib.hid ((HR.out.ext (ExtC.ext : Ext g5.fin _)).store i _), Lib.hid h1⟩
                        case measure => simp [intOf]; omega
                      · have hmin : min z (y + (1 : Int)) = y + (1 : Int) := by omega
                        have hnl : y + (1 : Int) < z := by omega
                        have HMIN := Lib.hid hmin
                        go_wp2_with fail
                        refine wp_region_tail 17 (by kernel_rfl) (by kernel_rfl) ?_
                        simp only [List.take_succ_cons, List.take_zero, List.drop_succ_cons, List.drop_zero]
                        repeat (go_big_quiet_step ((first | (go_at_call 155; with_reducible exact grow_of (impl_cost1 _ _)))))
                        refine wpQuiet_nil ?_
                        intro g
                        go_wp2_with fail
                        go_roundw
                        case rel =>
                          have h1 := HST.out
                          rw [HCK.out, HMIN.out] at h1
                          exact ⟨k + 1, _, by omega, by go_num, ExtC.ext, Lib.hid ((HR.out.ext (ExtC.ext : Ext g5.fin _)).store i _), Lib.hid h1⟩
                        case measure => simp [intOf]; omega
                    · skip
                      have HCK := Lib.hid (show ((costOf true k : Nat) : Int) = ((k : Int) + 1) by simp [costOf])
                      have hfv2 : fv = .func (.func 156) #[] #[] := hfv.symm
                      clear hfv
                      subst hfv2
                      have q1 : IntKind.i64.wrap ((k : Int) + 1) = (k : Int) + 1 := IntWalk.i64_in _ (by omega)
                      have q2 : IntKind.i64.wrap (y + ((k : Int) + 1)) = y + ((k : Int) + 1) := IntWalk.i64_in _ (by omega)
                      by_cases hle : z ≤ y + ((k : Int) + 1)
                      · have hmin : min z (y + ((k : Int) + 1)) = z := by omega
                        have hnl : ¬ y + ((k : Int) + 1) < z := by omega
                        have HMIN := Lib.hid hmin
                        go_wp2_with fail
                        refine wp_region_tail 17 (by kernel_rfl) (by kernel_rfl) ?_
                        simp only [List.take_succ_cons, List.take_zero, List.drop_succ_cons, List.drop_zero]
                        repeat (go_big_quiet_step ((first | (go_at_call 156; with_reducible exact grow_of (impl_cost2 _ _)))))
                        refine wpQuiet_nil ?_
                        intro g
                        go_wp2_with fail
                        go_roundw
                        case rel =>
                          have h1 := HST.out
                          rw [HCK.out, HMIN.out] at h1
                          exact ⟨k + 1, _, by omega, by go_num, ExtC.ext, Lib.hid ((HR.out.ext (ExtC.ext : Ext g5.fin _)).store i _), Lib.hid h1⟩
                        case measure => simp [intOf]; omega
                      · have hmin : min z (y + ((k : Int) + 1)) = y + ((k : Int) + 1) := by omega
                        have hnl : y + ((k : Int) + 1) < z := by omega
                        have HMIN := Lib.hid hmin
                        go_wp2_with fail
                        refine wp_region_tail 17 (by kernel_rfl) (by kernel_rfl) ?_
                        simp only [List.take_succ_cons, List.take_zero, List.drop_succ_cons, List.drop_zero]
                        repeat (go_big_quiet_step ((first | (go_at_call 156; with_reducible exact grow_of (impl_cost2 _ _)))))
                        refine wpQuiet_nil ?_
                        intro g
                        go_wp2_with fail
                        go_roundw
                        case rel =>
                          have h1 := HST.out
                          rw [HCK.out, HMIN.out] at h1
                          exact ⟨k + 1, _, by omega, by go_num, ExtC.ext, Lib.hid ((HR.out.ext (ExtC.ext : Ext g5.fin _)).store i _), Lib.hid h1⟩
                        case measure => simp [intOf]; omega
                  · have e : k = T.length := by omega
                    subst e
                    go_wp2
                    go_roundw
                    case rel =>
                      have h1 := HM.out
                      rw [← HT.out] at h1
                      exact ⟨i + 1, cs, by omega, by go_num, ExtC.ext, HR, Lib.hid (h1.next bdI_mono HK.out HS.out)⟩
                    case measure => simp [intOf]; omega
              · go_wp2_with fail
                go_roundw
                case rel => exact ⟨i + 1, cs, by omega, by go_num, ExtC.ext, Lib.hid (HR.out.ext (ExtC.ext : Ext g3.fin _)), Lib.hid (HM.out.skip bdI_mono (.inl HS.out))⟩
                case measure => simp [intOf]; omega
            · have e : i = L.length := by omega
              subst e
              go_wp2
              go_roundw
              case rel => exact ⟨r + 1, cs, by omega, by go_num, ExtC.ext, HR, Lib.hid (HM.out.round bdI_mono HK.out)⟩
              case measure => simp [intOf]; omega
        · have e : r = L.length := by omega
          subst e
          go_wp2
          go_ret
          have hl := HM.out.len
          have hr := HR.out
          rw [← hl] at hr
          refine ⟨_, cs, rfl, ?_, HM.out, ExtC.ext⟩
          have := hr.is
          rwa [hl] at this
end Go.Proofs.Ytbbppkcdgcajjaa
