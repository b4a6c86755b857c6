/- A settlement with a limit, the reference's side: spec.l02Capped, spec.CappedSettlement. -/
import Derived.Test.YthcomgnokkndgaaMostS
import Derived.Test.YthcomgnokkndgaaCappedP
namespace Go.Proofs.Ythcomgnokkndgaa
open Go.RowKit

set_option maxHeartbeats 16000000 in
set_option maxRecDepth 100000 in
theorem spec_l02Capped (v : Value) (lim : Int) (L : List VD) (w : World) (h : VS w v L) (hok : OkV L) (h1 : 1 ≤ lim) (h2 : lim ≤ 12) (xs : List Int) (hxs : cappedL L lim = xs) :
    Calls Try.prog 16 #[v, .int .i64 lim] w fun e w' => ∃ g c, e = .returned (.slice (some ⟨g, 0, none⟩) xs.length c) ∧ OwnI w.heap.size w'.heap.size w' (.slice (some ⟨g, 0, none⟩) xs.length c) xs ∧ Ext w w' := by
  have HOK := Lib.hid hok
  have HX := Lib.hid hxs
  have hln := hok.2
  have RE := fun x (hx : Ext w x) => spec_l02AllEnds v L x (h.ext hx) hok _ rfl
  have HEL := Lib.hid (allE_length L L.length)
  obtain ⟨E, hE⟩ : ∃ E, allE L L.length = E := ⟨_, rfl⟩
  have HTD := Lib.hid (td0_ok hok)
  unfold cappedL at HX
  rw [hE] at HTD HX HEL
  simp only [hE] at RE
  have hel : E.length = L.length := HEL.out
  obtain ⟨n, hn⟩ : ∃ n, L.length = n := ⟨_, rfl⟩
  obtain ⟨vb, vo, vc, rfl, ivb, hvc⟩ := h
  have HV := Lib.hid hvc
  rw [hn] at hln HTD HX HEL hel
  rw [hn]
  simp only [hel, hn] at RE
  have hln' : L.length = n := hn
  have HLN := Lib.hid hn
  have HTL := Lib.hid (td0_length L)
  clear hxs hE hok hvc hn hel hln'
  go_enter Try.func16, Try.ntmps16
  go_wp2_with (first | (go_at_call 25; (with_reducible refine (RE _ ExtC.ext).mono ?_); rintro e w' ⟨eg, ec, rfl, ho, hx⟩; obtain ⟨g1, rfl⟩ := hx.grow; clear hx; have HE := Lib.hid ho; clear ho RE))
  go_loopw [6, 7] (fun tv iv wr => ∃ (j tg tc : Nat) (T : List Int), j ≤ n ∧ iv = .int .i64 j ∧ tv = .slice (some ⟨tg, 0, none⟩) j tc ∧ Ext g1.fin wr ∧ Hid (RowI 2 g1.fin.heap.size wr (.slice (some ⟨tg, 0, none⟩) j tc) T) ∧ Hid (T = (td0 L).take j)) (fun _ i _ => n - (intOf i).toNat)
  case atStart =>
    refine ⟨0, g1.fin.heap.size, 0, [], Nat.zero_le _, rfl, rfl, ExtC.ext, Lib.hid ?_, Lib.hid (by simp)⟩
    exact World.ownsRow_made (e := 2) (size := 1) (base := g1.fin.heap.size) g1.fin #[] 0 (Nat.le_refl _) (by unfold maxLen; omega) (by rfl)
  case round =>
    obtain ⟨j, tg, tc, T, hj, rfl, rfl, hx, HT, HTT⟩ := hrel
    obtain ⟨g2, rfl⟩ := hx.grow; clear hx
    by_cases hjn : j < n
    · have d1 := (HV.out j (by have := HLN.out; omega)).1
      have hTl : T.length = j := by rw [HTT.out, List.length_take, HTL.out, HLN.out]; omega
      have HAT := Lib.hid (show (At L (j : Int)).1 = (L[j]'(by have := HLN.out; omega)).1 by rw [At_nat (by have := HLN.out; omega)])
      cases hsp : (L[j]'(by have := HLN.out; omega)).1
      · rw [hsp] at d1
        have HN := Lib.hid (show T ++ [-2] = (td0 L).take (j + 1) by
          rw [List.take_succ_eq_append_getElem (by have := HTL.out; have := HLN.out; omega), ← HTT.out]
          have := td0_at (L := L) (i := j) (by have := HLN.out; omega)
          rw [FnF_at (by have := HTL.out; have := HLN.out; omega), HAT.out, hsp] at this
          rw [this]; rfl)
        clear hsp
        go_wp2_with (first | (at_builtin; refine app_num (w0 := g1.fin) (lo := g1.fin.heap.size) _ _ tg tc j T ⟨g2.fin.heap.size, 0, none⟩ 1 (-2) rfl rfl hTl rfl (HT.out.ext ExtC.ext) rfl (by rw [add_plain', World.cell?_alloc_at _ _ _ _ rfl]; rfl) (by omega) ExtC.ext (Nat.le_refl _) ?_; intro tg' tc' w2 hw' hrw hwb' hx; obtain ⟨g3, rfl⟩ := hx.grow; clear hx; have HT1 := Lib.hid hw'; clear hw' hrw hwb'))
        go_roundw
        case rel => exact ⟨j + 1, tg', tc', T ++ [-2], by omega, by go_num, rfl, ExtC.ext, HT1, HN⟩
        case measure => simp [intOf]; omega
      · rw [hsp] at d1
        have HN := Lib.hid (show T ++ [(j : Int)] = (td0 L).take (j + 1) by
          rw [List.take_succ_eq_append_getElem (by have := HTL.out; have := HLN.out; omega), ← HTT.out]
          have := td0_at (L := L) (i := j) (by have := HLN.out; omega)
          rw [FnF_at (by have := HTL.out; have := HLN.out; omega), HAT.out, hsp] at this
          rw [this]; rfl)
        clear hsp
        go_wp2_with (first | (at_builtin; refine app_num (w0 := g1.fin) (lo := g1.fin.heap.size) _ _ tg tc j T ⟨g2.fin.heap.size, 0, none⟩ 1 (j : Int) rfl rfl hTl rfl (HT.out.ext ExtC.ext) rfl (by rw [add_plain', World.cell?_alloc_at _ _ _ _ rfl]; rfl) (by omega) ExtC.ext (Nat.le_refl _) ?_; intro tg' tc' w2 hw' hrw hwb' hx; obtain ⟨g3, rfl⟩ := hx.grow; clear hx; have HT1 := Lib.hid hw'; clear hw' hrw hwb'))
        go_roundw
        case rel => exact ⟨j + 1, tg', tc', T ++ [(j : Int)], by omega, by go_num, rfl, ExtC.ext, HT1, HN⟩
        case measure => simp [intOf]; omega
    · obtain rfl : j = n := by omega
      have HT0 := Lib.hid (show T = td0 L by rw [HTT.out, List.take_of_length_le (by rw [HTL.out, HLN.out]; omega)])
      have HER := Lib.hid (fun x (hx : Ext g1.fin x) => ((HE.out.r).ext hx : RowsR intKind x (.slice (some ⟨eg, 0, none⟩) j ec) E))
      obtain ⟨most, hmost⟩ : ∃ r, mostX j E (td0 L) lim = r := ⟨_, rfl⟩
      have HM := Lib.hid hmost
      have RM0 := fun x (hx : Ext g2.fin x) => spec_l02Most (tg := tg) (tc := tc) (Td := td0 L) x HTD.out h1 h2 (HER.out x ((ExtC.ext : Ext g1.fin g2.fin).trans hx)) ⟨Nat.lt_of_lt_of_le HT.out.len.2 hx.size⟩ (fun i hi => by
        have := (HT.out.ext hx).cell i (by rw [HT0.out]; exact hi)
        rw [this]; simp only [HT0.out]) most hmost
      rw [hmost] at HX
      clear hmost
      go_wp2_with (first | (go_at_call 26; (with_reducible refine (RM0 _ ExtC.ext).mono ?_); rintro e w' ⟨rfl, hx⟩; obtain ⟨g, rfl⟩ := hx.grow; clear hx))
      clear RM0
      go_loopw [9] (fun iv wr => ∃ (i : Nat) (Td : List Int), i ≤ j ∧ iv = .int .i64 i ∧ Ext g1.fin wr ∧ Hid (RowI 2 g1.fin.heap.size wr (.slice (some ⟨tg, 0, none⟩) j tc) Td) ∧ Hid (Td = capT j E lim most (td0 L) i)) (fun i _ => j - (intOf i).toNat)
      case atStart => exact ⟨0, T, Nat.zero_le _, rfl, ExtC.ext, Lib.hid (HT.out.ext ExtC.ext), Lib.hid HT0.out⟩
      case round =>
        clear HT HTT HT0
        obtain ⟨i, Td, hi, rfl, hx, HT, HTT⟩ := hrel
        obtain ⟨g3, rfl⟩ := hx.grow; clear hx
        have HTK := Lib.hid (show TdOk j E Td by rw [HTT.out]; exact HTD.out.upto i)
        have htl : Td.length = j := HTK.out.tl
        by_cases hij : i < j
        · have d1 := HT.out.cell i (by omega)
          have f1 := HT.out.frozen i
          have HFT := Lib.hid (FnF_at (F := Td) (i := i) (by omega))
          obtain ⟨t, hte⟩ : ∃ t, Td[i]'(by omega) = t := ⟨_, rfl⟩
          rw [hte] at d1 HFT
          clear hte
          have itg : InW tg g3.fin := ⟨HT.out.len.2⟩
          have ntg : NewB g1.fin tg := ⟨HT.out.len.1⟩
          have HTL2 := Lib.hid htl
          clear htl
          by_cases h0 : 0 ≤ t
          · have HN := Lib.hid (show Td = capT j E lim most (td0 L) (i + 1) by
              show Td = capStep j E lim most (capT j E lim most (td0 L) i) i
              rw [← HTT.out]; unfold capStep; rw [if_pos (by rw [HFT.out]; exact h0)])
            go_wp2_with fail
            go_roundw
            case rel => exact ⟨i + 1, Td, by omega, by go_num, ExtC.ext, HT, HN⟩
            case measure => simp [intOf]; omega
          · have hEi : i < E.length := by rw [HTK.out.el]; exact hij
            obtain ⟨R, hR⟩ : ∃ R, E[i]'hEi = R := ⟨_, rfl⟩
            have HROW := Lib.hid (fun x (hx : Ext g1.fin x) => (by
              obtain ⟨ieg, hce⟩ := rows_at (HER.out x hx) (by omega)
              obtain ⟨t, d2, d3⟩ := hce i hEi
              rw [hR] at d3
              obtain ⟨tp, tcp, rfl, -, hct⟩ := d3.form
              exact ⟨tp, tcp, d2, hct⟩ : ∃ tp tcp, x.cell? ⟨eg, i, none⟩ = some (.slice tp R.length tcp) ∧ (0 < R.length → ∃ b off, tp = some ⟨b, off, none⟩ ∧ InW b x ∧ ∀ z (h : z < R.length), x.cell? ⟨b, off + z, none⟩ = some (iv R[z]))))
            have hRl : R.length ≤ 12 := by rw [← hR]; exact HTK.out.el12 i hEi
            have HRR := Lib.hid (show ∀ e, e ∈ R → 0 ≤ e ∧ e < j by rw [← hR]; exact HTK.out.ends i hEi)
            have HRD := Lib.hid (show E.getD i [] = R by simp [hEi, hR])
            clear hR hEi
            have HN := Lib.hid (show Td.set i (pickE j E Td lim most i R) = capT j E lim most (td0 L) (i + 1) by
              show _ = capStep j E lim most (capT j E lim most (td0 L) i) i
              rw [← HTT.out]; unfold capStep; rw [if_neg (by rw [HFT.out]; exact h0), HRD.out])
            have HT1 := Lib.hid (HT.out.store i (-1))
            go_wp2_with fail
            go_loopw [10] (fun kv wr => ∃ (k : Nat) (x : Int), k ≤ R.length ∧ kv = .int .i64 k ∧ -1 ≤ x ∧ x < j ∧ Ext g1.fin wr ∧ Hid (RowI 2 g1.fin.heap.size wr (.slice (some ⟨tg, 0, none⟩) j tc) (Td.set i x)) ∧ Hid (if 0 ≤ x then pickE j E Td lim most i R = x else pickE j E Td lim most i R = pickE j E Td lim most i (R.drop k))) (fun k _ => R.length - (intOf k).toNat)
            case atStart => exact ⟨0, -1, Nat.zero_le _, rfl, by omega, by omega, ExtC.ext, HT1, Lib.hid (by rw [if_neg (by omega)]; rfl)⟩
            case round =>
              clear HT1
              obtain ⟨k, x, hk, rfl, hx0, hxj, hx, HT2, HPK⟩ := hrel
              obtain ⟨g4, rfl⟩ := hx.grow; clear hx
              obtain ⟨tp, tcp, e1, hct⟩ := HROW.out g4.fin ExtC.ext
              have itg4 : InW tg g4.fin := ⟨HT2.out.len.2⟩
              have d3 := HT2.out.cell i (by rw [List.length_set, HTL2.out]; exact hij)
              have f3 := HT2.out.frozen i
              rw [List.getElem_set_self] at d3
              have ieg4 : InW eg g4.fin := InW.of_cell e1
              have hne : tg ≠ eg := by
                have a := HE.out.at0.2.2.2
                have b := ntg.le
                omega
              by_cases hkl : k < R.length
              · by_cases h0x : 0 ≤ x
                · clear hct
                  have HF := HPK.out
                  rw [if_pos h0x] at HF
                  have HN2 := Lib.hid (show Td.set i x = capT j E lim most (td0 L) (i + 1) by rw [← HN.out, HF])
                  clear HF
                  go_wp2_with fail
                  go_roundw
                  case rel => exact ⟨i + 1, Td.set i x, by omega, by go_num, ExtC.ext, HT2, HN2⟩
                  case measure => simp [intOf]; omega
                · obtain ⟨rb, ro, rfl, -, hcc⟩ := hct (by omega)
                  have d4 := hcc k hkl
                  have hex := HRR.out R[k] (List.getElem_mem hkl)
                  have HDR := Lib.hid (show pickE j E Td lim most i R = if mostX j E (Td.set i R[k]) lim < most then pickE j E Td lim most i (R.drop (k + 1)) else R[k] by
                    have := HPK.out
                    rw [if_neg h0x] at this
                    rw [this, List.drop_eq_getElem_cons hkl]; rfl)
                  obtain ⟨e, he⟩ : ∃ e, R[k] = e := ⟨_, rfl⟩
                  rw [he] at d4 hex HDR
                  clear he hct hcc
                  have HSS := Lib.hid (show (Td.set i x).set i e = Td.set i e by rw [List.set_set])
                  have HW1 := Lib.hid (show RowI 2 g1.fin.heap.size (g4.fin.setCell ⟨tg, i, none⟩ (.int .i64 e)) (.slice (some ⟨tg, 0, none⟩) j tc) (Td.set i e) by rw [← HSS.out]; exact HT2.out.store i e)
                  obtain ⟨r, hr⟩ : ∃ r, mostX j E (Td.set i e) lim = r := ⟨_, rfl⟩
                  have R1 := spec_l02Most (tg := tg) (tc := tc) (Td := Td.set i e) (g4.fin.setCell ⟨tg, i, none⟩ (.int .i64 e)) (HTK.out.set i (by omega) hex.2) h1 h2 (HER.out _ ExtC.ext) ⟨HW1.out.len.2⟩ (fun z hz => HW1.out.cell z hz) r hr
                  rw [hr] at HDR
                  clear hr
                  by_cases hlo : r < most
                  · have HPN := Lib.hid (show pickE j E Td lim most i R = pickE j E Td lim most i (R.drop (k + 1)) by have := HDR.out; rwa [if_pos hlo] at this)
                    go_wp2_with (first | (go_at_call 26; (with_reducible refine R1.mono ?_); rintro e' w' ⟨rfl, hx⟩; obtain ⟨g5, rfl⟩ := hx.grow; clear hx; have itg5 : InW tg g5.fin := inferInstance; have f5 := (HW1.out.ext (ExtC.ext : Ext _ g5.fin)).frozen i; have d5 := (HW1.out.ext (ExtC.ext : Ext _ g5.fin)).cell i (by rw [List.length_set, HTL2.out]; exact hij); rw [List.getElem_set_self] at d5))
                    go_roundw
                    case rel => exact ⟨k + 1, -1, by omega, by go_num, by omega, by omega, ExtC.ext, Lib.hid (by have := (HW1.out.ext (ExtC.ext : Ext _ g5.fin)).store i (-1); rwa [List.set_set] at this), Lib.hid (by rw [if_neg (by omega)]; exact HPN.out)⟩
                    case measure => simp [intOf]; omega
                  · have HPN := Lib.hid (show pickE j E Td lim most i R = e by have := HDR.out; rwa [if_neg hlo] at this)
                    go_wp2_with (first | (go_at_call 26; (with_reducible refine R1.mono ?_); rintro e' w' ⟨rfl, hx⟩; obtain ⟨g5, rfl⟩ := hx.grow; clear hx))
                    go_roundw
                    case rel => exact ⟨k + 1, e, by omega, by go_num, by omega, hex.2, ExtC.ext, Lib.hid (HW1.out.ext ExtC.ext), Lib.hid (by rw [if_pos hex.1]; exact HPN.out)⟩
                    case measure => simp [intOf]; omega
              · clear hct
                have HF : Td.set i x = capT j E lim most (td0 L) (i + 1) := by
                  rw [← HN.out]
                  have := HPK.out
                  split at this
                  · rw [this]
                  · rw [this, List.drop_of_length_le (by omega)]
                    have : x = -1 := by omega
                    rw [this]; rfl
                have HN2 := Lib.hid HF
                clear HF
                go_wp2_with fail
                go_roundw
                case rel => exact ⟨i + 1, Td.set i x, by omega, by go_num, ExtC.ext, HT2, HN2⟩
                case measure => simp [intOf]; omega
        · obtain rfl : i = j := by omega
          have HF := Lib.hid (show Td = xs by rw [HTT.out, HX.out])
          go_wp2_with fail
          refine bodyPost_ret (v := .slice (some ⟨tg, 0, none⟩) i tc) (by simp [results, Try.results16, go_sem]) rfl ?_
          have e := HF.out
          subst e
          have hr := HT.out
          rw [← htl] at hr ⊢
          exact ⟨tg, tc, rfl, (OwnI.of_row hr).mono (ExtC.ext : Ext w g1.fin).size (Nat.le_refl _), ExtC.ext⟩

set_option maxHeartbeats 2000000 in
theorem spec_CappedSettlement' (v : Value) (lim : Int) (L : List VD) (w : World) (h : VS w v L) (hs : Short L) (b : Bool) (hb : capB L lim = b) (xs : List Int) (hxs : cpdX L lim = xs) :
    Calls Try.prog 5 #[v, .int .i64 lim] w fun e w' => ∃ v', e = .returned (.tuple #[v', .bool b]) ∧ OwnI w.heap.size w'.heap.size w' v' xs ∧ Ext w w' := by
  have H1 := fun x (hx : Ext w x) => (spec_l02Ok v L x (h.ext hx) hs).mono fun e w' (h : RetB (OkV L) e ∧ Ext x w') => (⟨h.1.told' (okB_iff rfl), h.2⟩ : e = .returned (.bool (okB L)) ∧ Ext x w')
  cases q1 : okB L
  · rw [q1] at H1
    have HN := Lib.hid (show xs = [] by rw [← hxs]; exact cpd_no fun hh => by have := (okB_iff q1).2 hh.1; cases this)
    have hbf : b = false := by rw [← hb]; exact (capB_no fun hh => by have := (okB_iff q1).2 hh.1; cases this).1
    subst hbf
    clear hb hxs
    go_enter Try.func5, Try.ntmps5
    go_wp2_with (first | (go_at_call 14; (with_reducible refine (H1 _ ExtC.ext).mono ?_); rintro e w' ⟨rfl, hx⟩; obtain ⟨g, rfl⟩ := hx.grow; clear hx))
    refine bodyPost_ret (v := .tuple #[.slice none 0 0, .bool false]) (by simp [results, Try.results5, go_sem]) rfl ?_
    exact ⟨_, rfl, .inl ⟨rfl, HN.out⟩, ExtC.ext⟩
  rw [q1] at H1
  cases q2 : inB lim 1 12
  · have HN := Lib.hid (show xs = [] by rw [← hxs]; exact cpd_no fun hh => (inB_false.1 q2) hh.2)
    have hbf : b = false := by rw [← hb]; exact (capB_no fun hh => (inB_false.1 q2) hh.2).1
    have R2 := fun x => spec_l02Limit lim false q2 x
    subst hbf
    clear hb hxs q2
    go_enter Try.func5, Try.ntmps5
    go_wp2_with (first | (go_at_call 14; (with_reducible refine (H1 _ ExtC.ext).mono ?_); rintro e w' ⟨rfl, hx⟩; obtain ⟨g, rfl⟩ := hx.grow; clear hx) | (go_at_call 15; (with_reducible refine (R2 _).mono ?_); rintro e w' ⟨rfl, hx⟩; obtain ⟨g, rfl⟩ := hx.grow; clear hx))
    refine bodyPost_ret (v := .tuple #[.slice none 0 0, .bool false]) (by simp [results, Try.results5, go_sem]) rfl ?_
    exact ⟨_, rfl, .inl ⟨rfl, HN.out⟩, ExtC.ext⟩
  · have hcv : CV L lim := ⟨(okB_iff q1).1 rfl, by simpa [inB] using q2⟩
    have HN := Lib.hid (show cappedL L lim = xs by rw [← hxs, cpd_yes hcv])
    have hbf : b = true := by rw [← hb]; exact (capB_yes hcv).1
    have R2 := fun x => spec_l02Limit lim true q2 x
    have R3 := fun x (hx : Ext w x) => spec_l02Capped v lim L x (h.ext hx) hcv.1 hcv.2.1 hcv.2.2 xs HN.out
    subst hbf
    clear hb hxs q2 hcv
    go_enter Try.func5, Try.ntmps5
    go_wp2_with (first | (go_at_call 14; (with_reducible refine (H1 _ ExtC.ext).mono ?_); rintro e w' ⟨rfl, hx⟩; obtain ⟨g, rfl⟩ := hx.grow; clear hx) | (go_at_call 15; (with_reducible refine (R2 _).mono ?_); rintro e w' ⟨rfl, hx⟩; obtain ⟨g, rfl⟩ := hx.grow; clear hx) | (go_at_call 16; (with_reducible refine (R3 _ ExtC.ext).mono ?_); rintro e w' ⟨tg, tc, rfl, ho, hx⟩; obtain ⟨g5, rfl⟩ := hx.grow; clear hx; have HO := Lib.hid ho; clear ho))
    refine bodyPost_ret (v := .tuple #[.slice (some ⟨tg, 0, none⟩) xs.length tc, .bool true]) (by simp [results, Try.results5, go_sem]) rfl ?_
    exact ⟨_, rfl, HO.out.mono (ExtC.ext : Ext w _).size (Nat.le_refl _), ExtC.ext⟩
end Go.Proofs.Ythcomgnokkndgaa
