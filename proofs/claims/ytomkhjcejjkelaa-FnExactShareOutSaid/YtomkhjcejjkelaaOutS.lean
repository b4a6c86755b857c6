/- Giving out by greatest rests, on the reference's side. -/
import Derived.Test.YtomkhjcejjkelaaOutP
import Derived.Test.YtomkhjcejjkelaaSums
import Derived.Test.YtomkhjcejjkelaaRowB
import Derived.Test.YtomkhjcejjkelaaTail
namespace Go.Proofs.Ytomkhjcejjkelaa
open Go.RowKit

set_option maxHeartbeats 1000000 in
theorem spec_l01Total (u : Value) (ws : List Int) (w : World) (hu : RI w u ws) (hxl : ws.length ≤ 1048576) (r : Int) (hr : totX ws = r) :
    Calls Try.prog 20 #[u] w fun e w' => e = .returned (.int .i64 r) ∧ Ext w w' := by
  obtain ⟨up, uc, rfl, -, hq⟩ := hu.form
  have HQ := Lib.hid hq
  have HR := Lib.hid hr
  clear hu hq hr
  by_cases h20 : ws.length ≤ 20
  · have e20 : decide ((ws.length : Int) > 20) = false := by simp; omega
    go_enter Try.func20, Try.ntmps20
    go_wp2_with fail
    go_loopw [3, 4] (fun s i wr => ∃ k : Nat, k ≤ ws.length ∧ i = .int .i64 k ∧ s = .int .i64 (ws.take k).sum ∧ Ext w wr ∧ Hid (∀ j (h : j < ws.length), j < k → 0 ≤ ws[j] ∧ ws[j] ≤ 1000000000)) (fun _ i _ => ws.length - (intOf i).toNat)
    case atStart => exact ⟨0, Nat.zero_le _, rfl, by simp, Ext.refl _, Lib.hid fun j _ hj => absurd hj (by omega)⟩
    case round =>
      obtain ⟨k, hk, rfl, rfl, hx, HB⟩ := hrel
      obtain ⟨g0, rfl⟩ := hx.grow; clear hx
      have hsm := sum_small (M := 1000000000) (by omega) k hk (fun j h hj => HB.out j h hj)
      by_cases hlt : k < ws.length
      · obtain ⟨b0, off, hp, ib, hc⟩ := HQ.out (by omega)
        subst hp
        have d := hc k hlt
        have hst := sum_take1 ws k hlt
        obtain ⟨y, hy⟩ : ∃ y, ws[k] = y := ⟨_, rfl⟩
        rw [hy] at d hst
        have HY := Lib.hid hy; clear hy hc
        obtain ⟨s0, hs0⟩ : ∃ s0, (ws.take k).sum = s0 := ⟨_, rfl⟩
        rw [hs0] at hst hsm ⊢
        have HST := Lib.hid hst; clear hst hs0
        cases q : inB y 0 1000000000
        · have hrm : r = -1 := by
            rw [← HR.out]
            refine if_neg fun h => ?_
            have := h.2 _ (List.getElem_mem hlt)
            rw [HY.out] at this
            have := inB_true.2 this
            rw [q] at this; cases this
          subst hrm
          go_wp2_with (first | (go_at_call 21; (with_reducible refine (spec_l00In y 0 1000000000 false q _).mono ?_); rintro e w' ⟨rfl, hx⟩; obtain ⟨g, rfl⟩ := hx.grow; clear hx))
          go_ret
          exact ⟨rfl, ExtC.ext⟩
        · have hb := inB_true.1 q
          have z1 : IntKind.i64.wrap (s0 + y) = s0 + y := IntWalk.i64_in _ (by omega)
          go_wp2_with (first | (go_at_call 21; (with_reducible refine (spec_l00In y 0 1000000000 true q _).mono ?_); rintro e w' ⟨rfl, hx⟩; obtain ⟨g, rfl⟩ := hx.grow; clear hx))
          go_roundw
          case rel =>
            refine ⟨k + 1, by omega, by go_num, by rw [HST.out], ExtC.ext, Lib.hid fun j h hj => ?_⟩
            by_cases e : j = k
            · subst e; rw [HY.out]; exact hb
            · exact HB.out j h (by omega)
          case measure => simp [intOf]; omega
      · have hkn : k = ws.length := by omega
        subst hkn
        have hrs : r = ws.sum := by
          rw [← HR.out]
          exact if_pos ⟨h20, fun x hx => by obtain ⟨j, hj, rfl⟩ := List.getElem_of_mem hx; exact HB.out j hj hj⟩
        subst hrs
        rw [List.take_length]
        go_wp2_with fail
        go_ret
        exact ⟨rfl, ExtC.ext⟩
  · have e20 : decide ((ws.length : Int) > 20) = true := by simp; omega
    have hrm : r = -1 := by rw [← HR.out]; exact if_neg fun h => h20 h.1
    subst hrm
    go_enter Try.func20, Try.ntmps20
    go_wp2_with fail
    go_ret
    exact ⟨rfl, ExtC.ext⟩

theorem RowB.rng {T : TypeId} {lo g n c lo' hi' : Nat} {bs : List Bool} {w w' : World} (h : RowB T lo w (.slice (some ⟨g, 0, none⟩) n c) bs) (hx : Rng lo' hi' w w') (hr : g < lo' ∨ hi' ≤ g) : RowB T lo w' (.slice (some ⟨g, 0, none⟩) n c) bs := by
  obtain rfl := h.eq
  exact ownsRow_rng h hx hr

set_option maxHeartbeats 8000000 in
set_option maxRecDepth 100000 in
theorem spec_ShareOut' (t : Int) (u : Value) (ws : List Int) (w : World) (hu : RI w u ws) (hxl : ws.length ≤ 1048576) (b : Bool) (hb : outB t ws = b) (xs : List Int) (hxs : outX t ws = xs) :
    Calls Try.prog 6 #[.int .i64 t, u] w fun e w' => ∃ v', e = .returned (.tuple #[v', .bool b]) ∧ OwnI w.heap.size w'.heap.size w' v' xs ∧ Ext w w' := by
  obtain ⟨i0, hi, hz0, hz1, hz2⟩ := info_parts Try.info_bool
  obtain ⟨s, hs⟩ : ∃ s, totX ws = s := ⟨_, rfl⟩
  have HT := fun z (hx : Ext w z) => spec_l01Total u ws z (hu.ext hx) hxl s hs
  obtain ⟨up, uc, rfl, -, hq⟩ := hu.form
  have HQ := Lib.hid hq
  clear hu hq
  cases q1 : inB t 0 1000000000
  · have hno := out_no (t := t) (ws := ws) (fun h => by have := (soP_iff.1 h).1; rw [q1] at this; cases this)
    rw [hb, hxs] at hno
    obtain ⟨rfl, rfl⟩ := hno
    clear hb hxs hs
    go_enter Try.func6, Try.ntmps6
    go_wp2_with (first | (go_at_call 20; (with_reducible refine (HT _ ExtC.ext).mono ?_); rintro e w' ⟨rfl, hx⟩; obtain ⟨g, rfl⟩ := hx.grow; clear hx) | (go_at_call 21; (with_reducible refine (spec_l00In t 0 1000000000 false q1 _).mono ?_); rintro e w' ⟨rfl, hx⟩; obtain ⟨g, rfl⟩ := hx.grow; clear hx))
    refine bodyPost_ret (v := .tuple #[.slice none 0 0, .bool false]) (by simp [results, Try.results6, go_sem]) rfl ?_
    exact ⟨_, rfl, .inl ⟨rfl, rfl⟩, ExtC.ext⟩
  cases q2 : inB s 1 1000000000
  · have hno := out_no (t := t) (ws := ws) (fun h => by have := (soP_iff.1 h).2; rw [hs, q2] at this; cases this)
    rw [hb, hxs] at hno
    obtain ⟨rfl, rfl⟩ := hno
    clear hb hxs hs
    go_enter Try.func6, Try.ntmps6
    go_wp2_with (first | (go_at_call 20; (with_reducible refine (HT _ ExtC.ext).mono ?_); rintro e w' ⟨rfl, hx⟩; obtain ⟨g, rfl⟩ := hx.grow; clear hx) | (go_at_call 21; (with_reducible refine (spec_l00In t 0 1000000000 true q1 _).mono ?_); rintro e w' ⟨rfl, hx⟩; obtain ⟨g, rfl⟩ := hx.grow; clear hx) | (go_at_call 21; (with_reducible refine (spec_l00In s 1 1000000000 false q2 _).mono ?_); rintro e w' ⟨rfl, hx⟩; obtain ⟨g, rfl⟩ := hx.grow; clear hx))
    refine bodyPost_ret (v := .tuple #[.slice none 0 0, .bool false]) (by simp [results, Try.results6, go_sem]) rfl ?_
    exact ⟨_, rfl, .inl ⟨rfl, rfl⟩, ExtC.ext⟩
  have hso : SoP t ws := soP_iff.2 ⟨q1, by rw [hs]; exact q2⟩
  obtain ⟨ey, ex⟩ := out_yes hso
  rw [hb] at ey
  rw [hxs] at ex
  subst ey
  have hst : s = ws.sum := by rw [← hs]; exact soP_tot hso
  have hs1 := inB_true.1 q2
  have ht1 := inB_true.1 q1
  have hn := hso.2.1
  have HSO := Lib.hid (And.intro hso (And.intro ex hst))
  have HW := Lib.hid (fun k (hk : k < ws.length) => hso.2.2.1 _ (List.getElem_mem hk))
  clear hb hxs hs hso ex hst
  go_enter Try.func6, Try.ntmps6
  go_wp2_with (first | (go_at_call 20; (with_reducible refine (HT _ ExtC.ext).mono ?_); rintro e w' ⟨rfl, hx⟩; obtain ⟨g, rfl⟩ := hx.grow; clear hx) | (go_at_call 21; (with_reducible refine (spec_l00In t 0 1000000000 true q1 _).mono ?_); rintro e w' ⟨rfl, hx⟩; obtain ⟨g, rfl⟩ := hx.grow; clear hx) | (go_at_call 21; (with_reducible refine (spec_l00In s 1 1000000000 true q2 _).mono ?_); rintro e w' ⟨rfl, hx⟩; obtain ⟨g, rfl⟩ := hx.grow; clear hx))
  go_loopw [7, 8, 9] (fun o l i wr => ∃ (og oc : Nat) (C : List Int), C.length ≤ ws.length ∧ i = .int .i64 C.length ∧ l = .int .i64 (t - C.sum) ∧ o = .slice (some ⟨og, 0, none⟩) C.length oc ∧ Ext w wr ∧ Hid (C = (qsL t ws).take C.length) ∧ Hid (OwnI w.heap.size wr.heap.size wr (.slice (some ⟨og, 0, none⟩) C.length oc) C)) (fun _ _ i _ => ws.length - (intOf i).toNat)
  case atStart => exact ⟨_, _, [], Nat.zero_le _, rfl, by simp, rfl, ExtC.ext, Lib.hid rfl, Lib.hid (by have := own_empty g.fin w.heap.size (ExtC.ext : Ext w g.fin).size; simpa using this)⟩
  case round =>
    obtain ⟨og, oc, C, hk, rfl, rfl, rfl, hx, HCk, HO⟩ := hrel
    obtain ⟨g0, rfl⟩ := hx.grow; clear hx
    by_cases hlt : C.length < ws.length
    · obtain ⟨b0, off, hp, ib, hc⟩ := HQ.out (by omega)
      subst hp
      have d := hc C.length hlt
      have hw := HW.out C.length hlt
      have hql : C.length < (qsL t ws).length := by rw [qsL_length]; exact hlt
      have hqe := qsL_get t ws C.length hql
      have htk := List.take_succ_eq_append_getElem hql
      have hpt := so_part HSO.out.1 C.length
      have hpt2 := so_part HSO.out.1 (C.length + 1)
      rw [htk, ← HCk.out, List.sum_append] at hpt2
      rw [← HCk.out] at hpt htk
      obtain ⟨y, hy⟩ : ∃ y, ws[C.length] = y := ⟨_, rfl⟩
      rw [hy] at d hw hqe
      rw [← HSO.out.2.2] at hqe
      have hm := so_mul ht1.1 ht1.2 hw.1 hw.2
      have hd := so_div hm.1 hs1.1 hm.2
      rw [hqe] at hpt2 htk
      simp only [List.sum_cons, List.sum_nil, Int.add_zero] at hpt2
      obtain ⟨S0, hS0⟩ : ∃ S0, C.sum = S0 := ⟨_, rfl⟩
      rw [hS0] at hpt hpt2 ⊢
      have z1 : IntKind.i64.wrap (t * y) = t * y := IntWalk.i64_in _ (by omega)
      have z2 : IntKind.i64.wrap ((t * y).tdiv s) = (t * y).tdiv s := IntWalk.i64_in _ (by omega)
      have z3 : IntKind.i64.wrap (t - S0 - (t * y).tdiv s) = t - S0 - (t * y).tdiv s := IntWalk.i64_in _ (by omega)
      have HST := Lib.hid (And.intro htk hS0)
      clear hc hy hqe htk hS0 hm hd hpt hpt2 hw
      go_wp2_with (at_builtin; refine app_int (w0 := w) (lo := w.heap.size) (hi := g0.fin.heap.size) _ _ (.slice (some ⟨og, 0, none⟩) C.length oc) C ⟨g0.fin.heap.size, 0, none⟩ 1 [(t * y).tdiv s] rfl rfl rfl (HO.out.ext ExtC.ext) rfl (cells_one _ _ _) (by simp; omega) ExtC.ext (Nat.le_refl _) (by have := (ExtC.ext : Ext w g0.fin).size; simp; omega) (by simp) ?_; intro g' c' w' ho hx; obtain ⟨g3, rfl⟩ := hx.grow; clear hx; have HO3 := Lib.hid (own_snoc_len ho); clear ho)
      go_roundw
      case rel => exact ⟨g', c', C ++ [(t * y).tdiv s], by simp only [List.length_append, List.length_cons, List.length_nil]; omega, by simp, by rw [List.sum_append, HST.out.2]; simp only [List.sum_cons, List.sum_nil, Int.add_zero]; congr 1; omega, by simp, ExtC.ext, Lib.hid (by rw [List.length_append]; exact HST.out.1.symm), Lib.hid (by have := HO3.out; simpa using this)⟩
      case measure => simp [intOf]; omega
    · have hkn : C.length = ws.length := by omega
      have hCq : C = qsL t ws := by rw [HCk.out, hkn, ← qsL_length t ws, List.take_length]
      have hsum : t - C.sum = ((leftOf t ws : Nat) : Int) := by rw [hCq]; exact (leftOf_eq HSO.out.1).1.symm
      have hle := (leftOf_eq HSO.out.1).2
      have HO2 : Hid (OwnI w.heap.size g0.fin.heap.size g0.fin (.slice (some ⟨og, 0, none⟩) ws.length oc) (outQ (qOf t ws) ws.length ((ordL (rOf t ws) ws.length).take 0))) := Lib.hid (by have := HO.out; rw [hkn, hCq, ← outQ_nil] at this; exact this)
      have hol := ordL_length (rOf t ws) ws.length
      have HOL := Lib.hid hol
      rw [hsum, hkn]
      obtain ⟨n, hnn⟩ : ∃ n, ws.length = n := ⟨_, rfl⟩
      obtain ⟨Lf, hLf⟩ : ∃ n, leftOf t ws = n := ⟨_, rfl⟩
      have HN := Lib.hid (And.intro hnn hLf)
      rw [hnn] at hle hn HO2 ⊢
      rw [hLf] at hle ⊢
      clear hsum hCq hkn HO HCk hol hnn hLf hlt hk hxl
      rw [show ws.length = n from HN.out.1] at HT
      go_wp2_with (at_make; refine wpList_make_full _ rfl _ _ 39 rfl g0.fin.heap.size 4 i0 (.bool false) 1 Try.underlying39 hi hz0 hz1 _ _ _ _ n rfl rfl rfl rfl (by rw [hz2]; omega) (by unfold maxLen; omega) (Nat.le_refl _) ?_; intro w1 hown hgrow; have hx1 := grownBy_ext hgrow (fun k h => by cases h); have hr0 := row_falses hown; obtain ⟨g1, rfl⟩ := hx1.grow; clear hx1 hgrow hown; have HR0 := Lib.hid hr0; clear hr0)
      obtain ⟨gb, hgb⟩ : ∃ gb, g0.fin.heap.size = gb := ⟨_, rfl⟩
      have HGB := Lib.hid hgb
      rw [hgb] at HR0 HO2 ⊢
      clear hgb
      have hogl : w.heap.size ≤ og := HO2.out.len.2.1
      have hogb : og < gb := HO2.out.len.2.2
      have hgw : w.heap.size ≤ gb := by omega
      go_loopw [8] (fun l wr => ∃ k : Nat, k ≤ Lf ∧ l = .int .i64 ((Lf - k : Nat) : Int) ∧ Ext w wr ∧ Hid (OwnI w.heap.size gb wr (.slice (some ⟨og, 0, none⟩) n oc) (outQ (qOf t ws) n ((ordL (rOf t ws) n).take k))) ∧ Hid (RowB 4 gb wr (.slice (some ⟨gb, 0, none⟩) n n) (gavB n ((ordL (rOf t ws) n).take k)))) (fun l _ => (intOf l).toNat)
      case atStart => exact ⟨0, Nat.zero_le _, rfl, ExtC.ext, Lib.hid (HO2.out.ext ExtC.ext), Lib.hid (by rw [List.take_zero, gavB_nil]; exact HR0.out)⟩
      case round =>
        obtain ⟨k, hk, rfl, hx, HO, HR⟩ := hrel
        clear HO2 HR0
        obtain ⟨g2, rfl⟩ := hx.grow; clear hx
        by_cases hlt : k < Lf
        · have hpos : decide (0 < Lf - k) = true := decide_eq_true (by omega)
          have hko : k < (ordL (rOf t ws) n).length := by rw [ordL_length]; omega
          obtain ⟨ht1', ht2', ht3'⟩ := take_ord (rOf t ws) hko
          have hpk := pick_ord (rOf t ws) hko
          obtain ⟨p, hp⟩ : ∃ p, (ordL (rOf t ws) n)[k] = p := ⟨_, rfl⟩
          rw [hp] at ht1' ht2' ht3' hpk
          obtain ⟨G, hG⟩ : ∃ G, (ordL (rOf t ws) n).take k = G := ⟨_, rfl⟩
          rw [hG] at ht1' ht3' hpk HO HR
          have HTK := Lib.hid (And.intro ht1' (And.intro ht3' hpk))
          clear hp hG ht1' ht3' hpk hko
          go_wp2_with fail
          go_loopw [12, 13] (fun bst i wr => ∃ m : Nat, m ≤ n ∧ i = .int .i64 m ∧ bst = .int .i64 (pickR (rOf t ws) G m) ∧ Ext g2.fin wr) (fun _ i _ => n - (intOf i).toNat)
          case atStart => exact ⟨0, Nat.zero_le _, rfl, rfl, Ext.refl _⟩
          case round =>
            obtain ⟨m, hm, rfl, rfl, hx⟩ := hrel
            obtain ⟨g3, rfl⟩ := hx.grow; clear hx
            by_cases hmn : m < n
            · have c1 := (HR.out.ext (ExtC.ext : Ext g2.fin g3.fin)).cell m (by rw [gavB_length]; exact hmn)
              rw [gavB_get] at c1
              have iw : InW gb g3.fin := ⟨(HR.out.ext (ExtC.ext : Ext g2.fin g3.fin)).len.2⟩
              have hwn := HN.out.1
              by_cases hmG : m ∈ G
              · have e1 : decide (m ∈ G) = true := decide_eq_true hmG
                rw [e1] at c1
                have hst := pickR_in (r := rOf t ws) hmG
                obtain ⟨P, hP⟩ : ∃ P, pickR (rOf t ws) G m = P := ⟨_, rfl⟩
                rw [hP] at hst ⊢
                have HST := Lib.hid hst
                clear e1 hmG hwn hst hP
                go_wp2_with fail
                refine wp_region_grow (by kernel_rfl) (by kernel_rfl) ?_
                repeat (go_big_quiet_step ((fail)))
                refine wpQuiet_nil ?_
                intro _ hw'
                obtain ⟨g, hw''⟩ := hw'
                subst hw''
                go_wp2_with fail
                go_roundw
                case rel => exact ⟨m + 1, by omega, by go_num, by rw [HST.out], ExtC.ext⟩
                case measure => simp [intOf]; omega
              · have e1 : decide (m ∈ G) = false := decide_eq_false hmG
                rw [e1] at c1
                obtain ⟨b0, off, hp, ib, hc⟩ := HQ.out (by omega)
                subst hp
                have hrng := pickR_rng (rOf t ws) G m
                by_cases hneg : pickR (rOf t ws) G m < 0
                · have hst := pickR_first (r := rOf t ws) hmG hneg
                  obtain ⟨P, hP⟩ : ∃ P, pickR (rOf t ws) G m = P := ⟨_, rfl⟩
                  rw [hP] at hneg hrng ⊢
                  have HST := Lib.hid hst
                  clear e1 hmG hwn hst hP hc
                  go_wp2_with fail
                  refine wp_region_grow (by kernel_rfl) (by kernel_rfl) ?_
                  repeat (go_big_quiet_step ((fail)))
                  refine wpQuiet_nil ?_
                  intro _ hw'
                  obtain ⟨g, hw''⟩ := hw'
                  subst hw''
                  go_wp2_with fail
                  go_roundw
                  case rel => exact ⟨m + 1, by omega, by go_num, by rw [HST.out], ExtC.ext⟩
                  case measure => simp [intOf]; omega
                · obtain ⟨P, hP⟩ := Int.eq_ofNat_of_zero_le (show 0 ≤ pickR (rOf t ws) G m by omega)
                  have hPn : P < n := by omega
                  have d1 := hc m (by omega)
                  have d2 := hc P (by omega)
                  have w1 := HW.out m (by omega)
                  have w2 := HW.out P (by omega)
                  have r1 : rOf t ws m = (t * ws[m]'(by omega)).tmod ws.sum := by unfold rOf; rw [ixN_in (show m < ws.length by omega)]; simp [show m < ws.length by omega]
                  have r2 : rOf t ws P = (t * ws[P]'(by omega)).tmod ws.sum := by unfold rOf; rw [ixN_in (show P < ws.length by omega)]; simp [show P < ws.length by omega]
                  rw [← HSO.out.2.2] at r1 r2
                  obtain ⟨y1, hy1⟩ : ∃ y, ws[m]'(by omega) = y := ⟨_, rfl⟩
                  obtain ⟨y2, hy2⟩ : ∃ y, ws[P]'(by omega) = y := ⟨_, rfl⟩
                  rw [hy1] at d1 w1 r1
                  rw [hy2] at d2 w2 r2
                  have m1 := so_mul ht1.1 ht1.2 w1.1 w1.2
                  have m2 := so_mul ht1.1 ht1.2 w2.1 w2.2
                  have n1 := so_mod m1.1 hs1.1 hs1.2
                  have n2 := so_mod m2.1 hs1.1 hs1.2
                  have z1 : IntKind.i64.wrap (t * y1) = t * y1 := IntWalk.i64_in _ (by omega)
                  have z2 : IntKind.i64.wrap (t * y2) = t * y2 := IntWalk.i64_in _ (by omega)
                  have z3 : IntKind.i64.wrap ((t * y1).tmod s) = (t * y1).tmod s := IntWalk.i64_in _ (by omega)
                  have z4 : IntKind.i64.wrap ((t * y2).tmod s) = (t * y2).tmod s := IntWalk.i64_in _ (by omega)
                  have hsz : s ≠ 0 := by omega
                  have hsz2 : (s == 0) = false := by simpa using hsz
                  have hP0 : ¬ ((P : Int) < 0) := by omega
                  have hP1 : decide ((P : Int) < 0) = false := decide_eq_false hP0
                  by_cases hgt : rOf t ws P < rOf t ws m
                  · have hst := pickR_more hmG hP hgt
                    have e2 : decide ((t * y1).tmod s > (t * y2).tmod s) = true := decide_eq_true (by rw [r1, r2] at hgt; exact hgt)
                    have hgt' : (t * y2).tmod s < (t * y1).tmod s := by rw [r1, r2] at hgt; exact hgt
                    rw [hP]
                    have HST := Lib.hid hst
                    clear e1 hmG hwn hst hP hc hy1 hy2 r1 r2 m1 m2 n1 n2 w1 w2 hgt hrng hneg
                    go_wp2_with fail
                    refine wp_region_grow (by kernel_rfl) (by kernel_rfl) ?_
                    repeat (go_big_quiet_step ((fail)))
                    refine wpQuiet_nil ?_
                    intro _ hw'
                    obtain ⟨g, hw''⟩ := hw'
                    subst hw''
                    go_wp2_with fail
                    go_roundw
                    case rel => exact ⟨m + 1, by omega, by go_num, by rw [HST.out], ExtC.ext⟩
                    case measure => simp [intOf]; omega
                  · have hst := pickR_less (G := G) hP hgt
                    have e2 : decide ((t * y1).tmod s > (t * y2).tmod s) = false := decide_eq_false (by rw [r1, r2] at hgt; exact hgt)
                    have hgt' : ¬ (t * y2).tmod s < (t * y1).tmod s := by rw [r1, r2] at hgt; exact hgt
                    have HST := Lib.hid (hst.trans hP)
                    rw [hP]
                    clear e1 hmG hwn hst hP hc hy1 hy2 r1 r2 m1 m2 n1 n2 w1 w2 hgt hrng hneg
                    go_wp2_with fail
                    refine wp_region_grow (by kernel_rfl) (by kernel_rfl) ?_
                    repeat (go_big_quiet_step ((fail)))
                    refine wpQuiet_nil ?_
                    intro _ hw'
                    obtain ⟨g, hw''⟩ := hw'
                    subst hw''
                    go_wp2_with fail
                    go_roundw
                    case rel => exact ⟨m + 1, by omega, by go_num, by rw [HST.out], ExtC.ext⟩
                    case measure => simp [intOf]; omega
            · have hmn2 : m = n := by omega
              subst hmn2
              rw [HTK.out.2.2]
              have ho1 := HO.out.ext (ExtC.ext : Ext g2.fin g3.fin)
              have hr1 := HR.out.ext (ExtC.ext : Ext g2.fin g3.fin)
              have c1 := hr1.cell p (by rw [gavB_length]; exact ht2')
              have c2 := hr1.frozen p
              have ho2 := ho1.setCell (n := gb) (o := p) (s := none) (u := .bool true) (.inr (Nat.le_refl _))
              have hr2 := hr1.store p true
              obtain ⟨c3, c4, iw2⟩ := ho2.cellF p (by rw [outQ_length]; exact ht2')
              have hbd := outQ_bd HSO.out.1 G p (by rw [outQ_length, HN.out.1]; exact ht2')
              rw [outQ_get, if_neg HTK.out.2.1, Int.add_zero] at c3 hbd
              have ho3 := ho2.put p (qOf t ws p + 1)
              have hr3 := hr2.rng ((Rng.refl og (og + 1) _).setCell (p := ⟨og, p, none⟩) (Nat.le_refl og) (Nat.lt_succ_self og) (.int .i64 (qOf t ws p + 1))) (by omega)
              rw [← gavB_step] at hr3
              rw [← outQ_step] at ho3
              obtain ⟨z, hz⟩ : ∃ z, qOf t ws p = z := ⟨_, rfl⟩
              rw [hz] at c3 hbd ho3 hr3
              have z1 : IntKind.i64.wrap (z + 1) = z + 1 := IntWalk.i64_in _ (by omega)
              have iw : InW gb g3.fin := ⟨hr1.len.2⟩
              have HO3 := Lib.hid (And.intro ho3 hr3)
              clear ho1 hr1 ho2 hr2 ho3 hr3 hz
              go_wp2_with fail
              exact ⟨⟨k + 1, by omega, by congr 1; omega, ((ExtC.ext : Ext w g3.fin).setCell hgw _).setCell hogl _, Lib.hid (by rw [HTK.out.1]; exact HO3.out.1), Lib.hid (by rw [HTK.out.1]; exact HO3.out.2)⟩, by simp [intOf]; omega⟩
        · have hkl : k = Lf := by omega
          subst hkl
          go_wp2_with fail
          have hxe : xs = outQ (qOf t ws) n ((ordL (rOf t ws) n).take k) := by rw [HSO.out.2.1]; unfold soX; rw [HN.out.1, HN.out.2]
          refine bodyPost_ret (v := .tuple #[.slice (some ⟨og, 0, none⟩) n oc, .bool true]) (by simp [results, Try.results6, go_sem]) rfl ?_
          exact ⟨_, rfl, by rw [hxe]; exact (HO.out.ext ExtC.ext).mono (Nat.le_refl _) (by have := (HR.out.ext (ExtC.ext : Ext g2.fin g2.fin)).len; omega), ExtC.ext⟩
end Go.Proofs.Ytomkhjcejjkelaa
