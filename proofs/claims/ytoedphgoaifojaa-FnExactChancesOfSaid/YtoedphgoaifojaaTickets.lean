/- Whether numbers are tickets for the panels of a pool: both sides. -/
import Derived.Test.YtoedphgoaifojaaPanelsOf
namespace Go.Proofs.Ytoedphgoaifojaa
open Go.RowKit

def TkP (m : Nat) (ts : List Int) : Prop := ts.length = m ∧ (∀ k (h : k < ts.length), 0 ≤ ts[k] ∧ ts[k] ≤ 1000000) ∧ 1 ≤ ts.sum ∧ ts.sum ≤ 1000000
def VtP (pe sz : Int) (L : List QD) (ts : List Int) : Prop := OkP pe sz L ∧ TkP (plX pe sz L).length ts
theorem sum_take1 (ts : List Int) (k : Nat) (h : k < ts.length) : (ts.take (k + 1)).sum = (ts.take k).sum + ts[k] := by
  rw [List.take_succ_eq_append_getElem h, List.sum_append]; simp
theorem sum_small {ts : List Int} {M : Int} (hM : 0 ≤ M) : ∀ k, k ≤ ts.length → (∀ j (h : j < ts.length), j < k → 0 ≤ ts[j] ∧ ts[j] ≤ M) → 0 ≤ (ts.take k).sum ∧ (ts.take k).sum ≤ M * k
  | 0, _, _ => by simp
  | k + 1, hk, h => by
    have ih := sum_small hM k (by omega) (fun j hj hjk => h j hj (by omega))
    have h1 := h k (by omega) (by omega)
    rw [sum_take1 ts k (by omega)]
    have e : M * ((k + 1 : Nat) : Int) = M * k + M := by rw [show ((k + 1 : Nat) : Int) = (k : Int) + 1 by omega, Int.mul_add, Int.mul_one]
    omega

set_option maxHeartbeats 4000000 in
theorem spec_l04Tickets (v u : Value) (PL : List (List Int)) (ts : List Int) (w : World) (hv : RowsR intKind w v PL) (hu : RI w u ts) (hpl : PL.length ≤ 35) (hxl : ts.length ≤ 1048576) (b : Bool) (hb : b = true ↔ TkP PL.length ts) :
    Calls Try.prog 81 #[v, u] w fun e w' => e = .returned (.bool b) ∧ Ext w w' := by
  obtain ⟨vp, vc, rfl, -, -⟩ := hv.form
  obtain ⟨up, uc, rfl, -, hq⟩ := hu.form
  have HQ := Lib.hid hq
  have HB := Lib.hid hb
  clear hv hu hq hb
  have hfin : ∀ q : Bool, (q = true ↔ TkP PL.length ts) → q = b := fun q hq => by rw [Bool.eq_iff_iff, hq, HB.out]
  have HFN := Lib.hid hfin; clear hfin
  by_cases hl : ts.length = PL.length
  · have e1 : ((ts.length : Int) != PL.length) = false := by simp [hl]
    have HLN := Lib.hid hl; clear hl
    go_enter Try.func81, Try.ntmps81
    go_wp2_with fail
    go_loopw [5, 6] (fun s i wr => ∃ k : Nat, k ≤ ts.length ∧ i = .int .i64 k ∧ s = .int .i64 (ts.take k).sum ∧ Ext w wr ∧ Hid (∀ j (h : j < ts.length), j < k → 0 ≤ ts[j] ∧ ts[j] ≤ 1000000)) (fun _ i _ => ts.length - (intOf i).toNat)
    case atStart => exact ⟨0, Nat.zero_le _, rfl, by simp, Ext.refl _, Lib.hid fun j _ hj => absurd hj (by omega)⟩
    case round =>
      obtain ⟨k, hk, rfl, rfl, hx, HI⟩ := hrel
      obtain ⟨g0, rfl⟩ := hx.grow; clear hx
      have hsm := sum_small (M := 1000000) (by omega) k hk HI.out
      by_cases hlt : k < ts.length
      · obtain ⟨b0, off, hp, ib, hc⟩ := HQ.out (by omega)
        subst hp
        have d := hc k hlt
        have hst := sum_take1 ts k hlt
        obtain ⟨y, hy⟩ : ∃ y, ts[k] = y := ⟨_, rfl⟩
        rw [hy] at d hst
        obtain ⟨s0, hs0⟩ : ∃ s0, (ts.take k).sum = s0 := ⟨_, rfl⟩
        rw [hs0] at hst hsm ⊢
        have HY := Lib.hid (And.intro hy hst)
        clear hc hy hst hs0
        cases q1 : inB y 0 1000000
        · have Q := Lib.hid (inB_false.1 q1)
          go_wp2_with (first | (go_at_call 84; (with_reducible refine (spec_l00In _ _ _ _ (by assumption) _).mono ?_); rintro e w' ⟨rfl, hx⟩; obtain ⟨g, rfl⟩ := hx.grow; clear hx))
          go_ret
          exact ⟨ret_bool (HFN.out false ⟨fun h => (by cases h), fun h => absurd (by rw [← HY.out.1]; exact h.2.1 k hlt) Q.out⟩), ExtC.ext⟩
        · have Q := Lib.hid (inB_true.1 q1)
          have z1 : IntKind.i64.wrap (s0 + y) = s0 + y := IntWalk.i64_in _ (by have := Q.out; omega)
          go_wp2_with (first | (go_at_call 84; (with_reducible refine (spec_l00In _ _ _ _ (by assumption) _).mono ?_); rintro e w' ⟨rfl, hx⟩; obtain ⟨g, rfl⟩ := hx.grow; clear hx))
          go_roundw
          case rel =>
            refine ⟨k + 1, by omega, by go_num, by rw [HY.out.2], ExtC.ext, Lib.hid fun j hj hjk => ?_⟩
            by_cases e : j = k
            · subst e; rw [HY.out.1]; exact Q.out
            · exact HI.out j hj (by omega)
          case measure => simp [intOf]; omega
      · have hkn : k = ts.length := by omega
        subst hkn
        have HI2 := Lib.hid (fun j hj => HI.out j hj hj : ∀ j (h : j < ts.length), 0 ≤ ts[j] ∧ ts[j] ≤ 1000000)
        rw [List.take_length]
        obtain ⟨q, hq⟩ : ∃ q, inB ts.sum 1 1000000 = q := ⟨_, rfl⟩
        have hqb := HFN.out q (by
          subst hq
          rw [inB_true]
          exact ⟨fun h => ⟨HLN.out, HI2.out, h⟩, fun h => h.2.2⟩)
        subst hqb
        go_wp2_with (first | (go_at_call 84; (with_reducible refine (spec_l00In _ _ _ _ (by assumption) _).mono ?_); rintro e w' ⟨rfl, hx⟩; obtain ⟨g, rfl⟩ := hx.grow; clear hx))
        go_ret
        exact ⟨rfl, ExtC.ext⟩
  · have e1 : ((ts.length : Int) != PL.length) = true := by simp; omega
    go_enter Try.func81, Try.ntmps81
    go_wp2_with fail
    go_ret
    exact ⟨ret_bool (HFN.out false ⟨fun h => (by cases h), fun h => absurd h.1 hl⟩), ExtC.ext⟩

set_option maxHeartbeats 4000000 in
set_option maxRecDepth 100000 in
theorem impl_ValidTickets' (pe sz : Int) (qv u : Value) (L : List QD) (ts : List Int) (w : World) (hq : RQ w qv L) (hu : RI w u ts) (hs : ShortQ L) (hxl : ts.length ≤ 1048576) (b : Bool) (hb : b = true ↔ VtP pe sz L ts) :
    Calls Try.prog 38 #[.agg #[.int .i64 pe, .int .i64 sz, qv], u] w fun e w' => e = .returned (.bool b) ∧ Ext w w' := by
  obtain ⟨p, c, rfl, -⟩ := hq.form
  obtain ⟨up, uc, rfl, -, huq⟩ := hu.form
  have HU := Lib.hid huq
  have HB := Lib.hid hb
  have HBX := Lib.hid (box_pool w pe sz (.slice p L.length c) 29)
  obtain ⟨q0, hq0⟩ : ∃ q, okPB pe sz L = q := ⟨_, rfl⟩
  have HV := fun x (hx : Ext w x) => (impl_ValidPool pe sz _ L x (hq.ext hx) hs).mono fun e w' (h : RetB _ e ∧ Ext x w') => (⟨h.1.toldP (okPB_iff hq0), h.2⟩ : e = .returned (.bool q0) ∧ Ext x w')
  have hfin : ∀ q : Bool, (q = true ↔ VtP pe sz L ts) → q = b := fun q hq => by rw [Bool.eq_iff_iff, hq, HB.out]
  have HFN := Lib.hid hfin
  clear hu huq hb hfin
  cases q0
  · have hno : ¬ OkP pe sz L := fun h => by have := (okPB_iff hq0).2 h; cases this
    have hb0 := HFN.out false ⟨fun h => (by cases h), fun h => absurd h.1 hno⟩
    subst hb0
    clear hno hq hq0
    go_enter Try.func38, Try.ntmps38
    go_wp2_with (first | (go_at_call 17; (with_reducible refine (HV _ ExtC.ext).mono ?_); rintro e w' ⟨rfl, hx⟩; obtain ⟨g, rfl⟩ := hx.grow; clear hx))
    go_ret
    exact ⟨rfl, ExtC.ext⟩
  · have hok := (okPB_iff hq0).1 rfl
    obtain ⟨n, k0, rfl, rfl, h1, h2, h3⟩ := hok.nat
    obtain ⟨PL, hPL⟩ : ∃ PL, panelsL n k0 L = PL := ⟨_, rfl⟩
    have hpn := fun x (hx : Ext w x) => impl_panels n k0 (.slice p L.length c) L x (hq.ext hx) hok PL hPL
    have hpl : PL.length ≤ 35 := by rw [← hPL]; exact (panels_few h1 h2 h3).1
    have HK := Lib.hid (fun q hq => HFN.out q (by rw [hq]; unfold VtP; rw [plX_yes hok, hPL]; exact ⟨fun h => ⟨hok, h⟩, fun h => h.2⟩) : ∀ q : Bool, (q = true ↔ TkP PL.length ts) → q = b)
    clear hq hq0 hok hPL
    by_cases hl : ts.length = PL.length
    · have e1 : ((ts.length : Int) != PL.length) = false := by simp [hl]
      have HLN := Lib.hid hl; clear hl
      go_enter Try.func38, Try.ntmps38
      go_wp2_with fail
      refine Calls.mono (HV _ ExtC.ext) ?_
      rintro e w' ⟨rfl, hx⟩; obtain ⟨g, rfl⟩ := hx.grow; clear hx
      obtain ⟨ib, b0, b1, b2⟩ := HBX.out.ext (ExtC.ext : Ext _ g.fin)
      go_wp2_with (first | (go_at_call 83; (with_reducible refine (hpn _ ExtC.ext).mono ?_); rintro e w' ⟨sg, sc, rfl, ho, hx⟩; obtain ⟨g1, rfl⟩ := hx.grow; clear hx; clear ho))
      go_loopw [5, 21] (fun s i wr => ∃ k : Nat, k ≤ ts.length ∧ i = .int .i64 k ∧ s = .int .i64 (ts.take k).sum ∧ Ext w wr ∧ Hid (∀ j (h : j < ts.length), j < k → 0 ≤ ts[j] ∧ ts[j] ≤ 1000000)) (fun _ i _ => ts.length - (intOf i).toNat)
      case atStart => exact ⟨0, Nat.zero_le _, rfl, by simp, ExtC.ext, Lib.hid fun j _ hj => absurd hj (by omega)⟩
      case round =>
        obtain ⟨k, hk, rfl, rfl, hx, HI⟩ := hrel
        obtain ⟨g2, rfl⟩ := hx.grow; clear hx
        have hsm := sum_small (M := 1000000) (by omega) k hk HI.out
        by_cases hlt : k < ts.length
        · obtain ⟨b0, off, hp, ib, hc⟩ := HU.out (by omega)
          subst hp
          have d := hc k hlt
          have hst := sum_take1 ts k hlt
          obtain ⟨y, hy⟩ : ∃ y, ts[k] = y := ⟨_, rfl⟩
          rw [hy] at d hst
          obtain ⟨s0, hs0⟩ : ∃ s0, (ts.take k).sum = s0 := ⟨_, rfl⟩
          rw [hs0] at hst hsm ⊢
          have HY := Lib.hid (And.intro hy hst)
          clear hc hy hst hs0
          cases q1 : inB y 0 1000000
          · have Q := Lib.hid (inB_false.1 q1)
            go_wp2_with (first | (go_at_call 57; (with_reducible refine (impl_within _ _ _ _ (by assumption) _).mono ?_); rintro e w' ⟨rfl, hx⟩; obtain ⟨g, rfl⟩ := hx.grow; clear hx))
            go_ret
            exact ⟨ret_bool (HK.out false ⟨fun h => (by cases h), fun h => absurd (by rw [← HY.out.1]; exact h.2.1 k hlt) Q.out⟩), ExtC.ext⟩
          · have Q := Lib.hid (inB_true.1 q1)
            have z1 : IntKind.i64.wrap (s0 + y) = s0 + y := IntWalk.i64_in _ (by have := Q.out; omega)
            go_wp2_with (first | (go_at_call 57; (with_reducible refine (impl_within _ _ _ _ (by assumption) _).mono ?_); rintro e w' ⟨rfl, hx⟩; obtain ⟨g, rfl⟩ := hx.grow; clear hx))
            go_roundw
            case rel =>
              refine ⟨k + 1, by omega, by go_num, by rw [HY.out.2], ExtC.ext, Lib.hid fun j hj hjk => ?_⟩
              by_cases e : j = k
              · subst e; rw [HY.out.1]; exact Q.out
              · exact HI.out j hj (by omega)
            case measure => simp [intOf]; omega
        · have hkn : k = ts.length := by omega
          subst hkn
          have HI2 := Lib.hid (fun j hj => HI.out j hj hj : ∀ j (h : j < ts.length), 0 ≤ ts[j] ∧ ts[j] ≤ 1000000)
          rw [List.take_length]
          obtain ⟨q, hq⟩ : ∃ q, inB ts.sum 1 1000000 = q := ⟨_, rfl⟩
          have hqb := HK.out q (by
            subst hq
            rw [inB_true]
            exact ⟨fun h => ⟨HLN.out, HI2.out, h⟩, fun h => h.2.2⟩)
          subst hqb
          go_wp2_with (first | (go_at_call 57; (with_reducible refine (impl_within _ _ _ _ (by assumption) _).mono ?_); rintro e w' ⟨rfl, hx⟩; obtain ⟨g, rfl⟩ := hx.grow; clear hx))
          go_ret
          exact ⟨rfl, ExtC.ext⟩
    · have e1 : ((ts.length : Int) != PL.length) = true := by simp; omega
      have hb0 := HK.out false ⟨fun h => (by cases h), fun h => absurd h.1 hl⟩
      subst hb0
      go_enter Try.func38, Try.ntmps38
      go_wp2_with fail
      refine Calls.mono (HV _ ExtC.ext) ?_
      rintro e w' ⟨rfl, hx⟩; obtain ⟨g, rfl⟩ := hx.grow; clear hx
      obtain ⟨ib, b0, b1, b2⟩ := HBX.out.ext (ExtC.ext : Ext _ g.fin)
      go_wp2_with (first | (go_at_call 83; (with_reducible refine (hpn _ ExtC.ext).mono ?_); rintro e w' ⟨sg, sc, rfl, ho, hx⟩; obtain ⟨g1, rfl⟩ := hx.grow; clear hx; clear ho))
      go_ret
      exact ⟨rfl, ExtC.ext⟩

set_option maxHeartbeats 4000000 in
set_option maxRecDepth 100000 in
theorem spec_ValidTickets' (pe sz : Int) (qv u : Value) (L : List QD) (ts : List Int) (w : World) (hq : RQ w qv L) (hu : RI w u ts) (hs : ShortQ L) (hxl : ts.length ≤ 1048576) (b : Bool) (hb : b = true ↔ VtP pe sz L ts) :
    Calls Try.prog 37 #[.agg #[.int .i64 pe, .int .i64 sz, qv], u] w fun e w' => e = .returned (.bool b) ∧ Ext w w' := by
  obtain ⟨p, c, rfl, -⟩ := hq.form
  obtain ⟨up, uc, rfl, -, -⟩ := hu.form
  have HU := Lib.hid hu
  have HB := Lib.hid hb
  have HBX := Lib.hid (box_pool w pe sz (.slice p L.length c) 29)
  obtain ⟨q0, hq0⟩ : ∃ q, okPB pe sz L = q := ⟨_, rfl⟩
  have HV := fun x (hy : Ext (w.alloc (.cells #[.int .i64 pe, .int .i64 sz, .slice p L.length c] 29)) x) (hx : Ext w x) => (spec_l04Is w.heap.size pe sz _ L x (HBX.out.ext hy) (hq.ext hx) hs).mono fun e w' (h : RetB _ e ∧ Ext x w') => (⟨h.1.toldP (okPB_iff hq0), h.2⟩ : e = .returned (.bool q0) ∧ Ext x w')
  clear hu hb
  cases q0
  · have hno : ¬ OkP pe sz L := fun h => by have := (okPB_iff hq0).2 h; cases this
    have hb0 : b = false := by
      cases b
      · rfl
      · exact absurd (HB.out.1 rfl).1 hno
    subst hb0
    clear hno hq hq0
    go_enter Try.func37, Try.ntmps37
    go_wp2_with (first | (go_at_call 54; (with_reducible refine (HV _ ExtC.ext ExtC.ext).mono ?_); rintro e w' ⟨rfl, hx⟩; obtain ⟨g, rfl⟩ := hx.grow; clear hx))
    go_ret
    exact ⟨rfl, ExtC.ext⟩
  · have hok := (okPB_iff hq0).1 rfl
    obtain ⟨n, k0, rfl, rfl, h1, h2, h3⟩ := hok.nat
    obtain ⟨PL, hPL⟩ : ∃ PL, panelsL n k0 L = PL := ⟨_, rfl⟩
    have hpn := fun x (hy : Ext (w.alloc (.cells #[.int .i64 (n : Int), .int .i64 (k0 : Int), .slice p L.length c] 29)) x) (hx : Ext w x) => spec_l04Panels w.heap.size n k0 (.slice p L.length c) L x (HBX.out.ext hy) (hq.ext hx) hok PL hPL
    have hpl : PL.length ≤ 35 := by rw [← hPL]; exact (panels_few h1 h2 h3).1
    have HK : Hid (b = true ↔ TkP PL.length ts) := Lib.hid (by rw [HB.out]; unfold VtP; rw [plX_yes hok, hPL]; exact ⟨fun h => h.2, fun h => ⟨hok, h⟩⟩)
    clear hq hq0 hok hPL
    go_enter Try.func37, Try.ntmps37
    go_wp2_with (first | (go_at_call 54; (with_reducible refine (HV _ ExtC.ext ExtC.ext).mono ?_); rintro e w' ⟨rfl, hx⟩; obtain ⟨g, rfl⟩ := hx.grow; clear hx) | (go_at_call 82; (with_reducible refine (hpn _ ExtC.ext ExtC.ext).mono ?_); rintro e w' ⟨sg, sc, rfl, ho, hx⟩; obtain ⟨g1, rfl⟩ := hx.grow; clear hx; have HO := Lib.hid ho.r; clear ho) | (go_at_call 81; (with_reducible refine (spec_l04Tickets _ _ PL ts _ (HO.out.ext ExtC.ext) (HU.out.ext ExtC.ext) hpl hxl b HK.out).mono ?_); rintro e w' ⟨rfl, hx⟩; obtain ⟨g, rfl⟩ := hx.grow; clear hx))
    go_ret
    exact ⟨rfl, ExtC.ext⟩
end Go.Proofs.Ytoedphgoaifojaa
