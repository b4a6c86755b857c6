/- The panel that a ticket draws: both sides. -/
import Derived.Test.YtoedphgoaifojaaTickets
namespace Go.Proofs.Ytoedphgoaifojaa
open Go.RowKit

def tkAt : List Int → Int → Nat → Option Nat
  | [], _, _ => none
  | x :: l, t, k => if t < x then some k else tkAt l (t - x) (k + 1)
theorem tkAt_step {ts : List Int} {k : Nat} (h : k < ts.length) (t : Int) : tkAt (ts.drop k) t k = if t < ts[k] then some k else tkAt (ts.drop (k + 1)) (t - ts[k]) (k + 1) := by
  rw [List.drop_eq_getElem_cons h]; rfl
open Classical in
noncomputable def ptR (pe sz : Int) (L : List QD) (ts : List Int) (t : Int) : Option (List Int) := if VtP pe sz L ts ∧ 0 ≤ t then (tkAt ts t 0).map (fun k => (plX pe sz L).getD k []) else none
theorem ptR_no {pe sz : Int} {L : List QD} {ts : List Int} {t : Int} {b : Bool} {xs : List Int} (h : ¬ (VtP pe sz L ts ∧ 0 ≤ t)) (hb : (ptR pe sz L ts t).isSome = b) (hxs : (ptR pe sz L ts t).getD [] = xs) : b = false ∧ xs = [] := by
  have e : ptR pe sz L ts t = none := if_neg h
  rw [e] at hb hxs
  exact ⟨hb.symm, hxs.symm⟩
theorem ptR_yes {pe sz : Int} {L : List QD} {ts : List Int} {t : Int} {b : Bool} {xs : List Int} (h : VtP pe sz L ts ∧ 0 ≤ t) (hb : (ptR pe sz L ts t).isSome = b) (hxs : (ptR pe sz L ts t).getD [] = xs) :
    (tkAt ts t 0 = none → b = false ∧ xs = []) ∧ ∀ k, tkAt ts t 0 = some k → b = true ∧ xs = (plX pe sz L).getD k [] := by
  have e : ptR pe sz L ts t = (tkAt ts t 0).map (fun k => (plX pe sz L).getD k []) := if_pos h
  rw [e] at hb hxs
  refine ⟨fun h => ?_, fun k h => ?_⟩
  · rw [h] at hb hxs; exact ⟨hb.symm, hxs.symm⟩
  · rw [h] at hb hxs; exact ⟨hb.symm, hxs.symm⟩
theorem ptX_small {pe sz : Int} {L : List QD} {ts : List Int} {t : Int} : ((ptR pe sz L ts t).getD []).length ≤ 7 := by
  unfold ptR
  split
  · cases h : tkAt ts t 0 with
    | none => simp
    | some k =>
      simp only [Option.map_some, Option.getD_some]
      by_cases hk : k < (plX pe sz L).length
      · exact (plX_few (pe := pe) (sz := sz) (L := L)).2 _ (by simp [hk])
      · simp [List.getElem?_eq_none (show (plX pe sz L).length ≤ k by omega)]
  · simp

set_option maxHeartbeats 4000000 in
set_option maxRecDepth 100000 in
theorem impl_PanelOfTicket' (pe sz : Int) (qv u : Value) (t : Int) (L : List QD) (ts : List Int) (w : World) (hq : RQ w qv L) (hu : RI w u ts) (hs : ShortQ L) (hxl : ts.length ≤ 1048576) (ht : -9223372036854775808 ≤ t ∧ t ≤ 9223372036854775807) (b : Bool) (hb : (ptR pe sz L ts t).isSome = b) (xs : List Int) (hxs : (ptR pe sz L ts t).getD [] = xs) :
    Calls Try.prog 45 #[.agg #[.int .i64 pe, .int .i64 sz, qv], u, .int .i64 t] w fun e w' => ∃ v, e = .returned (.tuple #[v, .bool b]) ∧ OwnI w.heap.size w'.heap.size w' v xs ∧ Ext w w' := by
  obtain ⟨p, c, rfl, -⟩ := hq.form
  obtain ⟨up, uc, rfl, -, huq⟩ := hu.form
  have HU := Lib.hid huq
  have HBX := Lib.hid (box_pool w pe sz (.slice p L.length c) 29)
  obtain ⟨q0, hq0⟩ := boolOf (VtP pe sz L ts)
  have HV := fun x (hx : Ext w x) => impl_ValidTickets' pe sz _ _ L ts x (hq.ext hx) (hu.ext hx) hs hxl q0 hq0
  have htr : -9223372036854775808 ≤ t ∧ t ≤ 9223372036854775807 := ht
  clear hu huq ht
  cases q0
  · obtain ⟨rfl, rfl⟩ := ptR_no (fun h => by have := hq0.2 h.1; cases this) hb hxs
    clear hb hxs hq0 hq
    go_enter Try.func45, Try.ntmps45
    go_wp2_with (first | (go_at_call 38; (with_reducible refine (HV _ ExtC.ext).mono ?_); rintro e w' ⟨rfl, hx⟩; obtain ⟨g, rfl⟩ := hx.grow; clear hx))
    refine bodyPost_ret (v := .tuple #[.slice none 0 0, .bool false]) (by simp [results, Try.results45, go_sem]) rfl ⟨_, rfl, .inl ⟨rfl, rfl⟩, ExtC.ext⟩
  · have hvt := hq0.1 rfl
    by_cases h0 : t < 0
    · obtain ⟨rfl, rfl⟩ := ptR_no (fun h => by omega) hb hxs
      clear hb hxs hq0 hq hvt
      go_enter Try.func45, Try.ntmps45
      go_wp2_with (first | (go_at_call 38; (with_reducible refine (HV _ ExtC.ext).mono ?_); rintro e w' ⟨rfl, hx⟩; obtain ⟨g, rfl⟩ := hx.grow; clear hx))
      refine bodyPost_ret (v := .tuple #[.slice none 0 0, .bool false]) (by simp [results, Try.results45, go_sem]) rfl ⟨_, rfl, .inl ⟨rfl, rfl⟩, ExtC.ext⟩
    · have hres := ptR_yes ⟨hvt, by omega⟩ hb hxs
      obtain ⟨hok, htk⟩ := hvt
      obtain ⟨n, k0, rfl, rfl, h1, h2, h3⟩ := hok.nat
      obtain ⟨PL, hPL⟩ : ∃ PL, panelsL n k0 L = PL := ⟨_, rfl⟩
      rw [plX_yes hok, hPL] at hres htk
      have hpn := fun x (hx : Ext w x) => impl_panels n k0 (.slice p L.length c) L x (hq.ext hx) hok PL hPL
      have hpl : PL.length ≤ 35 := by rw [← hPL]; exact (panels_few h1 h2 h3).1
      have HR := Lib.hid (And.intro hres htk)
      have htl : ts.length = PL.length := htk.1
      have HTL := Lib.hid htl
      clear hb hxs hq0 hq hok htk hres hPL htl
      go_enter Try.func45, Try.ntmps45
      go_wp2_with (first | (go_at_call 38; (with_reducible refine (HV _ ExtC.ext).mono ?_); rintro e w' ⟨rfl, hx⟩; obtain ⟨g, rfl⟩ := hx.grow; clear hx) | (go_at_call 83; (with_reducible refine (hpn _ ExtC.ext).mono ?_); rintro e w' ⟨sg, sc, rfl, ho, hx⟩; obtain ⟨g1, rfl⟩ := hx.grow; clear hx; obtain ⟨isg, tv, ra, rb, hp⟩ := ho.parts; have HP := Lib.hid hp; clear hp ho))
      have hlo := (ExtC.ext : Ext w g.fin).size
      go_loopw [2, 21] (fun s i wr => ∃ (k : Nat) (t' : Int), k ≤ PL.length ∧ i = .int .i64 k ∧ s = .int .i64 t' ∧ 0 ≤ t' ∧ t' ≤ t ∧ Ext g1.fin wr ∧ Hid (tkAt ts t 0 = tkAt (ts.drop k) t' k)) (fun _ i _ => PL.length - (intOf i).toNat)
      case atStart => exact ⟨0, t, Nat.zero_le _, rfl, rfl, by omega, Int.le_refl _, Ext.refl _, Lib.hid rfl⟩
      case round =>
        obtain ⟨k, t', hk, rfl, rfl, ht0, ht1, hx, HI⟩ := hrel
        obtain ⟨g2, rfl⟩ := hx.grow; clear hx
        by_cases hlt : k < PL.length
        · have hkt : k < ts.length := by have := HTL.out; omega
          obtain ⟨b0, off, hp, ib, hc⟩ := HU.out (by omega)
          subst hp
          have d := hc k hkt
          obtain ⟨c1, c2, c3, c4⟩ := HP.out k hlt
          have HC := Lib.hid (And.intro c2 (And.intro c3 c4))
          have hst := tkAt_step hkt t'
          rw [← HI.out] at hst
          have hnn := (HR.out.2.2.1 k hkt).1
          obtain ⟨y, hy⟩ : ∃ y, ts[k] = y := ⟨_, rfl⟩
          rw [hy] at d hst hnn
          have HS := Lib.hid hst
          clear hc hy hst c2 c3 c4
          by_cases hd : t' < y
          · have e1 : decide (t' < y) = true := decide_eq_true hd
            have hsk : tkAt ts t 0 = some k := by rw [HS.out, if_pos hd]
            obtain ⟨rfl, hxk⟩ := HR.out.1.2 k hsk
            have hxx : xs = PL[k] := by rw [hxk]; simp [hlt]
            have HXX := Lib.hid hxx
            clear hsk hd hxx hxk
            go_wp2_with fail
            refine bodyPost_ret (v := .tuple #[tv k, .bool true]) (by simp [results, Try.results45, go_sem]) rfl ⟨_, rfl, ?_, ExtC.ext⟩
            obtain ⟨o1, o2, o3⟩ := HC.out
            rw [HXX.out]
            refine (o1.ext (ExtC.ext : Ext g1.fin _)).mono (by omega) ?_
            have := (ExtC.ext : Ext g1.fin g2.fin).size
            omega
          · have e1 : decide (t' < y) = false := decide_eq_false hd
            have hsk : tkAt ts t 0 = tkAt (ts.drop (k + 1)) (t' - y) (k + 1) := by rw [HS.out, if_neg hd]
            have z1 : IntKind.i64.wrap (t' - y) = t' - y := IntWalk.i64_in _ (by omega)
            have HSK := Lib.hid hsk
            clear hsk
            have hd2 : y ≤ t' := by omega
            clear hd
            go_wp2_with fail
            go_roundw
            case rel => exact ⟨k + 1, t' - y, by omega, by go_num, rfl, by omega, by omega, ExtC.ext, HSK⟩
            case measure => simp [intOf]; omega
        · have hkn : k = PL.length := by omega
          have hsn : tkAt ts t 0 = none := by
            rw [HI.out, List.drop_of_length_le (by have := HTL.out; omega)]; rfl
          obtain ⟨rfl, rfl⟩ := HR.out.1.1 hsn
          clear hsn
          go_wp2_with fail
          refine bodyPost_ret (v := .tuple #[.slice none 0 0, .bool false]) (by simp [results, Try.results45, go_sem]) rfl ⟨_, rfl, .inl ⟨rfl, rfl⟩, ExtC.ext⟩

set_option maxHeartbeats 4000000 in
set_option maxRecDepth 100000 in
theorem spec_PanelOfTicket' (pe sz : Int) (qv u : Value) (t : Int) (L : List QD) (ts : List Int) (w : World) (hq : RQ w qv L) (hu : RI w u ts) (hs : ShortQ L) (hxl : ts.length ≤ 1048576) (ht : -9223372036854775808 ≤ t ∧ t ≤ 9223372036854775807) (b : Bool) (hb : (ptR pe sz L ts t).isSome = b) (xs : List Int) (hxs : (ptR pe sz L ts t).getD [] = xs) :
    Calls Try.prog 44 #[.agg #[.int .i64 pe, .int .i64 sz, qv], u, .int .i64 t] w fun e w' => ∃ v, e = .returned (.tuple #[v, .bool b]) ∧ OwnI w.heap.size w'.heap.size w' v xs ∧ Ext w w' := by
  obtain ⟨p, c, rfl, -⟩ := hq.form
  obtain ⟨up, uc, rfl, -, huq⟩ := hu.form
  have HU := Lib.hid (And.intro huq hu)
  have HBX := Lib.hid (box_pool w pe sz (.slice p L.length c) 29)
  obtain ⟨q0, hq0⟩ : ∃ q, okPB pe sz L = q := ⟨_, rfl⟩
  have HV := fun x (hy : Ext (w.alloc (.cells #[.int .i64 pe, .int .i64 sz, .slice p L.length c] 29)) x) (hx : Ext w x) => (spec_l04Is w.heap.size pe sz _ L x (HBX.out.ext hy) (hq.ext hx) hs).mono fun e w' (h : RetB _ e ∧ Ext x w') => (⟨h.1.toldP (okPB_iff hq0), h.2⟩ : e = .returned (.bool q0) ∧ Ext x w')
  have htr : -9223372036854775808 ≤ t ∧ t ≤ 9223372036854775807 := ht
  clear hu huq ht
  cases q0
  · obtain ⟨rfl, rfl⟩ := ptR_no (fun h => by have := (okPB_iff hq0).2 h.1.1; cases this) hb hxs
    clear hb hxs hq0 hq
    go_enter Try.func44, Try.ntmps44
    go_wp2_with (first | (go_at_call 54; (with_reducible refine (HV _ ExtC.ext ExtC.ext).mono ?_); rintro e w' ⟨rfl, hx⟩; obtain ⟨g, rfl⟩ := hx.grow; clear hx))
    refine bodyPost_ret (v := .tuple #[.slice none 0 0, .bool false]) (by simp [results, Try.results44, go_sem]) rfl ⟨_, rfl, .inl ⟨rfl, rfl⟩, ExtC.ext⟩
  · have hok := (okPB_iff hq0).1 rfl
    obtain ⟨n, k0, rfl, rfl, h1, h2, h3⟩ := hok.nat
    obtain ⟨PL, hPL⟩ : ∃ PL, panelsL n k0 L = PL := ⟨_, rfl⟩
    have hplx : plX n k0 L = PL := by rw [plX_yes hok, hPL]
    have hpn := fun x (hy : Ext (w.alloc (.cells #[.int .i64 (n : Int), .int .i64 (k0 : Int), .slice p L.length c] 29)) x) (hx : Ext w x) => spec_l04Panels w.heap.size n k0 (.slice p L.length c) L x (HBX.out.ext hy) (hq.ext hx) hok PL hPL
    have hpl : PL.length ≤ 35 := by rw [← hPL]; exact (panels_few h1 h2 h3).1
    obtain ⟨q1, hq1⟩ := boolOf (TkP PL.length ts)
    have hT := fun (v : Value) z (hv : RowsR intKind z v PL) (hx : Ext w z) => spec_l04Tickets v _ PL ts z hv (HU.out.2.ext hx) hpl hxl q1 hq1
    by_cases hgo : q1 = true ∧ 0 ≤ t
    · obtain ⟨rfl, h0⟩ := hgo
      have htk := hq1.1 rfl
      have hres := ptR_yes ⟨⟨hok, by rw [hplx]; exact htk⟩, h0⟩ hb hxs
      rw [hplx] at hres
      have HR := Lib.hid (And.intro hres htk)
      have HTL := Lib.hid htk.1
      clear hb hxs hq0 hq hok htk hres hPL hplx hq1
      go_enter Try.func44, Try.ntmps44
      go_wp2_with (first | (go_at_call 54; (with_reducible refine (HV _ ExtC.ext ExtC.ext).mono ?_); rintro e w' ⟨rfl, hx⟩; obtain ⟨g, rfl⟩ := hx.grow; clear hx) | (go_at_call 82; (with_reducible refine (hpn _ ExtC.ext ExtC.ext).mono ?_); rintro e w' ⟨sg, sc, rfl, ho, hx⟩; obtain ⟨g1, rfl⟩ := hx.grow; clear hx; have HO := Lib.hid ho; clear ho) | (go_at_call 81; (with_reducible refine (hT _ _ (HO.out.r.ext ExtC.ext) ExtC.ext).mono ?_); rintro e w' ⟨rfl, hx⟩; obtain ⟨g, rfl⟩ := hx.grow; clear hx))
      rcases HO.out with ⟨e, _⟩ | ⟨sg', sc', tv, ra, rb, e, -, -, -, isg, hp⟩
      · simp at e
      simp only [Value.slice.injEq, Option.some.injEq, Addr.mk.injEq, and_true, true_and] at e
      obtain ⟨rfl, rfl⟩ := e
      have isg2 : InW sg g1.fin := ⟨isg⟩
      have HP := Lib.hid hp
      clear hp isg
      have hlo := (ExtC.ext : Ext w g.fin).size
      go_loopw [2, 9] (fun s i wr => ∃ (k : Nat) (t' : Int), k ≤ PL.length ∧ i = .int .i64 k ∧ s = .int .i64 t' ∧ 0 ≤ t' ∧ t' ≤ t ∧ Ext g1.fin wr ∧ Hid (tkAt ts t 0 = tkAt (ts.drop k) t' k)) (fun _ i _ => PL.length - (intOf i).toNat)
      case atStart => exact ⟨0, t, Nat.zero_le _, rfl, rfl, by omega, Int.le_refl _, Ext.refl _, Lib.hid rfl⟩
      case round =>
        obtain ⟨k, t', hk, rfl, rfl, ht0, ht1, hx, HI⟩ := hrel
        obtain ⟨g2, rfl⟩ := hx.grow; clear hx
        by_cases hlt : k < PL.length
        · have hkt : k < ts.length := by have := HTL.out; omega
          obtain ⟨b0, off, hp, ib, hc⟩ := HU.out.1 (by omega)
          subst hp
          have d := hc k hkt
          obtain ⟨c1, c2, c3, c4⟩ := HP.out k hlt
          have HC := Lib.hid (And.intro c2 (And.intro c3 c4))
          have hst := tkAt_step hkt t'
          rw [← HI.out] at hst
          have hnn := (HR.out.2.2.1 k hkt).1
          obtain ⟨y, hy⟩ : ∃ y, ts[k] = y := ⟨_, rfl⟩
          rw [hy] at d hst hnn
          have HS := Lib.hid hst
          clear hc hy hst c2 c3 c4
          by_cases hd : t' < y
          · have e1 : decide (t' < y) = true := decide_eq_true hd
            have hsk : tkAt ts t 0 = some k := by rw [HS.out, if_pos hd]
            obtain ⟨rfl, hxk⟩ := HR.out.1.2 k hsk
            have hxx : xs = PL[k] := by rw [hxk]; simp [hlt]
            have HXX := Lib.hid hxx
            clear hsk hd hxx hxk
            go_wp2_with fail
            refine bodyPost_ret (v := .tuple #[tv k, .bool true]) (by simp [results, Try.results44, go_sem]) rfl ⟨_, rfl, ?_, ExtC.ext⟩
            obtain ⟨o1, o2, o3⟩ := HC.out
            rw [HXX.out]
            refine (o1.ext (ExtC.ext : Ext g1.fin _)).mono (by omega) ?_
            have := (ExtC.ext : Ext g1.fin g2.fin).size
            omega
          · have e1 : decide (t' < y) = false := decide_eq_false hd
            have hsk : tkAt ts t 0 = tkAt (ts.drop (k + 1)) (t' - y) (k + 1) := by rw [HS.out, if_neg hd]
            have z1 : IntKind.i64.wrap (t' - y) = t' - y := IntWalk.i64_in _ (by omega)
            have HSK := Lib.hid hsk
            clear hsk
            have hd2 : y ≤ t' := by omega
            clear hd
            go_wp2_with fail
            go_roundw
            case rel => exact ⟨k + 1, t' - y, by omega, by go_num, rfl, by omega, by omega, ExtC.ext, HSK⟩
            case measure => simp [intOf]; omega
        · have hkn : k = PL.length := by omega
          have hsn : tkAt ts t 0 = none := by
            rw [HI.out, List.drop_of_length_le (by have := HTL.out; omega)]; rfl
          obtain ⟨rfl, rfl⟩ := HR.out.1.1 hsn
          clear hsn
          go_wp2_with fail
          refine bodyPost_ret (v := .tuple #[.slice none 0 0, .bool false]) (by simp [results, Try.results44, go_sem]) rfl ⟨_, rfl, .inl ⟨rfl, rfl⟩, ExtC.ext⟩
    · obtain ⟨rfl, rfl⟩ := ptR_no (fun h => hgo ⟨hq1.2 (by have := h.1.2; rw [hplx] at this; exact this), h.2⟩) hb hxs
      have HGO := Lib.hid hgo
      clear hb hxs hq0 hq hok hPL hplx hq1 hgo
      by_cases h0 : t < 0
      · cases q1
        · go_enter Try.func44, Try.ntmps44
          go_wp2_with (first | (go_at_call 54; (with_reducible refine (HV _ ExtC.ext ExtC.ext).mono ?_); rintro e w' ⟨rfl, hx⟩; obtain ⟨g, rfl⟩ := hx.grow; clear hx) | (go_at_call 82; (with_reducible refine (hpn _ ExtC.ext ExtC.ext).mono ?_); rintro e w' ⟨sg, sc, rfl, ho, hx⟩; obtain ⟨g1, rfl⟩ := hx.grow; clear hx; have HO := Lib.hid ho; clear ho) | (go_at_call 81; (with_reducible refine (hT _ _ (HO.out.r.ext ExtC.ext) ExtC.ext).mono ?_); rintro e w' ⟨rfl, hx⟩; obtain ⟨g, rfl⟩ := hx.grow; clear hx))
          refine bodyPost_ret (v := .tuple #[.slice none 0 0, .bool false]) (by simp [results, Try.results44, go_sem]) rfl ⟨_, rfl, .inl ⟨rfl, rfl⟩, ExtC.ext⟩
        · go_enter Try.func44, Try.ntmps44
          go_wp2_with (first | (go_at_call 54; (with_reducible refine (HV _ ExtC.ext ExtC.ext).mono ?_); rintro e w' ⟨rfl, hx⟩; obtain ⟨g, rfl⟩ := hx.grow; clear hx) | (go_at_call 82; (with_reducible refine (hpn _ ExtC.ext ExtC.ext).mono ?_); rintro e w' ⟨sg, sc, rfl, ho, hx⟩; obtain ⟨g1, rfl⟩ := hx.grow; clear hx; have HO := Lib.hid ho; clear ho) | (go_at_call 81; (with_reducible refine (hT _ _ (HO.out.r.ext ExtC.ext) ExtC.ext).mono ?_); rintro e w' ⟨rfl, hx⟩; obtain ⟨g, rfl⟩ := hx.grow; clear hx))
          refine bodyPost_ret (v := .tuple #[.slice none 0 0, .bool false]) (by simp [results, Try.results44, go_sem]) rfl ⟨_, rfl, .inl ⟨rfl, rfl⟩, ExtC.ext⟩
      · obtain rfl : q1 = false := by
          cases q1
          · rfl
          · exact absurd ⟨rfl, by omega⟩ HGO.out
        clear HGO
        go_enter Try.func44, Try.ntmps44
        go_wp2_with (first | (go_at_call 54; (with_reducible refine (HV _ ExtC.ext ExtC.ext).mono ?_); rintro e w' ⟨rfl, hx⟩; obtain ⟨g, rfl⟩ := hx.grow; clear hx) | (go_at_call 82; (with_reducible refine (hpn _ ExtC.ext ExtC.ext).mono ?_); rintro e w' ⟨sg, sc, rfl, ho, hx⟩; obtain ⟨g1, rfl⟩ := hx.grow; clear hx; have HO := Lib.hid ho; clear ho) | (go_at_call 81; (with_reducible refine (hT _ _ (HO.out.r.ext ExtC.ext) ExtC.ext).mono ?_); rintro e w' ⟨rfl, hx⟩; obtain ⟨g, rfl⟩ := hx.grow; clear hx))
        refine bodyPost_ret (v := .tuple #[.slice none 0 0, .bool false]) (by simp [results, Try.results44, go_sem]) rfl ⟨_, rfl, .inl ⟨rfl, rfl⟩, ExtC.ext⟩
end Go.Proofs.Ytoedphgoaifojaa
