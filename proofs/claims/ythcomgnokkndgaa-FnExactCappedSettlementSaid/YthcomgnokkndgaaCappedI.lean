/- A settlement with a limit, the program's side: impl.CappedSettlement. -/
import Derived.Test.YthcomgnokkndgaaCappedQ
import Derived.Test.YthcomgnokkndgaaMostS
namespace Go.Proofs.Ythcomgnokkndgaa
open Go.RowKit

theorem OwnR.setNil' {lo hi g c n : Nat} {w : World} {L : List (List Int)} (h : OwnR intKind 24 lo hi w (.slice (some ⟨g, 0, none⟩) n c) L) (m : Nat) (hm : m < n) :
    OwnR intKind 24 lo hi (w.setCell ⟨g, m, none⟩ (.slice none 0 0)) (.slice (some ⟨g, 0, none⟩) n c) (L.set m []) := by
  obtain ⟨rfl, -⟩ := h.at0
  exact h.setNil m hm
theorem OwnR.rowAt' {lo hi g c n : Nat} {w : World} {L : List (List Int)} (h : OwnR intKind 24 lo hi w (.slice (some ⟨g, 0, none⟩) n c) L) (m : Nat) (hm : m < n) :
    lo ≤ g ∧ g < hi ∧ InW g w ∧ w.frozen? ⟨g, m, none⟩ = false ∧ ∃ t a b, w.cell? ⟨g, m, none⟩ = some t ∧ OwnI a b w t (L.getD m []) ∧ lo ≤ a ∧ b ≤ hi ∧ (g < a ∨ b ≤ g) := by
  obtain ⟨rfl, -⟩ := h.at0
  have := h.rowAt m hm
  simpa [hm] using this
theorem take_step {n q : Nat} {E : List (List Int)} {lim most x : Int} {Td O : List Int} (K : TdOk n E Td) (hq : q < n) (hO : O = Td.take q) (hx : FnF (capStep n E lim most Td q) q = x) : (capStep n E lim most Td q).take (q + 1) = O ++ [x] := by
  have hl2 : (capStep n E lim most Td q).length = n := (K.step q).tl
  rw [List.take_succ_eq_append_getElem (by omega), hO]
  rw [FnF_at (by omega)] at hx
  rw [hx]
  congr 1
  unfold capStep
  split
  · rfl
  · rw [List.take_set_of_le (Nat.le_refl _)]
/-- The state after i ballots. -/
structure CpS (L : List VD) (E : List (List Int)) (lim most : Int) (n eg ec H lo i og oc st : Nat) (O Td : List Int) (w : World) : Prop where
  own : OwnR intKind 24 lo H w (.slice (some ⟨eg, 0, none⟩) n ec) (emod E Td)
  room : MapV w H (.int .i64 0) (fun e => .int .i64 (roomF (spL L) n Td lim e))
  out : RowI 2 lo w (.slice (some ⟨og, 0, none⟩) i oc) O
  ogH : H < og
  oeq : O = Td.take i
  teq : Td = capT n E lim most (td0 L) i
  seq : st + toldN n (td0 L) = toldN n Td
  ok : TdOk n E Td
  nov : ¬ Over n Td lim
  ref : Refi n E (td0 L) Td
  rest : ∀ z, i ≤ z → z < n → FnF Td z = FnF (td0 L) z

/-- .. inside the search for the end of ballot q. -/
structure LpS (L : List VD) (E : List (List Int)) (lim most : Int) (n eg ec H lo q og oc a b tc k : Nat) (tp : Option Addr) (O Td R : List Int) (w : World) : Prop where
  own : OwnR intKind 24 lo H w (.slice (some ⟨eg, 0, none⟩) n ec) ((emod E Td).set q [])
  room : MapV w H (.int .i64 0) (fun e => .int .i64 (roomF (spL L) n Td lim e))
  out : RowI 2 lo w (.slice (some ⟨og, 0, none⟩) q oc) O
  opt : OwnI a b w (.slice tp R.length tc) R
  pick : pickE n E Td lim most q R = pickE n E Td lim most q (R.drop k)

set_option maxHeartbeats 32000000 in
set_option maxRecDepth 100000 in
theorem impl_CappedSettlement' (v : Value) (lim : Int) (L : List VD) (w : World) (h : VS w v L) (hs : Short L) (b : Bool) (hb : capB L lim = b) (xs : List Int) (hxs : cpdX L lim = xs) :
    Calls Try.prog 7 #[v, .int .i64 lim] w fun e w' => ∃ v', e = .returned (.tuple #[v', .bool b]) ∧ OwnI w.heap.size w'.heap.size w' v' xs ∧ Ext w w' := by
  have RL := fun x (hx : Ext w x) => impl_isLimit v lim L x (h.ext hx) hs b hb
  cases b
  · have HN := Lib.hid (show xs = [] by rw [← hxs]; exact cpd_no fun hh => by rw [(capB_yes hh).1] at hb; cases hb)
    clear hb hxs
    go_enter Try.func7, Try.ntmps7
    go_wp2_with (first | (go_at_call 18; (with_reducible refine (RL _ ExtC.ext).mono ?_); rintro e w' ⟨rfl, hx⟩; obtain ⟨g, rfl⟩ := hx.grow; clear hx))
    refine bodyPost_ret (v := .tuple #[.slice none 0 0, .bool false]) (by simp [results, Try.results7, go_sem]) rfl ?_
    exact ⟨_, rfl, .inl ⟨rfl, HN.out⟩, ExtC.ext⟩
  obtain ⟨hok, h1, h2⟩ : CV L lim := Classical.byContradiction fun hh => by rw [(capB_no hh).1] at hb; cases hb
  have HX := Lib.hid (show cappedL L lim = xs by rw [← hxs, cpd_yes ⟨hok, h1, h2⟩])
  have hln := hok.2
  have RE := fun x (hx : Ext w x) => impl_allEnds v L x (h.ext hx) hs hok _ rfl
  have HEL := Lib.hid (allE_length L L.length)
  have HSP := Lib.hid (fun i (hi : i < L.length) e (he : e ∈ (allE L L.length).getD i []) => (by
    have hi2 : i < (allE L L.length).length := by rw [allE_length]; exact hi
    have he2 : e ∈ endsL L [] (i : Int) := by
      have a : (allE L L.length).getD i [] = (allE L L.length)[i] := by simp [hi2]
      rw [a, allE_at] at he; exact he
    have hr := endsL_range he2
    obtain ⟨en, hen⟩ := Int.eq_ofNat_of_zero_le hr.1
    subst hen
    rw [spL_nat (by omega)]
    exact ((mem_endsL hok (by omega) (by omega) _).1 he2).1 : spL L e = true))
  have HEM := Lib.hid (em1_all (L := L) (E := allE L L.length) (allE_length _ _))
  have HRM := Lib.hid (rm1_all (L := L) (lim := lim))
  have HNO := Lib.hid (td0_not (L := L) (lim := lim) h1)
  obtain ⟨E, hE⟩ : ∃ E, allE L L.length = E := ⟨_, rfl⟩
  have HTD := Lib.hid (td0_ok hok)
  unfold cappedL at HX
  rw [hE] at HTD HX HEL HEM
  simp only [hE] at RE HSP
  have hel : E.length = L.length := HEL.out
  obtain ⟨n, hn⟩ : ∃ n, L.length = n := ⟨_, rfl⟩
  obtain ⟨vb, vo, vc, rfl, ivb, hvc⟩ := h
  have HV := Lib.hid hvc
  rw [hn] at hln HTD HX HEL hel HEM HRM HNO
  rw [hn]
  simp only [hel, hn] at RE RL HSP
  have HLN := Lib.hid hn
  have HTL := Lib.hid (td0_length L)
  have hmm := @run_makeMap Try.prog
  clear hxs hE hok hvc hb hn hel hs
  go_enter Try.func7, Try.ntmps7
  go_wp2_with (first | (go_at_call 18; (with_reducible refine (RL _ ExtC.ext).mono ?_); rintro e w' ⟨rfl, hx⟩; obtain ⟨g, rfl⟩ := hx.grow; clear hx) | (go_at_call 19; (with_reducible refine (RE _ ExtC.ext).mono ?_); rintro e w' ⟨eg, ec, rfl, ho, hx⟩; obtain ⟨g1, rfl⟩ := hx.grow; clear hx; have HE := Lib.hid ho; clear ho RE RL))
  have hgw := (ExtC.ext : Ext w g.fin).size
  have hgw1 := (ExtC.ext : Ext w g1.fin).size
  go_loopw [29] (fun iv wr => ∃ i : Nat, i ≤ n ∧ iv = .int .i64 i ∧ Ext w wr ∧ Hid (OwnR intKind 24 w.heap.size g1.fin.heap.size wr (.slice (some ⟨eg, 0, none⟩) n ec) (em1 L E i)) ∧ Hid (MapV wr g1.fin.heap.size (.int .i64 0) (fun e => .int .i64 (rm1 L lim i e))) ∧ Hid (RowI 2 w.heap.size wr (.slice (some ⟨g1.fin.heap.size + 1, 0, none⟩) 0 0) [])) (fun i _ => n - (intOf i).toNat)
  case atStart =>
    refine ⟨0, Nat.zero_le _, rfl, ExtC.ext, Lib.hid ?_, Lib.hid ?_, Lib.hid ?_⟩
    · rw [em1_zero]
      exact (HE.out.mono hgw (Nat.le_refl _)).ext ExtC.ext
    · rw [rm1_zero]
      exact (MapV.made g1.fin _).ext ExtC.ext
    · have := World.ownsRow_made (e := 2) (size := 1) (base := w.heap.size) (g1.fin.alloc (.map #[] 0)) #[] 0 (by simp; omega) (by unfold maxLen; omega) (by rfl)
      simp only [World.size_alloc] at this
      exact this
  case round =>
    obtain ⟨i, hi, rfl, hx, HO, HM, HOT⟩ := hrel
    obtain ⟨g2, rfl⟩ := hx.grow; clear hx
    by_cases hin : i < n
    · obtain ⟨d1, t, d2, d2r⟩ := HV.out i (by have := HLN.out; omega)
      obtain ⟨tp0, tl0, tc0, rfl⟩ : ∃ p l c, t = .slice p l c := by obtain ⟨p, c, e, -⟩ := d2r.form; exact ⟨p, _, c, e⟩
      clear d2r
      obtain ⟨e1, e2, ieg, f1, t', a, b, d3, -⟩ := HO.out.rowAt' i hin
      have HAT := Lib.hid (show (At L (i : Int)).1 = (L[i]'(by have := HLN.out; omega)).1 by rw [At_nat (by have := HLN.out; omega)])
      cases hsp : (L[i]'(by have := HLN.out; omega)).1
      · rw [hsp] at d1 HAT
        clear hsp
        go_wp2_with fail
        go_roundw
        case rel => exact ⟨i + 1, by omega, by go_num, ExtC.ext, Lib.hid (by rw [em1_no HAT.out]; exact HO.out.ext ExtC.ext), Lib.hid (by rw [rm1_no HAT.out]; exact HM.out.ext ExtC.ext), Lib.hid (HOT.out.ext ExtC.ext)⟩
        case measure => simp [intOf]; omega
      · rw [hsp] at d1 HAT
        clear hsp
        have neg : NewB w eg := ⟨e1⟩
        go_wp2_with (first | (at_mapUpdate; refine wpList_mput ((HM.out.setCell (p := ⟨eg, i, none⟩) (by show eg ≠ g1.fin.heap.size; omega) (.slice none 0 0)).ext (ExtC.ext : Ext _ ((g2.fin.setCell ⟨eg, i, none⟩ (.slice none 0 0)).alloc (.cells #[.bool true, .slice tp0 tl0 tc0] 40)))) rfl _ _ _ 45 2 rfl Try.underlying45 rfl i (by omega) (.int .i64 (lim - 1)) rfl rfl ?_; intro w1 hm1 hr1 hz1; have HM1 := Lib.hid (And.intro hm1 hr1); clear hm1 hr1 hz1))
        go_roundw
        case rel =>
          obtain ⟨hm1, hr1⟩ := HM1.out
          refine ⟨i + 1, by omega, by go_num, Ext.rng (ExtC.ext : Ext w ((g2.fin.setCell ⟨eg, i, none⟩ (.slice none 0 0)).alloc (.cells #[.bool true, .slice tp0 tl0 tc0] 40))) hr1 hgw1, Lib.hid ?_, Lib.hid ?_, Lib.hid ?_⟩
          · rw [em1_yes HAT.out]
            exact ((HO.out.setNil' i hin).ext (ExtC.ext : Ext _ ((g2.fin.setCell ⟨eg, i, none⟩ (.slice none 0 0)).alloc (.cells #[.bool true, .slice tp0 tl0 tc0] 40)))).rng hr1 (.inl (Nat.le_refl _))
          · rw [rm1_yes HAT.out]
            exact hm1.congr fun j => by
              by_cases hj : j = (i : Int)
              · simp [hj]
              · simp [hj]
          · have a2 : Rng eg (eg + 1) g2.fin (g2.fin.setCell ⟨eg, i, none⟩ (.slice none 0 0)) := (Rng.refl _ _ _).setCell (p := ⟨eg, i, none⟩) (Nat.le_refl _) (Nat.lt_succ_self _) _
            exact ((HOT.out.turn a2 (by omega)).ext (ExtC.ext : Ext _ ((g2.fin.setCell ⟨eg, i, none⟩ (.slice none 0 0)).alloc (.cells #[.bool true, .slice tp0 tl0 tc0] 40)))).turn hr1 (by omega)
        case measure => simp [intOf]; omega
    · obtain rfl : i = n := by omega
      rw [HEM.out] at HO
      rw [HRM.out] at HM
      go_wp2_with fail
      refine Calls.mono (most_call HTD.out (fun i hi => HSP.out i hi) spL_nonneg HNO.out h1 h2 HO.out.r HM.out) ?_
      rintro e w' ⟨m0, rfl, hm0n, hmx0, hx⟩
      obtain ⟨g3, rfl⟩ := hx.grow; clear hx
      obtain ⟨most, hmost⟩ : ∃ m, mostX i E (td0 L) lim = m := ⟨_, rfl⟩
      have HMO := Lib.hid (show most = ((m0 + toldN i (td0 L) : Nat) : Int) by rw [← hmost]; exact mostX_max HNO.out hmx0)
      have HMX0 := Lib.hid hmx0
      rw [hmost] at HX
      clear hmost hmx0
      go_wp2_with fail
      go_loopw [8, 9, 49] (fun ov sv iv wr => ∃ (q og oc st : Nat) (O Td : List Int), q ≤ i ∧ iv = .int .i64 q ∧ ov = .slice (some ⟨og, 0, none⟩) q oc ∧ sv = .int .i64 st ∧ st ≤ q ∧ Ext w wr ∧ Hid (CpS L E lim most i eg ec g1.fin.heap.size w.heap.size q og oc st O Td wr)) (fun _ _ q _ => i - (intOf q).toNat)
      case atStart =>
        exact ⟨0, g1.fin.heap.size + 1, 0, 0, [], td0 L, Nat.zero_le _, rfl, rfl, rfl, Nat.le_refl _, ExtC.ext, Lib.hid ⟨HO.out.ext ExtC.ext, HM.out.ext ExtC.ext, HOT.out.ext ExtC.ext, by omega, by simp, rfl, by omega, HTD.out, HNO.out, Refi.refl, fun _ _ _ => rfl⟩⟩
      case round =>
        clear HO HM HOT
        obtain ⟨q, og, oc, st, O, Td, hq, rfl, rfl, rfl, hst, hx, HS⟩ := hrel
        obtain ⟨g4, rfl⟩ := hx.grow; clear hx
        by_cases hqi : q < i
        · have htl : Td.length = i := HS.out.ok.tl
          have hOl : O.length = q := by rw [HS.out.oeq, List.length_take]; omega
          have HTKL := Lib.hid (show Td.length = i from HS.out.ok.tl)
          have HOL := Lib.hid (show O.length = q by rw [HS.out.oeq, List.length_take]; have := HTKL.out; omega)
          obtain ⟨d1, t, d2, d2r⟩ := HV.out q (by have := HLN.out; omega)
          obtain ⟨tp0, tl0, tc0, rfl⟩ : ∃ p l c, t = .slice p l c := by obtain ⟨p, c, e, -⟩ := d2r.form; exact ⟨p, _, c, e⟩
          clear d2r
          obtain ⟨e1, e2, ieg, f1, t', a, b, d3, ho, hla, hbH, hab⟩ := HS.out.own.rowAt' q hqi
          rw [emod_at (by rw [HTD.out.el]; exact hqi)] at ho
          have HAT := Lib.hid (show (At L (q : Int)).1 = (L[q]'(by have := HLN.out; omega)).1 by rw [At_nat (by have := HLN.out; omega)])
          have HT0 := Lib.hid (show FnF Td q = FnF (td0 L) q from HS.out.rest q (Nat.le_refl _) hqi)
          have HTA := Lib.hid (td0_at (L := L) (i := q) (by have := HLN.out; omega))
          have neg : NewB w eg := ⟨e1⟩
          have HTKS := Lib.hid (fun x hx => take_step (lim := lim) (most := most) (x := x) HS.out.ok hqi HS.out.oeq hx)
          have HTQ := Lib.hid (show capStep i E lim most Td q = capT i E lim most (td0 L) (q + 1) by rw [HS.out.teq]; rfl)
          cases hsp : (L[q]'(by have := HLN.out; omega)).1
          · rw [hsp] at d1 HAT
            clear hsp
            have HM2 := Lib.hid (show FnF Td q = -2 by rw [HT0.out, HTA.out, HAT.out]; rfl)
            rw [if_pos HM2.out] at ho
            have HRL := Lib.hid (HTD.out.row q)
            have hRl : (E.getD q []).length ≤ 12 := by
              by_cases hqE : q < E.length
              · have := HTD.out.el12 q hqE; simpa [hqE] using this
              · simp [show E.length ≤ q by omega]
            have HRE := Lib.hid (fun e he => HSP.out q hqi e he)
            have HPK0 := Lib.hid (show pickE i E Td lim most q (E.getD q []) = FnF (capStep i E lim most Td q) q by
              unfold capStep
              rw [if_neg (by rw [HM2.out]; omega), FnF_set _ (by have := HTKL.out; omega), upd_same])
            have HCS := Lib.hid (show capStep i E lim most Td q = Td.set q (pickE i E Td lim most q (E.getD q [])) by unfold capStep; rw [if_neg (by rw [HM2.out]; omega)])
            obtain ⟨R, hR⟩ : ∃ R, E.getD q [] = R := ⟨_, rfl⟩
            have HRR := Lib.hid hR
            rw [hR] at ho hRl HRL HRE HPK0 HCS
            clear hR
            obtain ⟨tp, tc, rfl, -⟩ := ho.ri.form
            have HOP := Lib.hid ho
            clear ho
            go_wp2_with fail
            refine wp_region_grow (by kernel_rfl) (by kernel_rfl) ?_
            repeat (go_big_quiet_step (fail))
            refine wpQuiet_nil ?_
            intro _ hw'
            obtain ⟨g, hw''⟩ := hw'
            subst hw''
            go_wp2_with fail
            have HTR := Lib.hid (show Rng eg (eg + 1) g.fin (g.fin.setCell ⟨eg, q, none⟩ (.slice none 0 0)) from (Rng.refl _ _ _).setCell (p := ⟨eg, q, none⟩) (Nat.le_refl _) (Nat.lt_succ_self _) _)
            have HGG := Lib.hid (ExtC.ext : Ext g4.fin g.fin)
            go_loopw [9, 15, 66] (fun sv cv kv wr => ∃ k : Nat, k ≤ R.length ∧ kv = .int .i64 k ∧ sv = .int .i64 st ∧ cv = .int .i64 (-1) ∧ Ext w wr ∧ Hid (LpS L E lim most i eg ec g1.fin.heap.size w.heap.size q og oc a b tc k tp O Td R wr)) (fun _ _ k _ => R.length - (intOf k).toNat)
            case atStart =>
              have z2 := HS.out.ogH
              exact ⟨0, Nat.zero_le _, rfl, rfl, rfl, ExtC.ext, Lib.hid ⟨(HS.out.own.ext HGG.out).setNil' q hqi, (HS.out.room.ext HGG.out).setCell (p := ⟨eg, q, none⟩) (by show eg ≠ g1.fin.heap.size; omega) _, (HS.out.out.ext HGG.out).turn HTR.out (by omega), (HOP.out.ext HGG.out).setCell (by omega), rfl⟩⟩
            case round =>
              obtain ⟨k, hk, rfl, rfl, rfl, hx, HL⟩ := hrel
              obtain ⟨g6, rfl⟩ := hx.grow; clear hx
              by_cases hkl : k < R.length
              · obtain ⟨rg, hrg, hra, hrb, irg, d5⟩ : ∃ rg, tp = some ⟨rg, 0, none⟩ ∧ a ≤ rg ∧ rg < b ∧ InW rg g6.fin ∧ g6.fin.cell? ⟨rg, k, none⟩ = some (iv (R[k]'hkl)) := by
                  rcases HL.out.opt with ⟨q1, q2⟩ | ⟨gg, cc, e, r1, r2, r3⟩
                  · rw [q2] at hkl; simp at hkl
                  · simp only [Value.slice.injEq] at e
                    obtain ⟨e1, -, e2⟩ := e
                    subst e1 e2
                    have r4 : RowI 2 a g6.fin (.slice (some ⟨gg, 0, none⟩) R.length tc) R := r3
                    exact ⟨gg, rfl, r1, r2, ⟨r4.len.2⟩, r4.cell k hkl⟩
                subst hrg
                have hex := HRL.out (R[k]'hkl) (List.getElem_mem hkl)
                have HSE := Lib.hid (HRE.out (R[k]'hkl) (List.getElem_mem hkl))
                have HPK := Lib.hid (show pickE i E Td lim most q R = if mostX i E (Td.set q (R[k]'hkl)) lim < most then pickE i E Td lim most q (R.drop (k + 1)) else R[k]'hkl by
                  rw [HL.out.pick, List.drop_eq_getElem_cons hkl]; rfl)
                have HMR := Lib.hid (show R[k]'hkl ∈ E.getD q [] by rw [HRR.out]; exact List.getElem_mem hkl)
                obtain ⟨e, he⟩ : ∃ e, R[k]'hkl = e := ⟨_, rfl⟩
                rw [he] at d5 hex HSE HPK HMR
                clear he
                obtain ⟨en, hen'⟩ := Int.eq_ofNat_of_zero_le hex.1
                subst hen'
                have l1 := HL.out.room.look (t := 45) (e := 2) Try.underlying45 (zero_64 _) (en : Int) (by omega)
                have hr0 : 0 ≤ roomF (spL L) i Td lim en ∧ roomF (spL L) i Td lim en ≤ 12 ∧ roomF (spL L) i Td lim en = lim - cnt i (FnF Td) en := by
                  unfold roomF
                  rw [if_pos HSE.out]
                  have : (cnt i (FnF Td) (en : Int) : Int) ≤ lim := Int.not_lt.1 fun hh => HS.out.nov ⟨en, by omega, hh⟩
                  omega
                obtain ⟨r0, hr0'⟩ : ∃ r, roomF (spL L) i Td lim en = r := ⟨_, rfl⟩
                have HR0 := Lib.hid hr0'
                simp only [hr0'] at l1 hr0
                have HRC := Lib.hid hr0.2.2
                have hr1 : 0 ≤ r0 ∧ r0 ≤ 12 := ⟨hr0.1, hr0.2.1⟩
                clear hr0 hr0'
                have HOV := Lib.hid (over_set (lim := lim) (e := (en : Int)) hqi (by have := HTKL.out; omega) HM2.out HS.out.nov (by omega))
                by_cases hz : r0 = 0
                · have HPN := Lib.hid (show pickE i E Td lim most q R = pickE i E Td lim most q (R.drop (k + 1)) by
                    rw [HPK.out, if_pos]
                    rw [mostX_over (HOV.out.2 (by have := HRC.out; omega)), HMO.out]; omega)
                  have hz2 : (r0 == 0) = true := by simp [hz]
                  subst hz
                  go_wp2_with fail
                  go_roundw
                  case rel => exact ⟨k + 1, by omega, by go_num, rfl, rfl, ExtC.ext, Lib.hid ⟨HL.out.own, HL.out.room, HL.out.out, HL.out.opt, HPN.out⟩⟩
                  case measure => simp [intOf]; omega
                · have hz2 : (r0 == 0) = false := by simp [hz]
                  have HNV := Lib.hid (show ¬ Over i (Td.set q (en : Int)) lim from fun hh => by have := HOV.out.1 hh; have := HRC.out; omega)
                  go_wp2_with (first | (at_mapUpdate; refine wpList_mput HL.out.room rfl _ _ _ 45 2 rfl Try.underlying45 rfl en (by omega) (.int .i64 (r0 - 1)) rfl rfl ?_; intro w1 hm1 hr1 hz1; obtain ⟨g7, rfl⟩ := (Ext.rng (ExtC.ext : Ext w g6.fin) hr1 hgw1).grow; have HQ := Lib.hid (And.intro hm1 hr1); clear hm1 hr1 hz1))
                  have HTS := Lib.hid (HS.out.ok.set q (e := (en : Int)) (by omega) hex.2)
                  have HEM2 := Lib.hid (show (emod E Td).set q [] = emod E (Td.set q (en : Int)) from (emod_set (by have := HTKL.out; omega) (by omega)).symm)
                  have HRS := Lib.hid (room_set (sp := spL L) (lim := lim) (e := (en : Int)) hqi (by have := HTKL.out; omega) HM2.out (by omega) HSE.out spL_nonneg)
                  have HOW7 := Lib.hid (HL.out.own.rng HQ.out.2 (.inl (Nat.le_refl _)))
                  have HM7 := Lib.hid (HQ.out.1.congr (m' := fun e => .int .i64 (roomF (spL L) i (Td.set q (en : Int)) lim e)) fun j => by
                    rw [HRS.out, HR0.out]
                    by_cases hj : j = (en : Int)
                    · simp [hj]
                    · simp [hj])
                  refine Calls.mono (most_call HTS.out (fun i hi => HSP.out i hi) spL_nonneg HNV.out h1 h2 (by rw [← HEM2.out]; exact HOW7.out.r) HM7.out) ?_
                  rintro e' w4 ⟨m1, rfl, hm1n, hmx1, hx⟩
                  obtain ⟨g8, rfl⟩ := hx.grow; clear hx
                  have HTO := Lib.hid (show toldN i (Td.set q (en : Int)) = toldN i Td + 1 by rw [told_set hqi (by have := HTKL.out; omega) HM2.out, if_pos (by omega)])
                  have HREF := Lib.hid (HS.out.ref.set (e := (en : Int)) (by have := HTKL.out; omega) (by rw [← HT0.out]; exact HM2.out) (.inr HMR.out))
                  have HM1 := Lib.hid (show mostX i E (Td.set q (en : Int)) lim = ((m1 + toldN i (Td.set q (en : Int)) : Nat) : Int) from mostX_max HNV.out hmx1)
                  have HLE := Lib.hid (HREF.out.max_le hmx1 HMX0.out)
                  clear hmx1
                  by_cases heq : (st : Int) + 1 + m1 = m0
                  · have hb : ((st : Int) + 1 + (m1 : Int) == (m0 : Int)) = true := by simp [heq]
                    have HPE := Lib.hid (show pickE i E Td lim most q R = (en : Int) by
                      rw [HPK.out, if_neg]
                      rw [HM1.out, HMO.out, HTO.out]
                      have := HS.out.seq
                      omega)
                    clear heq
                    go_wp2_with (first | (at_builtin; refine app_num (w0 := w) (lo := w.heap.size) _ _ og oc q O ⟨g8.fin.heap.size, 0, none⟩ 1 ((en : Int)) rfl rfl HOL.out rfl (((HL.out.out.turn HQ.out.2 (by have := HS.out.ogH; omega)).ext (ExtC.ext : Ext g7.fin g8.fin)).ext ExtC.ext) rfl (by rw [add_plain', World.cell?_alloc_at _ _ _ _ rfl]; rfl) (by have := HOL.out; omega) ExtC.ext (Nat.le_refl _) ?_; intro og' oc' w2 hw' hrw hwb' hx; have HW2 := Lib.hid (And.intro hw' (And.intro hrw (And.intro hwb' hx))); clear hw' hrw hwb' hx))
                    go_roundw
                    case rel =>
                      obtain ⟨hw', hrw, hwb', hx⟩ := HW2.out
                      have z1 := HL.out.room.lt
                      have z2 := HS.out.ogH
                      have z3 := HQ.out.2.size
                      have z4 := (ExtC.ext : Ext g7.fin g8.fin).size
                      simp only [World.size_alloc] at hwb'
                      have hcs : capStep i E lim most Td q = Td.set q (en : Int) := by rw [HCS.out, HPE.out]
                      have hOw := ((HOW7.out.ext (ExtC.ext : Ext g7.fin (g8.fin.alloc (.cells #[.int .i64 en] 2))))).rng hrw (.inl (by omega))
                      rw [HEM2.out] at hOw
                      exact ⟨q + 1, og', oc', st + 1, O ++ [(en : Int)], Td.set q (en : Int), by omega, by go_num, rfl, by go_num, by omega, hx, Lib.hid ⟨hOw, (HM7.out.ext (ExtC.ext : Ext g7.fin (g8.fin.alloc (.cells #[.int .i64 en] 2)))).turn hrw (by omega), hw', by omega, by rw [← HTKS.out (en : Int) (by rw [← HPK0.out, HPE.out]), hcs], by rw [← HTQ.out, hcs], by rw [HTO.out]; have := HS.out.seq; omega, HTS.out, HNV.out, HREF.out, fun z hz hzi => by
                        rw [FnF_set _ (by have := HTKL.out; omega), upd_other _ (by omega)]
                        exact HS.out.rest z (by omega) hzi⟩⟩
                    case measure => simp [intOf]; omega
                  · have hb : ((st : Int) + 1 + (m1 : Int) == (m0 : Int)) = false := by simp [heq]
                    have HPN := Lib.hid (show pickE i E Td lim most q R = pickE i E Td lim most q (R.drop (k + 1)) by
                      rw [HPK.out, if_pos]
                      rw [HM1.out, HMO.out, HTO.out]
                      have a1 := HS.out.seq
                      have a2 := HLE.out
                      rw [HTO.out] at a2
                      omega)
                    clear heq
                    have HM8 := Lib.hid (HM7.out.ext (ExtC.ext : Ext g7.fin g8.fin))
                    have l2 := HM8.out.look (t := 45) (e := 2) Try.underlying45 (zero_64 _) (en : Int) (by omega)
                    have hrs : roomF (spL L) i (Td.set q (en : Int)) lim (en : Int) = r0 - 1 := by rw [HRS.out, HR0.out]; simp
                    rw [hrs] at l2
                    clear hrs
                    go_wp2_with (first | (at_mapUpdate; refine wpList_mput HM8.out rfl _ _ _ 45 2 rfl Try.underlying45 rfl en (by omega) (.int .i64 r0) rfl rfl ?_; intro w1 hm1 hr1 hz1; obtain ⟨g9, rfl⟩ := (Ext.rng (ExtC.ext : Ext w g8.fin) hr1 hgw1).grow; have HQ9 := Lib.hid (And.intro hm1 hr1); clear hm1 hr1 hz1))
                    go_roundw
                    case rel =>
                      have z2 := HS.out.ogH
                      have hx8 : Ext g7.fin g8.fin := ExtC.ext
                      refine ⟨k + 1, by omega, by go_num, rfl, rfl, ExtC.ext, Lib.hid ⟨(HOW7.out.ext hx8).rng HQ9.out.2 (.inl (Nat.le_refl _)), HQ9.out.1.congr fun j => ?_, ((HL.out.out.turn HQ.out.2 (by omega)).ext hx8).turn HQ9.out.2 (by omega), ((HL.out.opt.rng HQ.out.2 (.inl hbH)).ext hx8).rng HQ9.out.2 (.inl hbH), HPN.out⟩⟩
                      rw [HRS.out, HR0.out]
                      by_cases hj : j = (en : Int)
                      · subst hj; simp [HR0.out]
                      · simp [hj]
                    case measure => simp [intOf]; omega
              · have HPE := Lib.hid (show pickE i E Td lim most q R = -1 by rw [HL.out.pick, List.drop_of_length_le (by omega)]; rfl)
                go_wp2_with (first | (at_builtin; refine app_num (w0 := w) (lo := w.heap.size) _ _ og oc q O ⟨g6.fin.heap.size, 0, none⟩ 1 (-1) rfl rfl HOL.out rfl (HL.out.out.ext ExtC.ext) rfl (by rw [add_plain', World.cell?_alloc_at _ _ _ _ rfl]; rfl) (by have := HOL.out; omega) ExtC.ext (Nat.le_refl _) ?_; intro og' oc' w2 hw' hrw hwb' hx; have HW2 := Lib.hid (And.intro hw' (And.intro hrw (And.intro hwb' hx))); clear hw' hrw hwb' hx))
                go_roundw
                case rel =>
                  obtain ⟨hw', hrw, hwb', hx⟩ := HW2.out
                  have z1 := HL.out.room.lt
                  have z2 := HS.out.ogH
                  simp only [World.size_alloc] at hwb'
                  have hcs : capStep i E lim most Td q = Td.set q (-1) := by rw [HCS.out, HPE.out]
                  have hOw := (HL.out.own.ext (ExtC.ext : Ext g6.fin (g6.fin.alloc (.cells #[.int .i64 (-1)] 2)))).rng hrw (.inl (by omega))
                  rw [show (emod E Td).set q [] = emod E (Td.set q (-1)) from (emod_set (by have := HTKL.out; omega) (by omega)).symm] at hOw
                  have hrn := room_none (sp := spL L) (lim := lim) hqi (show q < Td.length by have := HTKL.out; omega) HM2.out spL_nonneg
                  have hto : toldN i (Td.set q (-1)) = toldN i Td := by rw [told_set hqi (by have := HTKL.out; omega) HM2.out, if_neg (by omega)]; rfl
                  exact ⟨q + 1, og', oc', st, O ++ [-1], Td.set q (-1), by omega, by go_num, rfl, rfl, by omega, hx, Lib.hid ⟨hOw, by rw [hrn]; exact (HL.out.room.ext (ExtC.ext : Ext g6.fin (g6.fin.alloc (.cells #[.int .i64 (-1)] 2)))).turn hrw (by omega), hw', by omega, by rw [← HTKS.out (-1) (by rw [← HPK0.out, HPE.out]), hcs], by rw [← HTQ.out, hcs], by rw [hto]; exact HS.out.seq, HS.out.ok.set q (by omega) (by omega), over_none hqi (by have := HTKL.out; omega) HM2.out HS.out.nov, HS.out.ref.set (by have := HTKL.out; omega) (by rw [← HT0.out]; exact HM2.out) (.inl rfl), fun z hz hzi => by
                    rw [FnF_set _ (by have := HTKL.out; omega), upd_other _ (by omega)]
                    exact HS.out.rest z (by omega) hzi⟩⟩
                case measure => simp [intOf]; omega
          · rw [hsp] at d1 HAT
            clear hsp
            have HMQ := Lib.hid (show FnF Td q = (q : Int) by rw [HT0.out, HTA.out, HAT.out]; rfl)
            rw [if_neg (by rw [HMQ.out]; omega)] at ho
            obtain ⟨tp, tc, rfl, -⟩ := ho.ri.form
            have hl0 : ([] : List Int).length = 0 := rfl
            rw [hl0] at d3
            clear ho hl0
            have HCS := Lib.hid (show capStep i E lim most Td q = Td by unfold capStep; rw [if_pos (by rw [HMQ.out]; omega)])
            go_wp2_with fail
            refine wp_region_grow (by kernel_rfl) (by kernel_rfl) ?_
            repeat (go_big_quiet_step (fail))
            refine wpQuiet_nil ?_
            intro _ hw'
            obtain ⟨g, hw''⟩ := hw'
            subst hw''
            go_wp2_with fail
            refine wp_loop_rounds 1 ?_; rw [rounds_succ]
            have HTR := Lib.hid (show Rng eg (eg + 1) g.fin (g.fin.setCell ⟨eg, q, none⟩ (.slice none 0 0)) from (Rng.refl _ _ _).setCell (p := ⟨eg, q, none⟩) (Nat.le_refl _) (Nat.lt_succ_self _) _)
            have HOT := Lib.hid (show RowI 2 w.heap.size (g.fin.setCell ⟨eg, q, none⟩ (.slice none 0 0)) (.slice (some ⟨og, 0, none⟩) q oc) O from (HS.out.out.ext (ExtC.ext : Ext g4.fin g.fin)).turn HTR.out (by have := HS.out.ogH; omega))
            have HZ := Lib.hid (ExtC.ext : Ext g4.fin g.fin).size
            go_wp2_with (first | (at_builtin; refine app_num (w0 := w) (lo := w.heap.size) _ _ og oc q O ⟨g.fin.heap.size, 0, none⟩ 1 (q : Int) rfl rfl HOL.out rfl (HOT.out.ext ExtC.ext) rfl (by rw [add_plain', World.cell?_alloc_at _ _ _ _ (by simp)]; rfl) (by have := HOL.out; omega) ExtC.ext (Nat.le_refl _) ?_; intro og' oc' w2 hw' hrw hwb' hx; have HW2 := Lib.hid (And.intro hw' (And.intro hrw (And.intro hwb' hx))); clear hw' hrw hwb' hx))
            go_roundw
            case rel =>
              obtain ⟨hw', hrw, hwb', hx⟩ := HW2.out
              have z1 := HS.out.room.lt
              have z2 := HS.out.ogH
              have z3 := HZ.out
              simp only [World.size_alloc, World.size_setCell] at hwb'
              have hOw := ((((HS.out.own.ext (ExtC.ext : Ext g4.fin g.fin)).setNil' q hqi).ext (ExtC.ext : Ext _ ((g.fin.setCell ⟨eg, q, none⟩ (.slice none 0 0)).alloc (.cells #[.int .i64 q] 2))))).rng hrw (.inl (by omega))
              have hMM := (((HS.out.room.ext (ExtC.ext : Ext g4.fin g.fin)).setCell (p := ⟨eg, q, none⟩) (by show eg ≠ g1.fin.heap.size; omega) (.slice none 0 0)).ext (ExtC.ext : Ext _ ((g.fin.setCell ⟨eg, q, none⟩ (.slice none 0 0)).alloc (.cells #[.int .i64 q] 2)))).turn hrw (by omega)
              have hem : (emod E Td).set q [] = emod E Td := by
                refine List.ext_getElem (by simp) fun j h1 h2 => ?_
                rw [List.getElem_set]
                split
                · rename_i hqj
                  subst hqj
                  have : (emod E Td)[q] = (emod E Td).getD q [] := by simp [h2]
                  rw [this, emod_at (by rw [HTD.out.el]; exact hqi), if_neg (by rw [HMQ.out]; omega)]
                · rfl
              rw [hem] at hOw
              exact ⟨q + 1, og', oc', st, O ++ [(q : Int)], Td, by omega, by go_num, rfl, rfl, by omega, hx, Lib.hid ⟨hOw, hMM, hw', by omega, by rw [← HTKS.out (q : Int) (by rw [HCS.out]; exact HMQ.out), HCS.out], by rw [← HTQ.out, HCS.out], HS.out.seq, HS.out.ok, HS.out.nov, HS.out.ref, fun z hz => HS.out.rest z (by omega)⟩⟩
            case measure => simp [intOf]; omega
        · obtain rfl : q = i := by omega
          have HF := Lib.hid (show O = xs by rw [HS.out.oeq, HS.out.teq, HX.out, ← HX.out, List.take_of_length_le (by rw [(HTD.out.upto q).tl]; exact Nat.le_refl _)])
          have hOl : O.length = q := by rw [HS.out.oeq, List.length_take, HS.out.ok.tl]; omega
          have HOL := Lib.hid hOl
          clear hOl
          go_wp2_with fail
          refine bodyPost_ret (v := .tuple #[.slice (some ⟨og, 0, none⟩) q oc, .bool true]) (by simp [results, Try.results7, go_sem]) rfl ?_
          have e := HF.out
          subst e
          have hr := HS.out.out
          rw [← HOL.out] at hr ⊢
          exact ⟨_, rfl, OwnI.of_row hr, ExtC.ext⟩
end Go.Proofs.Ythcomgnokkndgaa
