/- The chances of people under tickets: ChancesOf on both sides. -/
import Derived.Test.YtoedphgoaifojaaBound
import Derived.Test.YtoedphgoaifojaaRowI
import Derived.Test.YtoedphgoaifojaaFracMark
import Derived.Test.YtoedphgoaifojaaTail
namespace Go.Proofs.Ytoedphgoaifojaa
open Go.RowKit

def cAt (PL : List (List Int)) (ts : List Int) (m : Int) : Nat → Int
  | 0 => 0
  | i + 1 => cAt PL ts m i + if m ∈ PL.getD i [] then ts.getD i 0 else 0
def cntL (PL : List (List Int)) (ts : List Int) (n i : Nat) (S : List Int) (y : Int) : List Int := (List.range n).map fun m : Nat => cAt PL ts m i + if (m : Int) ∈ S then y else 0
theorem cntL_len (PL : List (List Int)) (ts : List Int) (n i : Nat) (S : List Int) (y : Int) : (cntL PL ts n i S y).length = n := by simp [cntL]
theorem cntL_get (PL : List (List Int)) (ts : List Int) (n i : Nat) (S : List Int) (y : Int) (m : Nat) (h : m < (cntL PL ts n i S y).length) : (cntL PL ts n i S y)[m] = cAt PL ts m i + if (m : Int) ∈ S then y else 0 := by simp [cntL]
theorem cntL_zero (PL : List (List Int)) (ts : List Int) (n : Nat) (y : Int) : cntL PL ts n 0 [] y = List.replicate n 0 := by
  apply List.ext_getElem
  · simp [cntL]
  · intro m h1 h2; simp [cntL, cAt]
theorem cntL_next (PL : List (List Int)) (ts : List Int) (n i : Nat) (z : Int) : cntL PL ts n i (PL.getD i []) (ts.getD i 0) = cntL PL ts n (i + 1) [] z := by
  apply List.ext_getElem
  · simp [cntL]
  · intro m h1 h2; rw [cntL_get, cntL_get]; simp [cAt]
theorem cntL_nil (PL : List (List Int)) (ts : List Int) (n i : Nat) (y z : Int) : cntL PL ts n i [] y = cntL PL ts n i [] z := by simp [cntL]
theorem cntL_step (PL : List (List Int)) (ts : List Int) (n i : Nat) (S : List Int) (y : Int) (x : Nat) (h : x < n) (hx : (x : Int) ∉ S) : (cntL PL ts n i S y).set x (cAt PL ts x i + y) = cntL PL ts n i (S ++ [(x : Int)]) y := by
  apply List.ext_getElem
  · simp [cntL]
  · intro m h1 h2
    rw [List.getElem_set]
    by_cases e : x = m
    · subst e
      rw [if_pos rfl, cntL_get]; simp
    · rw [if_neg e, cntL_get, cntL_get]
      have : ((m : Int) ∈ S ++ [(x : Int)]) ↔ ((m : Int) ∈ S) := by simp; omega
      simp only [this]
theorem cAt_bd {ts : List Int} (h : BndP 1000000 ts) (PL : List (List Int)) (m : Int) : ∀ i, 0 ≤ cAt PL ts m i ∧ cAt PL ts m i ≤ 1000000 * i
  | 0 => by simp [cAt]
  | i + 1 => by
    have ih := cAt_bd h PL m i
    have h1 := getD_bd h i
    unfold cAt
    split <;> omega
/-- The chances. -/
def chL (PL : List (List Int)) (ts : List Int) (n : Nat) : SD := (List.range n).map fun m : Nat => (redN (cAt PL ts m PL.length) ts.sum, redD (cAt PL ts m PL.length) ts.sum)
theorem chL_len (PL : List (List Int)) (ts : List Int) (n : Nat) : (chL PL ts n).length = n := by simp [chL]
theorem chL_succ (PL : List (List Int)) (ts : List Int) (n : Nat) : chL PL ts (n + 1) = chL PL ts n ++ [(redN (cAt PL ts n PL.length) ts.sum, redD (cAt PL ts n PL.length) ts.sum)] := by simp [chL, List.range_succ]
open Classical in
noncomputable def chX (pe sz : Int) (L : List QD) (ts : List Int) : SD := if VtP pe sz L ts then chL (plX pe sz L) ts pe.toNat else []
theorem chX_no {pe sz : Int} {L : List QD} {ts : List Int} (h : ¬ VtP pe sz L ts) : chX pe sz L ts = [] := if_neg h
theorem chX_yes {pe sz : Int} {L : List QD} {ts : List Int} (h : VtP pe sz L ts) : chX pe sz L ts = chL (plX pe sz L) ts pe.toNat := if_pos h
theorem chX_small {pe sz : Int} {L : List QD} {ts : List Int} : (chX pe sz L ts).length ≤ 7 := by
  by_cases h : VtP pe sz L ts
  · rw [chX_yes h, chL_len]; have := h.1.1; omega
  · rw [chX_no h]; simp
theorem own_frac_empty (w : World) (lo : Nat) (hl : lo ≤ w.heap.size) : OwnF lo (w.heap.size + 1) (w.alloc (.cells #[] 60)) (.slice (some ⟨w.heap.size, 0, none⟩) 0 0) [] := by
  have h := World.ownsRow_made (e := 60) (size := 2) (base := lo) w #[] 0 hl (by unfold maxLen; omega) (by rfl)
  have := OwnF.made h
  simpa using this
theorem cells_two (x : World) (a b : Int) (T : TypeId) : (x.alloc (.cells #[iv a, iv b] T)).cell? ((⟨x.heap.size, 0, none⟩ : Addr).add 0) = some (iv a) ∧ (x.alloc (.cells #[iv a, iv b] T)).cell? ((⟨x.heap.size, 0, none⟩ : Addr).add 1) = some (iv b) := by
  rw [add_plain', add_plain', World.cell?_alloc_at _ _ _ _ rfl, World.cell?_alloc_at _ _ _ _ rfl]; exact ⟨rfl, rfl⟩

set_option maxHeartbeats 8000000 in
set_option maxRecDepth 100000 in
theorem impl_ChancesOf' (pe sz : Int) (qv u : Value) (L : List QD) (ts : List Int) (w : World) (hq : RQ w qv L) (hu : RI w u ts) (hs : ShortQ L) (hxl : ts.length ≤ 1048576) (b : Bool) (hb : b = true ↔ VtP pe sz L ts) (xs : SD) (hxs : chX pe sz L ts = xs) :
    Calls Try.prog 50 #[.agg #[.int .i64 pe, .int .i64 sz, qv], u] w fun e w' => ∃ v, e = .returned (.tuple #[v, .bool b]) ∧ OwnF w.heap.size w'.heap.size w' v xs ∧ Ext w w' := by
  obtain ⟨p, c, rfl, -⟩ := hq.form
  obtain ⟨up, uc, rfl, -, huq⟩ := hu.form
  have HU := Lib.hid (And.intro huq hu)
  have HBX := Lib.hid (box_pool w pe sz (.slice p L.length c) 29)
  have HV := fun x (hx : Ext w x) => impl_ValidTickets' pe sz _ _ L ts x (hq.ext hx) (hu.ext hx) hs hxl b hb
  obtain ⟨i0, hi, hz0, hz1, hz2⟩ := info_parts Try.info_i64
  clear hu huq
  cases b
  · have hno : ¬ VtP pe sz L ts := fun h => by have := hb.2 h; cases this
    rw [chX_no hno] at hxs
    subst hxs
    clear hb hno hq
    go_enter Try.func50, Try.ntmps50
    go_wp2_with (first | (go_at_call 38; (with_reducible refine (HV _ ExtC.ext).mono ?_); rintro e w' ⟨rfl, hx⟩; obtain ⟨g, rfl⟩ := hx.grow; clear hx))
    refine bodyPost_ret (v := .tuple #[.slice none 0 0, .bool false]) (by simp [results, Try.results50, go_sem]) rfl ⟨_, rfl, .inl ⟨rfl, rfl⟩, ExtC.ext⟩
  · have hvt := hb.1 rfl
    rw [chX_yes hvt] at hxs
    obtain ⟨hok, htk⟩ := hvt
    obtain ⟨n, k0, rfl, rfl, h1, h2, h3⟩ := hok.nat
    obtain ⟨PL, hPL⟩ : ∃ PL, panelsL n k0 L = PL := ⟨_, rfl⟩
    rw [plX_yes hok, hPL] at htk hxs
    have hpn := fun x (hx : Ext w x) => impl_panels n k0 (.slice p L.length c) L x (hq.ext hx) hok PL hPL
    have hpf := panels_few (L := L) h1 h2 h3
    rw [hPL] at hpf
    have hpl : PL.length ≤ 35 := hpf.1
    obtain ⟨sm, hsm⟩ : ∃ s, ts.sum = s := ⟨_, rfl⟩
    have hsb : 1 ≤ sm ∧ sm ≤ 1000000 := by rw [← hsm]; exact htk.2.2
    have hbnd : BndP 1000000 ts := htk.2.1
    have HTT := fun x (hx : Ext w x) => impl_total (.slice up ts.length uc) ts x (HU.out.2.ext hx) hxl hbnd sm hsm
    rw [Int.toNat_natCast] at hxs
    have HR := Lib.hid (And.intro hpf.2 (And.intro htk.1 (And.intro hbnd (And.intro hsm hxs))))
    clear hb hq hok htk hPL hpf hbnd hsm hxs
    go_enter Try.func50, Try.ntmps50
    go_wp2_with fail
    refine Calls.mono (HV _ ExtC.ext) ?_
    rintro e w' ⟨rfl, hx⟩; obtain ⟨gv, rfl⟩ := hx.grow; clear hx
    obtain ⟨ib0, bb0, bb1, bb2⟩ := HBX.out.ext (ExtC.ext : Ext _ gv.fin)
    go_wp2_with (first | (at_make; refine wpList_make_full _ rfl _ _ 33 rfl gv.fin.heap.size 2 i0 (.int .i64 0) 1 Try.underlying33 hi hz0 hz1 _ _ _ _ n rfl rfl rfl rfl (by rw [hz2]; omega) (by unfold maxLen; omega) (Nat.le_refl _) ?_; intro w1 hown hgrow; have hx1 := grownBy_ext hgrow (fun k h => by cases h); have H00 := Lib.hid (row_zeros64 hown); clear hown hgrow; obtain ⟨gm, rfl⟩ := hx1.grow; clear hx1) | (go_at_call 83; (with_reducible refine (hpn _ ExtC.ext).mono ?_); rintro e w' ⟨sg, sc, rfl, ho, hx⟩; obtain ⟨g1, rfl⟩ := hx.grow; clear hx; obtain ⟨isg, tv, ra, rb, hp⟩ := ho.parts; have hsg := ho.at0; have HP := Lib.hid hp; clear hp ho))
    have hgm := (ExtC.ext : Ext gv.fin gm.fin).size
    have hX0 := H00.out.len
    have hlo := (ExtC.ext : Ext w gv.fin).size
    have H01 : Hid (RowI 2 gv.fin.heap.size g1.fin (.slice (some ⟨gv.fin.heap.size, 0, none⟩) n n) (cntL PL ts n 0 [] 0)) := Lib.hid (by rw [cntL_zero]; exact H00.out.ext ExtC.ext)
    clear H00
    go_loopw [24] (fun s wr => ∃ i : Nat, i ≤ PL.length ∧ s = .int .i64 i ∧ Rng gv.fin.heap.size (gv.fin.heap.size + 1) g1.fin wr ∧ Hid (RowI 2 gv.fin.heap.size wr (.slice (some ⟨gv.fin.heap.size, 0, none⟩) n n) (cntL PL ts n i [] 0))) (fun s _ => PL.length - (intOf s).toNat)
    case atStart => exact ⟨0, Nat.zero_le _, rfl, Rng.refl _ _ _, H01⟩
    case round =>
      clear H01
      obtain ⟨i, hi, rfl, hr, HC⟩ := hrel
      have hx0 : Ext w wr := Ext.rng (ExtC.ext : Ext w g1.fin) hr hlo
      obtain ⟨g2, rfl⟩ := hx0.grow
      clear hx0
      by_cases hlt : i < PL.length
      · obtain ⟨c1, c2, c3, c4⟩ := HP.out i hlt
        have hisg : InW sg g2.fin := ⟨Nat.lt_of_lt_of_le isg.lt hr.size⟩
        have d1 : g2.fin.cell? ⟨sg, i, none⟩ = some (tv i) := by rw [hr.cell isg.lt (.inr (by omega))]; exact c1
        have hrf := fun z (hz : Rng gv.fin.heap.size (gv.fin.heap.size + 1) g1.fin z) => (c2.rng hz (.inr (by omega))).ri
        have hrow := hrf g2.fin hr
        have ht := HR.out.1 PL[i] (List.getElem_mem hlt)
        have hgd : PL.getD i [] = PL[i] := by simp [hlt]
        obtain ⟨row, hrw⟩ : ∃ row, PL[i] = row := ⟨_, rfl⟩
        rw [hrw] at hrow ht hgd hrf
        have hit : i < ts.length := by have := HR.out.2.1; omega
        have hy0 := HR.out.2.2.1 i hit
        have hty : ts.getD i 0 = ts[i] := by simp [hit]
        obtain ⟨y, hy⟩ : ∃ y, ts[i] = y := ⟨_, rfl⟩
        rw [hy] at hy0 hty
        obtain ⟨b0, off, hpp, ib, hc⟩ := HU.out.1 (by omega)
        subst hpp
        have dt := hc i hit
        rw [hy] at dt
        obtain ⟨tp, tc, htk, -, hcx⟩ := hrow.form
        rw [htk] at d1 hrf
        have HS := Lib.hid (And.intro ht (And.intro hgd (And.intro hty (And.intro hrf hr))))
        have hrl : row.length ≤ 7 := by omega
        have H02 : Hid (RowI 2 gv.fin.heap.size g2.fin (.slice (some ⟨gv.fin.heap.size, 0, none⟩) n n) (cntL PL ts n i (row.take 0) y)) := Lib.hid (by rw [List.take_zero, cntL_nil PL ts n i y 0]; exact HC.out)
        clear hc hy hrw hrow hgd hty htk hcx c1 c2 c3 c4 ht HC hrf
        go_wp2_with fail
        go_loopw [31] (fun s wr => ∃ j : Nat, j ≤ row.length ∧ s = .int .i64 j ∧ Rng gv.fin.heap.size (gv.fin.heap.size + 1) g2.fin wr ∧ Hid (RowI 2 gv.fin.heap.size wr (.slice (some ⟨gv.fin.heap.size, 0, none⟩) n n) (cntL PL ts n i (row.take j) y))) (fun s _ => row.length - (intOf s).toNat)
        case atStart => exact ⟨0, Nat.zero_le _, rfl, Rng.refl _ _ _, H02⟩
        case round =>
          clear H02
          obtain ⟨j, hj, rfl, hr3, HC⟩ := hrel
          have hx3 : Ext w wr := Ext.rng (ExtC.ext : Ext w g2.fin) hr3 hlo
          obtain ⟨g3, rfl⟩ := hx3.grow
          clear hx3
          by_cases hjl : j < row.length
          · obtain ⟨tp', tc', hve, -, hcx⟩ := (HS.out.2.2.2.1 g3.fin (HS.out.2.2.2.2.trans hr3)).form
            simp only [Value.slice.injEq, true_and] at hve
            obtain ⟨rfl, rfl⟩ := hve
            obtain ⟨rb', ro, hpp, irb, hcy⟩ := hcx (by omega)
            subst hpp
            have d3 := hcy j hjl
            have hmem := (HS.out.1.2 j hjl).1
            have hnin : row[j] ∉ row.take j := fun hm => by
              obtain ⟨q, hq, hqe⟩ := List.mem_take_iff_getElem.1 hm
              have := setP_lt HS.out.1.2 j hjl q (by omega)
              omega
            have htake : row.take (j + 1) = row.take j ++ [row[j]] := List.take_succ_eq_append_getElem hjl
            obtain ⟨z, hz⟩ : ∃ z, row[j] = z := ⟨_, rfl⟩
            rw [hz] at d3 hmem hnin htake
            obtain ⟨mn, rfl⟩ := Int.eq_ofNat_of_zero_le hmem.1
            have hmn : mn < n := by omega
            have hcl : mn < (cntL PL ts n i (row.take j) y).length := by rw [cntL_len]; exact hmn
            have e1 := HC.out.cell mn hcl
            rw [cntL_get, if_neg hnin, Int.add_zero] at e1
            have e3 := HC.out.frozen mn
            have iw : InW gv.fin.heap.size g3.fin := ⟨HC.out.len.2⟩
            have hcb := cAt_bd HR.out.2.2.1 PL (mn : Int) i
            have hst := cntL_step PL ts n i (row.take j) y mn hmn hnin
            rw [← htake] at hst
            obtain ⟨C0, hC0⟩ : ∃ C0, cAt PL ts (mn : Int) i = C0 := ⟨_, rfl⟩
            rw [hC0] at e1 hcb hst
            have z1 : IntKind.i64.wrap (C0 + y) = C0 + y := IntWalk.i64_in _ (by omega)
            have HST := Lib.hid (And.intro hst hr3)
            clear hcx hcy hz hmem hnin htake hst hC0 hcl hr3
            go_wp2_with fail
            refine wp_region_tail 10 (by kernel_rfl) (by kernel_rfl) ?_
            simp only [List.take_succ_cons, List.take_zero, List.drop_succ_cons, List.drop_zero]
            repeat (go_big_quiet_step (fail))
            refine wpQuiet_nil ?_
            intro g
            go_wp2_with fail
            go_roundw
            case rel => exact ⟨j + 1, by omega, by go_num, (HST.out.2.trans (Rng.of_ext ExtC.ext)).setCell (p := ⟨gv.fin.heap.size, mn, none⟩) (Nat.le_refl _) (Nat.lt_succ_self _) _, Lib.hid (by rw [← HST.out.1]; exact (HC.out.ext (ExtC.ext : Ext g3.fin _)).store mn _)⟩
            case measure => simp [intOf]; omega
          · have hjn : j = row.length := by omega
            subst hjn
            have hnx := cntL_next PL ts n i 0
            rw [HS.out.2.1, HS.out.2.2.1] at hnx
            have HNX := Lib.hid (And.intro hnx hr3); clear hnx hr3
            go_wp2_with fail
            exact ⟨⟨i + 1, by omega, by go_num, HS.out.2.2.2.2.trans HNX.out.2, Lib.hid (by rw [← HNX.out.1]; have := HC.out; rw [List.take_length] at this; exact this)⟩, by simp [intOf]; omega⟩
      · have hin : i = PL.length := by omega
        subst hin
        have iw : InW gv.fin.heap.size g2.fin := ⟨HC.out.len.2⟩
        have HE := Lib.hid (own_frac_empty g2.fin g2.fin.heap.size (Nat.le_refl _))
        clear hr
        go_wp2_with fail
        go_loopw [11, 50] (fun o s wr => ∃ (k og oc : Nat), k ≤ n ∧ s = .int .i64 k ∧ o = .slice (some ⟨og, 0, none⟩) k oc ∧ Ext g2.fin wr ∧ Hid (OwnF g2.fin.heap.size wr.heap.size wr (.slice (some ⟨og, 0, none⟩) k oc) (chL PL ts k))) (fun _ s _ => n - (intOf s).toNat)
        case atStart => exact ⟨0, _, _, Nat.zero_le _, rfl, rfl, ExtC.ext, Lib.hid (by have := HE.out; simp only [World.size_alloc] at this ⊢; exact this)⟩
        case round =>
          clear HE
          obtain ⟨k, og, oc, hk, rfl, rfl, hx, HO⟩ := hrel
          obtain ⟨g4, rfl⟩ := hx.grow; clear hx
          by_cases hkn : k < n
          · have hcl : k < (cntL PL ts n PL.length [] 0).length := by rw [cntL_len]; exact hkn
            have e1 := HC.out.cell k hcl
            rw [cntL_get, if_neg (by simp), Int.add_zero] at e1
            have hcb := cAt_bd HR.out.2.2.1 PL (k : Int) PL.length
            have hsu := chL_succ PL ts k
            rw [HR.out.2.2.2.1] at hsu
            obtain ⟨C0, hC0⟩ : ∃ C0, cAt PL ts (k : Int) PL.length = C0 := ⟨_, rfl⟩
            rw [hC0] at e1 hcb hsu
            have HF := fun z => impl_fraction C0 sm (by omega) (by omega) (by omega) (by omega) z
            obtain ⟨un, hun⟩ : ∃ un, redN C0 sm = un := ⟨_, rfl⟩
            obtain ⟨ud, hud⟩ : ∃ ud, redD C0 sm = ud := ⟨_, rfl⟩
            rw [hun, hud] at HF hsu
            have HSU := Lib.hid hsu
            clear hcl hcb hsu hC0 hun hud
            go_wp2_with (first | (go_at_call 89; (with_reducible refine (HTT _ ExtC.ext).mono ?_); rintro e w' ⟨rfl, hx⟩; obtain ⟨g6, rfl⟩ := hx.grow; clear hx) | (go_at_call 90; (with_reducible refine (HF _).mono ?_); rintro e w' ⟨rfl, hx⟩; obtain ⟨g7, rfl⟩ := hx.grow; clear hx) | (at_builtin; refine app_frac (w0 := g2.fin) (lo := g2.fin.heap.size) _ _ og oc k (chL PL ts k) ⟨g7.fin.heap.size, 0, none⟩ 1 un ud rfl rfl (chL_len _ _ _) rfl (HO.out.ext ExtC.ext) rfl (cells_two _ _ _ _).1 (cells_two _ _ _ _).2 (by omega) ExtC.ext (Nat.le_refl _) ?_; intro g' c' w' ho hx; obtain ⟨g8, rfl⟩ := hx.grow; clear hx; have HO2 := Lib.hid ho; clear ho))
            go_roundw
            case rel => exact ⟨k + 1, g', c', by omega, by go_num, rfl, ExtC.ext, Lib.hid (by rw [HSU.out]; exact HO2.out)⟩
            case measure => simp [intOf]; omega
          · have hkn2 : k = n := by omega
            subst hkn2
            go_wp2_with fail
            refine bodyPost_ret (v := .tuple #[.slice (some ⟨og, 0, none⟩) k oc, .bool true]) (by simp [results, Try.results50, go_sem]) rfl ⟨_, rfl, ?_, ExtC.ext⟩
            rw [← HR.out.2.2.2.2]
            exact HO.out.mono (ExtC.ext : Ext w g2.fin).size (Nat.le_refl _)
set_option maxHeartbeats 8000000 in
set_option maxRecDepth 100000 in
theorem spec_ChancesOf' (pe sz : Int) (qv u : Value) (L : List QD) (ts : List Int) (w : World) (hq : RQ w qv L) (hu : RI w u ts) (hs : ShortQ L) (hxl : ts.length ≤ 1048576) (b : Bool) (hb : b = true ↔ VtP pe sz L ts) (xs : SD) (hxs : chX pe sz L ts = xs) :
    Calls Try.prog 49 #[.agg #[.int .i64 pe, .int .i64 sz, qv], u] w fun e w' => ∃ v, e = .returned (.tuple #[v, .bool b]) ∧ OwnF w.heap.size w'.heap.size w' v xs ∧ Ext w w' := by
  obtain ⟨p, c, rfl, -⟩ := hq.form
  obtain ⟨up, uc, rfl, -, huq⟩ := hu.form
  have HU := Lib.hid (And.intro huq hu)
  have HBX := Lib.hid (box_pool w pe sz (.slice p L.length c) 29)
  obtain ⟨q0, hq0⟩ : ∃ q, okPB pe sz L = q := ⟨_, rfl⟩
  have HV := fun x (hy : Ext (w.alloc (.cells #[.int .i64 pe, .int .i64 sz, .slice p L.length c] 29)) x) (hx : Ext w x) => (spec_l04Is w.heap.size pe sz _ L x (HBX.out.ext hy) (hq.ext hx) hs).mono fun e w' (h : RetB _ e ∧ Ext x w') => (⟨h.1.toldP (okPB_iff hq0), h.2⟩ : e = .returned (.bool q0) ∧ Ext x w')
  clear hu huq
  cases q0
  · have hno : ¬ VtP pe sz L ts := fun h => by have := (okPB_iff hq0).2 h.1; cases this
    rw [chX_no hno] at hxs
    subst hxs
    have hb0 : b = false := by
      cases b
      · rfl
      · exact absurd (hb.1 rfl) hno
    subst hb0
    clear hb hno hq hq0
    go_enter Try.func49, Try.ntmps49
    go_wp2_with (first | (go_at_call 54; (with_reducible refine (HV _ ExtC.ext ExtC.ext).mono ?_); rintro e w' ⟨rfl, hx⟩; obtain ⟨g, rfl⟩ := hx.grow; clear hx))
    refine bodyPost_ret (v := .tuple #[.slice none 0 0, .bool false]) (by simp [results, Try.results49, go_sem]) rfl ⟨_, rfl, .inl ⟨rfl, rfl⟩, ExtC.ext⟩
  · have hok := (okPB_iff hq0).1 rfl
    obtain ⟨n, k0, rfl, rfl, h1, h2, h3⟩ := hok.nat
    obtain ⟨PL, hPL⟩ : ∃ PL, panelsL n k0 L = PL := ⟨_, rfl⟩
    have hplx : plX n k0 L = PL := by rw [plX_yes hok, hPL]
    have hpn := fun x (hy : Ext (w.alloc (.cells #[.int .i64 (n : Int), .int .i64 (k0 : Int), .slice p L.length c] 29)) x) (hx : Ext w x) => spec_l04Panels w.heap.size n k0 (.slice p L.length c) L x (HBX.out.ext hy) (hq.ext hx) hok PL hPL
    have hpf := panels_few (L := L) h1 h2 h3
    rw [hPL] at hpf
    have hpl : PL.length ≤ 35 := hpf.1
    have hbt : b = true ↔ TkP PL.length ts := by rw [hb]; unfold VtP; rw [hplx]; exact ⟨fun h => h.2, fun h => ⟨hok, h⟩⟩
    have hT := fun (v : Value) z (hv : RowsR intKind z v PL) (hx : Ext w z) => spec_l04Tickets v _ PL ts z hv (HU.out.2.ext hx) hpl hxl b hbt
    cases b
    · have hno : ¬ VtP n k0 L ts := fun h => by have := hb.2 h; cases this
      rw [chX_no hno] at hxs
      subst hxs
      clear hb hno hq hq0 hok hPL hplx hpf hbt
      go_enter Try.func49, Try.ntmps49
      go_wp2_with (first | (go_at_call 54; (with_reducible refine (HV _ ExtC.ext ExtC.ext).mono ?_); rintro e w' ⟨rfl, hx⟩; obtain ⟨g, rfl⟩ := hx.grow; clear hx) | (go_at_call 82; (with_reducible refine (hpn _ ExtC.ext ExtC.ext).mono ?_); rintro e w' ⟨sg, sc, rfl, ho, hx⟩; obtain ⟨g1, rfl⟩ := hx.grow; clear hx; have HO := Lib.hid ho; clear ho) | (go_at_call 81; (with_reducible refine (hT _ _ (HO.out.r.ext ExtC.ext) ExtC.ext).mono ?_); rintro e w' ⟨rfl, hx⟩; obtain ⟨g, rfl⟩ := hx.grow; clear hx))
      refine bodyPost_ret (v := .tuple #[.slice none 0 0, .bool false]) (by simp [results, Try.results49, go_sem]) rfl ⟨_, rfl, .inl ⟨rfl, rfl⟩, ExtC.ext⟩
    · have htk := hbt.1 rfl
      rw [chX_yes (hb.1 rfl), hplx, Int.toNat_natCast] at hxs
      obtain ⟨sm, hsm⟩ : ∃ s, ts.sum = s := ⟨_, rfl⟩
      have hsb : 1 ≤ sm ∧ sm ≤ 1000000 := by rw [← hsm]; exact htk.2.2
      have hbnd : BndP 1000000 ts := htk.2.1
      have HR := Lib.hid (And.intro hpf.2 (And.intro htk.1 (And.intro hbnd (And.intro hsm hxs))))
      clear hb hq hq0 hok htk hPL hpf hbnd hsm hxs hbt hplx
      go_enter Try.func49, Try.ntmps49
      go_wp2_with (first | (go_at_call 54; (with_reducible refine (HV _ ExtC.ext ExtC.ext).mono ?_); rintro e w' ⟨rfl, hx⟩; obtain ⟨g, rfl⟩ := hx.grow; clear hx) | (go_at_call 82; (with_reducible refine (hpn _ ExtC.ext ExtC.ext).mono ?_); rintro e w' ⟨sg, sc, rfl, ho, hx⟩; obtain ⟨g1, rfl⟩ := hx.grow; clear hx; have HO := Lib.hid ho; clear ho) | (go_at_call 81; (with_reducible refine (hT _ _ (HO.out.r.ext ExtC.ext) ExtC.ext).mono ?_); rintro e w' ⟨rfl, hx⟩; obtain ⟨g, rfl⟩ := hx.grow; clear hx))
      rcases HO.out with ⟨e, _⟩ | ⟨sg', sc', tv, ra, rb, e, -, -, -, isg, hp⟩
      · simp at e
      simp only [Value.slice.injEq, Option.some.injEq, Addr.mk.injEq, and_true, true_and] at e
      obtain ⟨rfl, rfl⟩ := e
      have isg2 : InW sg g1.fin := ⟨isg⟩
      have HP := Lib.hid hp
      clear hp isg
      have HE := Lib.hid (own_frac_empty g1.fin g1.fin.heap.size (Nat.le_refl _))
      obtain ⟨ib0, bb0, bb1, bb2⟩ := HBX.out.ext (ExtC.ext : Ext (w.alloc (.cells #[.int .i64 (n : Int), .int .i64 (k0 : Int), .slice p L.length c] 29)) g1.fin)
      go_loopw [7, 8] (fun o s wr => ∃ (k og oc : Nat), k ≤ n ∧ s = .int .i64 k ∧ o = .slice (some ⟨og, 0, none⟩) k oc ∧ Ext g1.fin wr ∧ Hid (OwnF g1.fin.heap.size wr.heap.size wr (.slice (some ⟨og, 0, none⟩) k oc) (chL PL ts k))) (fun _ s _ => n - (intOf s).toNat)
      case atStart => exact ⟨0, _, _, Nat.zero_le _, rfl, rfl, ExtC.ext, Lib.hid (by have := HE.out; simp only [World.size_alloc] at this ⊢; exact this)⟩
      case round =>
        clear HE
        obtain ⟨k, og, oc, hk, rfl, rfl, hx, HO⟩ := hrel
        obtain ⟨g4, rfl⟩ := hx.grow; clear hx
        by_cases hkn : k < n
        · go_wp2_with fail
          go_loopw [9, 10, 11] (fun s a i wr => ∃ m : Nat, m ≤ PL.length ∧ i = .int .i64 m ∧ s = .int .i64 (cAt PL ts k m) ∧ a = .int .i64 (ts.take m).sum ∧ Ext g4.fin wr) (fun _ _ i _ => PL.length - (intOf i).toNat)
          case atStart => exact ⟨0, Nat.zero_le _, rfl, rfl, by simp, Ext.refl _⟩
          case round =>
            obtain ⟨m, hm, rfl, rfl, rfl, hx⟩ := hrel
            obtain ⟨g5, rfl⟩ := hx.grow; clear hx
            have hcb := cAt_bd HR.out.2.2.1 PL (k : Int) m
            have hsmm := sum_small (M := 1000000) (by omega) m (by have := HR.out.2.1; omega) (fun j h _ => HR.out.2.2.1 j h)
            by_cases hlt : m < PL.length
            · obtain ⟨c1, c2, c3, c4⟩ := HP.out m hlt
              have ht := HR.out.1 PL[m] (List.getElem_mem hlt)
              have hmt : m < ts.length := by have := HR.out.2.1; omega
              have hy0 := HR.out.2.2.1 m hmt
              have hst := sum_take1 ts m hmt
              have hcs : cAt PL ts (k : Int) (m + 1) = cAt PL ts (k : Int) m + if (k : Int) ∈ PL.getD m [] then ts.getD m 0 else 0 := rfl
              rw [show PL.getD m [] = PL[m] by simp [hlt], show ts.getD m 0 = ts[m] by simp [hmt]] at hcs
              obtain ⟨row, hrw⟩ : ∃ row, PL[m] = row := ⟨_, rfl⟩
              rw [hrw] at c2 ht hcs
              obtain ⟨y, hy⟩ : ∃ y, ts[m] = y := ⟨_, rfl⟩
              obtain ⟨b0, off, hpp, ib, hc⟩ := HU.out.1 (by omega)
              subst hpp
              have dt := hc m hmt
              rw [hy] at dt hy0 hst hcs
              obtain ⟨C0, hC0⟩ : ∃ C0, cAt PL ts (k : Int) m = C0 := ⟨_, rfl⟩
              rw [hC0] at hcb hcs ⊢
              obtain ⟨S0, hS0⟩ : ∃ S0, (ts.take m).sum = S0 := ⟨_, rfl⟩
              rw [hS0] at hst hsmm ⊢
              have z1 : IntKind.i64.wrap (C0 + y) = C0 + y := IntWalk.i64_in _ (by omega)
              have z2 : IntKind.i64.wrap (S0 + y) = S0 + y := IntWalk.i64_in _ (by omega)
              have HRI := Lib.hid c2.ri
              have hrl : row.length ≤ 7 := by omega
              cases q : decide ((k : Int) ∈ row)
              · have hni : (k : Int) ∉ row := by simpa using q
                rw [if_neg hni, Int.add_zero] at hcs
                have HCS := Lib.hid (And.intro hcs hst)
                clear hc hy hrw hC0 hS0 hst hcs c2 c3 c4 ht hni
                go_wp2_with (first | (go_at_call 72; (with_reducible refine (spec_l00Has _ row _ _ (by assumption) _ (HRI.out.ext ExtC.ext) (by omega)).mono ?_); rintro e w' ⟨rfl, hx⟩; obtain ⟨g, rfl⟩ := hx.grow; clear hx))
                go_roundw
                case rel => exact ⟨m + 1, by omega, by go_num, by rw [HCS.out.1], by rw [HCS.out.2], ExtC.ext⟩
                case measure => simp [intOf]; omega
              · have hni : (k : Int) ∈ row := by simpa using q
                rw [if_pos hni] at hcs
                have HCS := Lib.hid (And.intro hcs hst)
                clear hc hy hrw hC0 hS0 hst hcs c2 c3 c4 ht hni
                go_wp2_with (first | (go_at_call 72; (with_reducible refine (spec_l00Has _ row _ _ (by assumption) _ (HRI.out.ext ExtC.ext) (by omega)).mono ?_); rintro e w' ⟨rfl, hx⟩; obtain ⟨g, rfl⟩ := hx.grow; clear hx))
                go_roundw
                case rel => exact ⟨m + 1, by omega, by go_num, by rw [HCS.out.1], by rw [HCS.out.2], ExtC.ext⟩
                case measure => simp [intOf]; omega
            · have hmn : m = PL.length := by omega
              subst hmn
              have hts : (ts.take PL.length).sum = sm := by rw [← HR.out.2.1, List.take_length, HR.out.2.2.2.1]
              rw [hts]
              have hsu := chL_succ PL ts k
              rw [HR.out.2.2.2.1] at hsu
              obtain ⟨C0, hC0⟩ : ∃ C0, cAt PL ts (k : Int) PL.length = C0 := ⟨_, rfl⟩
              rw [hC0] at hcb hsu ⊢
              have HF := fun z => spec_l01Make_pos C0 sm (by omega) (by omega) (by omega) (by omega) z
              have hk9 := okF_red (n := C0) (d := sm) (by omega) (by omega) (by omega) (by omega)
              simp only [hk9, keepI, if_true] at HF
              obtain ⟨un, hun⟩ : ∃ un, redN C0 sm = un := ⟨_, rfl⟩
              obtain ⟨ud, hud⟩ : ∃ ud, redD C0 sm = ud := ⟨_, rfl⟩
              rw [hun, hud] at HF hsu
              have HSU := Lib.hid hsu
              clear hcb hsu hC0 hun hud hsmm hts hk9
              go_wp2_with (first | (go_at_call 86; (with_reducible refine (HF _).mono ?_); rintro e w' ⟨rfl, hx⟩; obtain ⟨g6, rfl⟩ := hx.grow; clear hx) | (at_builtin; refine app_frac (w0 := g1.fin) (lo := g1.fin.heap.size) _ _ og oc k (chL PL ts k) ⟨g6.fin.heap.size + 1, 0, none⟩ 1 un ud rfl rfl (chL_len _ _ _) rfl (HO.out.ext ExtC.ext) rfl (by have := cells_two (g6.fin.alloc (.cells #[.int .i64 un, .int .i64 ud] 60)) un ud 60; simp only [World.size_alloc] at this; exact this.1) (by have := cells_two (g6.fin.alloc (.cells #[.int .i64 un, .int .i64 ud] 60)) un ud 60; simp only [World.size_alloc] at this; exact this.2) (by omega) ExtC.ext (Nat.le_refl _) ?_; intro g' c' w' ho hx; obtain ⟨g8, rfl⟩ := hx.grow; clear hx; have HO2 := Lib.hid ho; clear ho))
              exact ⟨⟨k + 1, g', c', by omega, by go_num, rfl, ExtC.ext, Lib.hid (by rw [HSU.out]; exact HO2.out)⟩, by simp [intOf]; omega⟩
        · have hkn2 : k = n := by omega
          subst hkn2
          go_wp2_with fail
          refine bodyPost_ret (v := .tuple #[.slice (some ⟨og, 0, none⟩) k oc, .bool true]) (by simp [results, Try.results49, go_sem]) rfl ⟨_, rfl, ?_, ExtC.ext⟩
          rw [← HR.out.2.2.2.2]
          exact HO.out.mono (ExtC.ext : Ext w g1.fin).size (Nat.le_refl _)
end Go.Proofs.Ytoedphgoaifojaa
