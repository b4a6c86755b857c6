/- The bound by prices: BoundBy on both sides. -/
import Derived.Test.YtoedphgoaifojaaTotal
import Derived.Test.YtoedphgoaifojaaTicketOf
namespace Go.Proofs.Ytoedphgoaifojaa
open Go.RowKit

def sumAt (ps t : List Int) : Int := (t.map fun m => ps.getD m.toNat 0).sum
def mostOf (ps : List Int) (PL : List (List Int)) : Int := PL.foldl (fun a t => max a (sumAt ps t)) 0
theorem sumAt_take (ps t : List Int) (k : Nat) (h : k < t.length) : sumAt ps (t.take (k + 1)) = sumAt ps (t.take k) + ps.getD t[k].toNat 0 := by
  unfold sumAt
  rw [List.take_succ_eq_append_getElem h, List.map_append, List.sum_append]; simp
theorem mostOf_take (ps : List Int) (PL : List (List Int)) (k : Nat) (h : k < PL.length) : mostOf ps (PL.take (k + 1)) = max (mostOf ps (PL.take k)) (sumAt ps PL[k]) := by
  unfold mostOf
  rw [List.take_succ_eq_append_getElem h, List.foldl_append]; rfl
theorem getD_bd {ps : List Int} (h : BndP 1000000 ps) (i : Nat) : 0 ≤ ps.getD i 0 ∧ ps.getD i 0 ≤ 1000000 := by
  by_cases hi : i < ps.length
  · have := h i hi; simp [hi]; exact this
  · simp [List.getElem?_eq_none (show ps.length ≤ i by omega)]
theorem sumAt_bd {ps : List Int} (h : BndP 1000000 ps) (t : List Int) : ∀ k, k ≤ t.length → 0 ≤ sumAt ps (t.take k) ∧ sumAt ps (t.take k) ≤ 1000000 * k
  | 0, _ => by simp [sumAt]
  | k + 1, hk => by
    have ih := sumAt_bd h t k (by omega)
    have h1 := getD_bd h t[k].toNat
    rw [sumAt_take ps t k (by omega)]
    omega
theorem mostOf_bd {ps : List Int} (h : BndP 1000000 ps) {PL : List (List Int)} (hl : ∀ t ∈ PL, t.length ≤ 7) : ∀ k, k ≤ PL.length → 0 ≤ mostOf ps (PL.take k) ∧ mostOf ps (PL.take k) ≤ 7000000
  | 0, _ => by simp [mostOf]
  | k + 1, hk => by
    have ih := mostOf_bd h hl k (by omega)
    have h1 := sumAt_bd h PL[k] PL[k].length (Nat.le_refl _)
    have h2 := hl _ (List.getElem_mem (show k < PL.length by omega))
    rw [List.take_length] at h1
    rw [mostOf_take ps PL k (by omega)]
    omega
/-- Whether there is a bound. -/
def BdP (pe sz : Int) (L : List QD) (ps : List Int) : Prop := OkP pe sz L ∧ (ps.length : Int) = pe ∧ BndP 1000000 ps ∧ ps.sum ≠ 0 ∧ (plX pe sz L).length ≠ 0
open Classical in
noncomputable def bdN (pe sz : Int) (L : List QD) (ps : List Int) : Int := if BdP pe sz L ps then redN (mostOf ps (plX pe sz L)) ps.sum else 0
open Classical in
noncomputable def bdD (pe sz : Int) (L : List QD) (ps : List Int) : Int := if BdP pe sz L ps then redD (mostOf ps (plX pe sz L)) ps.sum else 0
theorem bd_no {pe sz : Int} {L : List QD} {ps : List Int} {b : Bool} {n d : Int} (h : ¬ BdP pe sz L ps) (hb : b = true ↔ BdP pe sz L ps) (hn : bdN pe sz L ps = n) (hd : bdD pe sz L ps = d) : b = false ∧ n = 0 ∧ d = 0 := by
  refine ⟨?_, ?_, ?_⟩
  · cases b
    · rfl
    · exact absurd (hb.1 rfl) h
  · rw [← hn]; unfold bdN; rw [if_neg h]
  · rw [← hd]; unfold bdD; rw [if_neg h]
theorem bd_yes {pe sz : Int} {L : List QD} {ps : List Int} {b : Bool} {n d : Int} (h : BdP pe sz L ps) (hb : b = true ↔ BdP pe sz L ps) (hn : bdN pe sz L ps = n) (hd : bdD pe sz L ps = d) : b = true ∧ redN (mostOf ps (plX pe sz L)) ps.sum = n ∧ redD (mostOf ps (plX pe sz L)) ps.sum = d := by
  refine ⟨hb.2 h, ?_, ?_⟩
  · rw [← hn]; unfold bdN; rw [if_pos h]
  · rw [← hd]; unfold bdD; rw [if_pos h]

set_option maxHeartbeats 8000000 in
set_option maxRecDepth 100000 in
theorem impl_BoundBy' (pe sz : Int) (qv u : Value) (L : List QD) (ps : List Int) (w : World) (hq : RQ w qv L) (hu : RI w u ps) (hs : ShortQ L) (hxl : ps.length ≤ 1048576) (b : Bool) (hb : b = true ↔ BdP pe sz L ps) (bn : Int) (hn : bdN pe sz L ps = bn) (bd : Int) (hd : bdD pe sz L ps = bd) :
    Calls Try.prog 47 #[.agg #[.int .i64 pe, .int .i64 sz, qv], u] w fun e w' => e = .returned (.tuple #[.agg #[.int .i64 bn, .int .i64 bd], .bool b]) ∧ Ext w w' := by
  obtain ⟨p, c, rfl, -⟩ := hq.form
  obtain ⟨up, uc, rfl, -, huq⟩ := hu.form
  have HU := Lib.hid (And.intro huq hu)
  have HBX := Lib.hid (box_pool w pe sz (.slice p L.length c) 29)
  obtain ⟨q0, hq0⟩ : ∃ q, okPB pe sz L = q := ⟨_, rfl⟩
  have HV := fun x (hx : Ext w x) => (impl_ValidPool pe sz _ L x (hq.ext hx) hs).mono fun e w' (h : RetB _ e ∧ Ext x w') => (⟨h.1.toldP (okPB_iff hq0), h.2⟩ : e = .returned (.bool q0) ∧ Ext x w')
  obtain ⟨qb, hqb⟩ := boolOf (¬ BndP 1000000 ps)
  have HA := fun x (hx : Ext w x) => any_price up ps uc x (hu.ext hx) hxl qb hqb
  have nb1 : NewB w (w.heap.size + 1) := ⟨by omega⟩
  clear hu huq
  cases q0
  · obtain ⟨rfl, rfl, rfl⟩ := bd_no (fun h => by have := (okPB_iff hq0).2 h.1; cases this) hb hn hd
    clear hb hn hd hq0 hq
    go_enter Try.func47, Try.ntmps47
    go_wp2_with (first | (go_at_call 17; (with_reducible refine (HV _ ExtC.ext).mono ?_); rintro e w' ⟨rfl, hx⟩; obtain ⟨g, rfl⟩ := hx.grow; clear hx))
    refine bodyPost_ret (v := .tuple #[.agg #[.int .i64 0, .int .i64 0], .bool false]) (by simp [results, Try.results47, go_sem]) rfl ⟨rfl, ?_⟩
    exact ExtC.ext
  · have hok := (okPB_iff hq0).1 rfl
    obtain ⟨n, k0, rfl, rfl, h1, h2, h3⟩ := hok.nat
    obtain ⟨PL, hPL⟩ : ∃ PL, panelsL n k0 L = PL := ⟨_, rfl⟩
    have hplx : plX n k0 L = PL := by rw [plX_yes hok, hPL]
    have hpn := fun x (hx : Ext w x) => impl_panels n k0 (.slice p L.length c) L x (hq.ext hx) hok PL hPL
    have hpf := panels_few (L := L) h1 h2 h3
    rw [hPL] at hpf
    have hpl : PL.length ≤ 35 := hpf.1
    have HPF := Lib.hid hpf.2
    have HOK := Lib.hid hok
    clear hok hq hq0 hPL hpf
    by_cases hlen : (ps.length : Int) = n
    · have e1 : ((ps.length : Int) != n) = false := by simp [hlen]
      have HLN := Lib.hid hlen; clear hlen
      cases qb
      · have hbnd : BndP 1000000 ps := Classical.byContradiction fun h => by have := hqb.2 h; cases this
        obtain ⟨sm, hsm⟩ : ∃ s, ps.sum = s := ⟨_, rfl⟩
        have HTT := fun x (hx : Ext w x) => impl_total (.slice up ps.length uc) ps x (HU.out.2.ext hx) hxl hbnd sm hsm
        have hsb := sum_small (ts := ps) (M := 1000000) (by omega) ps.length (Nat.le_refl _) (fun j h _ => hbnd j h)
        rw [List.take_length, hsm] at hsb
        have hsb2 : 0 ≤ sm ∧ sm ≤ 7000000 := by have := HLN.out; omega
        clear hqb hsb
        by_cases hz : PL.length = 0 ∨ sm = 0
        · obtain ⟨rfl, rfl, rfl⟩ := bd_no (fun h => by have h4 := h.2.2.2.1; have h5 := h.2.2.2.2; rw [hplx] at h5; rw [hsm] at h4; omega) hb hn hd
          clear hb hn hd hplx hsm
          rcases Nat.eq_zero_or_pos PL.length with h5 | h5
          · have e2 : ((PL.length : Int) == 0) = true := by simp [h5]
            clear h5 hz
            go_enter Try.func47, Try.ntmps47
            go_wp2_with (first | (go_at_call 17; (with_reducible refine (HV _ ExtC.ext).mono ?_); rintro e w' ⟨rfl, hx⟩; obtain ⟨g, rfl⟩ := hx.grow; clear hx) | (go_at_call 87; (with_reducible refine (HA _ ExtC.ext).mono ?_); rintro e w' ⟨rfl, hx⟩; obtain ⟨g, rfl⟩ := hx.grow; clear hx) | (go_at_call 83; (with_reducible refine (hpn _ ExtC.ext).mono ?_); rintro e w' ⟨sg, sc, rfl, ho, hx⟩; obtain ⟨g1, rfl⟩ := hx.grow; clear hx ho))
            refine bodyPost_ret (v := .tuple #[.agg #[.int .i64 0, .int .i64 0], .bool false]) (by simp [results, Try.results47, go_sem]) rfl ⟨rfl, ?_⟩
            exact ExtC.ext
          · have e2 : ((PL.length : Int) == 0) = false := beq_eq_false_iff_ne.2 (by omega)
            have e3 : (sm == 0) = true := by simp; omega
            clear h5 hz
            go_enter Try.func47, Try.ntmps47
            go_wp2_with (first | (go_at_call 17; (with_reducible refine (HV _ ExtC.ext).mono ?_); rintro e w' ⟨rfl, hx⟩; obtain ⟨g, rfl⟩ := hx.grow; clear hx) | (go_at_call 87; (with_reducible refine (HA _ ExtC.ext).mono ?_); rintro e w' ⟨rfl, hx⟩; obtain ⟨g, rfl⟩ := hx.grow; clear hx) | (go_at_call 89; (with_reducible refine (HTT _ ExtC.ext).mono ?_); rintro e w' ⟨rfl, hx⟩; obtain ⟨g, rfl⟩ := hx.grow; clear hx) | (go_at_call 83; (with_reducible refine (hpn _ ExtC.ext).mono ?_); rintro e w' ⟨sg, sc, rfl, ho, hx⟩; obtain ⟨g1, rfl⟩ := hx.grow; clear hx ho))
            refine bodyPost_ret (v := .tuple #[.agg #[.int .i64 0, .int .i64 0], .bool false]) (by simp [results, Try.results47, go_sem]) rfl ⟨rfl, ?_⟩
            exact ExtC.ext
        · have hyes := bd_yes ⟨HOK.out, HLN.out, hbnd, by rw [hsm]; omega, by rw [hplx]; omega⟩ hb hn hd
          rw [hplx, hsm] at hyes
          obtain ⟨rfl, hrn, hrd⟩ := hyes
          have e2 : ((PL.length : Int) == 0) = false := beq_eq_false_iff_ne.2 (by omega)
          have e3 : (sm == 0) = false := beq_eq_false_iff_ne.2 (by omega)
          have hsm1 : 1 ≤ sm := by omega
          have HR := Lib.hid (And.intro hrn (And.intro hrd hbnd))
          clear hb hn hd hplx hsm hz hrn hrd hbnd
          go_enter Try.func47, Try.ntmps47
          go_wp2_with (first | (go_at_call 17; (with_reducible refine (HV _ ExtC.ext).mono ?_); rintro e w' ⟨rfl, hx⟩; obtain ⟨g, rfl⟩ := hx.grow; clear hx) | (go_at_call 87; (with_reducible refine (HA _ ExtC.ext).mono ?_); rintro e w' ⟨rfl, hx⟩; obtain ⟨g, rfl⟩ := hx.grow; clear hx) | (go_at_call 89; (with_reducible refine (HTT _ ExtC.ext).mono ?_); rintro e w' ⟨rfl, hx⟩; obtain ⟨g, rfl⟩ := hx.grow; clear hx) | (go_at_call 83; (with_reducible refine (hpn _ ExtC.ext).mono ?_); rintro e w' ⟨sg, sc, rfl, ho, hx⟩; obtain ⟨g1, rfl⟩ := hx.grow; clear hx; obtain ⟨isg, tv, ra, rb, hp⟩ := ho.parts; have HP := Lib.hid hp; clear hp ho))
          have HB2 : Hid (BxF (w.heap.size + 1) (0, 0) g1.fin) := Lib.hid (by
            have h8 := box_frac (w.alloc (.cells #[.int .i64 (n : Int), .int .i64 (k0 : Int), .slice p L.length c] 29)) (0, 0) 60
            simp only [World.size_alloc] at h8
            exact h8.ext ExtC.ext)
          go_loopw [7, 41] (fun s i wr => ∃ k : Nat, k ≤ PL.length ∧ i = .int .i64 k ∧ s = .int .i64 (mostOf ps (PL.take k)) ∧ Ext g1.fin wr) (fun _ i _ => PL.length - (intOf i).toNat)
          case atStart => exact ⟨0, Nat.zero_le _, rfl, by simp [mostOf], ExtC.ext⟩
          case round =>
            obtain ⟨k, hk, rfl, rfl, hx⟩ := hrel
            obtain ⟨g2, rfl⟩ := hx.grow; clear hx
            have hmb := mostOf_bd HR.out.2.2 (fun t ht => by have := (HPF.out t ht).1; omega) k hk
            by_cases hlt : k < PL.length
            · obtain ⟨c1, c2, c3, c4⟩ := HP.out k hlt
              have hst := mostOf_take ps PL k hlt
              have ht := HPF.out PL[k] (List.getElem_mem hlt)
              obtain ⟨M, hM⟩ : ∃ M, mostOf ps (PL.take k) = M := ⟨_, rfl⟩
              rw [hM] at hst hmb ⊢
              obtain ⟨row, hrow⟩ : ∃ row, PL[k] = row := ⟨_, rfl⟩
              rw [hrow] at hst ht c2
              obtain ⟨tp, tc, htk, -, hcx⟩ := c2.ri.form
              rw [htk] at c1
              have HS := Lib.hid (And.intro hst (And.intro ht hcx))
              have hrl : row.length ≤ 7 := by omega
              clear hst ht hM hrow c2 c3 c4 htk hcx
              go_wp2_with fail
              go_loopw [10, 47] (fun s i wr => ∃ j : Nat, j ≤ row.length ∧ i = .int .i64 j ∧ s = .int .i64 (sumAt ps (row.take j)) ∧ Ext g2.fin wr) (fun _ i _ => row.length - (intOf i).toNat)
              case atStart => exact ⟨0, Nat.zero_le _, rfl, by simp [sumAt], Ext.refl _⟩
              case round =>
                obtain ⟨j, hj, rfl, rfl, hx⟩ := hrel
                obtain ⟨g3, rfl⟩ := hx.grow; clear hx
                have hsb := sumAt_bd HR.out.2.2 row j hj
                by_cases hjl : j < row.length
                · obtain ⟨rb', ro, hp, irb, hcx⟩ := HS.out.2.2 (by omega)
                  subst hp
                  have d1 := hcx j hjl
                  clear hcx
                  have hst2 := sumAt_take ps row j hjl
                  have hmem := (HS.out.2.1.2 j hjl).1
                  obtain ⟨y, hy⟩ : ∃ y, row[j] = y := ⟨_, rfl⟩
                  rw [hy] at d1 hst2 hmem
                  obtain ⟨mn, rfl⟩ := Int.eq_ofNat_of_zero_le hmem.1
                  have hmn : mn < ps.length := by have := HLN.out; omega
                  obtain ⟨b0, off, hp, ib, hc⟩ := HU.out.1 (by omega)
                  subst hp
                  have d2 := hc mn hmn
                  have hy1 := HR.out.2.2 mn hmn
                  have e9 : ps.getD (mn : Int).toNat 0 = ps[mn] := by simp [hmn]
                  rw [e9] at hst2
                  obtain ⟨z, hz⟩ : ∃ z, ps[mn] = z := ⟨_, rfl⟩
                  rw [hz] at d2 hy1 hst2
                  obtain ⟨S0, hS0⟩ : ∃ S0, sumAt ps (row.take j) = S0 := ⟨_, rfl⟩
                  rw [hS0] at hst2 hsb ⊢
                  have z1 : IntKind.i64.wrap (S0 + z) = S0 + z := IntWalk.i64_in _ (by omega)
                  have HS2 := Lib.hid hst2
                  clear hc hy hmem e9 hz hS0 hst2
                  go_wp2_with fail
                  go_roundw
                  case rel => exact ⟨j + 1, by omega, by go_num, by rw [HS2.out], ExtC.ext⟩
                  case measure => simp [intOf]; omega
                · have hjn : j = row.length := by omega
                  subst hjn
                  rw [List.take_length] at hsb ⊢
                  obtain ⟨S0, hS0⟩ : ∃ S0, sumAt ps row = S0 := ⟨_, rfl⟩
                  rw [hS0] at hsb ⊢
                  have hst3 := HS.out.1
                  rw [hS0] at hst3
                  have HS3 := Lib.hid hst3
                  clear hS0 hst3
                  go_wp2_with fail
                  exact ⟨⟨k + 1, by omega, by go_num, by rw [HS3.out], ExtC.ext⟩, by simp [intOf]; omega⟩
            · have hkn : k = PL.length := by omega
              subst hkn
              rw [List.take_length] at hmb ⊢
              obtain ⟨M, hM⟩ : ∃ M, mostOf ps PL = M := ⟨_, rfl⟩
              rw [hM] at hmb ⊢
              have hrn := HR.out.1
              have hrd := HR.out.2.1
              rw [hM] at hrn hrd
              have HF := fun z => impl_fraction M sm (by omega) (by omega) (by omega) (by omega) z
              rw [hrn, hrd] at HF
              obtain ⟨ib, c0, c1, f0, f1⟩ := HB2.out.ext (ExtC.ext : Ext g1.fin g2.fin)
              dsimp only at c0 c1
              clear hM hrn hrd
              go_wp2_with (first | (go_at_call 89; (with_reducible refine (HTT _ ExtC.ext).mono ?_); rintro e w' ⟨rfl, hx⟩; obtain ⟨g, rfl⟩ := hx.grow; clear hx) | (go_at_call 90; (with_reducible refine (HF _).mono ?_); rintro e w' ⟨rfl, hx⟩; obtain ⟨g, rfl⟩ := hx.grow; clear hx))
              refine bodyPost_ret (v := .tuple #[.agg #[.int .i64 bn, .int .i64 bd], .bool true]) (by simp [results, Try.results47, go_sem]) rfl ⟨rfl, ?_⟩
              exact ExtC.ext
      · obtain ⟨rfl, rfl, rfl⟩ := bd_no (fun h => hqb.1 rfl h.2.2.1) hb hn hd
        clear hb hn hd hqb hplx
        go_enter Try.func47, Try.ntmps47
        go_wp2_with (first | (go_at_call 17; (with_reducible refine (HV _ ExtC.ext).mono ?_); rintro e w' ⟨rfl, hx⟩; obtain ⟨g, rfl⟩ := hx.grow; clear hx) | (go_at_call 87; (with_reducible refine (HA _ ExtC.ext).mono ?_); rintro e w' ⟨rfl, hx⟩; obtain ⟨g, rfl⟩ := hx.grow; clear hx))
        refine bodyPost_ret (v := .tuple #[.agg #[.int .i64 0, .int .i64 0], .bool false]) (by simp [results, Try.results47, go_sem]) rfl ⟨rfl, ?_⟩
        exact ExtC.ext
    · have e1 : ((ps.length : Int) != n) = true := by simp [hlen]
      obtain ⟨rfl, rfl, rfl⟩ := bd_no (fun h => hlen h.2.1) hb hn hd
      clear hb hn hd hqb hplx hlen
      go_enter Try.func47, Try.ntmps47
      go_wp2_with (first | (go_at_call 17; (with_reducible refine (HV _ ExtC.ext).mono ?_); rintro e w' ⟨rfl, hx⟩; obtain ⟨g, rfl⟩ := hx.grow; clear hx))
      refine bodyPost_ret (v := .tuple #[.agg #[.int .i64 0, .int .i64 0], .bool false]) (by simp [results, Try.results47, go_sem]) rfl ⟨rfl, ?_⟩
      exact ExtC.ext
set_option maxHeartbeats 8000000 in
set_option maxRecDepth 100000 in
theorem spec_BoundBy' (pe sz : Int) (qv u : Value) (L : List QD) (ps : List Int) (w : World) (hq : RQ w qv L) (hu : RI w u ps) (hs : ShortQ L) (hxl : ps.length ≤ 1048576) (b : Bool) (hb : b = true ↔ BdP pe sz L ps) (bn : Int) (hn : bdN pe sz L ps = bn) (bd : Int) (hd : bdD pe sz L ps = bd) :
    Calls Try.prog 46 #[.agg #[.int .i64 pe, .int .i64 sz, qv], u] w fun e w' => e = .returned (.tuple #[.agg #[.int .i64 bn, .int .i64 bd], .bool b]) ∧ Ext w w' := by
  obtain ⟨p, c, rfl, -⟩ := hq.form
  obtain ⟨up, uc, rfl, -, huq⟩ := hu.form
  have HU := Lib.hid (And.intro huq hu)
  have HBX := Lib.hid (box_pool w pe sz (.slice p L.length c) 29)
  obtain ⟨q0, hq0⟩ : ∃ q, okPB pe sz L = q := ⟨_, rfl⟩
  have HV := fun x (hy : Ext (w.alloc (.cells #[.int .i64 pe, .int .i64 sz, .slice p L.length c] 29)) x) (hx : Ext w x) => (spec_l04Is w.heap.size pe sz _ L x (HBX.out.ext hy) (hq.ext hx) hs).mono fun e w' (h : RetB _ e ∧ Ext x w') => (⟨h.1.toldP (okPB_iff hq0), h.2⟩ : e = .returned (.bool q0) ∧ Ext x w')
  have nb1 : NewB w (w.heap.size + 1) := ⟨by omega⟩
  clear hu huq
  cases q0
  · obtain ⟨rfl, rfl, rfl⟩ := bd_no (fun h => by have := (okPB_iff hq0).2 h.1; cases this) hb hn hd
    clear hb hn hd hq0 hq
    go_enter Try.func46, Try.ntmps46
    go_wp2_with (first | (go_at_call 54; (with_reducible refine (HV _ ExtC.ext ExtC.ext).mono ?_); rintro e w' ⟨rfl, hx⟩; obtain ⟨g, rfl⟩ := hx.grow; clear hx))
    refine bodyPost_ret (v := .tuple #[.agg #[.int .i64 0, .int .i64 0], .bool false]) (by simp [results, Try.results46, go_sem]) rfl ⟨rfl, ?_⟩
    exact ExtC.ext
  · have hok := (okPB_iff hq0).1 rfl
    obtain ⟨n, k0, rfl, rfl, h1, h2, h3⟩ := hok.nat
    obtain ⟨PL, hPL⟩ : ∃ PL, panelsL n k0 L = PL := ⟨_, rfl⟩
    have hplx : plX n k0 L = PL := by rw [plX_yes hok, hPL]
    have hpn := fun x (hy : Ext (w.alloc (.cells #[.int .i64 (n : Int), .int .i64 (k0 : Int), .slice p L.length c] 29)) x) (hx : Ext w x) => spec_l04Panels w.heap.size n k0 (.slice p L.length c) L x (HBX.out.ext hy) (hq.ext hx) hok PL hPL
    have hpf := panels_few (L := L) h1 h2 h3
    rw [hPL] at hpf
    have hpl : PL.length ≤ 35 := hpf.1
    have HPF := Lib.hid hpf.2
    have HOK := Lib.hid hok
    have HQ0 := Lib.hid (And.intro hb (And.intro hn (And.intro hd hplx)))
    clear hok hq hq0 hPL hpf hb hn hd hplx
    by_cases hlen : (ps.length : Int) = n
    · have e1 : ((ps.length : Int) != n) = false := by simp [hlen]
      have HLN := Lib.hid hlen; clear hlen
      go_enter Try.func46, Try.ntmps46
      go_wp2_with fail
      refine Calls.mono (HV _ ExtC.ext ExtC.ext) ?_
      rintro e w' ⟨rfl, hx⟩; obtain ⟨g, rfl⟩ := hx.grow; clear hx
      obtain ⟨ib0, bb0, bb1, bb2⟩ := HBX.out.ext (ExtC.ext : Ext _ g.fin)
      have HB2 : Hid (BxF (w.heap.size + 1) (0, 0) g.fin) := Lib.hid (by
        have h8 := box_frac (w.alloc (.cells #[.int .i64 (n : Int), .int .i64 (k0 : Int), .slice p L.length c] 29)) (0, 0) 60
        simp only [World.size_alloc] at h8
        exact h8.ext ExtC.ext)
      go_wp2_with fail
      go_loopw [6, 7] (fun s i wr => ∃ k : Nat, k ≤ ps.length ∧ i = .int .i64 k ∧ s = .int .i64 (ps.take k).sum ∧ Ext g.fin wr ∧ Hid (∀ j (h : j < ps.length), j < k → 0 ≤ ps[j] ∧ ps[j] ≤ 1000000)) (fun _ i _ => ps.length - (intOf i).toNat)
      case atStart => exact ⟨0, Nat.zero_le _, rfl, by simp, Ext.refl _, Lib.hid fun j _ hj => absurd hj (by omega)⟩
      case round =>
        obtain ⟨k, hk, rfl, rfl, hx, HI⟩ := hrel
        obtain ⟨g0, rfl⟩ := hx.grow; clear hx
        have hsm := sum_small (M := 1000000) (by omega) k hk HI.out
        obtain ⟨ibr, c0, c1, f0, f1⟩ := HB2.out.ext (ExtC.ext : Ext g.fin g0.fin)
        dsimp only at c0 c1
        by_cases hlt : k < ps.length
        · obtain ⟨b0, off, hp, ib, hc⟩ := HU.out.1 (by omega)
          subst hp
          have d := hc k hlt
          have hst := sum_take1 ps k hlt
          obtain ⟨y, hy⟩ : ∃ y, ps[k] = y := ⟨_, rfl⟩
          rw [hy] at d hst
          obtain ⟨s0, hs0⟩ : ∃ s0, (ps.take k).sum = s0 := ⟨_, rfl⟩
          rw [hs0] at hst hsm ⊢
          have HY := Lib.hid (And.intro hy hst)
          clear hc hy hst hs0
          cases q1 : inB y 0 1000000
          · have Q := Lib.hid (inB_false.1 q1)
            obtain ⟨rfl, rfl, rfl⟩ := bd_no (fun h => Q.out (by rw [← HY.out.1]; exact h.2.2.1 k hlt)) HQ0.out.1 HQ0.out.2.1 HQ0.out.2.2.1
            go_wp2_with (first | (go_at_call 84; (with_reducible refine (spec_l00In _ _ _ _ (by assumption) _).mono ?_); rintro e w' ⟨rfl, hx⟩; obtain ⟨g, rfl⟩ := hx.grow; clear hx))
            refine bodyPost_ret (v := .tuple #[.agg #[.int .i64 0, .int .i64 0], .bool false]) (by simp [results, Try.results46, go_sem]) rfl ⟨rfl, ?_⟩
            exact ExtC.ext
          · have Q := Lib.hid (inB_true.1 q1)
            have z1 : IntKind.i64.wrap (s0 + y) = s0 + y := IntWalk.i64_in _ (by have := Q.out; omega)
            clear c0 c1 f0 f1
            go_wp2_with (first | (go_at_call 84; (with_reducible refine (spec_l00In _ _ _ _ (by assumption) _).mono ?_); rintro e w' ⟨rfl, hx⟩; obtain ⟨g, rfl⟩ := hx.grow; clear hx))
            go_roundw
            case rel =>
              refine ⟨k + 1, by omega, by go_num, by rw [HY.out.2], ExtC.ext, Lib.hid fun j hj hjk => ?_⟩
              by_cases e : j = k
              · subst e; rw [HY.out.1]; exact Q.out
              · exact HI.out j hj (by omega)
            case measure => simp [intOf]; omega
        · have hkn : k = ps.length := by omega
          subst hkn
          have hbnd : BndP 1000000 ps := fun j hj => HI.out j hj hj
          rw [List.take_length] at hsm ⊢
          obtain ⟨sm, hsme⟩ : ∃ s, ps.sum = s := ⟨_, rfl⟩
          rw [hsme] at hsm ⊢
          have hsb2 : 0 ≤ sm ∧ sm ≤ 7000000 := by have := HLN.out; omega
          by_cases hz : PL.length = 0 ∨ sm = 0
          · obtain ⟨rfl, rfl, rfl⟩ := bd_no (fun h => by have h4 := h.2.2.2.1; have h5 := h.2.2.2.2; rw [HQ0.out.2.2.2] at h5; rw [hsme] at h4; omega) HQ0.out.1 HQ0.out.2.1 HQ0.out.2.2.1
            clear hsme
            by_cases h5 : sm = 0
            · have e3 : (sm == 0) = true := by simp [h5]
              clear h5 hz
              go_wp2_with (first | (go_at_call 82; (with_reducible refine (hpn _ ExtC.ext ExtC.ext).mono ?_); rintro e w' ⟨sg, sc, rfl, ho, hx⟩; obtain ⟨g1, rfl⟩ := hx.grow; clear hx ho))
              refine bodyPost_ret (v := .tuple #[.agg #[.int .i64 0, .int .i64 0], .bool false]) (by simp [results, Try.results46, go_sem]) rfl ⟨rfl, ?_⟩
              exact ExtC.ext
            · have e3 : (sm == 0) = false := beq_eq_false_iff_ne.2 (by omega)
              have e2 : ((PL.length : Int) == 0) = true := by simp; rcases hz with h | h; exact List.length_eq_zero_iff.1 h; exact absurd h h5
              clear h5 hz
              go_wp2_with (first | (go_at_call 82; (with_reducible refine (hpn _ ExtC.ext ExtC.ext).mono ?_); rintro e w' ⟨sg, sc, rfl, ho, hx⟩; obtain ⟨g1, rfl⟩ := hx.grow; clear hx ho))
              refine bodyPost_ret (v := .tuple #[.agg #[.int .i64 0, .int .i64 0], .bool false]) (by simp [results, Try.results46, go_sem]) rfl ⟨rfl, ?_⟩
              exact ExtC.ext
          · have hyes := bd_yes ⟨HOK.out, HLN.out, hbnd, by rw [hsme]; omega, by rw [HQ0.out.2.2.2]; omega⟩ HQ0.out.1 HQ0.out.2.1 HQ0.out.2.2.1
            rw [HQ0.out.2.2.2, hsme] at hyes
            obtain ⟨rfl, hrn, hrd⟩ := hyes
            have e2 : ((PL.length : Int) == 0) = false := beq_eq_false_iff_ne.2 (by omega)
            have e3 : (sm == 0) = false := beq_eq_false_iff_ne.2 (by omega)
            have hsm1 : 1 ≤ sm := by omega
            have HR := Lib.hid (And.intro hrn (And.intro hrd hbnd))
            clear hsme hz hrn hrd hbnd c0 c1 f0 f1
            go_wp2_with (first | (go_at_call 82; (with_reducible refine (hpn _ ExtC.ext ExtC.ext).mono ?_); rintro e w' ⟨sg, sc, rfl, ho, hx⟩; obtain ⟨g1, rfl⟩ := hx.grow; clear hx; have HO := Lib.hid ho; clear ho))
            rcases HO.out with ⟨e, _⟩ | ⟨sg', sc', tv, ra, rb, e, -, -, -, isg, hp⟩
            · simp at e
            simp only [Value.slice.injEq, Option.some.injEq, Addr.mk.injEq, and_true, true_and] at e
            obtain ⟨rfl, rfl⟩ := e
            have isg2 : InW sg g1.fin := ⟨isg⟩
            have HP := Lib.hid hp
            clear hp isg
            go_loopw [9, 10] (fun s i wr => ∃ k : Nat, k ≤ PL.length ∧ i = .int .i64 k ∧ s = .int .i64 (mostOf ps (PL.take k)) ∧ Ext g1.fin wr) (fun _ i _ => PL.length - (intOf i).toNat)
            case atStart => exact ⟨0, Nat.zero_le _, rfl, by simp [mostOf], ExtC.ext⟩
            case round =>
              obtain ⟨k, hk, rfl, rfl, hx⟩ := hrel
              obtain ⟨g2, rfl⟩ := hx.grow; clear hx
              have hmb := mostOf_bd HR.out.2.2 (fun t ht => by have := (HPF.out t ht).1; omega) k hk
              by_cases hlt : k < PL.length
              · obtain ⟨c1, c2, c3, c4⟩ := HP.out k hlt
                have hst := mostOf_take ps PL k hlt
                have ht := HPF.out PL[k] (List.getElem_mem hlt)
                obtain ⟨M, hM⟩ : ∃ M, mostOf ps (PL.take k) = M := ⟨_, rfl⟩
                rw [hM] at hst hmb ⊢
                obtain ⟨row, hrow⟩ : ∃ row, PL[k] = row := ⟨_, rfl⟩
                rw [hrow] at hst ht c2
                obtain ⟨tp, tc, htk, -, hcx⟩ := c2.ri.form
                rw [htk] at c1
                have HS := Lib.hid (And.intro hst (And.intro ht hcx))
                have hrl : row.length ≤ 7 := by omega
                clear hst ht hM hrow c2 c3 c4 htk hcx
                go_wp2_with fail
                go_loopw [11, 12] (fun s i wr => ∃ j : Nat, j ≤ row.length ∧ i = .int .i64 j ∧ s = .int .i64 (sumAt ps (row.take j)) ∧ Ext g2.fin wr) (fun _ i _ => row.length - (intOf i).toNat)
                case atStart => exact ⟨0, Nat.zero_le _, rfl, by simp [sumAt], Ext.refl _⟩
                case round =>
                  obtain ⟨j, hj, rfl, rfl, hx⟩ := hrel
                  obtain ⟨g3, rfl⟩ := hx.grow; clear hx
                  have hsb := sumAt_bd HR.out.2.2 row j hj
                  by_cases hjl : j < row.length
                  · obtain ⟨rb', ro, hp, irb, hcx⟩ := HS.out.2.2 (by omega)
                    subst hp
                    have d1 := hcx j hjl
                    clear hcx
                    have hst2 := sumAt_take ps row j hjl
                    have hmem := (HS.out.2.1.2 j hjl).1
                    obtain ⟨y, hy⟩ : ∃ y, row[j] = y := ⟨_, rfl⟩
                    rw [hy] at d1 hst2 hmem
                    obtain ⟨mn, rfl⟩ := Int.eq_ofNat_of_zero_le hmem.1
                    have hmn : mn < ps.length := by have := HLN.out; omega
                    obtain ⟨b0, off, hp, ib, hc⟩ := HU.out.1 (by omega)
                    subst hp
                    have d2 := hc mn hmn
                    have hy1 := HR.out.2.2 mn hmn
                    have e9 : ps.getD (mn : Int).toNat 0 = ps[mn] := by simp [hmn]
                    rw [e9] at hst2
                    obtain ⟨z, hz⟩ : ∃ z, ps[mn] = z := ⟨_, rfl⟩
                    rw [hz] at d2 hy1 hst2
                    obtain ⟨S0, hS0⟩ : ∃ S0, sumAt ps (row.take j) = S0 := ⟨_, rfl⟩
                    rw [hS0] at hst2 hsb ⊢
                    have z1 : IntKind.i64.wrap (S0 + z) = S0 + z := IntWalk.i64_in _ (by omega)
                    have HS2 := Lib.hid hst2
                    clear hc hy hmem e9 hz hS0 hst2
                    go_wp2_with fail
                    go_roundw
                    case rel => exact ⟨j + 1, by omega, by go_num, by rw [HS2.out], ExtC.ext⟩
                    case measure => simp [intOf]; omega
                  · have hjn : j = row.length := by omega
                    subst hjn
                    rw [List.take_length] at hsb ⊢
                    obtain ⟨S0, hS0⟩ : ∃ S0, sumAt ps row = S0 := ⟨_, rfl⟩
                    rw [hS0] at hsb ⊢
                    have hst3 := HS.out.1
                    rw [hS0] at hst3
                    have HS3 := Lib.hid hst3
                    clear hS0 hst3
                    go_wp2_with (first | (go_at_call 85; (with_reducible refine (spec_l00Max _ _ _).mono ?_); rintro e w' ⟨rfl, hx⟩; obtain ⟨g, rfl⟩ := hx.grow; clear hx))
                    exact ⟨⟨k + 1, by omega, by go_num, by rw [HS3.out], ExtC.ext⟩, by simp [intOf]; omega⟩
              · have hkn : k = PL.length := by omega
                subst hkn
                rw [List.take_length] at hmb ⊢
                obtain ⟨M, hM⟩ : ∃ M, mostOf ps PL = M := ⟨_, rfl⟩
                rw [hM] at hmb ⊢
                have hrn := HR.out.1
                have hrd := HR.out.2.1
                rw [hM] at hrn hrd
                have HF := fun z => spec_l01Make_pos M sm (by omega) (by omega) (by omega) (by omega) z
                have hk9 := okF_red (n := M) (d := sm) (by omega) (by omega) (by omega) (by omega)
                simp only [hk9, keepI, if_true] at HF
                rw [hrn, hrd] at HF
                obtain ⟨ibz, c0, c1, f0, f1⟩ := HB2.out.ext (ExtC.ext : Ext g.fin g2.fin)
                dsimp only at c0 c1
                clear hM hrn hrd hk9
                go_wp2_with (first | (go_at_call 86; (with_reducible refine (HF _).mono ?_); rintro e w' ⟨rfl, hx⟩; obtain ⟨g, rfl⟩ := hx.grow; clear hx))
                refine bodyPost_ret (v := .tuple #[.agg #[.int .i64 bn, .int .i64 bd], .bool true]) (by simp [results, Try.results46, go_sem]) rfl ⟨rfl, ?_⟩
                exact ExtC.ext
    · have e1 : ((ps.length : Int) != n) = true := by simp [hlen]
      obtain ⟨rfl, rfl, rfl⟩ := bd_no (fun h => hlen h.2.1) HQ0.out.1 HQ0.out.2.1 HQ0.out.2.2.1
      clear hlen
      go_enter Try.func46, Try.ntmps46
      go_wp2_with fail
      refine Calls.mono (HV _ ExtC.ext ExtC.ext) ?_
      rintro e w' ⟨rfl, hx⟩; obtain ⟨g, rfl⟩ := hx.grow; clear hx
      obtain ⟨ib0, bb0, bb1, bb2⟩ := HBX.out.ext (ExtC.ext : Ext _ g.fin)
      go_wp2_with fail
      refine bodyPost_ret (v := .tuple #[.agg #[.int .i64 0, .int .i64 0], .bool false]) (by simp [results, Try.results46, go_sem]) rfl ⟨rfl, ?_⟩
      exact ExtC.ext
end Go.Proofs.Ytoedphgoaifojaa
