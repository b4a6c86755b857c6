/- Who is trapped: TrappedMembers on both sides. -/
import Derived.Test.YtbbppkcdgcajjaaReachS
namespace Go.Proofs.Ytbbppkcdgcajjaa
open Go.RowKit

def valAt (K : List Int) (x : Int) : Int := K.getD x.toNat 0
theorem valAt_nat {K : List Int} {j : Nat} (h : j < K.length) : valAt K (j : Int) = K[j] := by simp [valAt, h]
/-- What a member keeps. -/
def keepAt (L : List SD) (x : Int) : Int := valAt (keptTo L L.length) x
theorem keptTo_get (L : List SD) (j : Nat) (h : j < L.length) : (keptTo L L.length)[j]'(by rw [keptTo_length _ _ (Nat.le_refl _)]; exact h) = 12 - psum L[j] := by simp [keptTo]
theorem keepAt_nat {L : List SD} {j : Nat} (h : j < L.length) : keepAt L (j : Int) = (keptTo L L.length)[j]'(by rw [keptTo_length _ _ (Nat.le_refl _)]; exact h) := by
  unfold keepAt
  exact valAt_nat _
theorem keepAt_pos {L : List SD} (hok : OkS L) {j : Nat} (h : j < L.length) : 0 ≤ keepAt L (j : Int) ∧ keepAt L (j : Int) ≤ 12 := by
  rw [keepAt_nat h, keptTo_get L j h]
  have h1 := (hok.1 j h).2
  have h2 := psum_pos L[j] (hok.1 j h).part L[j].length (Nat.le_refl _)
  rw [List.take_length] at h2
  omega
/-- Nothing of the ballot of a member comes to one who keeps something. -/
def Trp (L : List SD) (i : Int) : Prop := ∀ x, Gets L i x → keepAt L x = 0
open Classical in
noncomputable def trpTo (L : List SD) (n : Nat) : List Int := ((List.range n).filter fun i : Nat => decide (Trp L i)).map fun i : Nat => (i : Int)
open Classical in
theorem trpTo_yes {L : List SD} {n : Nat} (h : Trp L n) : trpTo L (n + 1) = trpTo L n ++ [(n : Int)] := by
  simp [trpTo, List.range_succ, List.filter_append, h]
open Classical in
theorem trpTo_no {L : List SD} {n : Nat} (h : ¬ Trp L n) : trpTo L (n + 1) = trpTo L n := by
  simp [trpTo, List.range_succ, List.filter_append, h]
theorem trpTo_length (L : List SD) (n : Nat) : (trpTo L n).length ≤ n := by
  unfold trpTo
  rw [List.length_map]
  exact Nat.le_trans (List.length_filter_le _ _) (by simp)
open Classical in
theorem setB_trp {L : List SD} {bs : List Bool} {n : Nat} (h : ∀ j : Nat, j < n → (bs[j]? = some true ↔ Trp L j)) : setB bs n = trpTo L n := by
  unfold setB trpTo
  congr 1
  refine List.filter_congr fun j hj => ?_
  have := h j (by simpa using hj)
  simp only [List.getD_eq_getElem?_getD]
  by_cases hg : Trp L j
  · simp [this.2 hg, hg]
  · have hn : bs[j]? ≠ some true := fun e => hg (this.1 e)
    simp only [hg, decide_false]
    cases hb : bs[j]? with
    | none => rfl
    | some b => cases b <;> simp_all
theorem trp_impl {L : List SD} (hok : OkS L) {i : Nat} (hi : i < L.length) : Trp L i ↔ ¬ ∃ x ∈ getsL L (i : Int), 0 < keepAt L x := by
  constructor
  · rintro h ⟨x, hx, h0⟩
    have := h x ((mem_getsL hok (by omega) (by omega) x).1 hx)
    omega
  · intro h x hx
    have hr := hx.range hok (by omega) (by omega)
    obtain ⟨j, rfl⟩ := Int.eq_ofNat_of_zero_le hr.1
    have hp := keepAt_pos hok (show j < L.length by omega)
    have : ¬ 0 < keepAt L (j : Int) := fun h0 => h ⟨_, (mem_getsL hok (by omega) (by omega) _).2 hx, h0⟩
    omega
theorem trp_spec {L : List SD} (hok : OkS L) {i : Nat} (hi : i < L.length) {bs : List Bool} (hg : ∀ j : Nat, bs[j]? = some true ↔ Gets L (i : Int) j) : Trp L i ↔ ∀ j : Nat, j < L.length → bs[j]? = some true → keepAt L j = 0 := by
  constructor
  · intro h j _ hb; exact h _ ((hg j).1 hb)
  · intro h x hx
    have hr := hx.range hok (by omega) (by omega)
    obtain ⟨j, rfl⟩ := Int.eq_ofNat_of_zero_le hr.1
    exact h j (by omega) ((hg j).2 hx)
open Classical in
noncomputable def trpX (L : List SD) : List Int := if OkS L then trpTo L L.length else []
theorem trpX_small {L : List SD} : (trpX L).length ≤ 6 := by
  unfold trpX
  split
  · rename_i h; exact Nat.le_trans (trpTo_length L _) h.2.2
  · simp

theorem impl_trapped1 (y : Int) (L : List SD) (rb rg rc : Nat) (K : List Int) (w : World) (hb : InW rb w) (hc : w.cell? ⟨rb, 0, none⟩ = some (.slice (some ⟨rg, 0, none⟩) K.length rc)) (hK : IS w (.slice (some ⟨rg, 0, none⟩) K.length rc) K) (h0 : 0 ≤ y) (h1 : y < K.length) (hl : K.length ≤ 1048576) :
    Calls Try.prog 172 #[.int .i64 y, .pointer (some ⟨rb, 0, none⟩)] w fun e w' => e = .returned (.bool (decide (0 < valAt K y))) ∧ Ext w w' := by
  obtain ⟨yn, rfl⟩ := Int.eq_ofNat_of_zero_le h0
  have hy : yn < K.length := by omega
  obtain ⟨b', o', c', hue, -, ib, hx⟩ := hK
  simp only [Value.slice.injEq, Option.some.injEq, Addr.mk.injEq, and_true] at hue
  obtain ⟨⟨rfl, rfl⟩, -, rfl⟩ := hue
  have d := hx yn hy
  rw [Nat.zero_add] at d
  rw [valAt_nat hy]
  obtain ⟨z, hz⟩ : ∃ z, K[yn] = z := ⟨_, rfl⟩
  rw [hz] at d ⊢
  clear hx hz
  go_enter Try.func172, Try.ntmps172
  go_wp2
  go_ret
  exact ⟨rfl, Ext.refl _⟩

set_option maxHeartbeats 2000000 in
theorem has_trapped (p : Option Addr) (xs : List Int) (c : Nat) (rb rg rc : Nat) (K : List Int) (w : World) (h : RI w (.slice p xs.length c) xs) (hb : InW rb w) (hc : w.cell? ⟨rb, 0, none⟩ = some (.slice (some ⟨rg, 0, none⟩) K.length rc)) (hK : IS w (.slice (some ⟨rg, 0, none⟩) K.length rc) K)
    (hr : ∀ x ∈ xs, 0 ≤ x ∧ x < K.length) (hl : K.length ≤ 1048576) (hn : xs.length ≤ 1048576) (L : List SD) :
    Calls Try.prog 188 #[.slice p xs.length c, .func (.func 172) #[] #[.pointer (some ⟨rb, 0, none⟩)]] w fun e w' => ∃ r : Int, e = .returned (.int .i64 r) ∧ -1 ≤ r ∧ r ≤ 1048576 ∧ (0 ≤ r ↔ ∃ x ∈ xs, 0 < valAt K x) ∧ Ext w w' := by
  obtain ⟨p', c', hpe, -, hq⟩ := h.form
  simp only [Value.slice.injEq, true_and] at hpe
  obtain ⟨rfl, rfl⟩ := hpe
  have HQ := Lib.hid hq
  have HR := Lib.hid hr
  have HCK := Lib.hid (And.intro hb (And.intro hc hK))
  have HF := Lib.hid (fun (y : Int) x (hx : Ext w x) (h0 : 0 ≤ y) (h1 : y < K.length) => impl_trapped1 y L rb rg rc K x ⟨Nat.lt_of_lt_of_le hb.lt hx.size⟩ (by rw [Below.cell hx hb.lt]; exact hc) (hK.ext hx) h0 h1 hl)
  clear hq hr h hc hK
  go_enter Try.func188, Try.ntmps188
  go_wp2_with fail
  go_loopw [8] (fun i wr => ∃ k : Nat, k ≤ xs.length ∧ i = .int .i64 k ∧ Ext w wr ∧ Hid (∀ j (hj : j < xs.length), j < k → valAt K xs[j] ≤ 0)) (fun i _ => xs.length - (intOf i).toNat)
  case atStart => exact ⟨0, Nat.zero_le _, rfl, Ext.refl _, Lib.hid fun j _ hj => absurd hj (by omega)⟩
  case round =>
    obtain ⟨k, hk, rfl, hx, HNO⟩ := hrel
    obtain ⟨g0, rfl⟩ := hx.grow; clear hx
    by_cases hlt : k < xs.length
    · obtain ⟨b', off', hpp, ib', c'⟩ := HQ.out (by omega)
      subst hpp
      have d := c' k hlt
      clear c'
      have hrr := HR.out _ (List.getElem_mem hlt)
      obtain ⟨y, hy⟩ : ∃ y, xs[k] = y := ⟨_, rfl⟩
      rw [hy] at d hrr
      have HY := Lib.hid hy; clear hy
      have hf := HF.out y _ (ExtC.ext : Ext w g0.fin) hrr.1 hrr.2
      obtain ⟨q, hq⟩ : ∃ q, decide (0 < valAt K y) = q := ⟨_, rfl⟩
      have HF2 := fun x (hx : Ext w x) => HF.out y x hx hrr.1 hrr.2
      simp only [hq] at HF2
      have HQQ := Lib.hid hq
      clear hf hq
      cases q
      · go_wp2_with fail
        refine Calls.mono (HF2 _ ExtC.ext) ?_
        rintro e w' ⟨rfl, hx⟩; obtain ⟨g2, rfl⟩ := hx.grow; clear hx HF2
        go_wp2_with fail
        go_roundw
        case rel =>
          refine ⟨k + 1, by omega, by go_num, ExtC.ext, Lib.hid fun j hj hjk => ?_⟩
          by_cases e : j = k
          · subst e; rw [HY.out]; have := HQQ.out; simp at this; omega
          · exact HNO.out j hj (by omega)
        case measure => simp [intOf]; omega
      · go_wp2_with fail
        refine Calls.mono (HF2 _ ExtC.ext) ?_
        rintro e w' ⟨rfl, hx⟩; obtain ⟨g2, rfl⟩ := hx.grow; clear hx HF2
        go_wp2_with fail
        go_ret
        exact ⟨(k : Int), rfl, by omega, by omega, ⟨fun _ => ⟨y, by rw [← HY.out]; exact List.getElem_mem hlt, by simpa using HQQ.out⟩, fun _ => by omega⟩, ExtC.ext⟩
    · have e : k = xs.length := by omega
      go_wp2
      go_ret
      refine ⟨-1, rfl, by omega, by omega, ⟨fun h => absurd h (by omega), fun ⟨x, hx, h0⟩ => ?_⟩, ExtC.ext⟩
      obtain ⟨j, hj, rfl⟩ := List.getElem_of_mem hx
      have := HNO.out j hj (by omega)
      omega

theorem any_trapped (p : Option Addr) (xs : List Int) (c : Nat) (rb rg rc : Nat) (K : List Int) (w : World) (h : RI w (.slice p xs.length c) xs) (hb : InW rb w) (hc : w.cell? ⟨rb, 0, none⟩ = some (.slice (some ⟨rg, 0, none⟩) K.length rc)) (hK : IS w (.slice (some ⟨rg, 0, none⟩) K.length rc) K)
    (hr : ∀ x ∈ xs, 0 ≤ x ∧ x < K.length) (hl : K.length ≤ 1048576) (hn : xs.length ≤ 1048576) (L : List SD) (q : Bool) (hq : q = true ↔ ∃ x ∈ xs, 0 < valAt K x) :
    Calls Try.prog 171 #[.slice p xs.length c, .func (.func 172) #[] #[.pointer (some ⟨rb, 0, none⟩)]] w fun e w' => e = .returned (.bool q) ∧ Ext w w' := by
  have H1 := has_trapped p xs c rb rg rc K w h hb hc hK hr hl hn L
  clear h hb hc hK hr
  go_enter Try.func171, Try.ntmps171
  go_wp2_with fail
  refine Calls.mono H1 ?_
  rintro e w' ⟨r, rfl, r0, r1, hrr, hx⟩; obtain ⟨g2, rfl⟩ := hx.grow; clear hx H1
  have HH := Lib.hid (hq.trans hrr.symm); clear hq hrr
  by_cases h0 : 0 ≤ r
  · have hd : decide (0 ≤ r) = true := by simp [h0]
    have : q = true := HH.out.2 h0
    subst this
    go_wp2
    go_ret
    exact ⟨rfl, ExtC.ext⟩
  · have hd : decide (0 ≤ r) = false := by simpa using h0
    have : q = false := by
      cases q
      · rfl
      · exact absurd (HH.out.1 rfl) h0
    subst this
    go_wp2
    go_ret
    exact ⟨rfl, ExtC.ext⟩

/-- The box that holds what members keep. -/
def Bx (ws gs gk ck : Nat) (K : List Int) (x : World) : Prop :=
  gs + 1 ≤ x.heap.size ∧ x.cell? ⟨gs, 0, none⟩ = some (.slice (some ⟨gk, 0, none⟩) K.length ck) ∧ OwnI (ws + 1) gs x (.slice (some ⟨gk, 0, none⟩) K.length ck) K
theorem Bx.ext {ws gs gk ck : Nat} {K : List Int} {x y : World} (h : Bx ws gs gk ck K x) (hx : Ext x y) : Bx ws gs gk ck K y :=
  ⟨Nat.le_trans h.1 hx.size, by rw [Below.cell hx (Nat.lt_of_lt_of_le (Nat.lt_succ_self _) h.1)]; exact h.2.1, h.2.2.ext hx⟩
theorem Bx.rng {ws gs gk ck a b : Nat} {K : List Int} {x y : World} (h : Bx ws gs gk ck K x) (hx : Rng a b x y) (hd : b ≤ ws + 1 ∧ ws + 1 ≤ gs ∨ gs + 1 ≤ a) : Bx ws gs gk ck K y :=
  ⟨Nat.le_trans h.1 hx.size, by rw [hx.cell (Nat.lt_of_lt_of_le (Nat.lt_succ_self _) h.1) (by omega)]; exact h.2.1, h.2.2.rng hx (by omega)⟩
theorem Bx.any {ws gs gk ck : Nat} {K : List Int} {x : World} (h : Bx ws gs gk ck K x) {p : Option Addr} {c : Nat} {R : List Int} (hR : RI x (.slice p R.length c) R) (hr : ∀ y ∈ R, 0 ≤ y ∧ y < K.length) (hl : K.length ≤ 1048576) (hn : R.length ≤ 1048576) (L : List SD) (q : Bool) (hq : q = true ↔ ∃ y ∈ R, 0 < valAt K y) :
    Calls Try.prog 171 #[.slice p R.length c, .func (.func 172) #[] #[.pointer (some ⟨gs, 0, none⟩)]] x fun e w' => e = .returned (.bool q) ∧ Ext x w' :=
  any_trapped p R c gs gk ck K x hR ⟨Nat.lt_of_lt_of_le (Nat.lt_succ_self _) h.1⟩ h.2.1 (IS.of_own h.2.2) hr hl hn L q hq

set_option maxHeartbeats 4000000 in
set_option maxRecDepth 100000 in
theorem impl_trapped (v : Value) (L : List SD) (w : World) (h : RowsS shareKind w v L) (hok : OkS L) (xs : List Int) (hxs : trpTo L L.length = xs) :
    Calls Try.prog 139 #[v] w fun e w' => ∃ g c, e = .returned (.slice (some ⟨g, 0, none⟩) xs.length c) ∧ OwnI w.heap.size w'.heap.size w' (.slice (some ⟨g, 0, none⟩) xs.length c) xs ∧ Ext w w' := by
  have HN := Lib.hid hxs.symm
  have hl := hok.2
  obtain ⟨K, hK⟩ : ∃ K, keptTo L L.length = K := ⟨_, rfl⟩
  have hKl : K.length = L.length := by rw [← hK]; exact keptTo_length L _ (Nat.le_refl _)
  have H1 := fun x (hx : Ext w x) => kept_12 v L x (h.ext hx) hok K hK
  have H2 := fun (k : Nat) (hk : k < L.length) R (hR : getsL L k = R) x (hx : Ext w x) => impl_reached v k L x (h.ext hx) hok (by omega) (by omega) R hR
  have HT := Lib.hid (fun (k : Nat) (hk : k < L.length) => (by rw [trp_impl hok hk]; simp only [keepAt, hK] : Trp L k ↔ ¬ ∃ x ∈ getsL L (k : Int), 0 < valAt K x))
  have HG := Lib.hid (fun (k : Nat) (hk : k < L.length) x (hx : x ∈ getsL L (k : Int)) => ((mem_getsL hok (by omega) (by omega) x).1 hx).range hok (by omega) (by omega))
  have HKL := Lib.hid hKl
  obtain ⟨vb, vo, vc, rfl, -⟩ := h
  clear hok hxs hK hKl
  go_enter Try.func139, Try.ntmps139
  go_wp2_with fail
  refine Calls.mono (H1 _ ExtC.ext) ?_
  rintro e w' ⟨gk, ck, rfl, ho, hx⟩; obtain ⟨g1, rfl⟩ := hx.grow; clear hx H1
  have hg1 := (ExtC.ext : Ext (w.alloc (.cells #[] 2)) g1.fin).size
  simp only [World.size_alloc] at hg1
  have HB0 : Hid (Bx w.heap.size g1.fin.heap.size gk ck K (g1.fin.alloc (.cells #[.slice (some ⟨gk, 0, none⟩) K.length ck] 24))) := Lib.hid ⟨by simp, by
    have := cell_new g1.fin (.slice (some ⟨gk, 0, none⟩) K.length ck) 24
    rwa [add_plain', Nat.add_zero] at this, (by simpa using ho : OwnI (w.heap.size + 1) g1.fin.heap.size g1.fin _ K).ext (Ext.alloc (Ext.refl _) _)⟩
  clear ho
  go_wp2_with fail
  go_loopw [3, 11] (fun o i wr => ∃ (k og oc n a b : Nat) (C : List Int), k ≤ L.length ∧ i = .int .i64 k ∧ o = .slice (some ⟨og, 0, none⟩) n oc ∧ C.length ≤ k ∧ w.heap.size ≤ a ∧ b ≤ wr.heap.size ∧ (b ≤ w.heap.size + 1 ∨ g1.fin.heap.size + 1 ≤ a) ∧ Ext w wr ∧ Hid (C = trpTo L k) ∧ Hid (OwnI a b wr (.slice (some ⟨og, 0, none⟩) n oc) C) ∧ Hid (Bx w.heap.size g1.fin.heap.size gk ck K wr)) (fun _ i _ => L.length - (intOf i).toNat)
  case atStart => exact ⟨0, _, _, _, w.heap.size, w.heap.size + 1, [], Nat.zero_le _, rfl, rfl, Nat.le_refl _, Nat.le_refl _, by simp; omega, .inl (Nat.le_refl _), ExtC.ext, Lib.hid rfl, Lib.hid (((own_empty w w.heap.size (Nat.le_refl _)).ext (ExtC.ext : Ext _ g1.fin)).ext (Ext.alloc (Ext.refl _) _)), HB0⟩
  case round =>
    obtain ⟨k, og, oc, n, a, b, C, hk, rfl, rfl, hC, ha, hb, hab, hx, HCk, HO, HB⟩ := hrel
    clear HB0
    obtain ⟨g0, rfl⟩ := hx.grow; clear hx
    by_cases hlt : k < L.length
    · obtain ⟨R, hR⟩ : ∃ R, getsL L (k : Int) = R := ⟨_, rfl⟩
      have hRl : R.length ≤ L.length := by rw [← hR]; exact getsL_few L k
      have RR := H2 k hlt R hR
      have ht := HT.out k hlt
      have hg := HG.out k hlt
      rw [hR] at ht hg
      obtain ⟨q, hq⟩ : ∃ q : Bool, q = true ↔ ∃ x ∈ R, 0 < valAt K x := by classical exact ⟨decide (∃ x ∈ R, 0 < valAt K x), by simp⟩
      have HT2 := Lib.hid (ht.trans (not_congr hq.symm))
      have HGQ := Lib.hid (And.intro (fun y (hy : y ∈ R) => (by have := hg y hy; have := HKL.out; omega : 0 ≤ y ∧ y < K.length)) hq)
      have HAB := Lib.hid hab
      clear ht hg hq hR hab
      go_wp2_with fail
      refine Calls.mono (RR _ ExtC.ext) ?_
      rintro e w' ⟨gr, cr, rfl, ho, hx⟩; obtain ⟨g2, rfl⟩ := hx.grow; clear hx RR
      have HRI := Lib.hid ho.ri; clear ho
      have HB2 := Lib.hid (HB.out.ext (ExtC.ext : Ext g0.fin g2.fin))
      cases q
      · have HL := Lib.hid (trpTo_yes (HT2.out.2 (by simp)))
        go_wp2_with fail
        refine Calls.mono (HB2.out.any (HRI.out.ext ExtC.ext) HGQ.out.1 (by have := HKL.out; omega) (by omega) L _ HGQ.out.2) ?_
        rintro e w' ⟨rfl, hx⟩; obtain ⟨g4, rfl⟩ := hx.grow; clear hx
        go_wp2_with (at_builtin; refine app_o (lo := a) (hi := b) (.tmp 20) (.tmp 22) (.slice (some ⟨og, 0, none⟩) n oc) (.slice (some ⟨g4.fin.heap.size, 0, none⟩) 1 1) C [(k : Int)] rfl rfl rfl (HO.out.ext ExtC.ext) (by simp) rfl (IS.of_own (own_one g4.fin (k : Int))).ri (by simp) (by simp; omega) ?_; intro g' c' a' b' w1 ho hn; obtain ⟨g5, rfl⟩ := (Ext.rng (a := w) ExtC.ext hn.2 ha).grow; have HQ := Lib.hid (And.intro ho hn); clear ho hn)
        go_roundw
        case rel =>
          obtain ⟨ho, hn, hr⟩ := HQ.out
          have z1 := (ExtC.ext : Ext g0.fin g4.fin).size
          have z2 := hr.size
          have z3 := HB.out.1
          have z4 := HAB.out
          have z5 := ho.len.2
          simp only [World.size_alloc] at hn z2
          refine ⟨k + 1, g', c', _, a', b', C ++ [(k : Int)], by omega, by go_num, rfl, by simp; omega, by omega, by omega, by omega, ExtC.ext, Lib.hid (by rw [HL.out, HCk.out]), Lib.hid ho, Lib.hid ((HB2.out.ext (ExtC.ext : Ext g2.fin (g4.fin.alloc _))).rng hr (by omega))⟩
        case measure => simp [intOf]; omega
      · have HL := Lib.hid (trpTo_no (fun h => HT2.out.1 h rfl))
        go_wp2_with fail
        refine Calls.mono (HB2.out.any (HRI.out.ext ExtC.ext) HGQ.out.1 (by have := HKL.out; omega) (by omega) L true (by have := HGQ.out.2; simpa using this)) ?_
        rintro e w' ⟨rfl, hx⟩; obtain ⟨g4, rfl⟩ := hx.grow; clear hx
        go_wp2_with fail
        go_roundw
        case rel => exact ⟨k + 1, og, oc, n, a, b, C, by omega, by go_num, rfl, by omega, ha, by have := (ExtC.ext : Ext g0.fin g4.fin).size; omega, HAB.out, ExtC.ext, Lib.hid (by rw [HL.out, HCk.out]), Lib.hid (HO.out.ext ExtC.ext), Lib.hid (HB2.out.ext (ExtC.ext : Ext g2.fin g4.fin))⟩
        case measure => simp [intOf]; omega
    · have e : k = L.length := by omega
      subst e
      go_wp2
      go_ret
      have hn := HO.out.len.1
      have ho := HO.out
      rw [hn] at ho ⊢
      have e2 : C = xs := by rw [HN.out, HCk.out]
      subst e2
      exact ⟨_, _, rfl, ho.mono ha hb, ExtC.ext⟩

/-- A truth value appended to a row of them. -/
theorem app_bool {ops : Array Oper} {rest : List Oper} {o : Oper} {a : Act} {Q : Exit → Act → World → Prop} {w0 w : World} {lo : Nat} (s x : Operand) (g n cap : Nat) (bs : List Bool) (ad : Addr) (c : Nat) (y : Bool)
    (hgd : o.guard = none) (ho : o.op = .call { callee := .builtin .append, args := #[s, x], argTypes := #[132, 132] })
    (hs : a.eval s = .slice (some ⟨g, 0, none⟩) n cap) (hown : RowB 4 lo w (.slice (some ⟨g, 0, none⟩) n cap) bs) (hx : a.eval x = .slice (some ad) 1 c)
    (hy : w.cell? (ad.add 0) = some (.bool y)) (hb : bs.length + 1 ≤ 1099511627776) (h0 : Ext w0 w) (hlo : w0.heap.size ≤ lo) (hl : lo ≤ w.heap.size)
    (h : ∀ g' c' w', RowB 4 lo w' (.slice (some ⟨g', 0, none⟩) (bs.length + 1) c') (bs ++ [y]) → Ext w0 w' → wpList Try.prog ops Q rest (a.put o.dst (.slice (some ⟨g', 0, none⟩) (bs.length + 1) c')) w') : wpList Try.prog ops Q (o :: rest) a w := by
  obtain ⟨i0, hi0, hz0, hz1, hz2⟩ := info_parts Try.info_bool
  have hgl := hown.len
  refine wpList_append_own2 w hgd s x _ ho lo 4 i0 (.bool false) 1 1 Try.underlying132 hi0 hz0 hz1 hz2 rfl (by decide) _ bs.length (bs.map Value.bool) hs hown ad 1 c [.bool y] hx (by simp) (fun j u hj => ?_) (fun u hu => ?_) (by unfold maxLen; omega) (by omega) hl (fun v' w' h2 h3 h4 h5 => ?_)
  · have : j = 0 := by have := (List.getElem?_eq_some_iff.1 hj).1; simpa using this
    subst this
    simp at hj; subst hj; exact hy
  · simp at hu; subst hu; rfl
  · obtain ⟨g', c', rfl, -⟩ := h5 (by omega)
    refine h g' c' w' ?_ (h0.grown h3 fun k hk => by simp [Value.ownBlock] at hk; omega)
    unfold RowB
    rw [List.length_append, List.map_append]
    exact h2
theorem bools_empty (w : World) (lo : Nat) (hl : lo ≤ w.heap.size) : RowB 4 lo (w.alloc (.cells #[] 4)) (.slice (some ⟨w.heap.size, 0, none⟩) 0 0) [] :=
  World.ownsRow_made w _ 0 hl (by unfold maxLen; omega) (by rfl)

set_option maxHeartbeats 4000000 in
set_option maxRecDepth 100000 in
theorem spec_l03Trapped (v : Value) (L : List SD) (w : World) (h : RowsS shareKind w v L) (hok : OkS L) :
    Calls Try.prog 138 #[v] w fun e w' => ∃ g c, ∃ bs : List Bool, e = .returned (.slice (some ⟨g, 0, none⟩) L.length c) ∧ RowB 4 w.heap.size w' (.slice (some ⟨g, 0, none⟩) L.length c) bs ∧ (∀ j : Nat, j < L.length → (bs[j]? = some true ↔ Trp L j)) ∧ Ext w w' := by
  have hl := hok.2
  obtain ⟨K, hK⟩ : ∃ K, keptTo L L.length = K := ⟨_, rfl⟩
  have hKl : K.length = L.length := by rw [← hK]; exact keptTo_length L _ (Nat.le_refl _)
  obtain ⟨X, hX⟩ : ∃ X, partsTo L L.length = X := ⟨_, rfl⟩
  have H1 := fun x (hx : Ext w x) => kept_4 v L x (h.ext hx) hok K hK
  have H2 := fun x (hx : Ext w x) => spec_l03Parts v L x (h.ext hx) hok X hX
  have H3 := fun (k : Nat) (hk : k < L.length) v' x (hv : RowsS intKind x v' X) => spec_l03Reached v' k L X hX x hv hok (by omega) (by omega)
  have HT := Lib.hid (fun (k : Nat) (hk : k < L.length) (bs : List Bool) (hg : ∀ j : Nat, bs[j]? = some true ↔ Gets L (k : Int) j) => (by
    rw [trp_spec hok hk hg]
    constructor
    · intro h j hj hb; have := h j hj hb; unfold keepAt at this; rwa [hK, valAt_nat (by omega)] at this
    · intro h j hj hb; unfold keepAt; rw [hK, valAt_nat (by omega)]; exact h j hj hb : Trp L k ↔ ∀ (j : Nat) (hj : j < L.length), bs[j]? = some true → K[j]'(by omega) = 0))
  obtain ⟨vb, vo, vc, rfl, -⟩ := h
  have HKL := Lib.hid hKl
  clear hok hK hX
  go_enter Try.func138, Try.ntmps138
  go_wp2_with fail
  refine Calls.mono (H1 _ ExtC.ext) ?_
  rintro e w' ⟨gk, ck, rfl, ho, hx⟩; obtain ⟨g1, rfl⟩ := hx.grow; clear hx H1
  obtain ⟨kb, ko, kc, hke, -, ikb, hkx⟩ := IS.of_own ho
  simp only [Value.slice.injEq, Option.some.injEq, Addr.mk.injEq, and_true] at hke
  obtain ⟨⟨rfl, rfl⟩, -, rfl⟩ := hke
  have HKX := Lib.hid hkx
  clear ho hkx
  go_wp2_with fail
  go_loopw [4, 5] (fun o i wr => ∃ (k og oc n : Nat) (bs : List Bool), k ≤ L.length ∧ i = .int .i64 k ∧ o = .slice (some ⟨og, 0, none⟩) n oc ∧ bs.length = k ∧ Ext g1.fin wr ∧ Hid (∀ j : Nat, j < k → (bs[j]? = some true ↔ Trp L j)) ∧ Hid (RowB 4 g1.fin.heap.size wr (.slice (some ⟨og, 0, none⟩) n oc) bs)) (fun _ i _ => L.length - (intOf i).toNat)
  case atStart => exact ⟨0, _, _, _, [], Nat.zero_le _, rfl, rfl, rfl, ExtC.ext, Lib.hid fun j hj => absurd hj (by omega), Lib.hid (bools_empty g1.fin _ (Nat.le_refl _))⟩
  case round =>
    obtain ⟨k, og, oc, n, bs, hk, rfl, rfl, hbl, hx, HI, HO⟩ := hrel
    obtain ⟨g0, rfl⟩ := hx.grow; clear hx
    by_cases hlt : k < L.length
    · go_wp2_with fail
      refine Calls.mono (H2 _ ExtC.ext) ?_
      rintro e w' ⟨gp, cp, rfl, ho, hx⟩; obtain ⟨g2, rfl⟩ := hx.grow; clear hx
      have HPO := Lib.hid (OwnR.s ho (by simp)); clear ho
      go_wp2_with fail
      refine Calls.mono (H3 k hlt _ _ (HPO.out.ext ExtC.ext)) ?_
      rintro e w' ⟨gb, cs, rfl, hrb, hcl, hg, hx⟩; obtain ⟨g3, rfl⟩ := hx.grow; clear hx
      have HRB := Lib.hid hrb
      have HG := Lib.hid (HT.out k hlt cs hg)
      have iwb : InW gb g3.fin := ⟨hrb.len.2⟩
      clear hrb hg
      go_wp2_with fail
      go_loopw [7, 8] (fun t i wr => ∃ (j : Nat) (q : Bool), j ≤ L.length ∧ t = .bool q ∧ i = .int .i64 j ∧ Ext g3.fin wr ∧ Hid (q = true ↔ ∀ (m : Nat) (hm : m < K.length), m < j → cs[m]? = some true → K[m] = 0)) (fun _ i _ => L.length - (intOf i).toNat)
      case atStart => exact ⟨0, true, Nat.zero_le _, rfl, rfl, ExtC.ext, Lib.hid ⟨fun _ m _ hm => absurd hm (by omega), fun _ => rfl⟩⟩
      case round =>
        obtain ⟨j, q, hj, rfl, rfl, hx, HQ⟩ := hrel
        obtain ⟨g4, rfl⟩ := hx.grow; clear hx
        by_cases hjl : j < L.length
        · have hjc : j < cs.length := by omega
          have hjk : j < K.length := by omega
          have c1 := (HRB.out.ext (ExtC.ext : Ext g3.fin g3.fin)).cell j hjc
          have c2 := HKX.out j hjk
          rw [Nat.zero_add] at c2
          obtain ⟨r, hr⟩ : ∃ r, cs[j] = r := ⟨_, rfl⟩
          obtain ⟨z, hz⟩ : ∃ z, K[j] = z := ⟨_, rfl⟩
          rw [hr] at c1
          rw [hz] at c2
          have HSTEP : Hid ((q && (!r || z == 0)) = true ↔ ∀ (m : Nat) (hm : m < K.length), m < j + 1 → cs[m]? = some true → K[m] = 0) := Lib.hid (by
            rw [Bool.and_eq_true, HQ.out, Bool.or_eq_true, Bool.not_eq_true', beq_iff_eq]
            constructor
            · rintro ⟨h1, h2⟩ m hm hmj hc
              by_cases e : m = j
              · subst e
                rw [List.getElem?_eq_getElem hjc, hr] at hc
                rw [hz]
                rcases h2 with h2 | h2
                · rw [h2] at hc; simp at hc
                · exact h2
              · exact h1 m hm (by omega) hc
            · intro h
              refine ⟨fun m hm hmj hc => h m hm (by omega) hc, ?_⟩
              cases r
              · exact .inl rfl
              · have := h j hjk (by omega) (by rw [List.getElem?_eq_getElem hjc, hr])
                rw [hz] at this
                exact .inr this)
          clear hr hz hjc hjk
          cases q
          · go_wp2_with fail
            go_roundw
            case rel => exact ⟨j + 1, false, by omega, rfl, by go_num, ExtC.ext, Lib.hid (by have := HSTEP.out; simpa using this)⟩
            case measure => simp [intOf]; omega
          · cases r
            · go_wp2_with fail
              go_roundw
              case rel => exact ⟨j + 1, true, by omega, rfl, by go_num, ExtC.ext, Lib.hid (by have := HSTEP.out; simpa using this)⟩
              case measure => simp [intOf]; omega
            · go_wp2_with fail
              go_roundw
              case rel => exact ⟨j + 1, (z == 0), by omega, rfl, by go_num, ExtC.ext, Lib.hid (by have := HSTEP.out; simpa using this)⟩
              case measure => simp [intOf]; omega
        · have HFI : Hid (q = true ↔ Trp L k) := Lib.hid (by
            rw [HQ.out, HG.out]
            have hkl := HKL.out
            exact ⟨fun h m hm hc => h m (by omega) (by omega) hc, fun h m hm _ hc => h m (by omega) hc⟩)
          go_wp2_with (at_builtin; refine app_bool (w0 := g1.fin) (lo := g1.fin.heap.size) _ _ og n oc bs ⟨g4.fin.heap.size, 0, none⟩ 1 q rfl rfl rfl (HO.out.ext ExtC.ext) rfl (cell_new _ _ _) (by omega) ExtC.ext (Nat.le_refl _) (by have := (ExtC.ext : Ext g1.fin g4.fin).size; simp; omega) ?_; intro g' c' w' ho hx; obtain ⟨g5, rfl⟩ := hx.grow; clear hx; have HO2 := Lib.hid ho; clear ho)
          go_roundw
          case rel =>
            refine ⟨k + 1, g', c', _, bs ++ [q], by omega, by go_num, rfl, by simp; omega, ExtC.ext, Lib.hid fun m hm => ?_, by rw [hbl] at HO2; exact HO2⟩
            by_cases e : m < k
            · rw [List.getElem?_append_left (by omega)]; exact HI.out m e
            · have e2 : m = bs.length := by omega
              subst e2
              rw [List.getElem?_concat_length]
              have := HFI.out
              rw [← hbl] at this
              simpa using this
          case measure => simp [intOf]; omega
    · have e : k = L.length := by omega
      subst e
      go_wp2
      go_ret
      have hn := HO.out.eq
      have ho := HO.out
      rw [hn, hbl] at ho ⊢
      exact ⟨_, _, bs, rfl, ownsRow_mono ho (ExtC.ext : Ext w g1.fin).size, fun j hj => HI.out j (by omega), ExtC.ext⟩

set_option maxHeartbeats 1000000 in
theorem impl_TrappedMembers0 (v : Value) (L : List SD) (w : World) (h : RowsS shareKind w v L) (hs : ShortRows L) (hsm : ∀ i (h : i < L.length), L[i].length ≤ 1048576) (hno : ¬ OkS L) :
    Calls Try.prog 67 #[v] w fun e w' => ∃ v', e = .returned (.tuple #[v', .bool false]) ∧ OwnI w.heap.size w'.heap.size w' v' [] ∧ Ext w w' := by
  have H1 := fun x (hx : Ext w x) => (impl_ValidShares v L x (h.ext hx) hs hsm).mono fun e w' (h : RetB (OkS L) e ∧ Ext x w') => (⟨h.1.told' (b := false) (by simp [hno]), h.2⟩ : e = .returned (.bool false) ∧ Ext x w')
  clear hno
  go_enter Try.func67, Try.ntmps67
  go_wp2_with (first | (go_at_call 124; (with_reducible refine (H1 _ ExtC.ext).mono ?_); rintro e w' ⟨rfl, hx⟩; obtain ⟨g, rfl⟩ := hx.grow; clear hx))
  refine bodyPost_ret (v := .tuple #[.slice none 0 0, .bool false]) (by simp [results, Try.results67, go_sem]) rfl ?_
  exact ⟨_, rfl, .inl ⟨rfl, rfl⟩, ExtC.ext⟩
set_option maxHeartbeats 1000000 in
theorem spec_TrappedMembers0 (v : Value) (L : List SD) (w : World) (h : RowsS shareKind w v L) (hs : ShortRows L) (hsm : ∀ i (h : i < L.length), L[i].length ≤ 1048576) (hno : ¬ OkS L) :
    Calls Try.prog 66 #[v] w fun e w' => ∃ v', e = .returned (.tuple #[v', .bool false]) ∧ OwnI w.heap.size w'.heap.size w' v' [] ∧ Ext w w' := by
  have H1 := fun x (hx : Ext w x) => (spec_l03Is v L x (h.ext hx) hs hsm).mono fun e w' (h : RetB (OkS L) e ∧ Ext x w') => (⟨h.1.told' (b := false) (by simp [hno]), h.2⟩ : e = .returned (.bool false) ∧ Ext x w')
  clear hno
  go_enter Try.func66, Try.ntmps66
  go_wp2_with (first | (go_at_call 122; (with_reducible refine (H1 _ ExtC.ext).mono ?_); rintro e w' ⟨rfl, hx⟩; obtain ⟨g, rfl⟩ := hx.grow; clear hx))
  refine bodyPost_ret (v := .tuple #[.slice none 0 0, .bool false]) (by simp [results, Try.results66, go_sem]) rfl ?_
  exact ⟨_, rfl, .inl ⟨rfl, rfl⟩, ExtC.ext⟩

theorem trp_no {L : List SD} {b : Bool} {xs : List Int} (hno : ¬ OkS L) (hb : okSB L = b) (hxs : trpX L = xs) : b = false ∧ xs = [] := by
  refine ⟨?_, by rw [← hxs]; unfold trpX; rw [if_neg hno]⟩
  cases b
  · rfl
  · exact absurd ((okSB_iff hb).1 rfl) hno
set_option maxHeartbeats 1000000 in
theorem impl_TrappedMembers' (v : Value) (L : List SD) (w : World) (h : RowsS shareKind w v L) (hs : ShortRows L) (hsm : ∀ i (h : i < L.length), L[i].length ≤ 1048576) (b : Bool) (hb : okSB L = b) (xs : List Int) (hxs : trpX L = xs) :
    Calls Try.prog 67 #[v] w fun e w' => ∃ v', e = .returned (.tuple #[v', .bool b]) ∧ OwnI w.heap.size w'.heap.size w' v' xs ∧ Ext w w' := by
  by_cases hok : OkS L
  · have hbt := (okSB_iff hb).2 hok
    subst hbt
    have H1 := fun x (hx : Ext w x) => (impl_ValidShares v L x (h.ext hx) hs hsm).mono fun e w' (h : RetB (OkS L) e ∧ Ext x w') => (⟨h.1.told' (okSB_iff hb), h.2⟩ : e = .returned (.bool true) ∧ Ext x w')
    have HB := fun x (hx : Ext w x) => impl_trapped v L x (h.ext hx) hok xs (by rw [← hxs]; unfold trpX; rw [if_pos hok])
    clear hb hxs hok
    go_enter Try.func67, Try.ntmps67
    go_wp2_with (first | (go_at_call 124; (with_reducible refine (H1 _ ExtC.ext).mono ?_); rintro e w' ⟨rfl, hx⟩; obtain ⟨g, rfl⟩ := hx.grow; clear hx))
    refine Calls.mono (HB _ ExtC.ext) ?_
    rintro e w' ⟨gp, cp, rfl, ho, hx⟩; obtain ⟨g3, rfl⟩ := hx.grow; clear hx
    have HO := Lib.hid ho; clear ho HB
    go_wp2_with fail
    refine bodyPost_ret (v := .tuple #[.slice (some ⟨gp, 0, none⟩) xs.length cp, .bool true]) (by simp [results, Try.results67, go_sem]) rfl ?_
    exact ⟨_, rfl, HO.out.mono (ExtC.ext : Ext w _).size (Nat.le_refl _), ExtC.ext⟩
  · obtain ⟨rfl, rfl⟩ := trp_no hok hb hxs
    exact impl_TrappedMembers0 v L w h hs hsm hok
set_option maxHeartbeats 1000000 in
theorem spec_TrappedMembers' (v : Value) (L : List SD) (w : World) (h : RowsS shareKind w v L) (hs : ShortRows L) (hsm : ∀ i (h : i < L.length), L[i].length ≤ 1048576) (b : Bool) (hb : okSB L = b) (xs : List Int) (hxs : trpX L = xs) :
    Calls Try.prog 66 #[v] w fun e w' => ∃ v', e = .returned (.tuple #[v', .bool b]) ∧ OwnI w.heap.size w'.heap.size w' v' xs ∧ Ext w w' := by
  by_cases hok : OkS L
  · have hbt := (okSB_iff hb).2 hok
    subst hbt
    have hl := hok.2
    have H1 := fun x (hx : Ext w x) => (spec_l03Is v L x (h.ext hx) hs hsm).mono fun e w' (h : RetB (OkS L) e ∧ Ext x w') => (⟨h.1.told' (okSB_iff hb), h.2⟩ : e = .returned (.bool true) ∧ Ext x w')
    have HB := fun x (hx : Ext w x) => spec_l03Trapped v L x (h.ext hx) hok
    have HN := Lib.hid (fun (bs : List Bool) (hg : ∀ j : Nat, j < L.length → (bs[j]? = some true ↔ Trp L j)) => (by rw [← hxs]; unfold trpX; rw [if_pos hok]; exact setB_trp hg : setB bs L.length = xs))
    clear hb hxs hok
    go_enter Try.func66, Try.ntmps66
    go_wp2_with (first | (go_at_call 122; (with_reducible refine (H1 _ ExtC.ext).mono ?_); rintro e w' ⟨rfl, hx⟩; obtain ⟨g, rfl⟩ := hx.grow; clear hx))
    refine Calls.mono (HB _ ExtC.ext) ?_
    rintro e w' ⟨gb, cb, bs, rfl, hrb, hg, hx⟩; obtain ⟨g4, rfl⟩ := hx.grow; clear hx
    have HRB := Lib.hid (And.intro hrb (HN.out bs hg)); clear hrb hg HB
    go_wp2_with fail
    refine Calls.mono (spec_l03Set gb L.length _ bs _ _ (HRB.out.1.ext ExtC.ext) (by omega) xs HRB.out.2) ?_
    rintro e w' ⟨gr, cr, rfl, ho, hx⟩; obtain ⟨g5, rfl⟩ := hx.grow; clear hx
    have HO5 := Lib.hid ho; clear ho
    go_wp2_with fail
    refine bodyPost_ret (v := .tuple #[.slice (some ⟨gr, 0, none⟩) xs.length cr, .bool true]) (by simp [results, Try.results66, go_sem]) rfl ?_
    exact ⟨_, rfl, HO5.out.mono (ExtC.ext : Ext w _).size (Nat.le_refl _), ExtC.ext⟩
  · obtain ⟨rfl, rfl⟩ := trp_no hok hb hxs
    exact spec_TrappedMembers0 v L w h hs hsm hok
end Go.Proofs.Ytbbppkcdgcajjaa
