/- The law on RanksOf. No condition. -/
import Derived.Test.YtgaooafdalhdpaaVoiceArg
import Derived.Test.YtgaooafdalhdpaaVoiceMark
import Derived.Test.YtgaooafdalhdpaaRanks2
namespace Go.Proofs.Ytgaooafdalhdpaa
open Go.ChangeShapes Go.WideShapes Go.ChangeAt Go.RowKit Go.Joins

open Classical in
noncomputable def rkB (L : List VD) (p : List Int) : Bool := decide (OkV L ∧ PathP L p)
open Classical in
noncomputable def rkX (L : List VD) (p : List Int) : List Int := if OkV L ∧ PathP L p then rk L p else []
theorem rkX_len (L : List VD) (p : List Int) : (rkX L p).length ≤ p.length := by
  unfold rkX; split
  · simp [rk]
  · simp
theorem RankR.own {w w' : World} {L : List VD} {p : List Int} {e : Ending} (h : RankR w L p e w') : ∃ v', e = .returned (.tuple #[v', .bool (rkB L p)]) ∧ OwnI w.heap.size w'.heap.size w' v' (rkX L p) ∧ Ext w w' := by
  obtain ⟨⟨hn, rfl⟩ | ⟨hy, v', rfl, -, ho⟩, hx⟩ := h
  · exact ⟨_, by simp [rkB, hn], .inl ⟨rfl, by simp [rkX, hn]⟩, hx⟩
  · exact ⟨v', by simp [rkB, hy], by simpa [rkX, hy] using ho, hx⟩
theorem impl_RanksOf' (v u : Value) (L : List VD) (p : List Int) (w : World) (h : VS w v L) (hs : Short L) (hp : IS w u p) (hpn : p.length ≤ 1048576) (b : Bool) (hb : rkB L p = b) (xs : List Int) (hxs : rkX L p = xs) :
    Calls Try.prog 31 #[v, u] w fun e w' => ∃ v', e = .returned (.tuple #[v', .bool b]) ∧ OwnI w.heap.size w'.heap.size w' v' xs ∧ Ext w w' := by
  subst hb hxs
  exact Calls.mono (impl_RanksOf v u L p w h hs hp hpn) fun e w' h => h.own
theorem spec_RanksOf' (v u : Value) (L : List VD) (p : List Int) (w : World) (h : VS w v L) (hs : Short L) (hp : IS w u p) (hpn : p.length ≤ 1048576) (b : Bool) (hb : rkB L p = b) (xs : List Int) (hxs : rkX L p = xs) :
    Calls Try.prog 30 #[v, u] w fun e w' => ∃ v', e = .returned (.tuple #[v', .bool b]) ∧ OwnI w.heap.size w'.heap.size w' v' xs ∧ Ext w w' := by
  subst hb hxs
  exact Calls.mono (spec_RanksOf v u L p w h hs hp hpn) fun e w' h => h.own

set_option maxHeartbeats 2000000 in
theorem law_RanksOf (v u : Value) (L : List VD) (p : List Int) (w : World) (h : RV w v L) (hs : ShortR L) (hu : RI w u p) (hpl : p.length ≤ 9223372036854775807) :
    Calls Try.prog 6 #[v, u] w fun e w' => e = .returned (.bool true) ∧ Ext w w' := by
  obtain ⟨q, qc, rfl, -, hq⟩ := hu.form
  have HQ := Lib.hid hq; clear hq
  by_cases hbig : 1048576 < p.length
  · go_enter Try.func6, Try.ntmps6
    go_wp2_with fail
    go_ret
    exact ⟨rfl, ExtC.ext⟩
  go_enter Try.func6, Try.ntmps6
  go_wp2_with fail
  refine Calls.mono (laws_szVoiceS v L _ (h.ext ExtC.ext) hs.1 hs.2) ?_
  rintro e w' ⟨r, rfl, hr, hx⟩; obtain ⟨g, rfl⟩ := hx.grow; clear hx
  rcases hr with hr | ⟨hr, hl, hm⟩
  · go_wp2_with fail
    go_ret
    exact ⟨rfl, ExtC.ext⟩
  have hsh := short_of hl hm
  have hvc : vcnt L ≤ 2097152 := by rw [vcnt_sum]; omega
  obtain ⟨bb, hbb⟩ : ∃ b, rkB L p = b := ⟨_, rfl⟩
  obtain ⟨xs, hxs⟩ : ∃ x, rkX L p = x := ⟨_, rfl⟩
  have hxl : xs.length ≤ 1048576 := by rw [← hxs]; exact Nat.le_trans (rkX_len L p) (by omega)
  go_wp2_with fail
  refine Calls.mono (laws_toVoiceS v L _ (h.ext ExtC.ext) hl hm) ?_
  rintro e w' ⟨v1, rfl, n1, o1, hx⟩; obtain ⟨g1, rfl⟩ := hx.grow; clear hx
  go_wp2_with fail
  refine Calls.mono (laws_toInt64S _ p _ (hu.ext ExtC.ext) (by omega)) ?_
  rintro e w' ⟨u1, rfl, m1, p1, hx⟩; obtain ⟨g2, rfl⟩ := hx.grow; clear hx
  go_wp2_with fail
  refine Calls.mono (spec_RanksOf' v1 u1 L p _ ((o1.vs n1).ext ExtC.ext) hsh (p1.is m1) (by omega) bb hbb xs hxs) ?_
  rintro e w' ⟨s0, rfl, so, hx⟩; obtain ⟨g3, rfl⟩ := hx.grow; clear hx
  go_wp2_with fail
  refine Calls.mono (laws_toVoiceS v L _ (h.ext ExtC.ext) hl hm) ?_
  rintro e w' ⟨v2, rfl, n2, o2, hx⟩; obtain ⟨g4, rfl⟩ := hx.grow; clear hx
  go_wp2_with fail
  refine Calls.mono (laws_toInt64S _ p _ (hu.ext ExtC.ext) (by omega)) ?_
  rintro e w' ⟨u2, rfl, m2, p2, hx⟩; obtain ⟨g5, rfl⟩ := hx.grow; clear hx
  go_wp2_with fail
  refine Calls.mono (impl_RanksOf' v2 u2 L p _ ((o2.vs n2).ext ExtC.ext) hsh (p2.is m2) (by omega) bb hbb xs hxs) ?_
  rintro e w' ⟨r0, rfl, ro, hx⟩; obtain ⟨g6, rfl⟩ := hx.grow; clear hx
  go_wp2_with fail
  refine Calls.mono (laws_eqInt64S r0 s0 xs xs true (by simp) _ ro.ri (so.ext ExtC.ext).ri (by omega) (by omega)) ?_
  rintro e w' ⟨rfl, hx⟩; obtain ⟨g7, rfl⟩ := hx.grow; clear hx
  go_wp2_with fail
  refine Calls.mono (laws_toVoiceS v L _ (h.ext ExtC.ext) hl hm) ?_
  rintro e w' ⟨v3, rfl, n3, o3, hx⟩; obtain ⟨g8, rfl⟩ := hx.grow; clear hx
  go_wp2_with fail
  refine Calls.mono (laws_eqVoiceS v2 v3 L L true (by simp) _ ((o2.ext ExtC.ext).rv) o3.rv hsh hsh) ?_
  rintro e w' ⟨rfl, hx⟩; obtain ⟨g9, rfl⟩ := hx.grow; clear hx
  go_wp2_with fail
  refine Calls.mono (laws_toInt64S _ p _ (hu.ext ExtC.ext) (by omega)) ?_
  rintro e w' ⟨u3, rfl, m3, p3, hx⟩; obtain ⟨g10, rfl⟩ := hx.grow; clear hx
  go_wp2_with fail
  refine Calls.mono (laws_eqInt64S u2 u3 p p true (by simp) _ ((p2.ext ExtC.ext).ri) p3.ri (by omega) (by omega)) ?_
  rintro e w' ⟨rfl, hx⟩; obtain ⟨g11, rfl⟩ := hx.grow; clear hx
  go_wp2_with fail
  refine Calls.mono (laws_markVoiceS v2 L 1 g11.fin _ _ (o2.ext ExtC.ext) (by omega) (by omega)) ?_
  rintro e w' ⟨rfl, -, hr⟩
  have so1 := OwnI.rng (so.ext (ExtC.ext : Ext g3.fin g11.fin)) hr (.inl (Nat.le_refl _))
  have p21 := OwnI.rng (p2.ext (ExtC.ext : Ext g5.fin g11.fin)) hr (.inr (Nat.le_refl _))
  have ro1 := OwnI.rng (ro.ext (ExtC.ext : Ext g6.fin g11.fin)) hr (.inr (ExtC.ext : Ext g4.fin g5.fin).size)
  obtain ⟨k1, rfl⟩ := (Ext.rng (ExtC.ext : Ext w g11.fin) hr (ExtC.ext : Ext w g3.fin).size).grow
  clear hr
  go_wp2_with fail
  refine Calls.mono (laws_markInt64S u2 p (1 + vcnt L) k1.fin _ _ p21 (by omega) (by omega) (by omega)) ?_
  rintro e w' ⟨rfl, -, hr⟩
  have so2 := OwnI.rng so1 hr (.inl (ExtC.ext : Ext g3.fin g4.fin).size)
  have ro2 := OwnI.rng ro1 hr (.inr (Nat.le_refl _))
  obtain ⟨k2, rfl⟩ := (Ext.rng (ExtC.ext : Ext w k1.fin) hr (ExtC.ext : Ext w g4.fin).size).grow
  clear hr so1 p21 ro1
  have hk : decide (1 + (vcnt L : Int) + (p.length : Int) < 0) = false := by simp; omega
  have hk2 : ¬ (1 + (vcnt L : Int) + (p.length : Int) < 0) := by omega
  go_wp2_with fail
  refine Calls.mono (laws_eqInt64S r0 s0 xs xs true (by simp) _ ro2.ri so2.ri (by omega) (by omega)) ?_
  rintro e w' ⟨rfl, hx⟩; obtain ⟨k3, rfl⟩ := hx.grow; clear hx
  go_wp2_with fail
  refine Calls.mono (laws_markInt64S r0 xs 1 k3.fin _ _ (ro2.ext ExtC.ext) (by omega) (by omega) (by omega)) ?_
  rintro e w' ⟨rfl, rm, hr⟩
  have so3 := OwnI.rng (so2.ext (ExtC.ext : Ext k2.fin k3.fin)) hr (.inl (ExtC.ext : Ext g3.fin g5.fin).size)
  obtain ⟨k4, rfl⟩ := (Ext.rng (ExtC.ext : Ext w k3.fin) hr (ExtC.ext : Ext w g5.fin).size).grow
  clear hr
  go_wp2_with fail
  refine Calls.mono (laws_heldInt64S r0 xs.length 1 _ rm.ri (by omega) (by omega) (by omega)) ?_
  rintro e w' ⟨rfl, hx⟩; obtain ⟨k5, rfl⟩ := hx.grow; clear hx
  have hk3 : decide (1 + (xs.length : Int) < 0) = false := by simp; omega
  have hk4 : ¬ (1 + (xs.length : Int) < 0) := by omega
  go_wp2_with fail
  refine Calls.mono (laws_toVoiceS v L _ (h.ext ExtC.ext) hl hm) ?_
  rintro e w' ⟨v4, rfl, n4, o4, hx⟩; obtain ⟨k6, rfl⟩ := hx.grow; clear hx
  go_wp2_with fail
  refine Calls.mono (laws_toInt64S _ p _ (hu.ext ExtC.ext) (by omega)) ?_
  rintro e w' ⟨u4, rfl, m4, p4, hx⟩; obtain ⟨k7, rfl⟩ := hx.grow; clear hx
  go_wp2_with fail
  refine Calls.mono (impl_RanksOf' v4 u4 L p _ ((o4.vs n4).ext ExtC.ext) hsh (p4.is m4) (by omega) bb hbb xs hxs) ?_
  rintro e w' ⟨r1, rfl, rp, hx⟩; obtain ⟨k8, rfl⟩ := hx.grow; clear hx
  go_wp2_with fail
  refine Calls.mono (laws_eqInt64S r1 s0 xs xs true (by simp) _ rp.ri (so3.ext ExtC.ext).ri (by omega) (by omega)) ?_
  rintro e w' ⟨rfl, hx⟩; obtain ⟨k9, rfl⟩ := hx.grow; clear hx
  go_wp2_with fail
  refine Calls.mono (laws_heldInt64S r0 xs.length 1 _ (rm.ext ExtC.ext).ri (by omega) (by omega) (by omega)) ?_
  rintro e w' ⟨rfl, hx⟩; obtain ⟨k10, rfl⟩ := hx.grow; clear hx
  go_wp2_with fail
  go_ret
  exact ⟨rfl, ExtC.ext⟩

set_option maxRecDepth 100000 in
theorem FnExactRanksOf_lifted (os : Os) (started : os.Started) (H : Type) (enc : TypeId × Value → H) :
    ReturnsInHanded {} Try.checked os 6 .any (Rows.fnExactRanksOfSpec.pre6 enc Try.prog Try.f6 Rows.fnExactRanksOfRow.domain false) (Rows.fnExactRanksOfSpec.post enc Try.prog Try.f6 false true false false) := by
  refine returnsInHanded_of_change (C := Try.checked) Try.own started (by kernel_rfl) Try.func6
    (ChangeSpec.witness6 (enc := enc) (C := Try.checked) false ⟨#[], #[.slice none 0 0, .slice none 0 0], []⟩ 8 (by kernel_rfl) (by kernel_rfl) (by kernel_rfl) (by kernel_rfl)) ?_
  intro W base args ds gs before hval0 hW hcnd _
  have hval : ∀ (j : Nat) t v, Try.f6.params[j]? = some t → args[j]? = some v → Value.okWide Try.prog W .any base t v := hval0
  have hW' := hW
  obtain ⟨p, q, hA0, hV, rfl, hfz, hnd⟩ := hW
  have hA : DataW.TrodAll enc Try.prog W 0 (fun _ => true) true Try.f6.params.toList args.toList ds p := hA0
  rw [Try.params6] at hA hval
  obtain ⟨v0, v1, d0, d1, p0, p1, rfl, rfl, rfl, h0, h1⟩ := trodAll_two hA
  obtain ⟨rfl, rfl⟩ := trodVars_none hV
  obtain ⟨L, hL, hs⟩ := open_voices (hval 0 22 v0 rfl rfl) h0
  obtain ⟨p, hp, hpl, -⟩ := open_i64s (hval 1 29 v1 rfl rfl) h1
  clear hA0 hval0
  refine (law_RanksOf v0 v1 L p W hL hs hp hpl).mono fun e W' ⟨he, hx⟩ => ?_
  subst he
  exact ⟨_, rfl, law_post (T := 4) Try.laidOut (by kernel_rfl) (by kernel_rfl) Try.underlying4 (by kernel_rfl) rfl hW' rfl rfl rfl hx⟩

theorem FnExactRanksOf_holds : Rows.FnExactRanksOfSaid :=
  OpenClaim.holds_of_wide 6 Try.f6 rfl rfl rfl rfl rfl rfl rfl ⟨rfl, rfl, rfl, rfl, rfl⟩ rfl rfl rfl rfl rfl (by kernel_rfl) Try.func6 (by kernel_rfl)
    (of_decide_eq_true (by kernel_rfl)) (by unfold Func.isWrapper; first | (rw [if_pos (by decide +kernel)]; kernel_rfl) | (rw [if_neg (by decide +kernel)]; exact ⟨rfl, rfl⟩))
    (fun os started H enc _ => FnExactRanksOf_lifted os started H enc)
#print axioms FnExactRanksOf_holds
end Go.Proofs.Ytgaooafdalhdpaa
