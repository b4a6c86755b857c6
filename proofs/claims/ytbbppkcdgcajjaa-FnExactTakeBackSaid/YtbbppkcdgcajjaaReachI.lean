/- Whom something of a ballot comes to, on the program's side; who is a member. -/
import Derived.Test.YtbbppkcdgcajjaaReach
import Derived.Test.YtbbppkcdgcajjaaKept
import Derived.Test.YtbbppkcdgcajjaaSort
import Derived.Test.YtbbppkcdgcajjaaPathsOf
namespace Go.Proofs.Ytbbppkcdgcajjaa
open Go.RowKit

section
variable {L : List SD} {m : Int}
theorem Fnd.skip' {V : List Int} {i k a : Nat} (h : Fnd L m V i k) (hi : i < V.length) (hV : V[i] = (a : Int)) (ha : a < L.length) (hk : k < L[a].length) (hx : L[a][k].1 ∈ V) : Fnd L m V i (k + 1) := by
  have e : V[i].toNat = a := by omega
  subst e
  exact h.skip hi ha hk hx
theorem Fnd.add' (hok : OkS L) {V : List Int} {i k a : Nat} (h : Fnd L m V i k) (hi : i < V.length) (hV : V[i] = (a : Int)) (ha : a < L.length) (hk : k < L[a].length) (hx : L[a][k].1 ∉ V) : Fnd L m (V ++ [L[a][k].1]) i (k + 1) := by
  have e : V[i].toNat = a := by omega
  subst e
  exact h.add hok hi ha hk hx
theorem Fnd.next' {V : List Int} {i k a : Nat} (h : Fnd L m V i k) (hi : i < V.length) (hV : V[i] = (a : Int)) (ha : a < L.length) (hk : L[a].length ≤ k) : Fnd L m V (i + 1) 0 := by
  have e : V[i].toNat = a := by omega
  subst e
  exact h.next hi ha hk
end

set_option maxHeartbeats 4000000 in
set_option maxRecDepth 100000 in
theorem impl_reached (v : Value) (m : Int) (L : List SD) (w : World) (h : RowsS shareKind w v L) (hok : OkS L) (h0 : 0 ≤ m) (h1 : m < L.length) (R : List Int) (hR : getsL L m = R) :
    Calls Try.prog 137 #[v, .int .i64 m] w fun e w' => ∃ g c, e = .returned (.slice (some ⟨g, 0, none⟩) R.length c) ∧ OwnI w.heap.size w'.heap.size w' (.slice (some ⟨g, 0, none⟩) R.length c) R ∧ Ext w w' := by
  have HK := Lib.hid hok
  have hl := hok.2
  have HRR := Lib.hid (fun V k (hF : Fnd L m V k 0) (hk : V.length ≤ k) => (hF.sorted hok h0 h1 hk).trans hR)
  obtain ⟨b, off, cap, rfl, -, hb, hc⟩ := h
  have HC := Lib.hid hc
  clear hc hok hR
  go_enter Try.func137, Try.ntmps137
  go_wp2_with fail
  go_loopw [5, 6] (fun o i wr => ∃ (V : List Int) (k og oc : Nat), i = .int .i64 k ∧ o = .slice (some ⟨og, 0, none⟩) V.length oc ∧ k ≤ V.length ∧ V.length ≤ L.length ∧ Ext w wr ∧ Hid (Fnd L m V k 0) ∧ Hid (OwnI w.heap.size wr.heap.size wr (.slice (some ⟨og, 0, none⟩) V.length oc) V)) (fun _ i _ => L.length - (intOf i).toNat)
  case atStart => exact ⟨[m], 0, _, _, rfl, rfl, by simp, by simp; omega, ExtC.ext, Lib.hid (Fnd.first h0 h1), Lib.hid ((own_one w m).mono (Nat.le_refl _) (by simp))⟩
  case round =>
    obtain ⟨V, k, og, oc, rfl, rfl, hk, hV, hx, HF, HO⟩ := hrel
    obtain ⟨g0, rfl⟩ := hx.grow; clear hx
    by_cases hlt : k < V.length
    · obtain ⟨ub, uo, uc', hue, -, iub, hux⟩ := IS.of_own HO.out
      simp only [Value.slice.injEq, Option.some.injEq, Addr.mk.injEq, and_true] at hue
      obtain ⟨⟨rfl, rfl⟩, -, rfl⟩ := hue
      have du := hux k hlt
      rw [Nat.zero_add] at du
      clear hux
      have hrg := HF.out.nd k hlt
      obtain ⟨an, han⟩ := Int.eq_ofNat_of_zero_le hrg.1
      rw [han] at du
      have hal : an < L.length := by have := hrg.2.1; omega
      obtain ⟨t, d2, d3⟩ := HC.out an hal
      have hp := HK.out.1 an hal
      have hf12 := hp.few
      obtain ⟨p, tc, rfl, htc, d4⟩ := RP.form d3
      have D4 := Lib.hid d4; clear d3 d4
      have HAN := Lib.hid han
      clear hrg hp han
      go_wp2_with fail
      go_loopw [5, 25] (fun o q wr => ∃ (V2 : List Int) (j og2 oc2 : Nat), q = .int .i64 j ∧ o = .slice (some ⟨og2, 0, none⟩) V2.length oc2 ∧ j ≤ L[an].length ∧ V2.length ≤ L.length ∧ Ext w wr ∧ Hid (Fnd L m V2 k j ∧ V2[k]? = some (an : Int)) ∧ Hid (OwnI w.heap.size wr.heap.size wr (.slice (some ⟨og2, 0, none⟩) V2.length oc2) V2)) (fun _ q _ => L[an].length - (intOf q).toNat)
      case atStart => exact ⟨V, 0, _, _, rfl, rfl, Nat.zero_le _, hV, ExtC.ext, Lib.hid ⟨HF.out, by rw [List.getElem?_eq_getElem hlt, HAN.out]⟩, HO⟩
      case round =>
        obtain ⟨V2, j, og2, oc2, rfl, rfl, hj, hV2, hx, HF2, HO2⟩ := hrel
        obtain ⟨g1, rfl⟩ := hx.grow; clear hx
        have hk2 : k < V2.length := (List.getElem?_eq_some_iff.1 HF2.out.2).1
        have HVK := Lib.hid (List.getElem?_eq_some_iff.1 HF2.out.2).2
        by_cases hjl : j < L[an].length
        · obtain ⟨b', off', hpp, ib', c'⟩ := D4.out (by omega)
          subst hpp
          obtain ⟨d5, d6⟩ := c' j hjl
          have CC := Lib.hid c'; clear c'
          obtain ⟨y, hy⟩ : ∃ y, L[an][j].1 = y := ⟨_, rfl⟩
          rw [hy] at d5
          have HY := Lib.hid hy; clear hy
          cases q : decide (y ∈ V2)
          · have hadd := HF2.out.1.add' HK.out hk2 HVK.out hal hjl (by rw [HY.out]; simpa using q)
            rw [HY.out] at hadd
            have hfew := hadd.few
            have HADD := Lib.hid hadd; clear hadd
            go_wp2_with (first | (go_at_call 86; (with_reducible refine (slices_Contains _ V2 _ _ (by assumption) _ (HO2.out.ri.ext ExtC.ext) (by omega)).mono ?_); rintro e w' ⟨rfl, hx⟩; obtain ⟨g2, rfl⟩ := hx.grow; clear hx) | (at_builtin; refine app_int (w0 := w) (lo := w.heap.size) (hi := g1.fin.heap.size) _ _ (.slice (some ⟨og2, 0, none⟩) V2.length oc2) V2 ⟨g2.fin.heap.size, 0, none⟩ 1 [y] rfl rfl rfl (HO2.out.ext ExtC.ext) rfl (cells_one _ _ _) (by simp; omega) ExtC.ext (Nat.le_refl _) (by have := (ExtC.ext : Ext w g2.fin).size; simp; omega) (by simp) ?_; intro g' c' w' ho hx; obtain ⟨g3, rfl⟩ := hx.grow; clear hx; have HO3 := Lib.hid (own_snoc_len ho); clear ho))
            go_roundw
            case rel => exact ⟨V2 ++ [y], j + 1, g', c', by go_num, by simp, by omega, hfew, ExtC.ext, Lib.hid ⟨HADD.out, by rw [List.getElem?_append_left hk2]; exact HF2.out.2⟩, Lib.hid (by have := HO3.out; simpa using this)⟩
            case measure => simp [intOf]; omega
          · have HSK := Lib.hid (HF2.out.1.skip' hk2 HVK.out hal hjl (by rw [HY.out]; simpa using q))
            go_wp2_with (first | (go_at_call 86; (with_reducible refine (slices_Contains _ V2 _ _ (by assumption) _ (HO2.out.ri.ext ExtC.ext) (by omega)).mono ?_); rintro e w' ⟨rfl, hx⟩; obtain ⟨g2, rfl⟩ := hx.grow; clear hx))
            go_roundw
            case rel => exact ⟨V2, j + 1, og2, oc2, by go_num, rfl, by omega, hV2, ExtC.ext, Lib.hid ⟨HSK.out, HF2.out.2⟩, Lib.hid ((HO2.out.ext ExtC.ext).mono (Nat.le_refl _) (ExtC.ext : Ext g1.fin _).size)⟩
            case measure => simp [intOf]; omega
        · have HNX := Lib.hid (HF2.out.1.next' hk2 HVK.out hal (by omega))
          go_wp2_with fail
          go_roundw
          case rel => exact ⟨V2, k + 1, og2, oc2, by go_num, rfl, by omega, hV2, ExtC.ext, HNX, HO2⟩
          case measure => simp [intOf]; omega
    · have e : k = V.length := by omega
      subst e
      have HE := Lib.hid (HRR.out V _ HF.out (Nat.le_refl _))
      go_wp2_with fail
      refine Calls.mono (slices_Sort _ _ (HO.out.ext ExtC.ext) (by omega)) ?_
      rintro e w' ⟨rfl, ho, hr⟩
      obtain ⟨g5, rfl⟩ := (Ext.rng (ExtC.ext : Ext w g0.fin) hr (by have := HO.out.len.2.1; omega)).grow
      have HS := Lib.hid (And.intro ho hr); clear ho hr
      go_wp2_with fail
      go_ret
      have hln : R.length = V.length := by rw [← HE.out]; exact (sortI_perm V).length_eq
      have ho := HS.out.1
      rw [HE.out] at ho
      rw [← hln] at ho ⊢
      exact ⟨_, _, rfl, ho.mono (Nat.le_refl _) HS.out.2.size, ExtC.ext⟩

/-- Whether shares are valid and have a member. -/
def ShP (L : List SD) (m : Int) : Prop := OkS L ∧ 0 ≤ m ∧ m ≤ (L.length : Int) - 1
open Classical in
noncomputable def shB (L : List SD) (m : Int) : Bool := decide (ShP L m)
open Classical in
theorem shB_no {L : List SD} {m : Int} (h : ¬ ShP L m) : shB L m = false := decide_eq_false h
open Classical in
theorem shB_yes {L : List SD} {m : Int} (h : ShP L m) : shB L m = true := decide_eq_true h
theorem shB_iff {L : List SD} {m : Int} {b : Bool} (h : shB L m = b) : b = true ↔ ShP L m := by subst h; simp [shB]

set_option maxHeartbeats 1000000 in
theorem member_impl_ValidShares (v : Value) (m : Int) (L : List SD) (w : World) (h : RowsS shareKind w v L) (hs : ShortRows L) (hsm : ∀ i (h : i < L.length), L[i].length ≤ 1048576) (b : Bool) (hb : shB L m = b) :
    Calls Try.prog 117 #[v, .int .i64 m] w fun e w' => e = .returned (.bool b) ∧ Ext w w' := by
  have H1 := fun x (hx : Ext w x) => (impl_ValidShares v L x (h.ext hx) hs hsm).mono fun e w' (h : RetB (OkS L) e ∧ Ext x w') => (⟨h.1.told' (okSB_iff rfl), h.2⟩ : e = .returned (.bool (okSB L)) ∧ Ext x w')
  have hln := hs.1
  obtain ⟨vb, vo, vc, rfl, -⟩ := h
  cases q1 : okSB L
  · rw [q1] at H1
    have hbf : b = false := by
      rw [← hb]; exact shB_no fun hh => by have := (okSB_iff q1).2 hh.1; cases this
    subst hbf
    clear hb
    go_enter Try.func117, Try.ntmps117
    go_wp2_with (first | (go_at_call 124; (with_reducible refine (H1 _ ExtC.ext).mono ?_); rintro e w' ⟨rfl, hx⟩; obtain ⟨g, rfl⟩ := hx.grow; clear hx))
    go_ret
    exact ⟨rfl, ExtC.ext⟩
  rw [q1] at H1
  cases q2 : inB m 0 ((L.length : Int) - 1)
  · have hbf : b = false := by
      rw [← hb]; exact shB_no fun hh => (inB_false.1 q2) hh.2
    subst hbf
    clear hb
    go_enter Try.func117, Try.ntmps117
    go_wp2_with (first | (go_at_call 124; (with_reducible refine (H1 _ ExtC.ext).mono ?_); rintro e w' ⟨rfl, hx⟩; obtain ⟨g, rfl⟩ := hx.grow; clear hx) | (go_at_call 105; (with_reducible refine (impl_within _ _ _ _ (by assumption) _).mono ?_); rintro e w' ⟨rfl, hx⟩; obtain ⟨g, rfl⟩ := hx.grow; clear hx))
    go_ret
    exact ⟨rfl, ExtC.ext⟩
  · have hbf : b = true := by
      rw [← hb]; exact shB_yes ⟨(okSB_iff q1).1 rfl, inB_true.1 q2⟩
    subst hbf
    clear hb
    go_enter Try.func117, Try.ntmps117
    go_wp2_with (first | (go_at_call 124; (with_reducible refine (H1 _ ExtC.ext).mono ?_); rintro e w' ⟨rfl, hx⟩; obtain ⟨g, rfl⟩ := hx.grow; clear hx) | (go_at_call 105; (with_reducible refine (impl_within _ _ _ _ (by assumption) _).mono ?_); rintro e w' ⟨rfl, hx⟩; obtain ⟨g, rfl⟩ := hx.grow; clear hx))
    go_ret
    exact ⟨rfl, ExtC.ext⟩
set_option maxHeartbeats 1000000 in
theorem member_spec_l03Is (v : Value) (m : Int) (L : List SD) (w : World) (h : RowsS shareKind w v L) (hs : ShortRows L) (hsm : ∀ i (h : i < L.length), L[i].length ≤ 1048576) (b : Bool) (hb : shB L m = b) :
    Calls Try.prog 115 #[v, .int .i64 m] w fun e w' => e = .returned (.bool b) ∧ Ext w w' := by
  have H1 := fun x (hx : Ext w x) => (spec_l03Is v L x (h.ext hx) hs hsm).mono fun e w' (h : RetB (OkS L) e ∧ Ext x w') => (⟨h.1.told' (okSB_iff rfl), h.2⟩ : e = .returned (.bool (okSB L)) ∧ Ext x w')
  have hln := hs.1
  obtain ⟨vb, vo, vc, rfl, -⟩ := h
  cases q1 : okSB L
  · rw [q1] at H1
    have hbf : b = false := by
      rw [← hb]; exact shB_no fun hh => by have := (okSB_iff q1).2 hh.1; cases this
    subst hbf
    clear hb
    go_enter Try.func115, Try.ntmps115
    go_wp2_with (first | (go_at_call 122; (with_reducible refine (H1 _ ExtC.ext).mono ?_); rintro e w' ⟨rfl, hx⟩; obtain ⟨g, rfl⟩ := hx.grow; clear hx))
    go_ret
    exact ⟨rfl, ExtC.ext⟩
  rw [q1] at H1
  cases q2 : inB m 0 ((L.length : Int) - 1)
  · have hbf : b = false := by
      rw [← hb]; exact shB_no fun hh => (inB_false.1 q2) hh.2
    subst hbf
    clear hb
    go_enter Try.func115, Try.ntmps115
    go_wp2_with (first | (go_at_call 122; (with_reducible refine (H1 _ ExtC.ext).mono ?_); rintro e w' ⟨rfl, hx⟩; obtain ⟨g, rfl⟩ := hx.grow; clear hx) | (go_at_call 133; (with_reducible refine (spec_l00In _ _ _ _ (by assumption) _).mono ?_); rintro e w' ⟨rfl, hx⟩; obtain ⟨g, rfl⟩ := hx.grow; clear hx))
    go_ret
    exact ⟨rfl, ExtC.ext⟩
  · have hbf : b = true := by
      rw [← hb]; exact shB_yes ⟨(okSB_iff q1).1 rfl, inB_true.1 q2⟩
    subst hbf
    clear hb
    go_enter Try.func115, Try.ntmps115
    go_wp2_with (first | (go_at_call 122; (with_reducible refine (H1 _ ExtC.ext).mono ?_); rintro e w' ⟨rfl, hx⟩; obtain ⟨g, rfl⟩ := hx.grow; clear hx) | (go_at_call 133; (with_reducible refine (spec_l00In _ _ _ _ (by assumption) _).mono ?_); rintro e w' ⟨rfl, hx⟩; obtain ⟨g, rfl⟩ := hx.grow; clear hx))
    go_ret
    exact ⟨rfl, ExtC.ext⟩

open Classical in
noncomputable def rchX (L : List SD) (m : Int) : List Int := if ShP L m then getsL L m else []
theorem rchX_small {L : List SD} {m : Int} : (rchX L m).length ≤ 6 := by
  unfold rchX
  split
  · rename_i h; exact Nat.le_trans (getsL_few L m) h.1.2.2
  · simp
set_option maxHeartbeats 1000000 in
theorem impl_ReachedFrom' (v : Value) (m : Int) (L : List SD) (w : World) (h : RowsS shareKind w v L) (hs : ShortRows L) (hsm : ∀ i (h : i < L.length), L[i].length ≤ 1048576) (b : Bool) (hb : shB L m = b) (xs : List Int) (hxs : rchX L m = xs) :
    Calls Try.prog 65 #[v, .int .i64 m] w fun e w' => ∃ v', e = .returned (.tuple #[v', .bool b]) ∧ OwnI w.heap.size w'.heap.size w' v' xs ∧ Ext w w' := by
  have H1 := fun x (hx : Ext w x) => member_impl_ValidShares v m L x (h.ext hx) hs hsm b hb
  cases b
  · have HN := Lib.hid (show xs = [] by rw [← hxs]; unfold rchX; rw [if_neg (by rw [← shB_iff hb]; simp)])
    clear hb hxs
    go_enter Try.func65, Try.ntmps65
    go_wp2_with (first | (go_at_call 117; (with_reducible refine (H1 _ ExtC.ext).mono ?_); rintro e w' ⟨rfl, hx⟩; obtain ⟨g, rfl⟩ := hx.grow; clear hx))
    refine bodyPost_ret (v := .tuple #[.slice none 0 0, .bool false]) (by simp [results, Try.results65, go_sem]) rfl ?_
    exact ⟨_, rfl, .inl ⟨rfl, HN.out⟩, ExtC.ext⟩
  have hok := (shB_iff hb).1 rfl
  have HB := fun x (hx : Ext w x) => impl_reached v m L x (h.ext hx) hok.1 hok.2.1 (by have := hok.2.2; omega) xs (by rw [← hxs]; unfold rchX; rw [if_pos hok])
  clear hb hxs hok
  go_enter Try.func65, Try.ntmps65
  go_wp2_with (first | (go_at_call 117; (with_reducible refine (H1 _ ExtC.ext).mono ?_); rintro e w' ⟨rfl, hx⟩; obtain ⟨g, rfl⟩ := hx.grow; clear hx))
  refine Calls.mono (HB _ ExtC.ext) ?_
  rintro e w' ⟨gp, cp, rfl, ho, hx⟩; obtain ⟨g3, rfl⟩ := hx.grow; clear hx
  have HO := Lib.hid ho; clear ho HB
  go_wp2_with fail
  refine bodyPost_ret (v := .tuple #[.slice (some ⟨gp, 0, none⟩) xs.length cp, .bool true]) (by simp [results, Try.results65, go_sem]) rfl ?_
  exact ⟨_, rfl, HO.out.mono (ExtC.ext : Ext w _).size (Nat.le_refl _), ExtC.ext⟩
end Go.Proofs.Ytbbppkcdgcajjaa
