/- Paths: the contracts of IsPath on both sides. -/
import Derived.Test.YtgaooafdalhdpaaVoice3
namespace Go.Proofs.Ytgaooafdalhdpaa
open Go.RowKit

/-- A member's voice. -/
def At (L : List VD) (m : Int) : VD := L[m.toNat]?.getD (false, [])
theorem At_eq (L : List VD) (m : Int) (h : m.toNat < L.length) : At L m = L[m.toNat] := by simp [At, h]
/-- What holds of a path's place k. -/
def StepP (L : List VD) (p : List Int) (k : Nat) (h : k < p.length) : Prop :=
  (0 ≤ p[k] ∧ p[k] ≤ L.length - 1) ∧ p[k] ∉ p.take k ∧ ((At L p[k]).1 = true ↔ k + 1 = p.length) ∧ (0 < k → p[k] ∈ (At L p[k - 1]).2)
def PathP (L : List VD) (p : List Int) : Prop := 0 < p.length ∧ ∀ k (h : k < p.length), StepP L p k h

theorem VS.at {w : World} {v : Value} {L : List VD} (h : VS w v L) : ∃ b off cap, v = .slice (some ⟨b, off, none⟩) L.length cap ∧ InW b w ∧
    ∀ m : Int, 0 ≤ m → m ≤ L.length - 1 → w.cell? ⟨b, off + m.toNat * 2, none⟩ = some (.bool (At L m).1) ∧ ∃ t, w.cell? ⟨b, off + m.toNat * 2 + 1, none⟩ = some t ∧ RI w t (At L m).2 := by
  obtain ⟨b, off, cap, rfl, hb, hc⟩ := h
  refine ⟨b, off, cap, rfl, hb, fun m h0 h1 => ?_⟩
  have hm : m.toNat < L.length := by omega
  rw [At_eq L m hm]
  exact hc m.toNat hm
theorem Short.at {L : List VD} (h : Short L) (m : Int) (h0 : 0 ≤ m) (h1 : m ≤ L.length - 1) : (At L m).2.length ≤ 1152921504606846976 := by
  have hm : m.toNat < L.length := by omega
  rw [At_eq L m hm]; exact h.2 _ hm

theorem At_nat {L : List VD} {k : Nat} (h : k < L.length) : At L (k : Int) = L[k] := by simp [At, h]

set_option maxHeartbeats 4000000 in
theorem impl_IsPath (v u : Value) (L : List VD) (p : List Int) (w : World) (h : VS w v L) (hs : Short L) (hp : IS w u p) (hpn : p.length ≤ 1152921504606846976) :
    Calls Try.prog 24 #[v, u] w fun e w' => RetB (OkV L ∧ PathP L p) e ∧ Ext w w' := by
  have hv := h
  obtain ⟨b, off, cap, rfl, hb, hc⟩ := h.at
  obtain ⟨pb, po, pc, rfl, hpc, hpb, hpx⟩ := hp
  have hri : RI w (.slice (some ⟨pb, po, none⟩) p.length pc) p := .inl ⟨pb, po, pc, rfl, hpc, hpb, hpx⟩
  have HC := Lib.hid hc
  have HP := Lib.hid hpx
  have HV := Lib.hid (And.intro hv (And.intro hs hri))
  clear hc hpx hv hs hri h
  go_enter Try.func24, Try.ntmps24
  go_wp2_with fail
  refine Calls.mono (impl_ValidVoices _ L _ HV.out.1 HV.out.2.1) ?_
  rintro e w' ⟨⟨b1, rfl, hb1⟩, hx⟩; obtain ⟨g, rfl⟩ := hx.grow; clear hx
  cases b1
  · have HB := Lib.hid hb1; clear hb1
    go_wp2_with fail
    go_ret
    exact ⟨RetB.no fun hok => (by have := HB.out.2 hok.1; cases this), ExtC.ext⟩
  have hok := hb1.1 rfl
  have hL := hok.2
  have HOK := Lib.hid hok; clear hb1 hok
  by_cases h0 : p.length = 0
  · have hz : ((p.length : Int) == 0) = true := by simp [h0]
    have H0 := Lib.hid h0; clear h0
    go_wp2_with fail
    go_ret
    exact ⟨RetB.no fun hok => (by have := hok.2.1; have := H0.out; omega), ExtC.ext⟩
  have hz : ((p.length : Int) == 0) = false := by simpa using h0
  go_wp2_with fail
  clear hz
  go_loopw [17] (fun i wr => ∃ k : Nat, k ≤ p.length ∧ i = .int .i64 k ∧ Hid (∀ j (hj : j < p.length), j < k → StepP L p j hj) ∧ Ext w wr) (fun i _ => p.length - (intOf i).toNat)
  case atStart => exact ⟨0, Nat.zero_le _, rfl, Lib.hid fun j _ hj => by omega, ExtC.ext⟩
  case round =>
    obtain ⟨k, hk, rfl, hrel, hx⟩ := hrel
    clear g
    obtain ⟨g0, rfl⟩ := hx.grow; clear hx
    by_cases hlt : k < p.length
    · have d := HP.out k hlt
      cases q1 : inB p[k] 0 ((L.length : Int) - 1)
      · have Q1 := Lib.hid q1
        go_wp2_with (first | (go_at_call 60; (with_reducible refine (impl_within _ _ _ _ (by assumption) _).mono ?_); rintro e w' ⟨rfl, hx⟩; obtain ⟨g, rfl⟩ := hx.grow; clear hx))
        go_ret
        refine ⟨RetB.no fun hok => ?_, ExtC.ext⟩
        have h1 := (hok.2.2 k hlt).1
        have q1 := Q1.out
        rw [inB_false] at q1
        exact q1 h1
      obtain ⟨r1, r2⟩ := inB_true.1 q1
      cases q2 : decide (p[k] ∈ p.take k)
      · obtain ⟨c1, t, c2, c3⟩ := HC.out p[k] r1 r2
        obtain ⟨s, hs⟩ : ∃ s, (At L p[k]).1 = s := ⟨_, rfl⟩
        rw [hs] at c1
        have C0 := Lib.hid (And.intro c2 c3); clear c2 c3
        by_cases hk1 : k + 1 = p.length
        · have hk2 : ((k : Int) == (p.length : Int) - 1) = true := by simp; omega
          have HK := Lib.hid hk1; clear hk1
          cases s
          · have Q := Lib.hid (And.intro hs HK.out); clear hs
            go_wp2_with (first | (go_at_call 60; (with_reducible refine (impl_within _ _ _ _ (by assumption) _).mono ?_); rintro e w' ⟨rfl, hx⟩; obtain ⟨g, rfl⟩ := hx.grow; clear hx) | (go_at_call 61; refine Calls.mono (slices_Contains _ (p.take k) _ _ (by assumption) _ ((HV.out.2.2.take k (by omega)).ext ExtC.ext) (by simp; omega)) ?_; rintro e w' ⟨rfl, hx⟩; obtain ⟨g, rfl⟩ := hx.grow; clear hx))
            go_ret
            refine ⟨RetB.no fun hok => ?_, ExtC.ext⟩
            have h1 := (hok.2.2 k hlt).2.2.1.2 Q.out.2
            have := Q.out.1
            rw [this] at h1; cases h1
          · have HS : Hid ((At L p[k]).1 = true ↔ k + 1 = p.length) := Lib.hid (by rw [hs]; simp; exact HK.out)
            clear hs
            have Q2 := Lib.hid q2
            by_cases k0 : 0 < k
            · have hkm : k - 1 < p.length := by omega
              have dm := HP.out (k - 1) hkm
              obtain ⟨z1, z2⟩ := (hrel.out (k - 1) hkm (by omega)).1
              obtain ⟨c1', t', c2', c3'⟩ := HC.out p[k - 1] z1 z2
              have C3 := Lib.hid c3'; clear c1' c3'
              cases q3 : decide (p[k] ∈ (At L p[k - 1]).2)
              · have Q3 := Lib.hid q3
                go_wp2_with (first | (go_at_call 60; (with_reducible refine (impl_within _ _ _ _ (by assumption) _).mono ?_); rintro e w' ⟨rfl, hx⟩; obtain ⟨g, rfl⟩ := hx.grow; clear hx) | (go_at_call 61; refine Calls.mono (slices_Contains _ (p.take k) _ _ (by assumption) _ ((HV.out.2.2.take k (by omega)).ext ExtC.ext) (by simp; omega)) ?_; rintro e w' ⟨rfl, hx⟩; obtain ⟨g, rfl⟩ := hx.grow; clear hx) | (go_at_call 61; refine Calls.mono (slices_Contains _ ((At L p[k - 1]).2) _ _ (by assumption) _ (C3.out.ext ExtC.ext) (by exact HV.out.2.1.at _ z1 z2)) ?_; rintro e w' ⟨rfl, hx⟩; obtain ⟨g, rfl⟩ := hx.grow; clear hx))
                go_ret
                refine ⟨RetB.no fun hok => ?_, ExtC.ext⟩
                have h1 := (hok.2.2 k hlt).2.2.2 k0
                exact absurd h1 (by simpa using Q3.out)
              · have Q3 := Lib.hid q3
                go_wp2_with (first | (go_at_call 60; (with_reducible refine (impl_within _ _ _ _ (by assumption) _).mono ?_); rintro e w' ⟨rfl, hx⟩; obtain ⟨g, rfl⟩ := hx.grow; clear hx) | (go_at_call 61; refine Calls.mono (slices_Contains _ (p.take k) _ _ (by assumption) _ ((HV.out.2.2.take k (by omega)).ext ExtC.ext) (by simp; omega)) ?_; rintro e w' ⟨rfl, hx⟩; obtain ⟨g, rfl⟩ := hx.grow; clear hx) | (go_at_call 61; refine Calls.mono (slices_Contains _ ((At L p[k - 1]).2) _ _ (by assumption) _ (C3.out.ext ExtC.ext) (by exact HV.out.2.1.at _ z1 z2)) ?_; rintro e w' ⟨rfl, hx⟩; obtain ⟨g, rfl⟩ := hx.grow; clear hx))
                go_roundw
                case rel =>
                  refine ⟨k + 1, by omega, by go_num, Lib.hid fun j hj hjk => ?_, ExtC.ext⟩
                  by_cases e : j = k
                  · subst e
                    exact ⟨⟨r1, r2⟩, by simpa using Q2.out, HS.out, fun _ => by simpa using Q3.out⟩
                  · exact hrel.out j hj (by omega)
                case measure => simp [intOf]; omega
            · skip
              go_wp2_with (first | (go_at_call 60; (with_reducible refine (impl_within _ _ _ _ (by assumption) _).mono ?_); rintro e w' ⟨rfl, hx⟩; obtain ⟨g, rfl⟩ := hx.grow; clear hx) | (go_at_call 61; refine Calls.mono (slices_Contains _ (p.take k) _ _ (by assumption) _ ((HV.out.2.2.take k (by omega)).ext ExtC.ext) (by simp; omega)) ?_; rintro e w' ⟨rfl, hx⟩; obtain ⟨g, rfl⟩ := hx.grow; clear hx))
              go_roundw
              case rel =>
                refine ⟨k + 1, by omega, by go_num, Lib.hid fun j hj hjk => ?_, ExtC.ext⟩
                by_cases e : j = k
                · subst e
                  exact ⟨⟨r1, r2⟩, by simpa using Q2.out, HS.out, fun h => absurd h k0⟩
                · exact hrel.out j hj (by omega)
              case measure => simp [intOf]; omega
        · have hk2 : ((k : Int) == (p.length : Int) - 1) = false := by simp; omega
          have HK := Lib.hid hk1; clear hk1
          cases s
          · have HS : Hid ((At L p[k]).1 = true ↔ k + 1 = p.length) := Lib.hid (by rw [hs]; simp; exact HK.out)
            clear hs
            have Q2 := Lib.hid q2
            by_cases k0 : 0 < k
            · have hkm : k - 1 < p.length := by omega
              have dm := HP.out (k - 1) hkm
              obtain ⟨z1, z2⟩ := (hrel.out (k - 1) hkm (by omega)).1
              obtain ⟨c1', t', c2', c3'⟩ := HC.out p[k - 1] z1 z2
              have C3 := Lib.hid c3'; clear c1' c3'
              cases q3 : decide (p[k] ∈ (At L p[k - 1]).2)
              · have Q3 := Lib.hid q3
                go_wp2_with (first | (go_at_call 60; (with_reducible refine (impl_within _ _ _ _ (by assumption) _).mono ?_); rintro e w' ⟨rfl, hx⟩; obtain ⟨g, rfl⟩ := hx.grow; clear hx) | (go_at_call 61; refine Calls.mono (slices_Contains _ (p.take k) _ _ (by assumption) _ ((HV.out.2.2.take k (by omega)).ext ExtC.ext) (by simp; omega)) ?_; rintro e w' ⟨rfl, hx⟩; obtain ⟨g, rfl⟩ := hx.grow; clear hx) | (go_at_call 61; refine Calls.mono (slices_Contains _ ((At L p[k - 1]).2) _ _ (by assumption) _ (C3.out.ext ExtC.ext) (by exact HV.out.2.1.at _ z1 z2)) ?_; rintro e w' ⟨rfl, hx⟩; obtain ⟨g, rfl⟩ := hx.grow; clear hx))
                go_ret
                refine ⟨RetB.no fun hok => ?_, ExtC.ext⟩
                have h1 := (hok.2.2 k hlt).2.2.2 k0
                exact absurd h1 (by simpa using Q3.out)
              · have Q3 := Lib.hid q3
                go_wp2_with (first | (go_at_call 60; (with_reducible refine (impl_within _ _ _ _ (by assumption) _).mono ?_); rintro e w' ⟨rfl, hx⟩; obtain ⟨g, rfl⟩ := hx.grow; clear hx) | (go_at_call 61; refine Calls.mono (slices_Contains _ (p.take k) _ _ (by assumption) _ ((HV.out.2.2.take k (by omega)).ext ExtC.ext) (by simp; omega)) ?_; rintro e w' ⟨rfl, hx⟩; obtain ⟨g, rfl⟩ := hx.grow; clear hx) | (go_at_call 61; refine Calls.mono (slices_Contains _ ((At L p[k - 1]).2) _ _ (by assumption) _ (C3.out.ext ExtC.ext) (by exact HV.out.2.1.at _ z1 z2)) ?_; rintro e w' ⟨rfl, hx⟩; obtain ⟨g, rfl⟩ := hx.grow; clear hx))
                go_roundw
                case rel =>
                  refine ⟨k + 1, by omega, by go_num, Lib.hid fun j hj hjk => ?_, ExtC.ext⟩
                  by_cases e : j = k
                  · subst e
                    exact ⟨⟨r1, r2⟩, by simpa using Q2.out, HS.out, fun _ => by simpa using Q3.out⟩
                  · exact hrel.out j hj (by omega)
                case measure => simp [intOf]; omega
            · skip
              go_wp2_with (first | (go_at_call 60; (with_reducible refine (impl_within _ _ _ _ (by assumption) _).mono ?_); rintro e w' ⟨rfl, hx⟩; obtain ⟨g, rfl⟩ := hx.grow; clear hx) | (go_at_call 61; refine Calls.mono (slices_Contains _ (p.take k) _ _ (by assumption) _ ((HV.out.2.2.take k (by omega)).ext ExtC.ext) (by simp; omega)) ?_; rintro e w' ⟨rfl, hx⟩; obtain ⟨g, rfl⟩ := hx.grow; clear hx))
              go_roundw
              case rel =>
                refine ⟨k + 1, by omega, by go_num, Lib.hid fun j hj hjk => ?_, ExtC.ext⟩
                by_cases e : j = k
                · subst e
                  exact ⟨⟨r1, r2⟩, by simpa using Q2.out, HS.out, fun h => absurd h k0⟩
                · exact hrel.out j hj (by omega)
              case measure => simp [intOf]; omega
          · have Q := Lib.hid (And.intro hs HK.out); clear hs
            go_wp2_with (first | (go_at_call 60; (with_reducible refine (impl_within _ _ _ _ (by assumption) _).mono ?_); rintro e w' ⟨rfl, hx⟩; obtain ⟨g, rfl⟩ := hx.grow; clear hx) | (go_at_call 61; refine Calls.mono (slices_Contains _ (p.take k) _ _ (by assumption) _ ((HV.out.2.2.take k (by omega)).ext ExtC.ext) (by simp; omega)) ?_; rintro e w' ⟨rfl, hx⟩; obtain ⟨g, rfl⟩ := hx.grow; clear hx))
            go_ret
            refine ⟨RetB.no fun hok => ?_, ExtC.ext⟩
            have h1 := (hok.2.2 k hlt).2.2.1.1 Q.out.1
            exact Q.out.2 h1
      · have Q := Lib.hid q2
        go_wp2_with (first | (go_at_call 60; (with_reducible refine (impl_within _ _ _ _ (by assumption) _).mono ?_); rintro e w' ⟨rfl, hx⟩; obtain ⟨g, rfl⟩ := hx.grow; clear hx) | (go_at_call 61; refine Calls.mono (slices_Contains _ (p.take k) _ _ (by assumption) _ ((HV.out.2.2.take k (by omega)).ext ExtC.ext) (by simp; omega)) ?_; rintro e w' ⟨rfl, hx⟩; obtain ⟨g, rfl⟩ := hx.grow; clear hx))
        go_ret
        refine ⟨RetB.no fun hok => ?_, ExtC.ext⟩
        have h1 := (hok.2.2 k hlt).2.1
        exact h1 (by simpa using Q.out)
    · go_wp2
      go_ret
      exact ⟨RetB.yes (P := OkV L ∧ PathP L p) ⟨HOK.out, by omega, fun j hj => hrel.out j hj (by omega)⟩, ExtC.ext⟩

set_option maxHeartbeats 400000 in
theorem spec_l02Member (p : Option Addr) (n cap : Nat) (m : Int) (b : Bool) (hb : inB m 0 ((n : Int) - 1) = b) (w : World) (hn : n ≤ 1152921504606846976) :
    Calls Try.prog 64 #[.slice p n cap, .int .i64 m] w fun e w' => e = .returned (.bool b) ∧ Ext w w' := by
  go_enter Try.func64, Try.ntmps64
  go_wp2_with (first | (go_at_call 96; (with_reducible refine (spec_l00In _ _ _ _ hb _).mono ?_); rintro e w' ⟨rfl, hx⟩; obtain ⟨g, rfl⟩ := hx.grow; clear hx))
  go_ret
  exact ⟨rfl, ExtC.ext⟩

/-- Different numbers from 0 to n - 1: n of them at most. -/
theorem nodup_length (n : Nat) : ∀ (p : List Int), (∀ k (h : k < p.length), 0 ≤ p[k] ∧ p[k] < n ∧ p[k] ∉ p.take k) → p.length ≤ n := by
  induction n with
  | zero =>
    intro p h
    by_cases h0 : 0 < p.length
    · have := h 0 h0; omega
    · omega
  | succ n ih =>
    intro p h
    have hnd : p.Nodup := by
      rw [List.nodup_iff_pairwise_ne, List.pairwise_iff_getElem]
      intro i j hi hj hij e
      exact (h j hj).2.2 (by rw [← e, List.mem_take_iff_getElem]; exact ⟨i, by omega, rfl⟩)
    have h1 : (p.erase (n : Int)).length ≤ n := by
      refine ih _ fun k hk => ?_
      have hnd' := hnd.erase (n : Int)
      have hm : (p.erase (n : Int))[k] ∈ p.erase (n : Int) := List.getElem_mem _
      have hm2 := (hnd.mem_erase_iff).1 hm
      obtain ⟨i, hi, e⟩ := List.getElem_of_mem hm2.2
      have hb := h i hi
      refine ⟨by rw [← e]; exact hb.1, by have := hm2.1; rw [← e] at this ⊢; omega, fun hin => ?_⟩
      rw [List.mem_take_iff_getElem] at hin
      obtain ⟨i', hi', e'⟩ := hin
      rw [List.nodup_iff_pairwise_ne, List.pairwise_iff_getElem] at hnd'
      exact hnd' i' k (by omega) hk (by omega) e'
    have h2 : p.length ≤ (p.erase (n : Int)).length + 1 := by
      rw [List.length_erase]; split <;> omega
    omega

set_option maxHeartbeats 4000000 in
theorem spec_l02Path (v u : Value) (L : List VD) (p : List Int) (w : World) (h : VS w v L) (hs : Short L) (hok : OkV L) (hp : IS w u p) (hpn : p.length ≤ 1152921504606846976) :
    Calls Try.prog 63 #[v, u] w fun e w' => RetB (PathP L p) e ∧ Ext w w' := by
  have hv := h
  obtain ⟨b, off, cap, rfl, hb, hc⟩ := h.at
  obtain ⟨pb, po, pc, rfl, hpc, hpb, hpx⟩ := hp
  have hri : RI w (.slice (some ⟨pb, po, none⟩) p.length pc) p := .inl ⟨pb, po, pc, rfl, hpc, hpb, hpx⟩
  have HC := Lib.hid hc
  have HP := Lib.hid hpx
  have HV := Lib.hid (And.intro hv (And.intro hs hri))
  have hL := hok.2
  clear hc hpx hv hs hri h hok
  by_cases h0 : p.length = 0
  · have hz : ((p.length : Int) == 0) = true := by simp [h0]
    have H0 := Lib.hid h0; clear h0
    go_enter Try.func63, Try.ntmps63
    go_wp2
    go_ret
    exact ⟨RetB.no fun hok => (by have := hok.1; have := H0.out; omega), ExtC.ext⟩
  have hz : ((p.length : Int) == 0) = false := by simpa using h0
  by_cases h1 : L.length < p.length
  · go_enter Try.func63, Try.ntmps63
    go_wp2
    go_ret
    refine ⟨RetB.no fun hok => ?_, ExtC.ext⟩
    have := nodup_length L.length p fun k hk => (by have := hok.2 k hk; exact ⟨this.1.1, by have := this.1.2; omega, this.2.1⟩)
    omega
  go_enter Try.func63, Try.ntmps63
  go_wp2
  clear hz
  go_loopw [5] (fun i wr => ∃ k : Nat, k ≤ p.length ∧ i = .int .i64 k ∧ Hid (∀ j (hj : j < p.length), j < k → StepP L p j hj) ∧ Ext w wr) (fun i _ => p.length - (intOf i).toNat)
  case atStart => exact ⟨0, Nat.zero_le _, rfl, Lib.hid fun j _ hj => by omega, ExtC.ext⟩
  case round =>
    obtain ⟨k, hk, rfl, hrel, hx⟩ := hrel
    obtain ⟨g0, rfl⟩ := hx.grow; clear hx
    by_cases hlt : k < p.length
    · have d := HP.out k hlt
      cases q1 : inB p[k] 0 ((L.length : Int) - 1)
      · have Q1 := Lib.hid q1
        go_wp2
        refine wp_region_grow (by kernel_rfl) (by kernel_rfl) ?_
        repeat (go_big_quiet_step ((first | (go_at_call 64; exact grow_of (spec_l02Member _ L.length _ _ _ (by assumption) _ (by omega))))))
        refine wpQuiet_nil ?_
        intro _ hw'
        obtain ⟨g, hw''⟩ := hw'
        subst hw''
        go_wp2
        go_ret
        refine ⟨RetB.no fun hok => ?_, ExtC.ext⟩
        have h1 := (hok.2 k hlt).1
        have q1 := Q1.out
        rw [inB_false] at q1
        exact q1 h1
      obtain ⟨r1, r2⟩ := inB_true.1 q1
      cases q2 : decide (p[k] ∈ p.take k)
      · obtain ⟨c1, t, c2, c3⟩ := HC.out p[k] r1 r2
        obtain ⟨s, hs⟩ : ∃ s, (At L p[k]).1 = s := ⟨_, rfl⟩
        rw [hs] at c1
        have C0 := Lib.hid (And.intro c2 c3); clear c2 c3
        by_cases hk1 : k + 1 = p.length
        · have hk2 : ((k : Int) == (p.length : Int) - 1) = true := by simp; omega
          have HK := Lib.hid hk1; clear hk1
          cases s
          · have Q := Lib.hid (And.intro hs HK.out); clear hs
            go_wp2
            refine wp_region_grow (by kernel_rfl) (by kernel_rfl) ?_
            repeat (go_big_quiet_step ((first | (go_at_call 64; exact grow_of (spec_l02Member _ L.length _ _ _ (by assumption) _ (by omega))) | (go_at_call 82; exact grow_of (spec_l00Has _ (p.take k) _ _ (by assumption) _ ((HV.out.2.2.take k (by omega)).ext ExtC.ext) (by simp; omega))))))
            refine wpQuiet_nil ?_
            intro _ hw'
            obtain ⟨g, hw''⟩ := hw'
            subst hw''
            go_wp2
            go_ret
            refine ⟨RetB.no fun hok => ?_, ExtC.ext⟩
            have h1 := (hok.2 k hlt).2.2.1.2 Q.out.2
            have := Q.out.1
            rw [this] at h1; cases h1
          · have HS : Hid ((At L p[k]).1 = true ↔ k + 1 = p.length) := Lib.hid (by rw [hs]; simp; exact HK.out)
            clear hs
            have Q2 := Lib.hid q2
            by_cases k0 : 0 < k
            · have hkm : k - 1 < p.length := by omega
              have dm := HP.out (k - 1) hkm
              obtain ⟨z1, z2⟩ := (hrel.out (k - 1) hkm (by omega)).1
              obtain ⟨c1', t', c2', c3'⟩ := HC.out p[k - 1] z1 z2
              have C3 := Lib.hid c3'; clear c1' c3'
              cases q3 : decide (p[k] ∈ (At L p[k - 1]).2)
              · have Q3 := Lib.hid q3
                go_wp2
                refine wp_region_grow (by kernel_rfl) (by kernel_rfl) ?_
                repeat (go_big_quiet_step ((first | (go_at_call 64; exact grow_of (spec_l02Member _ L.length _ _ _ (by assumption) _ (by omega))) | (go_at_call 82; exact grow_of (spec_l00Has _ (p.take k) _ _ (by assumption) _ ((HV.out.2.2.take k (by omega)).ext ExtC.ext) (by simp; omega))))))
                refine wpQuiet_nil ?_
                intro _ hw'
                obtain ⟨g, hw''⟩ := hw'
                subst hw''
                go_wp2
                refine wp_region_grow (by kernel_rfl) (by kernel_rfl) ?_
                repeat (go_big_quiet_step ((first | (go_at_call 82; exact grow_of (spec_l00Has _ ((At L p[k - 1]).2) _ _ (by assumption) _ (C3.out.ext ExtC.ext) (by exact HV.out.2.1.at _ z1 z2))))))
                refine wpQuiet_nil ?_
                intro _ hw'
                obtain ⟨g, hw''⟩ := hw'
                subst hw''
                go_wp2
                go_ret
                refine ⟨RetB.no fun hok => ?_, ExtC.ext⟩
                have h1 := (hok.2 k hlt).2.2.2 k0
                exact absurd h1 (by simpa using Q3.out)
              · have Q3 := Lib.hid q3
                go_wp2
                refine wp_region_grow (by kernel_rfl) (by kernel_rfl) ?_
                repeat (go_big_quiet_step ((first | (go_at_call 64; exact grow_of (spec_l02Member _ L.length _ _ _ (by assumption) _ (by omega))) | (go_at_call 82; exact grow_of (spec_l00Has _ (p.take k) _ _ (by assumption) _ ((HV.out.2.2.take k (by omega)).ext ExtC.ext) (by simp; omega))))))
                refine wpQuiet_nil ?_
                intro _ hw'
                obtain ⟨g, hw''⟩ := hw'
                subst hw''
                go_wp2
                refine wp_region_grow (by kernel_rfl) (by kernel_rfl) ?_
                repeat (go_big_quiet_step ((first | (go_at_call 82; exact grow_of (spec_l00Has _ ((At L p[k - 1]).2) _ _ (by assumption) _ (C3.out.ext ExtC.ext) (by exact HV.out.2.1.at _ z1 z2))))))
                refine wpQuiet_nil ?_
                intro _ hw'
                obtain ⟨g, hw''⟩ := hw'
                subst hw''
                go_wp2
                go_roundw
                case rel =>
                  refine ⟨k + 1, by omega, by go_num, Lib.hid fun j hj hjk => ?_, ExtC.ext⟩
                  by_cases e : j = k
                  · subst e
                    exact ⟨⟨r1, r2⟩, by simpa using Q2.out, HS.out, fun _ => by simpa using Q3.out⟩
                  · exact hrel.out j hj (by omega)
                case measure => simp [intOf]; omega
            · skip
              go_wp2
              refine wp_region_grow (by kernel_rfl) (by kernel_rfl) ?_
              repeat (go_big_quiet_step ((first | (go_at_call 64; exact grow_of (spec_l02Member _ L.length _ _ _ (by assumption) _ (by omega))) | (go_at_call 82; exact grow_of (spec_l00Has _ (p.take k) _ _ (by assumption) _ ((HV.out.2.2.take k (by omega)).ext ExtC.ext) (by simp; omega))))))
              refine wpQuiet_nil ?_
              intro _ hw'
              obtain ⟨g, hw''⟩ := hw'
              subst hw''
              go_wp2
              refine wp_region_grow (by kernel_rfl) (by kernel_rfl) ?_
              repeat (go_big_quiet_step (fail))
              refine wpQuiet_nil ?_
              intro _ hw'
              obtain ⟨g, hw''⟩ := hw'
              subst hw''
              go_wp2
              go_roundw
              case rel =>
                refine ⟨k + 1, by omega, by go_num, Lib.hid fun j hj hjk => ?_, ExtC.ext⟩
                by_cases e : j = k
                · subst e
                  exact ⟨⟨r1, r2⟩, by simpa using Q2.out, HS.out, fun h => absurd h k0⟩
                · exact hrel.out j hj (by omega)
              case measure => simp [intOf]; omega
        · have hk2 : ((k : Int) == (p.length : Int) - 1) = false := by simp; omega
          have HK := Lib.hid hk1; clear hk1
          cases s
          · have HS : Hid ((At L p[k]).1 = true ↔ k + 1 = p.length) := Lib.hid (by rw [hs]; simp; exact HK.out)
            clear hs
            have Q2 := Lib.hid q2
            by_cases k0 : 0 < k
            · have hkm : k - 1 < p.length := by omega
              have dm := HP.out (k - 1) hkm
              obtain ⟨z1, z2⟩ := (hrel.out (k - 1) hkm (by omega)).1
              obtain ⟨c1', t', c2', c3'⟩ := HC.out p[k - 1] z1 z2
              have C3 := Lib.hid c3'; clear c1' c3'
              cases q3 : decide (p[k] ∈ (At L p[k - 1]).2)
              · have Q3 := Lib.hid q3
                go_wp2
                refine wp_region_grow (by kernel_rfl) (by kernel_rfl) ?_
                repeat (go_big_quiet_step ((first | (go_at_call 64; exact grow_of (spec_l02Member _ L.length _ _ _ (by assumption) _ (by omega))) | (go_at_call 82; exact grow_of (spec_l00Has _ (p.take k) _ _ (by assumption) _ ((HV.out.2.2.take k (by omega)).ext ExtC.ext) (by simp; omega))))))
                refine wpQuiet_nil ?_
                intro _ hw'
                obtain ⟨g, hw''⟩ := hw'
                subst hw''
                go_wp2
                refine wp_region_grow (by kernel_rfl) (by kernel_rfl) ?_
                repeat (go_big_quiet_step ((first | (go_at_call 82; exact grow_of (spec_l00Has _ ((At L p[k - 1]).2) _ _ (by assumption) _ (C3.out.ext ExtC.ext) (by exact HV.out.2.1.at _ z1 z2))))))
                refine wpQuiet_nil ?_
                intro _ hw'
                obtain ⟨g, hw''⟩ := hw'
                subst hw''
                go_wp2
                go_ret
                refine ⟨RetB.no fun hok => ?_, ExtC.ext⟩
                have h1 := (hok.2 k hlt).2.2.2 k0
                exact absurd h1 (by simpa using Q3.out)
              · have Q3 := Lib.hid q3
                go_wp2
                refine wp_region_grow (by kernel_rfl) (by kernel_rfl) ?_
                repeat (go_big_quiet_step ((first | (go_at_call 64; exact grow_of (spec_l02Member _ L.length _ _ _ (by assumption) _ (by omega))) | (go_at_call 82; exact grow_of (spec_l00Has _ (p.take k) _ _ (by assumption) _ ((HV.out.2.2.take k (by omega)).ext ExtC.ext) (by simp; omega))))))
                refine wpQuiet_nil ?_
                intro _ hw'
                obtain ⟨g, hw''⟩ := hw'
                subst hw''
                go_wp2
                refine wp_region_grow (by kernel_rfl) (by kernel_rfl) ?_
                repeat (go_big_quiet_step ((first | (go_at_call 82; exact grow_of (spec_l00Has _ ((At L p[k - 1]).2) _ _ (by assumption) _ (C3.out.ext ExtC.ext) (by exact HV.out.2.1.at _ z1 z2))))))
                refine wpQuiet_nil ?_
                intro _ hw'
                obtain ⟨g, hw''⟩ := hw'
                subst hw''
                go_wp2
                go_roundw
                case rel =>
                  refine ⟨k + 1, by omega, by go_num, Lib.hid fun j hj hjk => ?_, ExtC.ext⟩
                  by_cases e : j = k
                  · subst e
                    exact ⟨⟨r1, r2⟩, by simpa using Q2.out, HS.out, fun _ => by simpa using Q3.out⟩
                  · exact hrel.out j hj (by omega)
                case measure => simp [intOf]; omega
            · skip
              go_wp2
              refine wp_region_grow (by kernel_rfl) (by kernel_rfl) ?_
              repeat (go_big_quiet_step ((first | (go_at_call 64; exact grow_of (spec_l02Member _ L.length _ _ _ (by assumption) _ (by omega))) | (go_at_call 82; exact grow_of (spec_l00Has _ (p.take k) _ _ (by assumption) _ ((HV.out.2.2.take k (by omega)).ext ExtC.ext) (by simp; omega))))))
              refine wpQuiet_nil ?_
              intro _ hw'
              obtain ⟨g, hw''⟩ := hw'
              subst hw''
              go_wp2
              refine wp_region_grow (by kernel_rfl) (by kernel_rfl) ?_
              repeat (go_big_quiet_step (fail))
              refine wpQuiet_nil ?_
              intro _ hw'
              obtain ⟨g, hw''⟩ := hw'
              subst hw''
              go_wp2
              go_roundw
              case rel =>
                refine ⟨k + 1, by omega, by go_num, Lib.hid fun j hj hjk => ?_, ExtC.ext⟩
                by_cases e : j = k
                · subst e
                  exact ⟨⟨r1, r2⟩, by simpa using Q2.out, HS.out, fun h => absurd h k0⟩
                · exact hrel.out j hj (by omega)
              case measure => simp [intOf]; omega
          · have Q := Lib.hid (And.intro hs HK.out); clear hs
            go_wp2
            refine wp_region_grow (by kernel_rfl) (by kernel_rfl) ?_
            repeat (go_big_quiet_step ((first | (go_at_call 64; exact grow_of (spec_l02Member _ L.length _ _ _ (by assumption) _ (by omega))) | (go_at_call 82; exact grow_of (spec_l00Has _ (p.take k) _ _ (by assumption) _ ((HV.out.2.2.take k (by omega)).ext ExtC.ext) (by simp; omega))))))
            refine wpQuiet_nil ?_
            intro _ hw'
            obtain ⟨g, hw''⟩ := hw'
            subst hw''
            go_wp2
            go_ret
            refine ⟨RetB.no fun hok => ?_, ExtC.ext⟩
            have h1 := (hok.2 k hlt).2.2.1.1 Q.out.1
            exact Q.out.2 h1
      · have Q := Lib.hid q2
        go_wp2
        refine wp_region_grow (by kernel_rfl) (by kernel_rfl) ?_
        repeat (go_big_quiet_step ((first | (go_at_call 64; exact grow_of (spec_l02Member _ L.length _ _ _ (by assumption) _ (by omega))) | (go_at_call 82; exact grow_of (spec_l00Has _ (p.take k) _ _ (by assumption) _ ((HV.out.2.2.take k (by omega)).ext ExtC.ext) (by simp; omega))))))
        refine wpQuiet_nil ?_
        intro _ hw'
        obtain ⟨g, hw''⟩ := hw'
        subst hw''
        go_wp2
        go_ret
        refine ⟨RetB.no fun hok => ?_, ExtC.ext⟩
        have h1 := (hok.2 k hlt).2.1
        exact h1 (by simpa using Q.out)
    · go_wp2
      go_ret
      exact ⟨RetB.yes (P := PathP L p) ⟨by omega, fun j hj => hrel.out j hj (by omega)⟩, ExtC.ext⟩

theorem spec_IsPath (v u : Value) (L : List VD) (p : List Int) (w : World) (h : VS w v L) (hs : Short L) (hp : IS w u p) (hpn : p.length ≤ 1152921504606846976) :
    Calls Try.prog 22 #[v, u] w fun e w' => RetB (OkV L ∧ PathP L p) e ∧ Ext w w' := by
  go_enter Try.func22, Try.ntmps22
  go_wp2_with fail
  refine Calls.mono (spec_l02Ok _ L _ h hs) ?_
  rintro e w' ⟨⟨b1, rfl, hb1⟩, hx⟩; obtain ⟨g, rfl⟩ := hx.grow; clear hx
  cases b1
  · have HB := Lib.hid hb1; clear hb1
    go_wp2_with fail
    go_ret
    exact ⟨RetB.no fun hok => (by have := HB.out.2 hok.1; cases this), ExtC.ext⟩
  have hok := hb1.1 rfl
  have HB := Lib.hid hb1; clear hb1
  go_wp2_with fail
  refine Calls.mono (spec_l02Path _ _ L p _ (h.ext ExtC.ext) hs hok (hp.ext ExtC.ext) hpn) ?_
  rintro e w' ⟨⟨b2, rfl, hb2⟩, hx⟩; obtain ⟨g2, rfl⟩ := hx.grow; clear hx
  have HB2 := Lib.hid hb2; clear hb2
  have HOK := Lib.hid hok; clear hok
  go_wp2_with fail
  go_ret
  exact ⟨⟨_, rfl, ⟨fun h => ⟨HOK.out, HB2.out.1 h⟩, fun h => HB2.out.2 h.2⟩⟩, ExtC.ext⟩
end Go.Proofs.Ytgaooafdalhdpaa
