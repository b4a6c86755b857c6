/- Valid lists of voices: the contracts of ValidVoices on both sides. -/
import Derived.Test.YthcomgnokkndgaaDoorVoice2
import Derived.Test.YthcomgnokkndgaaDoorLib
namespace Go.Proofs.YthcomgnokkndgaaDoor
open Go.RowKit

/-- What a member may trust. -/
def TrustAt (n i : Int) (xs : List Int) (k : Nat) (h : k < xs.length) : Prop := (0 ≤ xs[k] ∧ xs[k] ≤ n - 1) ∧ xs[k] ≠ i ∧ xs[k] ∉ xs.take k
def OkT (n i : Int) (xs : List Int) : Prop := (∀ k (h : k < xs.length), TrustAt n i xs k h) ∧ xs.length ≤ 4
/-- A valid list. -/
def OkV (L : List VD) : Prop := (∀ i (h : i < L.length), OkT L.length i L[i].2) ∧ 1 ≤ L.length ∧ L.length ≤ 12

theorem RI.take {w : World} {p : Option Addr} {cap : Nat} {xs : List Int} (h : RI w (.slice p xs.length cap) xs) (k : Nat) (hk : k ≤ xs.length) : RI w (.slice p k cap) (xs.take k) := by
  rcases h with ⟨b, off, cap', hv, hlc, hb, hc⟩ | ⟨rfl, p', cap', hv⟩
  · simp only [Value.slice.injEq, true_and] at hv
    obtain ⟨rfl, rfl⟩ := hv
    refine .inl ⟨b, off, cap, by simp; omega, by simp; omega, hb, fun i hi => ?_⟩
    simp only [List.length_take] at hi
    rw [hc i (by omega)]; simp
  · right
    have : k = 0 := by simpa using hk
    subst this
    exact ⟨by simp, p, cap, rfl⟩

set_option maxHeartbeats 1000000 in
theorem impl_ValidVoices (v : Value) (L : List VD) (w : World) (h : VS w v L) (hs : Short L) :
    Calls Tryd.prog 61 #[v] w fun e w' => RetB (OkV L) e ∧ Ext w w' := by
  obtain ⟨b, off, cap, rfl, hb, hc⟩ := h
  obtain ⟨hn, hm⟩ := hs
  have HC := Lib.hid hc
  have HM := Lib.hid hm
  clear hc hm
  go_enter Tryd.func61, Tryd.ntmps61
  go_wp2
  go_loopw [9] (fun i wr => ∃ k : Nat, k ≤ L.length ∧ i = .int .i64 k ∧ Hid (∀ j (hj : j < L.length), j < k → OkT L.length j L[j].2) ∧ Ext w wr) (fun i _ => L.length - (intOf i).toNat)
  case atStart => exact ⟨0, Nat.zero_le _, rfl, Lib.hid fun j _ hj => by omega, Ext.refl _⟩
  case round =>
    obtain ⟨k, hk, rfl, hrel, hx⟩ := hrel
    obtain ⟨g0, rfl⟩ := hx.grow; clear hx
    by_cases hlt : k < L.length
    · obtain ⟨d1, t, d2, d3⟩ := HC.out k hlt
      have hml := HM.out k hlt
      obtain ⟨p, tc, rfl, htc, d4⟩ := d3.form
      have D3 := Lib.hid d3; clear d3
      have D4 := Lib.hid d4; clear d4
      go_wp2
      go_loopw [17] (fun q wr => ∃ j : Nat, j ≤ L[k].2.length ∧ q = .int .i64 j ∧ Hid (∀ m (hm : m < L[k].2.length), m < j → TrustAt L.length k L[k].2 m hm) ∧ ∃ gi : Grow (g0.fin.alloc (Obj.cells #[.bool L[k].1, .slice p L[k].2.length tc] 70)), wr = gi.fin) (fun q _ => L[k].2.length - (intOf q).toNat)
      case atStart => exact ⟨0, Nat.zero_le _, rfl, Lib.hid fun m _ hm => by omega, (Ext.refl _).grow⟩
      case round =>
        obtain ⟨j, hj, rfl, hrelj, gi, rfl⟩ := hrel
        by_cases hjl : j < L[k].2.length
        · obtain ⟨b', off', hp, ib', c'⟩ := D4.out (by omega)
          subst hp
          have d5 := c' j hjl
          have C' := Lib.hid c'; clear c'
          cases q1 : inB L[k].2[j] 0 ((L.length : Int) - 1)
          · have Q1 := Lib.hid q1
            go_wp2_with (first | (go_at_call 50; (with_reducible refine (impl_within _ _ _ _ (by assumption) _).mono ?_); rintro e w' ⟨rfl, hx⟩; obtain ⟨g, rfl⟩ := hx.grow; clear hx))
            go_ret
            refine ⟨RetB.no ?_, ExtC.ext⟩
            intro hok
            have h1 := (hok.1 k hlt).1 j hjl
            rw [inB_false] at q1
            exact q1 h1.1
          cases q2 : (L[k].2[j] == (k : Int))
          · cases q3 : decide (L[k].2[j] ∈ L[k].2.take j)
            · have Q := Lib.hid (And.intro q1 (And.intro q2 q3))
              go_wp2_with (first | (go_at_call 50; (with_reducible refine (impl_within _ _ _ _ (by assumption) _).mono ?_); rintro e w' ⟨rfl, hx⟩; obtain ⟨g, rfl⟩ := hx.grow; clear hx) | (go_at_call 76; refine Calls.mono (slices_Contains _ (L[k].2.take j) _ _ (by assumption) _ ((D3.out.take j (by omega)).ext ExtC.ext) (by simp; omega)) ?_; rintro e w' ⟨rfl, hx⟩; obtain ⟨g, rfl⟩ := hx.grow; clear hx))
              go_roundw
              case rel =>
                refine ⟨j + 1, by omega, by go_num, Lib.hid fun m hm hmj => ?_, Ext.grow ExtC.ext⟩
                by_cases e : m = j
                · subst e
                  obtain ⟨r1, r2, r3⟩ := Q.out
                  exact ⟨inB_true.1 r1, by simpa using r2, by simpa using r3⟩
                · exact hrelj.out m hm (by omega)
              case measure => simp [intOf]; omega
            · have Q := Lib.hid q3
              go_wp2_with (first | (go_at_call 50; (with_reducible refine (impl_within _ _ _ _ (by assumption) _).mono ?_); rintro e w' ⟨rfl, hx⟩; obtain ⟨g, rfl⟩ := hx.grow; clear hx) | (go_at_call 76; refine Calls.mono (slices_Contains _ (L[k].2.take j) _ _ (by assumption) _ ((D3.out.take j (by omega)).ext ExtC.ext) (by simp; omega)) ?_; rintro e w' ⟨rfl, hx⟩; obtain ⟨g, rfl⟩ := hx.grow; clear hx))
              go_ret
              refine ⟨RetB.no ?_, ExtC.ext⟩
              intro hok
              have h1 := (hok.1 k hlt).1 j hjl
              exact h1.2.2 (by simpa using Q.out)
          · have Q := Lib.hid q2
            go_wp2_with (first | (go_at_call 50; (with_reducible refine (impl_within _ _ _ _ (by assumption) _).mono ?_); rintro e w' ⟨rfl, hx⟩; obtain ⟨g, rfl⟩ := hx.grow; clear hx))
            go_ret
            refine ⟨RetB.no ?_, ExtC.ext⟩
            intro hok
            have h1 := (hok.1 k hlt).1 j hjl
            exact h1.2.1 (by simpa using Q.out)
        · by_cases h4 : 4 < L[k].2.length
          · go_wp2
            go_ret
            refine ⟨RetB.no ?_, ExtC.ext⟩
            intro hok
            have := (hok.1 k hlt).2
            omega
          · go_wp2
            go_roundw
            case rel =>
              refine ⟨k + 1, by omega, by go_num, Lib.hid fun m hm hmk => ?_, ExtC.ext⟩
              by_cases e : m = k
              · subst e
                exact ⟨fun m' hm' => hrelj.out m' hm' (by omega), by omega⟩
              · exact hrel.out m hm (by omega)
            case measure => simp [intOf]; omega
    · by_cases h1 : 1 ≤ L.length
      · go_wp2
        go_ret
        refine ⟨⟨_, rfl, ⟨fun h => (⟨fun m hm => hrel.out m hm (by omega), h1, ?_⟩ : OkV L), fun h => ?_⟩⟩, ExtC.ext⟩
        · have := of_decide_eq_true h; omega
        · have := h.2.2; exact decide_eq_true (by omega)
      · go_wp2
        go_ret
        exact ⟨RetB.no fun hok => h1 hok.2.1, ExtC.ext⟩

set_option maxHeartbeats 1000000 in
theorem spec_l02Ok (v : Value) (L : List VD) (w : World) (h : VS w v L) (hs : Short L) :
    Calls Tryd.prog 59 #[v] w fun e w' => RetB (OkV L) e ∧ Ext w w' := by
  obtain ⟨b, off, cap, rfl, hb, hc⟩ := h
  obtain ⟨hn, hm⟩ := hs
  have HC := Lib.hid hc
  have HM := Lib.hid hm
  clear hc hm
  cases q0 : inB (L.length : Int) 1 12
  · have Q0 := Lib.hid q0
    go_enter Tryd.func59, Tryd.ntmps59
    go_wp2_with (first | (go_at_call 44; (with_reducible refine (spec_l00In _ _ _ _ (by assumption) _).mono ?_); rintro e w' ⟨rfl, hx⟩; obtain ⟨g, rfl⟩ := hx.grow; clear hx))
    go_ret
    refine ⟨RetB.no fun hok => ?_, ExtC.ext⟩
    have q0 := Q0.out
    rw [inB_false] at q0
    have := hok.2
    omega
  · have Q0 := Lib.hid q0
    go_enter Tryd.func59, Tryd.ntmps59
    go_wp2_with (first | (go_at_call 44; (with_reducible refine (spec_l00In _ _ _ _ (by assumption) _).mono ?_); rintro e w' ⟨rfl, hx⟩; obtain ⟨g, rfl⟩ := hx.grow; clear hx))
    clear q0
    go_loopw [4] (fun i wr => ∃ k : Nat, k ≤ L.length ∧ i = .int .i64 k ∧ Hid (∀ j (hj : j < L.length), j < k → OkT L.length j L[j].2) ∧ Ext w wr) (fun i _ => L.length - (intOf i).toNat)
    case atStart => exact ⟨0, Nat.zero_le _, rfl, Lib.hid fun j _ hj => by omega, ExtC.ext⟩
    case round =>
      obtain ⟨k, hk, rfl, hrel, hx⟩ := hrel
      clear g
      obtain ⟨g0, rfl⟩ := hx.grow; clear hx
      by_cases hlt : k < L.length
      · obtain ⟨d1, t, d2, d3⟩ := HC.out k hlt
        have hml := HM.out k hlt
        obtain ⟨p, tc, rfl, htc, d4⟩ := d3.form
        have D3 := Lib.hid d3; clear d3
        have D4 := Lib.hid d4; clear d4
        by_cases h4 : 4 < L[k].2.length
        · go_wp2
          go_ret
          refine ⟨RetB.no fun hok => ?_, ExtC.ext⟩
          have := (hok.1 k hlt).2
          omega
        go_wp2
        go_loopw [6] (fun q wr => ∃ j : Nat, j ≤ L[k].2.length ∧ q = .int .i64 j ∧ Hid (∀ m (hm : m < L[k].2.length), m < j → TrustAt L.length k L[k].2 m hm) ∧ ∃ gi : Grow g0.fin, wr = gi.fin) (fun q _ => L[k].2.length - (intOf q).toNat)
        case atStart => exact ⟨0, Nat.zero_le _, rfl, Lib.hid fun m _ hm => by omega, (Ext.refl _).grow⟩
        case round =>
          obtain ⟨j, hj, rfl, hrelj, gi, rfl⟩ := hrel
          by_cases hjl : j < L[k].2.length
          · obtain ⟨b', off', hp, ib', c'⟩ := D4.out (by omega)
            subst hp
            have d5 := c' j hjl
            have C' := Lib.hid c'; clear c'
            cases q1 : inB L[k].2[j] 0 ((L.length : Int) - 1)
            · have Q1 := Lib.hid q1
              go_wp2
              refine wp_region_grow (by kernel_rfl) (by kernel_rfl) ?_
              repeat (go_big_quiet_step ((first | (go_at_call 44; with_reducible exact grow_of (spec_l00In _ _ _ _ (by assumption) _)))))
              refine wpQuiet_nil ?_
              intro _ hw'
              obtain ⟨g, hw''⟩ := hw'
              subst hw''
              go_wp2
              go_ret
              refine ⟨RetB.no fun hok => ?_, ExtC.ext⟩
              have h1 := (hok.1 k hlt).1 j hjl
              rw [inB_false] at q1
              exact q1 h1.1
            cases q2 : (L[k].2[j] == (k : Int))
            · cases q3 : decide (L[k].2[j] ∈ L[k].2.take j)
              · have Q := Lib.hid (And.intro q1 (And.intro q2 q3))
                go_wp2
                refine wp_region_grow (by kernel_rfl) (by kernel_rfl) ?_
                repeat (go_big_quiet_step ((first | (go_at_call 44; with_reducible exact grow_of (spec_l00In _ _ _ _ (by assumption) _)) | (go_at_call 75; exact grow_of (spec_l00Has _ (L[k].2.take j) _ _ (by assumption) _ ((D3.out.take j (by omega)).ext ExtC.ext) (by simp; omega))))))
                refine wpQuiet_nil ?_
                intro _ hw'
                obtain ⟨g, hw''⟩ := hw'
                subst hw''
                go_wp2
                go_roundw
                case rel =>
                  refine ⟨j + 1, by omega, by go_num, Lib.hid fun m hm hmj => ?_, Ext.grow ExtC.ext⟩
                  by_cases e : m = j
                  · subst e
                    obtain ⟨r1, r2, r3⟩ := Q.out
                    exact ⟨inB_true.1 r1, by simpa using r2, by simpa using r3⟩
                  · exact hrelj.out m hm (by omega)
                case measure => simp [intOf]; omega
              · have Q := Lib.hid q3
                go_wp2
                refine wp_region_grow (by kernel_rfl) (by kernel_rfl) ?_
                repeat (go_big_quiet_step ((first | (go_at_call 44; with_reducible exact grow_of (spec_l00In _ _ _ _ (by assumption) _)) | (go_at_call 75; exact grow_of (spec_l00Has _ (L[k].2.take j) _ _ (by assumption) _ ((D3.out.take j (by omega)).ext ExtC.ext) (by simp; omega))))))
                refine wpQuiet_nil ?_
                intro _ hw'
                obtain ⟨g, hw''⟩ := hw'
                subst hw''
                go_wp2
                go_ret
                refine ⟨RetB.no fun hok => ?_, ExtC.ext⟩
                have h1 := (hok.1 k hlt).1 j hjl
                exact h1.2.2 (by simpa using Q.out)
            · have Q := Lib.hid q2
              go_wp2
              refine wp_region_grow (by kernel_rfl) (by kernel_rfl) ?_
              repeat (go_big_quiet_step ((first | (go_at_call 44; with_reducible exact grow_of (spec_l00In _ _ _ _ (by assumption) _)))))
              refine wpQuiet_nil ?_
              intro _ hw'
              obtain ⟨g, hw''⟩ := hw'
              subst hw''
              go_wp2
              go_ret
              refine ⟨RetB.no fun hok => ?_, ExtC.ext⟩
              have h1 := (hok.1 k hlt).1 j hjl
              exact h1.2.1 (by simpa using Q.out)
          · go_wp2
            go_roundw
            case rel =>
              refine ⟨k + 1, by omega, by go_num, Lib.hid fun m hm hmk => ?_, ExtC.ext⟩
              by_cases e : m = k
              · subst e
                exact ⟨fun m' hm' => hrelj.out m' hm' (by omega), by omega⟩
              · exact hrel.out m hm (by omega)
            case measure => simp [intOf]; omega
      · go_wp2
        go_ret
        have q0 := inB_true.1 Q0.out
        exact ⟨RetB.yes (P := OkV L) ⟨fun m hm => hrel.out m hm (by omega), by omega, by omega⟩, ExtC.ext⟩

end Go.Proofs.YthcomgnokkndgaaDoor
