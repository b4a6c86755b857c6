/- The laws' helpers over slices of fractions. -/
import Derived.Test.YtoedphgoaifojaaRowsEq
import Derived.Test.YtoedphgoaifojaaPairs
namespace Go.Proofs.Ytoedphgoaifojaa
open Go.RowKit

theorem Try.info_fracS : (Try.prog.info? 60).map (fun i => (i.zero, i.size, i.bytes)) = some (some (.agg #[.int .i64 0, .int .i64 0]), 2, 16) := by kernel_rfl
def OwnF (lo hi : Nat) (w : World) (v : Value) (xs : SD) : Prop :=
  (v = .slice none 0 0 ∧ xs = []) ∨ ∃ g cap cs, v = .slice (some ⟨g, 0, none⟩) xs.length cap ∧ lo ≤ g ∧ g < hi ∧ w.ownsRow lo 60 2 v xs.length cs ∧ ∀ i (h : i < xs.length), cs[i * 2]? = some (iv xs[i].1) ∧ cs[i * 2 + 1]? = some (iv xs[i].2)
set_option maxHeartbeats 400000 in
theorem laws_toFraction1 (x y : Int) (w : World) :
    Calls Try.prog 66 #[.agg #[.int .i64 x, .int .i64 y]] w fun e w' => e = .returned (.agg #[.int .i64 x, .int .i64 y]) ∧ Ext w w' := by
  go_enter Try.func66, Try.ntmps66
  go_wp2
  refine bodyPost_ret (v := .agg #[.int .i64 x, .int .i64 y]) (by simp [results, Try.results66, go_sem]) rfl ⟨rfl, ?_⟩
  exact ExtC.ext

set_option maxHeartbeats 1000000 in
theorem laws_toFractionS (v : Value) (xs : SD) (w : World) (h : RP w v xs) (hn : xs.length ≤ 1048576) :
    Calls Try.prog 27 #[v] w fun e w' => ∃ v', e = .returned v' ∧ v' ≠ .slice none 0 0 ∧ OwnF w.heap.size w'.heap.size w' v' xs ∧ Ext w w' := by
  obtain ⟨i0, hi, hz0, hz1, hz2⟩ := info_parts Try.info_fracS
  rcases h with ⟨b, off, cap, rfl, -, hb, hc⟩ | ⟨rfl, p, cap, rfl⟩
  · have HC := Lib.hid hc; clear hc
    go_enter Try.func27, Try.ntmps27
    go_wp2_with (at_make; refine wpList_make_full _ rfl _ _ 43 rfl w.heap.size 60 i0 (.agg #[.int .i64 0, .int .i64 0]) 2 Try.underlying43 hi hz0 hz1 _ _ _ _ xs.length rfl rfl rfl rfl (by rw [hz2]; omega) (by unfold maxLen; omega) (Nat.le_refl _) ?_; intro w1 hown hgrow)
    have hx1 := grownBy_ext hgrow (fun k h => by cases h)
    go_loopw [4] (fun i wr => ∃ k : Nat, k ≤ xs.length ∧ i = .int .i64 k ∧ Ext w wr ∧ ∃ cs : List Value, wr.ownsRow w.heap.size 60 2 (.slice (some ⟨w.heap.size, 0, none⟩) xs.length xs.length) xs.length cs ∧
        Hid (∀ i (h : i < xs.length), i < k → cs[i * 2]? = some (iv xs[i].1) ∧ cs[i * 2 + 1]? = some (iv xs[i].2))) (fun i _ => xs.length - (intOf i).toNat)
    case atStart => exact ⟨0, Nat.zero_le _, rfl, hx1, _, hown, Lib.hid fun i _ h => by omega⟩
    case round =>
      obtain ⟨k, hk, rfl, hx, cs, how, HI⟩ := hrel
      clear hown hgrow hx1
      by_cases hlt : k < xs.length
      · obtain ⟨d1, d2⟩ := HC.out k hlt
        have c1 : wr.cell? ⟨b, off + k * 2, none⟩ = some (iv xs[k].1) := by rw [Below.cell hx hb.lt]; exact d1
        have c2 : wr.cell? ⟨b, off + k * 2 + 1, none⟩ = some (iv xs[k].2) := by rw [Below.cell hx hb.lt]; exact d2
        clear d1 d2
        have hl : cs.length = xs.length * 2 := how.1
        have hgw := (how.lt w.heap.size rfl).2
        have iw : InW w.heap.size wr := ⟨hgw⟩
        obtain ⟨u1, f1⟩ : ∃ u, wr.cell? ⟨w.heap.size, k * 2, none⟩ = some u := ⟨cs[k * 2], by rw [how.cellAt _ (by omega)]; simp⟩
        obtain ⟨u2, f2⟩ : ∃ u, wr.cell? ⟨w.heap.size, k * 2 + 1, none⟩ = some u := ⟨cs[k * 2 + 1], by rw [how.cellAt _ (by omega)]; simp⟩
        have f3 := how.frozenAt (k * 2)
        have f4 := how.frozenAt (k * 2 + 1)
        have hxc : ExtC w wr := ⟨hx⟩
        have HL := Lib.hid hl; clear hl
        go_wp2_with (first | (go_at_call 66; (with_reducible refine (laws_toFraction1 _ _ _).mono ?_); rintro e w' ⟨rfl, hx⟩; obtain ⟨g, rfl⟩ := hx.grow; clear hx))
        go_roundw
        case rel =>
          have how2 := ownsRow_ext how g.ext
          have s1 := (how2.stored (k * 2) (iv xs[k].1)).1
          have s2 := (s1.stored (k * 2 + 1) (iv xs[k].2)).1
          obtain ⟨p1, p2, p3, p4⟩ := set_pair HL.out hlt (iv xs[k].1) (iv xs[k].2)
          refine ⟨k + 1, by omega, by go_num, ExtC.ext, _, s2, Lib.hid fun i hi hik => ?_⟩
          by_cases h1 : i = k
          · subst h1; exact ⟨p2, p3⟩
          · rw [(p4 i h1).1, (p4 i h1).2]; exact HI.out i hi (by omega)
        case measure => simp [intOf]; omega
      · have hkn : k = xs.length := by omega
        go_wp2
        go_ret
        exact ⟨_, rfl, by simp, .inr ⟨_, _, cs, rfl, Nat.le_refl _, (how.lt w.heap.size rfl).2, how, fun i hi' => HI.out i hi' (by omega)⟩, hx⟩
  · go_enter Try.func27, Try.ntmps27
    go_wp2_with (at_make; refine wpList_make_full _ rfl _ _ 43 rfl w.heap.size 60 i0 (.agg #[.int .i64 0, .int .i64 0]) 2 Try.underlying43 hi hz0 hz1 _ _ _ _ 0 rfl rfl rfl rfl (by rw [hz2]; omega) (by unfold maxLen; omega) (Nat.le_refl _) ?_; intro w1 hown hgrow)
    have hx1 := grownBy_ext hgrow (fun k h => by cases h)
    refine wp_loop_rounds 1 ?_; rw [rounds_succ]
    go_wp2
    go_ret
    exact ⟨_, rfl, by simp, .inr ⟨_, _, _, rfl, Nat.le_refl _, (hown.lt w.heap.size rfl).2, hown, fun i hi' => absurd hi' (by simp)⟩, hx1⟩

set_option maxHeartbeats 400000 in
theorem laws_szFractionS (v : Value) (xs : SD) (left : Int) (w : World) (h : RP w v xs) (hn : xs.length ≤ 9223372036854775807) (h1 : 0 ≤ left) (h2 : left ≤ 1152921504606846976) :
    Calls Try.prog 25 #[v, .int .i64 left] w fun e w' => ∃ r : Int, e = .returned (.int .i64 r) ∧ ((r < 0 ∧ left - xs.length < 0) ∨ (0 ≤ r ∧ r = left - xs.length)) ∧ Ext w w' := by
  obtain ⟨p, cap, rfl, -, hc⟩ := h.form
  clear hc h
  by_cases hl : left - xs.length < 0
  · go_enter Try.func25, Try.ntmps25
    go_wp2
    go_ret
    exact ⟨_, rfl, .inl ⟨by omega, hl⟩, Ext.refl _⟩
  · go_enter Try.func25, Try.ntmps25
    go_wp2
    go_ret
    exact ⟨_, rfl, .inr ⟨by omega, rfl⟩, Ext.refl _⟩
set_option maxHeartbeats 400000 in
theorem laws_eqFraction1 (x y x' y' : Int) (b : Bool) (hb : decide ((x, y) = (x', y')) = b) (w : World) :
    Calls Try.prog 48 #[.agg #[.int .i64 x, .int .i64 y], .agg #[.int .i64 x', .int .i64 y']] w fun e w' => e = .returned (.bool b) ∧ Ext w w' := by
  cases h1 : (x != x')
  · have e1 : x = x' := by simpa using h1
    subst e1
    cases h2 : (y != y')
    · have e2 : y = y' := by simpa using h2
      subst e2
      have hbb : b = true := by rw [← hb]; simp
      subst hbb
      clear hb h1 h2
      go_enter Try.func48, Try.ntmps48
      go_wp2
      go_ret
      exact ⟨rfl, ExtC.ext⟩
    · have hbb : b = false := by rw [← hb]; simpa using h2
      subst hbb
      clear hb h1
      go_enter Try.func48, Try.ntmps48
      go_wp2
      go_ret
      exact ⟨rfl, ExtC.ext⟩
  · have hbb : b = false := by rw [← hb]; simp; intro e; simp [e] at h1
    subst hbb
    clear hb
    go_enter Try.func48, Try.ntmps48
    go_wp2
    go_ret
    exact ⟨rfl, ExtC.ext⟩

set_option maxHeartbeats 1000000 in
theorem laws_eqFractionS (v u : Value) (xs ys : SD) (b : Bool) (hb : decide (xs = ys) = b) (w : World) (h : RP w v xs) (h' : RP w u ys) (hn : xs.length ≤ 1152921504606846976) (hn' : ys.length ≤ 1152921504606846976) :
    Calls Try.prog 29 #[v, u] w fun e w' => e = .returned (.bool b) ∧ Ext w w' := by
  obtain ⟨p, cap, rfl, -, hc⟩ := h.form
  obtain ⟨q, cap', rfl, -, hc'⟩ := h'.form
  clear h h'
  by_cases hl : xs.length = ys.length
  · by_cases h0 : 0 < xs.length
    · obtain ⟨b1, off, rfl, i1, c1⟩ := hc h0
      obtain ⟨b2, off', rfl, i2, c2⟩ := hc' (by omega)
      have HC := Lib.hid (And.intro c1 c2)
      have HL := Lib.hid hl
      rw [← hl]
      clear hc hc' c1 c2 hl
      go_enter Try.func29, Try.ntmps29
      go_wp2
      go_loopw [5] (fun i wr => ∃ k : Nat, k ≤ xs.length ∧ i = .int .i64 k ∧ Hid (∀ j, j < k → xs[j]? = ys[j]?) ∧ Ext w wr) (fun i _ => xs.length - (intOf i).toNat)
      case atStart => exact ⟨0, Nat.zero_le _, rfl, Lib.hid (fun j hj => by omega), Ext.refl _⟩
      case round =>
        obtain ⟨k, hk, rfl, hrel, hx⟩ := hrel
        obtain ⟨g0, rfl⟩ := hx.grow; clear hx
        by_cases hlt : k < xs.length
        · have hlt' : k < ys.length := by rw [← HL.out]; exact hlt
          obtain ⟨d1, d2⟩ := HC.out.1 k hlt
          obtain ⟨d1', d2'⟩ := HC.out.2 k hlt'
          cases he : decide ((xs[k].1, xs[k].2) = (ys[k].1, ys[k].2))
          · have HE := Lib.hid he; clear he
            go_wp2
            refine wp_region_grow (by kernel_rfl) (by kernel_rfl) ?_
            repeat (go_big_quiet_step ((first | (go_at_call 48; exact grow_of (laws_eqFraction1 _ _ _ _ _ HE.out _)))))
            refine wpQuiet_nil ?_
            intro _ hw'
            obtain ⟨g, hw''⟩ := hw'
            subst hw''
            go_wp2
            go_ret
            refine ⟨ret_bool ?_, ExtC.ext⟩
            rw [← hb]; symm; rw [decide_eq_false_iff_not]; intro e
            have := HE.out
            rw [decide_eq_false_iff_not] at this
            exact this (by subst e; rfl)
          · have HE := Lib.hid he; clear he
            go_wp2
            refine wp_region_grow (by kernel_rfl) (by kernel_rfl) ?_
            repeat (go_big_quiet_step ((first | (go_at_call 48; exact grow_of (laws_eqFraction1 _ _ _ _ _ HE.out _)))))
            refine wpQuiet_nil ?_
            intro _ hw'
            obtain ⟨g, hw''⟩ := hw'
            subst hw''
            go_wp2
            go_roundw
            case rel =>
              refine ⟨k + 1, by omega, by go_num, Lib.hid (fun j hj => ?_), ExtC.ext⟩
              by_cases hjk : j = k
              · subst hjk
                have := HE.out
                rw [decide_eq_true_eq] at this
                rw [List.getElem?_eq_getElem hlt, List.getElem?_eq_getElem hlt']
                exact congrArg some this
              · exact hrel.out j (by omega)
            case measure => simp [intOf]; omega
        · go_wp2
          go_ret
          refine ⟨ret_bool ?_, ExtC.ext⟩
          rw [← hb]; symm; rw [decide_eq_true_eq]
          apply List.ext_getElem?
          intro j
          by_cases hj : j < xs.length
          · exact hrel.out j (by omega)
          · have := HL.out
            rw [List.getElem?_eq_none (by omega), List.getElem?_eq_none (by omega)]
    · have e1 : xs = [] := List.length_eq_zero_iff.1 (by omega)
      have e2 : ys = [] := List.length_eq_zero_iff.1 (by omega)
      subst e1 e2
      clear hc hc'
      go_enter Try.func29, Try.ntmps29
      go_wp2
      refine wp_loop_rounds 1 ?_; rw [rounds_succ]
      go_wp2
      go_ret
      exact ⟨ret_bool (by rw [← hb]; rfl), Ext.refl _⟩
  · have hb' : ((xs.length : Int) != (ys.length : Int)) = true := by simp; omega
    have hne : b = false := by rw [← hb, decide_eq_false_iff_not]; intro e; exact hl (by rw [e])
    have HL := Lib.hid hl; clear hl hc hc'
    subst hne
    go_enter Try.func29, Try.ntmps29
    go_wp2
    go_ret
    exact ⟨rfl, Ext.refl _⟩

theorem OwnF.rp {lo hi : Nat} {w : World} {v : Value} {xs : SD} (h : OwnF lo hi w v xs) : RP w v xs := by
  rcases h with ⟨rfl, rfl⟩ | ⟨g, cap, cs, rfl, _, _, how, hc⟩
  · exact .inr ⟨rfl, none, 0, rfl⟩
  · refine .inl ⟨g, 0, cap, rfl, own_le how, ⟨(how.lt g rfl).2⟩, fun i hi => ?_⟩
    simp only [Nat.zero_add]
    rw [how.cellAt _ (by omega), how.cellAt _ (by omega)]; exact hc i hi
end Go.Proofs.Ytoedphgoaifojaa
