/- Slices of shares (pairs of numbers): what reads, what a function owns, and the contracts of the laws' helpers. -/
import Derived.Test.YtomkhjcejjkelaaDoorPairs
namespace Go.Proofs.YtomkhjcejjkelaaDoor
open Go.RowKit

theorem Tryd.info_share : (Tryd.prog.info? 75).map (fun i => (i.zero, i.size, i.bytes)) = some (some (.agg #[.int .i64 0, .int .i64 0]), 2, 16) := by kernel_rfl

def OwnP (lo hi : Nat) (w : World) (v : Value) (xs : SD) : Prop :=
  (v = .slice none 0 0 ∧ xs = []) ∨ ∃ g cap cs, v = .slice (some ⟨g, 0, none⟩) xs.length cap ∧ lo ≤ g ∧ g < hi ∧ w.ownsRow lo 75 2 v xs.length cs ∧ ∀ i (h : i < xs.length), cs[i * 2]? = some (iv xs[i].1) ∧ cs[i * 2 + 1]? = some (iv xs[i].2)
theorem OwnP.rp {lo hi : Nat} {w : World} {v : Value} {xs : SD} (h : OwnP lo hi w v xs) : RP w v xs := by
  rcases h with ⟨rfl, rfl⟩ | ⟨g, cap, cs, rfl, _, _, how, hc⟩
  · exact .inr ⟨rfl, none, 0, rfl⟩
  · refine .inl ⟨g, 0, cap, rfl, own_le how, ⟨(how.lt g rfl).2⟩, fun i hi => ?_⟩
    simp only [Nat.zero_add]
    rw [how.cellAt _ (by omega), how.cellAt _ (by omega)]; exact hc i hi
theorem OwnP.ext {lo hi : Nat} {w w' : World} {v : Value} {xs : SD} (h : OwnP lo hi w v xs) (hx : Ext w w') : OwnP lo hi w' v xs := by
  rcases h with h | ⟨g, cap, cs, hv, a, b, how, hc⟩
  · exact .inl h
  · exact .inr ⟨g, cap, cs, hv, a, b, ownsRow_ext how hx, hc⟩
theorem OwnP.rng {lo hi lo' hi' : Nat} {w w' : World} {v : Value} {xs : SD} (h : OwnP lo hi w v xs) (hx : Rng lo' hi' w w') (hd : hi ≤ lo' ∨ hi' ≤ lo) : OwnP lo hi w' v xs := by
  rcases h with h | ⟨g, cap, cs, rfl, a, b, how, hc⟩
  · exact .inl h
  · exact .inr ⟨g, cap, cs, rfl, a, b, ownsRow_rng how hx (by omega), hc⟩
theorem OwnP.mono {lo hi lo' hi' : Nat} {w : World} {v : Value} {xs : SD} (h : OwnP lo hi w v xs) (h1 : lo' ≤ lo) (h2 : hi ≤ hi') : OwnP lo' hi' w v xs := by
  rcases h with h | ⟨g, cap, cs, hv, a, b, how, hc⟩
  · exact .inl h
  · exact .inr ⟨g, cap, cs, hv, by omega, by omega, ownsRow_mono how h1, hc⟩

/-- The rows of shares. -/
def shareKind : Kind SD where
  R := RP
  Own := OwnP
  cnt xs := 2 * xs.length
  mark k xs := pmarks k xs.length
  r_ext h hx := h.ext hx
  own_ext h hx := h.ext hx
  own_rng h hx hd := h.rng hx hd
  own_mono h h1 h2 := h.mono h1 h2
  own_r h := h.rp
  r_form h := by obtain ⟨p, c, rfl, _⟩ := h.form; exact ⟨_, _, _, rfl⟩

set_option maxHeartbeats 400000 in
theorem laws_toShare (x y : Int) (w : World) :
    Calls Tryd.prog 106 #[.agg #[.int .i64 x, .int .i64 y]] w fun e w' => e = .returned (.agg #[.int .i64 x, .int .i64 y]) ∧ Ext w w' := by
  go_enter Tryd.func106, Tryd.ntmps106
  go_wp2
  refine bodyPost_ret (v := .agg #[.int .i64 x, .int .i64 y]) (by simp [results, Tryd.results106, go_sem]) rfl ⟨rfl, ?_⟩
  exact ExtC.ext

set_option maxHeartbeats 1000000 in
theorem laws_toShareS (v : Value) (xs : SD) (w : World) (h : RP w v xs) (hn : xs.length ≤ 1048576) :
    Calls Tryd.prog 77 #[v] w fun e w' => ∃ v', e = .returned v' ∧ v' ≠ .slice none 0 0 ∧ OwnP w.heap.size w'.heap.size w' v' xs ∧ Ext w w' := by
  obtain ⟨i0, hi, hz0, hz1, hz2⟩ := info_parts Tryd.info_share
  rcases h with ⟨b, off, cap, rfl, -, hb, hc⟩ | ⟨rfl, p, cap, rfl⟩
  · have HC := Lib.hid hc; clear hc
    go_enter Tryd.func77, Tryd.ntmps77
    go_wp2_with (at_make; refine wpList_make_full _ rfl _ _ 71 rfl w.heap.size 75 i0 (.agg #[.int .i64 0, .int .i64 0]) 2 Tryd.underlying71 hi hz0 hz1 _ _ _ _ xs.length rfl rfl rfl rfl (by rw [hz2]; omega) (by unfold maxLen; omega) (Nat.le_refl _) ?_; intro w1 hown hgrow)
    have hx1 := grownBy_ext hgrow (fun k h => by cases h)
    go_loopw [4] (fun i wr => ∃ k : Nat, k ≤ xs.length ∧ i = .int .i64 k ∧ Ext w wr ∧ ∃ cs : List Value, wr.ownsRow w.heap.size 75 2 (.slice (some ⟨w.heap.size, 0, none⟩) xs.length xs.length) xs.length cs ∧
        Hid (∀ i (h : i < xs.length), i < k → cs[i * 2]? = some (iv xs[i].1) ∧ cs[i * 2 + 1]? = some (iv xs[i].2))) (fun i _ => xs.length - (intOf i).toNat)
    case atStart => exact ⟨0, Nat.zero_le _, rfl, hx1, _, hown, Lib.hid fun i _ h => by omega⟩
    case round =>
      obtain ⟨k, hk, rfl, hx, cs, how, HI⟩ := hrel
      clear hown hgrow hx1
      by_cases hlt : k < xs.length
      · obtain ⟨d1, d2⟩ := HC.out k hlt
        have c1 : wr.cell? ⟨b, off + k * 2, none⟩ = some (iv xs[k].1) := by rw [Below.cell hx hb.lt]; exact d1
        have c2 : wr.cell? ⟨b, off + k * 2 + 1, none⟩ = some (iv xs[k].2) := by rw [Below.cell hx hb.lt]; exact d2
        clear d1 d2
        have hl : cs.length = xs.length * 2 := how.1
        have hgw := (how.lt w.heap.size rfl).2
        have iw : InW w.heap.size wr := ⟨hgw⟩
        obtain ⟨u1, f1⟩ : ∃ u, wr.cell? ⟨w.heap.size, k * 2, none⟩ = some u := ⟨cs[k * 2], by rw [how.cellAt _ (by omega)]; simp⟩
        obtain ⟨u2, f2⟩ : ∃ u, wr.cell? ⟨w.heap.size, k * 2 + 1, none⟩ = some u := ⟨cs[k * 2 + 1], by rw [how.cellAt _ (by omega)]; simp⟩
        have f3 := how.frozenAt (k * 2)
        have f4 := how.frozenAt (k * 2 + 1)
        have hxc : ExtC w wr := ⟨hx⟩
        have HL := Lib.hid hl; clear hl
        go_wp2_with (first | (go_at_call 106; (with_reducible refine (laws_toShare _ _ _).mono ?_); rintro e w' ⟨rfl, hx⟩; obtain ⟨g, rfl⟩ := hx.grow; clear hx))
        go_roundw
        case rel =>
          have how2 := ownsRow_ext how g.ext
          have s1 := (how2.stored (k * 2) (iv xs[k].1)).1
          have s2 := (s1.stored (k * 2 + 1) (iv xs[k].2)).1
          obtain ⟨p1, p2, p3, p4⟩ := set_pair HL.out hlt (iv xs[k].1) (iv xs[k].2)
          refine ⟨k + 1, by omega, by go_num, ExtC.ext, _, s2, Lib.hid fun i hi hik => ?_⟩
          by_cases h1 : i = k
          · subst h1; exact ⟨p2, p3⟩
          · rw [(p4 i h1).1, (p4 i h1).2]; exact HI.out i hi (by omega)
        case measure => simp [intOf]; omega
      · have hkn : k = xs.length := by omega
        go_wp2
        go_ret
        exact ⟨_, rfl, by simp, .inr ⟨_, _, cs, rfl, Nat.le_refl _, (how.lt w.heap.size rfl).2, how, fun i hi' => HI.out i hi' (by omega)⟩, hx⟩
  · go_enter Tryd.func77, Tryd.ntmps77
    go_wp2_with (at_make; refine wpList_make_full _ rfl _ _ 71 rfl w.heap.size 75 i0 (.agg #[.int .i64 0, .int .i64 0]) 2 Tryd.underlying71 hi hz0 hz1 _ _ _ _ 0 rfl rfl rfl rfl (by rw [hz2]; omega) (by unfold maxLen; omega) (Nat.le_refl _) ?_; intro w1 hown hgrow)
    have hx1 := grownBy_ext hgrow (fun k h => by cases h)
    refine wp_loop_rounds 1 ?_; rw [rounds_succ]
    go_wp2
    go_ret
    exact ⟨_, rfl, by simp, .inr ⟨_, _, _, rfl, Nat.le_refl _, (hown.lt w.heap.size rfl).2, hown, fun i hi' => absurd hi' (by simp)⟩, hx1⟩

set_option maxHeartbeats 400000 in
theorem laws_szShareS (v : Value) (xs : SD) (left : Int) (w : World) (h : RP w v xs) (hn : xs.length ≤ 9223372036854775807) (h1 : 0 ≤ left) (h2 : left ≤ 1152921504606846976) :
    Calls Tryd.prog 76 #[v, .int .i64 left] w fun e w' => ∃ r : Int, e = .returned (.int .i64 r) ∧ ((r < 0 ∧ left - xs.length < 0) ∨ (0 ≤ r ∧ r = left - xs.length)) ∧ Ext w w' := by
  obtain ⟨p, cap, rfl, -, hc⟩ := h.form
  clear hc h
  by_cases hl : left - xs.length < 0
  · go_enter Tryd.func76, Tryd.ntmps76
    go_wp2
    go_ret
    exact ⟨_, rfl, .inl ⟨by omega, hl⟩, Ext.refl _⟩
  · go_enter Tryd.func76, Tryd.ntmps76
    go_wp2
    go_ret
    exact ⟨_, rfl, .inr ⟨by omega, rfl⟩, Ext.refl _⟩
end Go.Proofs.YtomkhjcejjkelaaDoor
