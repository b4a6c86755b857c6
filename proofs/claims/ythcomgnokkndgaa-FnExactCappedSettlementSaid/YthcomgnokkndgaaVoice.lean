/- Slices of voices: what reads, what a function owns, and the contracts of the laws' helpers on []Voice. -/
import Derived.Test.YthcomgnokkndgaaSlice
namespace Go.Proofs.Ythcomgnokkndgaa
open Go.RowKit

theorem Try.info_voice : (Try.prog.info? 40).map (fun i => (i.zero, i.size, i.bytes)) = some (some (.agg #[.bool false, .slice none 0 0]), 2, 32) := by kernel_rfl

/-- A voice: whether it speaks, and whom it trusts. -/
abbrev VD := Bool × List Int

/-- v reads as the voices L: at an address with its cells. -/
def VS (w : World) (v : Value) (L : List VD) : Prop :=
  ∃ b off cap, v = .slice (some ⟨b, off, none⟩) L.length cap ∧ InW b w ∧ ∀ i (h : i < L.length), w.cell? ⟨b, off + i * 2, none⟩ = some (.bool L[i].1) ∧ ∃ t, w.cell? ⟨b, off + i * 2 + 1, none⟩ = some t ∧ RI w t L[i].2
def RV (w : World) (v : Value) (L : List VD) : Prop := VS w v L ∨ (L = [] ∧ ∃ p cap, v = .slice p 0 cap)

theorem VS.ext {w w' : World} {v : Value} {L : List VD} (h : VS w v L) (hx : Ext w w') : VS w' v L := by
  obtain ⟨b, off, cap, hv, hb, hc⟩ := h
  refine ⟨b, off, cap, hv, ⟨Nat.lt_of_lt_of_le hb.lt hx.size⟩, fun i hi => ?_⟩
  obtain ⟨h1, t, h2, h3⟩ := hc i hi
  refine ⟨by rw [Below.cell hx hb.lt]; exact h1, t, by rw [Below.cell hx hb.lt]; exact h2, h3.ext hx⟩
theorem RV.ext {w w' : World} {v : Value} {L : List VD} (h : RV w v L) (hx : Ext w w') : RV w' v L := by
  rcases h with h | h
  · exact .inl (h.ext hx)
  · exact .inr h

/-- The lengths of a list of voices, together. -/
def vsum (L : List VD) : Nat := (L.map fun v => v.2.length).sum
theorem vsum_take (L : List VD) (k : Nat) (h : k < L.length) : vsum (L.take (k + 1)) = vsum (L.take k) + L[k].2.length := by
  rw [List.take_succ_eq_append_getElem h]; simp only [vsum, List.map_append, List.sum_append, List.map_cons, List.map_nil, List.sum_cons, List.sum_nil]; omega
theorem vsum_take_le (L : List VD) (k : Nat) : vsum (L.take k) ≤ vsum L := by
  have h := List.take_append_drop k L
  have : vsum L = vsum (L.take k) + vsum (L.drop k) := by
    conv => lhs; rw [← h]
    simp only [vsum, List.map_append, List.sum_append]
  omega
theorem vsum_get (L : List VD) (k : Nat) (h : k < L.length) : L[k].2.length ≤ vsum L := by
  have h1 := vsum_take L k h
  have h2 := vsum_take_le L (k + 1)
  omega

set_option maxHeartbeats 400000 in
theorem laws_szVoice (s : Bool) (t : Value) (xs : List Int) (left : Int) (w : World) (h : RI w t xs) (hn : xs.length ≤ 9223372036854775807) (h1 : 0 ≤ left) (h2 : left ≤ 1152921504606846976) :
    Calls Try.prog 13 #[.agg #[.bool s, t], .int .i64 left] w fun e w' => ∃ r : Int, e = .returned (.int .i64 r) ∧ ((r < 0 ∧ left - xs.length < 0) ∨ (0 ≤ r ∧ r = left - xs.length)) ∧ Ext w w' := by
  by_cases hs : left - (xs.length : Int) < 0
  · obtain ⟨p, cap, rfl, -, hc⟩ := h.form
    have HC := Lib.hid hc; clear hc
    go_enter Try.func13, Try.ntmps13
    go_wp2_with (first | (go_at_call 22; refine Calls.mono (laws_szInt64S _ xs _ _ (h.ext ExtC.ext) hn h1 h2) ?_; rw [if_pos hs]; rintro e w' ⟨rfl, hx⟩; obtain ⟨g, rfl⟩ := hx.grow; clear hx))
    go_ret
    exact ⟨_, rfl, .inl ⟨by omega, hs⟩, ExtC.ext⟩
  · obtain ⟨p, cap, rfl, -, hc⟩ := h.form
    have HC := Lib.hid hc; clear hc
    go_enter Try.func13, Try.ntmps13
    go_wp2_with (first | (go_at_call 22; refine Calls.mono (laws_szInt64S _ xs _ _ (h.ext ExtC.ext) hn h1 h2) ?_; rw [if_neg hs]; rintro e w' ⟨rfl, hx⟩; obtain ⟨g, rfl⟩ := hx.grow; clear hx))
    go_ret
    exact ⟨_, rfl, .inr ⟨by omega, rfl⟩, ExtC.ext⟩

set_option maxHeartbeats 1000000 in
theorem laws_szVoiceS (v : Value) (L : List VD) (w : World) (h : RV w v L) (hn : L.length ≤ 9223372036854775807) (hm : ∀ i (h : i < L.length), L[i].2.length ≤ 9223372036854775807) :
    Calls Try.prog 4 #[v, .int .i64 1048576] w fun e w' => ∃ r : Int, e = .returned (.int .i64 r) ∧ (r < 0 ∨ (0 ≤ r ∧ L.length ≤ 1048576 ∧ vsum L ≤ 1048576)) ∧ Ext w w' := by
  rcases h with ⟨b, off, cap, rfl, hb, hc⟩ | ⟨rfl, p, cap, rfl⟩
  · by_cases hl : (1048576 : Int) - L.length < 0
    · have H := Lib.hid hc; clear hc
      go_enter Try.func4, Try.ntmps4
      go_wp2
      go_ret
      exact ⟨_, rfl, .inl (by omega), ExtC.ext⟩
    · have H := Lib.hid (And.intro hc hm); clear hc hm
      go_enter Try.func4, Try.ntmps4
      go_wp2
      go_loopw [1, 5] (fun q i wr => ∃ k : Nat, ∃ r : Int, k ≤ L.length ∧ i = .int .i64 k ∧ q = .int .i64 r ∧ 0 ≤ r ∧ r ≤ 1048576 ∧ Hid (r = 1048576 - (L.length : Int) - (vsum (L.take k) : Int)) ∧ Ext w wr) (fun _ i _ => L.length - (intOf i).toNat)
      case atStart => exact ⟨0, _, Nat.zero_le _, rfl, rfl, by omega, by omega, Lib.hid (by simp [vsum]), Ext.refl _⟩
      case round =>
        obtain ⟨k, r, hk, rfl, rfl, hr0, hr1, hr, hx⟩ := hrel
        by_cases hlt : k < L.length
        · obtain ⟨d1, t, d2, d3⟩ := H.out.1 k hlt
          have d4 := H.out.2 k hlt
          have e3 := Lib.hid (d3.ext hx); clear d3
          have e1 : wr.cell? ⟨b, off + k * 2, none⟩ = some (.bool L[k].1) := by rw [Below.cell hx hb.lt]; exact d1
          have e2 : wr.cell? ⟨b, off + k * 2 + 1, none⟩ = some t := by rw [Below.cell hx hb.lt]; exact d2
          clear d1 d2
          have hxc : ExtC w wr := ⟨hx⟩
          go_wp2_with (first | (go_at_call 13; refine Calls.mono (laws_szVoice _ _ L[k].2 _ _ (e3.out.ext ExtC.ext) d4 (by omega) (by omega)) ?_; rintro e w' ⟨r', rfl, hr', hx'⟩; obtain ⟨g, rfl⟩ := hx'.grow; clear hx'))
          · go_ret
            exact ⟨_, rfl, .inl (by omega), ExtC.ext⟩
          · have hv := vsum_take L k hlt
            have hro := hr.out
            go_roundw
            case rel => exact ⟨k + 1, r', by omega, by go_num, rfl, by omega, by omega, Lib.hid (by omega), ExtC.ext⟩
            case measure => simp [intOf]; omega
        · have hkn : k = L.length := by omega
          go_wp2
          go_ret
          have hro := hr.out
          rw [List.take_of_length_le (by omega)] at hro
          exact ⟨_, rfl, .inr ⟨by omega, by omega, by omega⟩, hx⟩
  · go_enter Try.func4, Try.ntmps4
    go_wp2
    refine wp_loop_rounds 1 ?_; rw [rounds_succ]
    go_wp2
    go_ret
    exact ⟨_, rfl, .inr ⟨by omega, by simp, by simp [vsum]⟩, ExtC.ext⟩
/-- v is nil, or lies with all that its voices trust in blocks of its own, no two of them the same. -/
def OwnV (lo hi : Nat) (w : World) (v : Value) (L : List VD) : Prop :=
  (v = .slice none 0 0 ∧ L = []) ∨ ∃ (g cap : Nat) (cs : List Value) (ts : Nat → Value) (a b : Nat → Nat), v = .slice (some ⟨g, 0, none⟩) L.length cap ∧ lo ≤ g ∧ g < hi ∧ w.ownsRow lo 40 2 v L.length cs ∧
    (∀ i (h : i < L.length), cs[i * 2]? = some (.bool L[i].1) ∧ cs[i * 2 + 1]? = some (ts i) ∧ OwnI (a i) (b i) w (ts i) L[i].2 ∧ lo ≤ a i ∧ b i ≤ hi ∧ (g < a i ∨ b i ≤ g)) ∧
    (∀ i j, i < j → j < L.length → b i ≤ a j ∨ b j ≤ a i)

theorem OwnV.vs {lo hi : Nat} {w : World} {v : Value} {L : List VD} (h : OwnV lo hi w v L) (hn : v ≠ .slice none 0 0) : VS w v L := by
  rcases h with ⟨rfl, _⟩ | ⟨g, cap, cs, ts, a, b, rfl, _, _, how, hc, _⟩
  · exact absurd rfl hn
  refine ⟨g, 0, cap, rfl, ⟨(how.lt g rfl).2⟩, fun i hi => ?_⟩
  obtain ⟨h1, h2, h3, _⟩ := hc i hi
  simp only [Nat.zero_add]
  refine ⟨by rw [how.cellAt _ (by omega)]; exact h1, ts i, by rw [how.cellAt _ (by omega)]; exact h2, h3.ri⟩
theorem OwnV.rv {lo hi : Nat} {w : World} {v : Value} {L : List VD} (h : OwnV lo hi w v L) : RV w v L := by
  rcases h with ⟨rfl, rfl⟩ | h'
  · exact .inr ⟨rfl, none, 0, rfl⟩
  · exact .inl (OwnV.vs (.inr h') (by obtain ⟨g, cap, cs, ts, a, b, rfl, _⟩ := h'; simp))
theorem OwnV.ext {lo hi : Nat} {w w' : World} {v : Value} {L : List VD} (h : OwnV lo hi w v L) (hx : Ext w w') : OwnV lo hi w' v L := by
  rcases h with h | ⟨g, cap, cs, ts, a, b, hv, h1, h2, how, hc, hd⟩
  · exact .inl h
  · exact .inr ⟨g, cap, cs, ts, a, b, hv, h1, h2, ownsRow_ext how hx, fun i hi => ⟨(hc i hi).1, (hc i hi).2.1, (hc i hi).2.2.1.ext hx, (hc i hi).2.2.2⟩, hd⟩
theorem OwnV.rng {lo hi lo' hi' : Nat} {w w' : World} {v : Value} {L : List VD} (h : OwnV lo hi w v L) (hx : Rng lo' hi' w w') (hdj : hi ≤ lo' ∨ hi' ≤ lo) : OwnV lo hi w' v L := by
  rcases h with h | ⟨g, cap, cs, ts, a, b, rfl, h1, h2, how, hc, hd⟩
  · exact .inl h
  · refine .inr ⟨g, cap, cs, ts, a, b, rfl, h1, h2, ownsRow_rng how hx (by omega), fun i hi => ?_, hd⟩
    obtain ⟨c1, c2, c3, c4, c5, c6⟩ := hc i hi
    exact ⟨c1, c2, c3.rng hx (by omega), c4, c5, c6⟩

set_option maxHeartbeats 400000 in
theorem laws_toVoice (s : Bool) (t : Value) (xs : List Int) (w : World) (h : RI w t xs) (hn : xs.length ≤ 1048576) :
    Calls Try.prog 17 #[.agg #[.bool s, t]] w fun e w' => ∃ q c, e = .returned (.agg #[.bool s, .slice (some ⟨q, 0, none⟩) xs.length c]) ∧ OwnI w.heap.size w'.heap.size w' (.slice (some ⟨q, 0, none⟩) xs.length c) xs ∧ Ext w w' := by
  obtain ⟨p, cap, rfl, -, hc⟩ := h.form
  have HC := Lib.hid hc; clear hc
  go_enter Try.func17, Try.ntmps17
  go_wp2_with (first | (go_at_call 27; refine Calls.mono (laws_toInt64S _ xs _ (h.ext ExtC.ext) hn) ?_; rintro e w' ⟨t', rfl, ht, ho, hx⟩; obtain ⟨q, c, rfl⟩ := ho.form ht; obtain ⟨g, rfl⟩ := hx.grow; clear hx ht))
  refine bodyPost_ret (v := .agg #[.bool s, .slice (some ⟨q, 0, none⟩) xs.length c]) (by simp [results, Try.results17, go_sem]) rfl ⟨_, _, rfl, ?_, ExtC.ext⟩
  have hs := g.ext.size
  simp only [World.size_alloc] at ho hs
  simp only [World.size_setCell]
  refine OwnI.mono (lo := w.heap.size + 1 + 1 + 1) (hi := g.fin.heap.size) ?_ (by omega) (Nat.le_refl _)
  repeat (first | exact ho | refine OwnI.setCell ?_ (by omega))

/-- A voice in a row of its own: cells 2 i and 2 i + 1. -/
theorem set_pair {cs : List Value} {n k : Nat} (hl : cs.length = n * 2) (hk : k < n) (x y : Value) :
    ((cs.set (k * 2) x).set (k * 2 + 1) y).length = n * 2 ∧ ((cs.set (k * 2) x).set (k * 2 + 1) y)[k * 2]? = some x ∧ ((cs.set (k * 2) x).set (k * 2 + 1) y)[k * 2 + 1]? = some y ∧
    ∀ j, j ≠ k → ((cs.set (k * 2) x).set (k * 2 + 1) y)[j * 2]? = cs[j * 2]? ∧ ((cs.set (k * 2) x).set (k * 2 + 1) y)[j * 2 + 1]? = cs[j * 2 + 1]? := by
  refine ⟨by simp [hl], ?_, ?_, fun j hj => ⟨?_, ?_⟩⟩
  · rw [List.getElem?_set_ne (by omega), List.getElem?_set_self (by omega)]
  · rw [List.getElem?_set_self (by simp; omega)]
  · rw [List.getElem?_set_ne (by omega), List.getElem?_set_ne (by omega)]
  · rw [List.getElem?_set_ne (by omega), List.getElem?_set_ne (by omega)]

set_option maxHeartbeats 1000000 in
theorem laws_toVoiceS (v : Value) (L : List VD) (w : World) (h : RV w v L) (hn : L.length ≤ 1048576) (hm : vsum L ≤ 1048576) :
    Calls Try.prog 6 #[v] w fun e w' => ∃ v', e = .returned v' ∧ v' ≠ .slice none 0 0 ∧ OwnV w.heap.size w'.heap.size w' v' L ∧ Ext w w' := by
  obtain ⟨i0, hi, hz0, hz1, hz2⟩ := info_parts Try.info_voice
  rcases h with ⟨b, off, cap, rfl, hb, hc⟩ | ⟨rfl, p, cap, rfl⟩
  · have HM : Hid (∀ i (h : i < L.length), L[i].2.length ≤ 1048576) := Lib.hid fun i h => by have := vsum_get L i h; omega
    clear hm
    have HC := Lib.hid hc; clear hc
    go_enter Try.func6, Try.ntmps6
    go_wp2_with (at_make; refine wpList_make_full _ rfl _ _ 27 rfl w.heap.size 40 i0 (.agg #[.bool false, .slice none 0 0]) 2 Try.underlying27 hi hz0 hz1 _ _ _ _ L.length rfl rfl rfl rfl (by rw [hz2]; omega) (by unfold maxLen; omega) (Nat.le_refl _) ?_; intro w1 hown hgrow)
    have hx1 := grownBy_ext hgrow (fun k h => by cases h)
    have hlt1 := (hown.lt w.heap.size rfl).2
    go_loopw [4] (fun i wr => ∃ k : Nat, k ≤ L.length ∧ i = .int .i64 k ∧ Ext w wr ∧ ∃ (cs : List Value) (ts : Nat → Value) (a : Nat → Nat), wr.ownsRow w.heap.size 40 2 (.slice (some ⟨w.heap.size, 0, none⟩) L.length L.length) L.length cs ∧
        Hid (w.heap.size < a 0 ∧ a k ≤ wr.heap.size ∧ (∀ i j, i ≤ j → j ≤ k → a i ≤ a j) ∧ ∀ i (h : i < L.length), i < k → cs[i * 2]? = some (.bool L[i].1) ∧ cs[i * 2 + 1]? = some (ts i) ∧ OwnI (a i) (a (i + 1)) wr (ts i) L[i].2)) (fun i _ => L.length - (intOf i).toNat)
    case atStart => exact ⟨0, Nat.zero_le _, rfl, hx1, _, fun _ => undef, fun _ => w1.heap.size, hown, Lib.hid ⟨hlt1, Nat.le_refl _, fun _ _ _ _ => Nat.le_refl _, fun i _ h => by omega⟩⟩
    case round =>
      obtain ⟨k, hk, rfl, hx, cs, ts, a, how, HI⟩ := hrel
      clear hown hgrow hx1 hlt1
      by_cases hlt : k < L.length
      · obtain ⟨d1, t, d2, d3⟩ := HC.out k hlt
        have c1 : wr.cell? ⟨b, off + k * 2, none⟩ = some (.bool L[k].1) := by rw [Below.cell hx hb.lt]; exact d1
        have c2 : wr.cell? ⟨b, off + k * 2 + 1, none⟩ = some t := by rw [Below.cell hx hb.lt]; exact d2
        have e3 := Lib.hid (d3.ext hx); clear d1 d2 d3
        have hl : cs.length = L.length * 2 := how.1
        have hgw := (how.lt w.heap.size rfl).2
        have iw : InW w.heap.size wr := ⟨hgw⟩
        obtain ⟨u1, f1⟩ : ∃ u, wr.cell? ⟨w.heap.size, k * 2, none⟩ = some u := ⟨cs[k * 2], by rw [how.cellAt _ (by omega)]; simp⟩
        obtain ⟨u2, f2⟩ : ∃ u, wr.cell? ⟨w.heap.size, k * 2 + 1, none⟩ = some u := ⟨cs[k * 2 + 1], by rw [how.cellAt _ (by omega)]; simp⟩
        have f3 := how.frozenAt (k * 2)
        have f4 := how.frozenAt (k * 2 + 1)
        have hxc : ExtC w wr := ⟨hx⟩
        have hm := HM.out k hlt
        have HL := Lib.hid hl; clear hl
        go_wp2_with (first | (go_at_call 17; refine Calls.mono (laws_toVoice _ _ L[k].2 _ (e3.out.ext ExtC.ext) hm) ?_; rintro e w' ⟨q, c, rfl, ho, hx'⟩; obtain ⟨g, rfl⟩ := hx'.grow; clear hx'))
        go_roundw
        case rel =>
          have how2 := ownsRow_ext how g.ext
          have s1 := (how2.stored (k * 2) (.bool L[k].1)).1
          have s2 := (s1.stored (k * 2 + 1) (.slice (some ⟨q, 0, none⟩) L[k].2.length c)).1
          obtain ⟨p1, p2, p3, p4⟩ := set_pair HL.out hlt (.bool L[k].1) (.slice (some ⟨q, 0, none⟩) L[k].2.length c)
          obtain ⟨i1, i2, i3, i4⟩ := HI.out
          have i0' := i3 0 k (by omega) (Nat.le_refl _)
          have hs := g.ext.size
          refine ⟨k + 1, by omega, by go_num, ExtC.ext, _, fun i => if i = k then .slice (some ⟨q, 0, none⟩) L[k].2.length c else ts i, fun i => if i ≤ k then a i else g.fin.heap.size, s2, Lib.hid ⟨?_, ?_, ?_, ?_⟩⟩
          · simp only [Nat.zero_le, if_true]; exact i1
          · dsimp only; rw [if_neg (by omega)]; simp only [World.size_setCell]; exact Nat.le_refl _
          · intro i j hij hjk
            dsimp only
            by_cases h1 : j ≤ k
            · rw [if_pos (by omega), if_pos h1]; exact i3 i j hij h1
            · rw [if_neg h1]; split
              · have := i3 i k (by omega) (Nat.le_refl _); omega
              · exact Nat.le_refl _
          · intro i hi hik
            dsimp only
            by_cases h1 : i = k
            · subst h1
              rw [if_pos rfl, if_pos (Nat.le_refl _), if_neg (by omega)]
              refine ⟨p2, p3, ?_⟩
              refine OwnI.setCell (OwnI.setCell (ho.mono (by omega) (Nat.le_refl _)) ?_) ?_
              · left; omega
              · left; omega
            · rw [if_neg h1, if_pos (by omega), if_pos (by omega), (p4 i h1).1, (p4 i h1).2]
              obtain ⟨q1, q2, q3⟩ := i4 i hi (by omega)
              have := i3 0 i (by omega) (by omega)
              refine ⟨q1, q2, ?_⟩
              refine OwnI.setCell (OwnI.setCell (q3.ext g.ext) ?_) ?_
              · left; omega
              · left; omega
        case measure => simp [intOf]; omega
      · have hkn : k = L.length := by omega
        go_wp2
        go_ret
        obtain ⟨i1, i2, i3, i4⟩ := HI.out
        refine ⟨_, rfl, by simp, .inr ⟨_, _, cs, ts, a, fun i => a (i + 1), rfl, Nat.le_refl _, (how.lt w.heap.size rfl).2, how, fun i hi' => ?_, fun i j hij hj => .inl (i3 (i + 1) j (by omega) (by omega))⟩, hx⟩
        obtain ⟨q1, q2, q3⟩ := i4 i hi' (by omega)
        have h1 := i3 0 i (by omega) (by omega)
        have h2 := i3 (i + 1) k (by omega) (Nat.le_refl _)
        exact ⟨q1, q2, q3, by omega, by show a (i + 1) ≤ _; omega, .inl (by omega)⟩
  · go_enter Try.func6, Try.ntmps6
    go_wp2_with (at_make; refine wpList_make_full _ rfl _ _ 27 rfl w.heap.size 40 i0 (.agg #[.bool false, .slice none 0 0]) 2 Try.underlying27 hi hz0 hz1 _ _ _ _ 0 rfl rfl rfl rfl (by rw [hz2]; omega) (by unfold maxLen; omega) (Nat.le_refl _) ?_; intro w1 hown hgrow)
    have hx1 := grownBy_ext hgrow (fun k h => by cases h)
    refine wp_loop_rounds 1 ?_; rw [rounds_succ]
    go_wp2
    go_ret
    exact ⟨_, rfl, by simp, .inr ⟨_, _, _, fun _ => undef, fun _ => 0, fun _ => 0, rfl, Nat.le_refl _, (hown.lt w.heap.size rfl).2, hown, fun i hi' => absurd hi' (by simp), fun i j _ hj => absurd hj (by simp)⟩, hx1⟩
end Go.Proofs.Ythcomgnokkndgaa
