/- Slices of quotas: what reads, what a function owns, and the contracts of the laws' helpers on []Quota. -/
import Derived.Test.YtomkhjcejjkelaaDoorSlice
namespace Go.Proofs.YtomkhjcejjkelaaDoor
open Go.RowKit

theorem Tryd.info_quota : (Tryd.prog.info? 88).map (fun i => (i.zero, i.size, i.bytes)) = some (some (.agg #[.slice none 0 0, .int .i64 0, .int .i64 0]), 3, 40) := by kernel_rfl

/-- A quota: its members, the least and the most. -/
abbrev QD := List Int × Int × Int

/-- v reads as the quotas L: at an address with its cells. -/
def QS (w : World) (v : Value) (L : List QD) : Prop :=
  ∃ b off cap, v = .slice (some ⟨b, off, none⟩) L.length cap ∧ InW b w ∧ ∀ i (h : i < L.length), (∃ t, w.cell? ⟨b, off + i * 3, none⟩ = some t ∧ RI w t L[i].1) ∧ w.cell? ⟨b, off + i * 3 + 1, none⟩ = some (.int .i64 L[i].2.1) ∧ w.cell? ⟨b, off + i * 3 + 2, none⟩ = some (.int .i64 L[i].2.2)
def RQ (w : World) (v : Value) (L : List QD) : Prop := QS w v L ∨ (L = [] ∧ ∃ p cap, v = .slice p 0 cap)

theorem QS.ext {w w' : World} {v : Value} {L : List QD} (h : QS w v L) (hx : Ext w w') : QS w' v L := by
  obtain ⟨b, off, cap, hv, hb, hc⟩ := h
  refine ⟨b, off, cap, hv, ⟨Nat.lt_of_lt_of_le hb.lt hx.size⟩, fun i hi => ?_⟩
  obtain ⟨⟨t, h2, h3⟩, h4, h5⟩ := hc i hi
  exact ⟨⟨t, by rw [Below.cell hx hb.lt]; exact h2, h3.ext hx⟩, by rw [Below.cell hx hb.lt]; exact h4, by rw [Below.cell hx hb.lt]; exact h5⟩
theorem RQ.ext {w w' : World} {v : Value} {L : List QD} (h : RQ w v L) (hx : Ext w w') : RQ w' v L := by
  rcases h with h | h
  · exact .inl (h.ext hx)
  · exact .inr h
theorem RQ.form {w : World} {v : Value} {L : List QD} (h : RQ w v L) : ∃ p cap, v = .slice p L.length cap ∧
    (0 < L.length → ∃ b off, p = some ⟨b, off, none⟩ ∧ InW b w ∧ ∀ i (h : i < L.length), (∃ t, w.cell? ⟨b, off + i * 3, none⟩ = some t ∧ RI w t L[i].1) ∧ w.cell? ⟨b, off + i * 3 + 1, none⟩ = some (.int .i64 L[i].2.1) ∧ w.cell? ⟨b, off + i * 3 + 2, none⟩ = some (.int .i64 L[i].2.2)) := by
  rcases h with ⟨b, off, cap, rfl, hb, hc⟩ | ⟨rfl, p, cap, rfl⟩
  · exact ⟨_, _, rfl, fun _ => ⟨b, off, rfl, hb, hc⟩⟩
  · exact ⟨_, _, rfl, fun h => absurd h (by simp)⟩

/-- The lengths of the members of a list of quotas, together. -/
def qsum (L : List QD) : Nat := (L.map fun v => v.1.length).sum
theorem qsum_take (L : List QD) (k : Nat) (h : k < L.length) : qsum (L.take (k + 1)) = qsum (L.take k) + L[k].1.length := by
  rw [List.take_succ_eq_append_getElem h]; simp only [qsum, List.map_append, List.sum_append, List.map_cons, List.map_nil, List.sum_cons, List.sum_nil]; omega
theorem qsum_take_le (L : List QD) (k : Nat) : qsum (L.take k) ≤ qsum L := by
  have h := List.take_append_drop k L
  have : qsum L = qsum (L.take k) + qsum (L.drop k) := by
    conv => lhs; rw [← h]
    simp only [qsum, List.map_append, List.sum_append]
  omega
theorem qsum_get (L : List QD) (k : Nat) (h : k < L.length) : L[k].1.length ≤ qsum L := by
  have h1 := qsum_take L k h
  have h2 := qsum_take_le L (k + 1)
  omega
/-- A bound that every list from outside meets. -/
def ShortQR (L : List QD) : Prop := L.length ≤ 9223372036854775807 ∧ ∀ i (h : i < L.length), L[i].1.length ≤ 9223372036854775807
def ShortQ (L : List QD) : Prop := L.length ≤ 1048576 ∧ ∀ i (h : i < L.length), L[i].1.length ≤ 1048576
theorem shortQ_of {L : List QD} (hl : L.length ≤ 1048576) (hm : qsum L ≤ 1048576) : ShortQ L :=
  ⟨by omega, fun i h => by have := qsum_get L i h; omega⟩

set_option maxHeartbeats 400000 in
theorem laws_szQuota (t : Value) (xs : List Int) (a b : Int) (left : Int) (w : World) (h : RI w t xs) (hn : xs.length ≤ 9223372036854775807) (h1 : 0 ≤ left) (h2 : left ≤ 1152921504606846976) :
    Calls Tryd.prog 114 #[.agg #[t, .int .i64 a, .int .i64 b], .int .i64 left] w fun e w' => ∃ r : Int, e = .returned (.int .i64 r) ∧ ((r < 0 ∧ left - xs.length < 0) ∨ (0 ≤ r ∧ r = left - xs.length)) ∧ Ext w w' := by
  by_cases hs : left - (xs.length : Int) < 0
  · obtain ⟨p, cap, rfl, -, hc⟩ := h.form
    have HC := Lib.hid hc; clear hc
    go_enter Tryd.func114, Tryd.ntmps114
    go_wp2_with (first | (go_at_call 110; refine Calls.mono (laws_szInt64S _ xs _ _ (h.ext ExtC.ext) hn h1 h2) ?_; rw [if_pos hs]; rintro e w' ⟨rfl, hx⟩; obtain ⟨g, rfl⟩ := hx.grow; clear hx))
    go_ret
    exact ⟨_, rfl, .inl ⟨by omega, hs⟩, ExtC.ext⟩
  · obtain ⟨p, cap, rfl, -, hc⟩ := h.form
    have HC := Lib.hid hc; clear hc
    go_enter Tryd.func114, Tryd.ntmps114
    go_wp2_with (first | (go_at_call 110; refine Calls.mono (laws_szInt64S _ xs _ _ (h.ext ExtC.ext) hn h1 h2) ?_; rw [if_neg hs]; rintro e w' ⟨rfl, hx⟩; obtain ⟨g, rfl⟩ := hx.grow; clear hx))
    go_ret
    exact ⟨_, rfl, .inr ⟨by omega, rfl⟩, ExtC.ext⟩

set_option maxHeartbeats 1000000 in
theorem laws_szQuotaS (v : Value) (L : List QD) (w : World) (h : RQ w v L) (hn : L.length ≤ 9223372036854775807) (hm : ∀ i (h : i < L.length), L[i].1.length ≤ 9223372036854775807) :
    Calls Tryd.prog 86 #[v, .int .i64 1048576] w fun e w' => ∃ r : Int, e = .returned (.int .i64 r) ∧ (r < 0 ∨ (0 ≤ r ∧ L.length ≤ 1048576 ∧ qsum L ≤ 1048576)) ∧ Ext w w' := by
  rcases h with ⟨b, off, cap, rfl, hb, hc⟩ | ⟨rfl, p, cap, rfl⟩
  · by_cases hl : (1048576 : Int) - L.length < 0
    · have H := Lib.hid hc; clear hc
      go_enter Tryd.func86, Tryd.ntmps86
      go_wp2
      go_ret
      exact ⟨_, rfl, .inl (by omega), ExtC.ext⟩
    · have H := Lib.hid (And.intro hc hm); clear hc hm
      go_enter Tryd.func86, Tryd.ntmps86
      go_wp2
      go_loopw [1, 5] (fun q i wr => ∃ k : Nat, ∃ r : Int, k ≤ L.length ∧ i = .int .i64 k ∧ q = .int .i64 r ∧ 0 ≤ r ∧ r ≤ 1048576 ∧ Hid (r = 1048576 - (L.length : Int) - (qsum (L.take k) : Int)) ∧ Ext w wr) (fun _ i _ => L.length - (intOf i).toNat)
      case atStart => exact ⟨0, _, Nat.zero_le _, rfl, rfl, by omega, by omega, Lib.hid (by simp [qsum]), Ext.refl _⟩
      case round =>
        obtain ⟨k, r, hk, rfl, rfl, hr0, hr1, hr, hx⟩ := hrel
        by_cases hlt : k < L.length
        · obtain ⟨⟨t, d2, d3⟩, d5, d6⟩ := H.out.1 k hlt
          have d4 := H.out.2 k hlt
          have e3 := Lib.hid (d3.ext hx); clear d3
          have e1 : wr.cell? ⟨b, off + k * 3, none⟩ = some t := by rw [Below.cell hx hb.lt]; exact d2
          have e2 : wr.cell? ⟨b, off + k * 3 + 1, none⟩ = some (.int .i64 L[k].2.1) := by rw [Below.cell hx hb.lt]; exact d5
          have e4 : wr.cell? ⟨b, off + k * 3 + 2, none⟩ = some (.int .i64 L[k].2.2) := by rw [Below.cell hx hb.lt]; exact d6
          clear d2 d5 d6
          have hxc : ExtC w wr := ⟨hx⟩
          go_wp2_with (first | (go_at_call 114; refine Calls.mono (laws_szQuota _ L[k].1 _ _ _ _ (e3.out.ext ExtC.ext) d4 (by omega) (by omega)) ?_; rintro e w' ⟨r', rfl, hr', hx'⟩; obtain ⟨g, rfl⟩ := hx'.grow; clear hx'))
          · go_ret
            exact ⟨_, rfl, .inl (by omega), ExtC.ext⟩
          · have hv := qsum_take L k hlt
            have hro := hr.out
            go_roundw
            case rel => exact ⟨k + 1, r', by omega, by go_num, rfl, by omega, by omega, Lib.hid (by omega), ExtC.ext⟩
            case measure => simp [intOf]; omega
        · have hkn : k = L.length := by omega
          go_wp2
          go_ret
          have hro := hr.out
          rw [List.take_of_length_le (by omega)] at hro
          exact ⟨_, rfl, .inr ⟨by omega, by omega, by omega⟩, hx⟩
  · go_enter Tryd.func86, Tryd.ntmps86
    go_wp2
    refine wp_loop_rounds 1 ?_; rw [rounds_succ]
    go_wp2
    go_ret
    exact ⟨_, rfl, .inr ⟨by omega, by simp, by simp [qsum]⟩, ExtC.ext⟩

/-- v is nil, or lies with all its members in blocks of its own, no two of them the same. -/
def OwnQt (lo hi : Nat) (w : World) (v : Value) (L : List QD) : Prop :=
  (v = .slice none 0 0 ∧ L = []) ∨ ∃ (g cap : Nat) (cs : List Value) (ts : Nat → Value) (a b : Nat → Nat), v = .slice (some ⟨g, 0, none⟩) L.length cap ∧ lo ≤ g ∧ g < hi ∧ w.ownsRow lo 88 3 v L.length cs ∧
    (∀ i (h : i < L.length), (cs[i * 3]? = some (ts i) ∧ cs[i * 3 + 1]? = some (.int .i64 L[i].2.1) ∧ cs[i * 3 + 2]? = some (.int .i64 L[i].2.2)) ∧ OwnI (a i) (b i) w (ts i) L[i].1 ∧ lo ≤ a i ∧ b i ≤ hi ∧ (g < a i ∨ b i ≤ g)) ∧
    (∀ i j, i < j → j < L.length → b i ≤ a j ∨ b j ≤ a i)

theorem OwnQt.qs {lo hi : Nat} {w : World} {v : Value} {L : List QD} (h : OwnQt lo hi w v L) (hn : v ≠ .slice none 0 0) : QS w v L := by
  rcases h with ⟨rfl, _⟩ | ⟨g, cap, cs, ts, a, b, rfl, _, _, how, hc, _⟩
  · exact absurd rfl hn
  refine ⟨g, 0, cap, rfl, ⟨(how.lt g rfl).2⟩, fun i hi => ?_⟩
  obtain ⟨⟨h1, h2, h3⟩, h4, _⟩ := hc i hi
  simp only [Nat.zero_add]
  exact ⟨⟨ts i, by rw [how.cellAt _ (by omega)]; exact h1, h4.ri⟩, by rw [how.cellAt _ (by omega)]; exact h2, by rw [how.cellAt _ (by omega)]; exact h3⟩
theorem OwnQt.rq {lo hi : Nat} {w : World} {v : Value} {L : List QD} (h : OwnQt lo hi w v L) : RQ w v L := by
  rcases h with ⟨rfl, rfl⟩ | h'
  · exact .inr ⟨rfl, none, 0, rfl⟩
  · exact .inl (OwnQt.qs (.inr h') (by obtain ⟨g, cap, cs, ts, a, b, rfl, _⟩ := h'; simp))
theorem OwnQt.form {lo hi : Nat} {w : World} {v : Value} {L : List QD} (h : OwnQt lo hi w v L) (hn : v ≠ .slice none 0 0) : ∃ g c, v = .slice (some ⟨g, 0, none⟩) L.length c := by
  rcases h with ⟨rfl, _⟩ | ⟨g, cap, cs, ts, a, b, rfl, _⟩
  · exact absurd rfl hn
  · exact ⟨g, cap, rfl⟩
theorem OwnQt.ext {lo hi : Nat} {w w' : World} {v : Value} {L : List QD} (h : OwnQt lo hi w v L) (hx : Ext w w') : OwnQt lo hi w' v L := by
  rcases h with h | ⟨g, cap, cs, ts, a, b, hv, h1, h2, how, hc, hd⟩
  · exact .inl h
  · exact .inr ⟨g, cap, cs, ts, a, b, hv, h1, h2, ownsRow_ext how hx, fun i hi => ⟨(hc i hi).1, (hc i hi).2.1.ext hx, (hc i hi).2.2⟩, hd⟩
theorem OwnQt.rng {lo hi lo' hi' : Nat} {w w' : World} {v : Value} {L : List QD} (h : OwnQt lo hi w v L) (hx : Rng lo' hi' w w') (hdj : hi ≤ lo' ∨ hi' ≤ lo) : OwnQt lo hi w' v L := by
  rcases h with h | ⟨g, cap, cs, ts, a, b, rfl, h1, h2, how, hc, hd⟩
  · exact .inl h
  · refine .inr ⟨g, cap, cs, ts, a, b, rfl, h1, h2, ownsRow_rng how hx (by omega), fun i hi => ?_, hd⟩
    obtain ⟨c1, c3, c4, c5, c6⟩ := hc i hi
    exact ⟨c1, c3.rng hx (by omega), c4, c5, c6⟩
theorem OwnQt.mono {lo hi lo' hi' : Nat} {w : World} {v : Value} {L : List QD} (h : OwnQt lo hi w v L) (h1 : lo' ≤ lo) (h2 : hi ≤ hi') : OwnQt lo' hi' w v L := by
  rcases h with h | ⟨g, cap, cs, ts, a, b, hv, ha, hb, how, hc, hd⟩
  · exact .inl h
  · exact .inr ⟨g, cap, cs, ts, a, b, hv, by omega, by omega, ownsRow_mono how h1, fun i hi => ⟨(hc i hi).1, (hc i hi).2.1, by have := (hc i hi).2.2.1; omega, by have := (hc i hi).2.2.2.1; omega, (hc i hi).2.2.2.2⟩, hd⟩

set_option maxHeartbeats 4000000 in
theorem laws_toQuota (t : Value) (xs : List Int) (x y : Int) (w : World) (h : RI w t xs) (hn : xs.length ≤ 1048576) :
    Calls Tryd.prog 115 #[.agg #[t, .int .i64 x, .int .i64 y]] w fun e w' => ∃ q c, e = .returned (.agg #[.slice (some ⟨q, 0, none⟩) xs.length c, .int .i64 x, .int .i64 y]) ∧ OwnI w.heap.size w'.heap.size w' (.slice (some ⟨q, 0, none⟩) xs.length c) xs ∧ Ext w w' := by
  obtain ⟨p, cap, rfl, -, hc⟩ := h.form
  have HC := Lib.hid hc; clear hc
  go_enter Tryd.func115, Tryd.ntmps115
  go_wp2_with (first | (go_at_call 112; refine Calls.mono (laws_toInt64S _ xs _ (h.ext ExtC.ext) hn) ?_; rintro e w' ⟨t', rfl, ht, ho, hx⟩; obtain ⟨q, c, rfl⟩ := ho.form ht; obtain ⟨g, rfl⟩ := hx.grow; clear hx ht))
  refine bodyPost_ret (v := .agg #[.slice (some ⟨q, 0, none⟩) xs.length c, .int .i64 x, .int .i64 y]) (by simp [results, Tryd.results115, go_sem]) rfl ⟨_, _, rfl, ?_, ExtC.ext⟩
  have hs := g.ext.size
  simp only [World.size_alloc, World.size_setCell] at ho hs
  simp only [World.size_setCell]
  refine OwnI.mono (lo := w.heap.size + 1 + 1 + 1) (hi := g.fin.heap.size) ?_ (by omega) (Nat.le_refl _)
  repeat (first | with_reducible exact ho | with_reducible refine OwnI.setCell ?_ (by omega))

/-- A quota in a row of its own: cells 3 i, 3 i + 1, 3 i + 2. -/
theorem set_triple {cs : List Value} {n k : Nat} (hl : cs.length = n * 3) (hk : k < n) (x y z : Value) :
    (((cs.set (k * 3) x).set (k * 3 + 1) y).set (k * 3 + 2) z).length = n * 3 ∧ (((cs.set (k * 3) x).set (k * 3 + 1) y).set (k * 3 + 2) z)[k * 3]? = some x ∧ (((cs.set (k * 3) x).set (k * 3 + 1) y).set (k * 3 + 2) z)[k * 3 + 1]? = some y ∧ (((cs.set (k * 3) x).set (k * 3 + 1) y).set (k * 3 + 2) z)[k * 3 + 2]? = some z ∧
    ∀ j, j ≠ k → (((cs.set (k * 3) x).set (k * 3 + 1) y).set (k * 3 + 2) z)[j * 3]? = cs[j * 3]? ∧ (((cs.set (k * 3) x).set (k * 3 + 1) y).set (k * 3 + 2) z)[j * 3 + 1]? = cs[j * 3 + 1]? ∧ (((cs.set (k * 3) x).set (k * 3 + 1) y).set (k * 3 + 2) z)[j * 3 + 2]? = cs[j * 3 + 2]? := by
  refine ⟨by simp [hl], ?_, ?_, ?_, fun j hj => ⟨?_, ?_, ?_⟩⟩
  · rw [List.getElem?_set_ne (by omega), List.getElem?_set_ne (by omega), List.getElem?_set_self (by omega)]
  · rw [List.getElem?_set_ne (by omega), List.getElem?_set_self (by simp; omega)]
  · rw [List.getElem?_set_self (by simp; omega)]
  · rw [List.getElem?_set_ne (by omega), List.getElem?_set_ne (by omega), List.getElem?_set_ne (by omega)]
  · rw [List.getElem?_set_ne (by omega), List.getElem?_set_ne (by omega), List.getElem?_set_ne (by omega)]
  · rw [List.getElem?_set_ne (by omega), List.getElem?_set_ne (by omega), List.getElem?_set_ne (by omega)]

set_option maxHeartbeats 2000000 in
theorem laws_toQuotaS (v : Value) (L : List QD) (w : World) (h : RQ w v L) (hn : L.length ≤ 1048576) (hm : qsum L ≤ 1048576) :
    Calls Tryd.prog 87 #[v] w fun e w' => ∃ v', e = .returned v' ∧ v' ≠ .slice none 0 0 ∧ OwnQt w.heap.size w'.heap.size w' v' L ∧ Ext w w' := by
  obtain ⟨i0, hi, hz0, hz1, hz2⟩ := info_parts Tryd.info_quota
  rcases h with ⟨b, off, cap, rfl, hb, hc⟩ | ⟨rfl, p, cap, rfl⟩
  · have HM : Hid (∀ i (h : i < L.length), L[i].1.length ≤ 1048576) := Lib.hid fun i h => by have := qsum_get L i h; omega
    clear hm
    have HC := Lib.hid hc; clear hc
    go_enter Tryd.func87, Tryd.ntmps87
    go_wp2_with (at_make; refine wpList_make_full _ rfl _ _ 28 rfl w.heap.size 88 i0 (.agg #[.slice none 0 0, .int .i64 0, .int .i64 0]) 3 Tryd.underlying28 hi hz0 hz1 _ _ _ _ L.length rfl rfl rfl rfl (by rw [hz2]; omega) (by unfold maxLen; omega) (Nat.le_refl _) ?_; intro w1 hown hgrow)
    have hx1 := grownBy_ext hgrow (fun k h => by cases h)
    have hlt1 := (hown.lt w.heap.size rfl).2
    go_loopw [4] (fun i wr => ∃ k : Nat, k ≤ L.length ∧ i = .int .i64 k ∧ Ext w wr ∧ ∃ (cs : List Value) (ts : Nat → Value) (a : Nat → Nat), wr.ownsRow w.heap.size 88 3 (.slice (some ⟨w.heap.size, 0, none⟩) L.length L.length) L.length cs ∧
        Hid (w.heap.size < a 0 ∧ a k ≤ wr.heap.size ∧ (∀ i j, i ≤ j → j ≤ k → a i ≤ a j) ∧ ∀ i (h : i < L.length), i < k → (cs[i * 3]? = some (ts i) ∧ cs[i * 3 + 1]? = some (.int .i64 L[i].2.1) ∧ cs[i * 3 + 2]? = some (.int .i64 L[i].2.2)) ∧ OwnI (a i) (a (i + 1)) wr (ts i) L[i].1)) (fun i _ => L.length - (intOf i).toNat)
    case atStart => exact ⟨0, Nat.zero_le _, rfl, hx1, _, fun _ => undef, fun _ => w1.heap.size, hown, Lib.hid ⟨hlt1, Nat.le_refl _, fun _ _ _ _ => Nat.le_refl _, fun i _ h => by omega⟩⟩
    case round =>
      obtain ⟨k, hk, rfl, hx, cs, ts, a, how, HI⟩ := hrel
      clear hown hgrow hx1 hlt1
      by_cases hlt : k < L.length
      · obtain ⟨⟨t, d2, d3⟩, d5, d6⟩ := HC.out k hlt
        have c1 : wr.cell? ⟨b, off + k * 3, none⟩ = some t := by rw [Below.cell hx hb.lt]; exact d2
        have c2 : wr.cell? ⟨b, off + k * 3 + 1, none⟩ = some (.int .i64 L[k].2.1) := by rw [Below.cell hx hb.lt]; exact d5
        have c3 : wr.cell? ⟨b, off + k * 3 + 2, none⟩ = some (.int .i64 L[k].2.2) := by rw [Below.cell hx hb.lt]; exact d6
        have e3 := Lib.hid (d3.ext hx); clear d2 d3 d5 d6
        have hl : cs.length = L.length * 3 := how.1
        have hgw := (how.lt w.heap.size rfl).2
        have iw : InW w.heap.size wr := ⟨hgw⟩
        obtain ⟨u1, f1⟩ : ∃ u, wr.cell? ⟨w.heap.size, k * 3, none⟩ = some u := ⟨cs[k * 3], by rw [how.cellAt _ (by omega)]; simp⟩
        obtain ⟨u2, f2⟩ : ∃ u, wr.cell? ⟨w.heap.size, k * 3 + 1, none⟩ = some u := ⟨cs[k * 3 + 1], by rw [how.cellAt _ (by omega)]; simp⟩
        obtain ⟨u3, f5⟩ : ∃ u, wr.cell? ⟨w.heap.size, k * 3 + 2, none⟩ = some u := ⟨cs[k * 3 + 2], by rw [how.cellAt _ (by omega)]; simp⟩
        have f3 := how.frozenAt (k * 3)
        have f4 := how.frozenAt (k * 3 + 1)
        have f6 := how.frozenAt (k * 3 + 2)
        have hxc : ExtC w wr := ⟨hx⟩
        have hm := HM.out k hlt
        have HL := Lib.hid hl; clear hl
        go_wp2_with (first | (go_at_call 115; refine Calls.mono (laws_toQuota _ L[k].1 _ _ _ (e3.out.ext ExtC.ext) hm) ?_; rintro e w' ⟨q, c, rfl, ho, hx'⟩; obtain ⟨g, rfl⟩ := hx'.grow; clear hx'))
        go_roundw
        case rel =>
          have how2 := ownsRow_ext how g.ext
          have s1 := (how2.stored (k * 3) (.slice (some ⟨q, 0, none⟩) L[k].1.length c)).1
          have s2 := (s1.stored (k * 3 + 1) (.int .i64 L[k].2.1)).1
          have s3 := (s2.stored (k * 3 + 2) (.int .i64 L[k].2.2)).1
          obtain ⟨p1, p2, p3, p5, p4⟩ := set_triple HL.out hlt (.slice (some ⟨q, 0, none⟩) L[k].1.length c) (.int .i64 L[k].2.1) (.int .i64 L[k].2.2)
          obtain ⟨i1, i2, i3, i4⟩ := HI.out
          have i0' := i3 0 k (by omega) (Nat.le_refl _)
          have hs := g.ext.size
          refine ⟨k + 1, by omega, by go_num, ExtC.ext, _, fun i => if i = k then .slice (some ⟨q, 0, none⟩) L[k].1.length c else ts i, fun i => if i ≤ k then a i else g.fin.heap.size, s3, Lib.hid ⟨?_, ?_, ?_, ?_⟩⟩
          · simp only [Nat.zero_le, if_true]; exact i1
          · dsimp only; rw [if_neg (by omega)]; simp only [World.size_setCell]; exact Nat.le_refl _
          · intro i j hij hjk
            dsimp only
            by_cases h1 : j ≤ k
            · rw [if_pos (by omega), if_pos h1]; exact i3 i j hij h1
            · rw [if_neg h1]; split
              · have := i3 i k (by omega) (Nat.le_refl _); omega
              · exact Nat.le_refl _
          · intro i hi hik
            dsimp only
            by_cases h1 : i = k
            · subst h1
              rw [if_pos rfl, if_pos (Nat.le_refl _), if_neg (by omega)]
              refine ⟨⟨p2, p3, p5⟩, ?_⟩
              refine OwnI.setCell (OwnI.setCell (OwnI.setCell (ho.mono (by omega) (Nat.le_refl _)) ?_) ?_) ?_
              · left; omega
              · left; omega
              · left; omega
            · rw [if_neg h1, if_pos (by omega), if_pos (by omega), (p4 i h1).1, (p4 i h1).2.1, (p4 i h1).2.2]
              obtain ⟨q1, q3⟩ := i4 i hi (by omega)
              have := i3 0 i (by omega) (by omega)
              refine ⟨q1, ?_⟩
              refine OwnI.setCell (OwnI.setCell (OwnI.setCell (q3.ext g.ext) ?_) ?_) ?_
              · left; omega
              · left; omega
              · left; omega
        case measure => simp [intOf]; omega
      · have hkn : k = L.length := by omega
        go_wp2
        go_ret
        obtain ⟨i1, i2, i3, i4⟩ := HI.out
        refine ⟨_, rfl, by simp, .inr ⟨_, _, cs, ts, a, fun i => a (i + 1), rfl, Nat.le_refl _, (how.lt w.heap.size rfl).2, how, fun i hi' => ?_, fun i j hij hj => .inl (i3 (i + 1) j (by omega) (by omega))⟩, hx⟩
        obtain ⟨q1, q3⟩ := i4 i hi' (by omega)
        have h1 := i3 0 i (by omega) (by omega)
        have h2 := i3 (i + 1) k (by omega) (Nat.le_refl _)
        exact ⟨q1, q3, by omega, by show a (i + 1) ≤ _; omega, .inl (by omega)⟩
  · go_enter Tryd.func87, Tryd.ntmps87
    go_wp2_with (at_make; refine wpList_make_full _ rfl _ _ 28 rfl w.heap.size 88 i0 (.agg #[.slice none 0 0, .int .i64 0, .int .i64 0]) 3 Tryd.underlying28 hi hz0 hz1 _ _ _ _ 0 rfl rfl rfl rfl (by rw [hz2]; omega) (by unfold maxLen; omega) (Nat.le_refl _) ?_; intro w1 hown hgrow)
    have hx1 := grownBy_ext hgrow (fun k h => by cases h)
    refine wp_loop_rounds 1 ?_; rw [rounds_succ]
    go_wp2
    go_ret
    exact ⟨_, rfl, by simp, .inr ⟨_, _, _, fun _ => undef, fun _ => 0, fun _ => 0, rfl, Nat.le_refl _, (hown.lt w.heap.size rfl).2, hown, fun i hi' => absurd hi' (by simp), fun i j _ hj => absurd hj (by simp)⟩, hx1⟩

set_option maxHeartbeats 400000 in
theorem laws_eqQuota (t t' : Value) (xs : List Int) (x y : Int) (w : World) (h : RI w t xs) (h' : RI w t' xs) (hn : xs.length ≤ 1048576) :
    Calls Tryd.prog 98 #[.agg #[t, .int .i64 x, .int .i64 y], .agg #[t', .int .i64 x, .int .i64 y]] w fun e w' => e = .returned (.bool true) ∧ Ext w w' := by
  obtain ⟨p, cap, rfl, -, hc⟩ := h.form
  obtain ⟨p', cap', rfl, -, hc'⟩ := h'.form
  have HC := Lib.hid (And.intro hc hc'); clear hc hc'
  go_enter Tryd.func98, Tryd.ntmps98
  go_wp2_with (first | (go_at_call 100; refine Calls.mono (laws_eqInt64S _ _ xs xs true (by simp) _ (h.ext ExtC.ext) (h'.ext ExtC.ext) (by omega) (by omega)) ?_; rintro e w' ⟨rfl, hx⟩; obtain ⟨g1, rfl⟩ := hx.grow; clear hx))
  go_ret
  exact ⟨rfl, ExtC.ext⟩

set_option maxHeartbeats 1000000 in
theorem laws_eqQuotaS (v u : Value) (L : List QD) (w : World) (h : RQ w v L) (h' : RQ w u L) (hs : ShortQ L) :
    Calls Tryd.prog 63 #[v, u] w fun e w' => e = .returned (.bool true) ∧ Ext w w' := by
  obtain ⟨p, cap, rfl, hc⟩ := h.form
  obtain ⟨q, cap', rfl, hc'⟩ := h'.form
  obtain ⟨hn, hm⟩ := hs
  clear h h'
  by_cases h0 : 0 < L.length
  · obtain ⟨b1, off, rfl, i1, c1⟩ := hc h0
    obtain ⟨b2, off', rfl, i2, c2⟩ := hc' h0
    have HC := Lib.hid (And.intro c1 c2)
    have HM := Lib.hid hm
    clear hc hc' c1 c2 hm
    go_enter Tryd.func63, Tryd.ntmps63
    go_wp2
    go_loopw [5] (fun i wr => ∃ k : Nat, k ≤ L.length ∧ i = .int .i64 k ∧ Ext w wr) (fun i _ => L.length - (intOf i).toNat)
    case atStart => exact ⟨0, Nat.zero_le _, rfl, Ext.refl _⟩
    case round =>
      obtain ⟨k, hk, rfl, hx⟩ := hrel
      obtain ⟨g0, rfl⟩ := hx.grow; clear hx
      by_cases hlt : k < L.length
      · obtain ⟨⟨t1, d1, d3⟩, d4, d5⟩ := HC.out.1 k hlt
        obtain ⟨⟨t1', d1', d3'⟩, d4', d5'⟩ := HC.out.2 k hlt
        have D3 := Lib.hid (And.intro d3 d3'); clear d3 d3'
        go_wp2
        refine wp_region_grow (by kernel_rfl) (by kernel_rfl) ?_
        repeat (go_big_quiet_step ((first | (go_at_call 98; exact grow_of (laws_eqQuota _ _ L[k].1 _ _ _ (D3.out.1.ext ExtC.ext) (D3.out.2.ext ExtC.ext) (HM.out k hlt))))))
        refine wpQuiet_nil ?_
        intro _ hw'
        obtain ⟨g, hw''⟩ := hw'
        subst hw''
        go_wp2
        go_roundw
        case rel => exact ⟨k + 1, by omega, by go_num, ExtC.ext⟩
        case measure => simp [intOf]; omega
      · go_wp2
        go_ret
        exact ⟨rfl, ExtC.ext⟩
  · have e1 : L = [] := List.length_eq_zero_iff.1 (by omega)
    subst e1
    clear hc hc' hm
    go_enter Tryd.func63, Tryd.ntmps63
    go_wp2
    refine wp_loop_rounds 1 ?_; rw [rounds_succ]
    go_wp2
    go_ret
    exact ⟨rfl, Ext.refl _⟩
end Go.Proofs.YtomkhjcejjkelaaDoor
