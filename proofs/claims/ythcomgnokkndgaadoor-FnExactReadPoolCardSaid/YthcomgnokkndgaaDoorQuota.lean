/- Slices of quotas: what reads, what a function owns, and the contracts of the laws' helpers on []Quota. -/
import Derived.Test.YthcomgnokkndgaaDoorSlice
namespace Go.Proofs.YthcomgnokkndgaaDoor
open Go.RowKit

theorem Tryd.info_quota : (Tryd.prog.info? 60).map (fun i => (i.zero, i.size, i.bytes)) = some (some (.agg #[.slice none 0 0, .int .i64 0, .int .i64 0]), 3, 40) := by kernel_rfl

/-- A quota: its members, the least and the most. -/
abbrev QD := List Int × Int × Int

/-- v reads as the quotas L: at an address with its cells. -/
def QS (w : World) (v : Value) (L : List QD) : Prop :=
  ∃ b off cap, v = .slice (some ⟨b, off, none⟩) L.length cap ∧ InW b w ∧ ∀ i (h : i < L.length), (∃ t, w.cell? ⟨b, off + i * 3, none⟩ = some t ∧ RI w t L[i].1) ∧ w.cell? ⟨b, off + i * 3 + 1, none⟩ = some (.int .i64 L[i].2.1) ∧ w.cell? ⟨b, off + i * 3 + 2, none⟩ = some (.int .i64 L[i].2.2)
def RQ (w : World) (v : Value) (L : List QD) : Prop := QS w v L ∨ (L = [] ∧ ∃ p cap, v = .slice p 0 cap)

theorem QS.ext {w w' : World} {v : Value} {L : List QD} (h : QS w v L) (hx : Ext w w') : QS w' v L := by
  obtain ⟨b, off, cap, hv, hb, hc⟩ := h
  refine ⟨b, off, cap, hv, ⟨Nat.lt_of_lt_of_le hb.lt hx.size⟩, fun i hi => ?_⟩
  obtain ⟨⟨t, h2, h3⟩, h4, h5⟩ := hc i hi
  exact ⟨⟨t, by rw [Below.cell hx hb.lt]; exact h2, h3.ext hx⟩, by rw [Below.cell hx hb.lt]; exact h4, by rw [Below.cell hx hb.lt]; exact h5⟩
theorem RQ.ext {w w' : World} {v : Value} {L : List QD} (h : RQ w v L) (hx : Ext w w') : RQ w' v L := by
  rcases h with h | h
  · exact .inl (h.ext hx)
  · exact .inr h
theorem RQ.form {w : World} {v : Value} {L : List QD} (h : RQ w v L) : ∃ p cap, v = .slice p L.length cap ∧
    (0 < L.length → ∃ b off, p = some ⟨b, off, none⟩ ∧ InW b w ∧ ∀ i (h : i < L.length), (∃ t, w.cell? ⟨b, off + i * 3, none⟩ = some t ∧ RI w t L[i].1) ∧ w.cell? ⟨b, off + i * 3 + 1, none⟩ = some (.int .i64 L[i].2.1) ∧ w.cell? ⟨b, off + i * 3 + 2, none⟩ = some (.int .i64 L[i].2.2)) := by
  rcases h with ⟨b, off, cap, rfl, hb, hc⟩ | ⟨rfl, p, cap, rfl⟩
  · exact ⟨_, _, rfl, fun _ => ⟨b, off, rfl, hb, hc⟩⟩
  · exact ⟨_, _, rfl, fun h => absurd h (by simp)⟩

/-- The lengths of the members of a list of quotas, together. -/
def qsum (L : List QD) : Nat := (L.map fun v => v.1.length).sum
theorem qsum_take (L : List QD) (k : Nat) (h : k < L.length) : qsum (L.take (k + 1)) = qsum (L.take k) + L[k].1.length := by
  rw [List.take_succ_eq_append_getElem h]; simp only [qsum, List.map_append, List.sum_append, List.map_cons, List.map_nil, List.sum_cons, List.sum_nil]; omega
theorem qsum_take_le (L : List QD) (k : Nat) : qsum (L.take k) ≤ qsum L := by
  have h := List.take_append_drop k L
  have : qsum L = qsum (L.take k) + qsum (L.drop k) := by
    conv => lhs; rw [← h]
    simp only [qsum, List.map_append, List.sum_append]
  omega
theorem qsum_get (L : List QD) (k : Nat) (h : k < L.length) : L[k].1.length ≤ qsum L := by
  have h1 := qsum_take L k h
  have h2 := qsum_take_le L (k + 1)
  omega
/-- A bound that every list from outside meets. -/
def ShortQR (L : List QD) : Prop := L.length ≤ 9223372036854775807 ∧ ∀ i (h : i < L.length), L[i].1.length ≤ 9223372036854775807
def ShortQ (L : List QD) : Prop := L.length ≤ 1048576 ∧ ∀ i (h : i < L.length), L[i].1.length ≤ 1048576
theorem shortQ_of {L : List QD} (hl : L.length ≤ 1048576) (hm : qsum L ≤ 1048576) : ShortQ L :=
  ⟨by omega, fun i h => by have := qsum_get L i h; omega⟩



/-- v is nil, or lies with all its members in blocks of its own, no two of them the same. -/
def OwnQt (lo hi : Nat) (w : World) (v : Value) (L : List QD) : Prop :=
  (v = .slice none 0 0 ∧ L = []) ∨ ∃ (g cap : Nat) (cs : List Value) (ts : Nat → Value) (a b : Nat → Nat), v = .slice (some ⟨g, 0, none⟩) L.length cap ∧ lo ≤ g ∧ g < hi ∧ w.ownsRow lo 60 3 v L.length cs ∧
    (∀ i (h : i < L.length), (cs[i * 3]? = some (ts i) ∧ cs[i * 3 + 1]? = some (.int .i64 L[i].2.1) ∧ cs[i * 3 + 2]? = some (.int .i64 L[i].2.2)) ∧ OwnI (a i) (b i) w (ts i) L[i].1 ∧ lo ≤ a i ∧ b i ≤ hi ∧ (g < a i ∨ b i ≤ g)) ∧
    (∀ i j, i < j → j < L.length → b i ≤ a j ∨ b j ≤ a i)

theorem OwnQt.qs {lo hi : Nat} {w : World} {v : Value} {L : List QD} (h : OwnQt lo hi w v L) (hn : v ≠ .slice none 0 0) : QS w v L := by
  rcases h with ⟨rfl, _⟩ | ⟨g, cap, cs, ts, a, b, rfl, _, _, how, hc, _⟩
  · exact absurd rfl hn
  refine ⟨g, 0, cap, rfl, ⟨(how.lt g rfl).2⟩, fun i hi => ?_⟩
  obtain ⟨⟨h1, h2, h3⟩, h4, _⟩ := hc i hi
  simp only [Nat.zero_add]
  exact ⟨⟨ts i, by rw [how.cellAt _ (by omega)]; exact h1, h4.ri⟩, by rw [how.cellAt _ (by omega)]; exact h2, by rw [how.cellAt _ (by omega)]; exact h3⟩
theorem OwnQt.rq {lo hi : Nat} {w : World} {v : Value} {L : List QD} (h : OwnQt lo hi w v L) : RQ w v L := by
  rcases h with ⟨rfl, rfl⟩ | h'
  · exact .inr ⟨rfl, none, 0, rfl⟩
  · exact .inl (OwnQt.qs (.inr h') (by obtain ⟨g, cap, cs, ts, a, b, rfl, _⟩ := h'; simp))
theorem OwnQt.form {lo hi : Nat} {w : World} {v : Value} {L : List QD} (h : OwnQt lo hi w v L) (hn : v ≠ .slice none 0 0) : ∃ g c, v = .slice (some ⟨g, 0, none⟩) L.length c := by
  rcases h with ⟨rfl, _⟩ | ⟨g, cap, cs, ts, a, b, rfl, _⟩
  · exact absurd rfl hn
  · exact ⟨g, cap, rfl⟩
theorem OwnQt.ext {lo hi : Nat} {w w' : World} {v : Value} {L : List QD} (h : OwnQt lo hi w v L) (hx : Ext w w') : OwnQt lo hi w' v L := by
  rcases h with h | ⟨g, cap, cs, ts, a, b, hv, h1, h2, how, hc, hd⟩
  · exact .inl h
  · exact .inr ⟨g, cap, cs, ts, a, b, hv, h1, h2, ownsRow_ext how hx, fun i hi => ⟨(hc i hi).1, (hc i hi).2.1.ext hx, (hc i hi).2.2⟩, hd⟩
theorem OwnQt.rng {lo hi lo' hi' : Nat} {w w' : World} {v : Value} {L : List QD} (h : OwnQt lo hi w v L) (hx : Rng lo' hi' w w') (hdj : hi ≤ lo' ∨ hi' ≤ lo) : OwnQt lo hi w' v L := by
  rcases h with h | ⟨g, cap, cs, ts, a, b, rfl, h1, h2, how, hc, hd⟩
  · exact .inl h
  · refine .inr ⟨g, cap, cs, ts, a, b, rfl, h1, h2, ownsRow_rng how hx (by omega), fun i hi => ?_, hd⟩
    obtain ⟨c1, c3, c4, c5, c6⟩ := hc i hi
    exact ⟨c1, c3.rng hx (by omega), c4, c5, c6⟩
theorem OwnQt.mono {lo hi lo' hi' : Nat} {w : World} {v : Value} {L : List QD} (h : OwnQt lo hi w v L) (h1 : lo' ≤ lo) (h2 : hi ≤ hi') : OwnQt lo' hi' w v L := by
  rcases h with h | ⟨g, cap, cs, ts, a, b, hv, ha, hb, how, hc, hd⟩
  · exact .inl h
  · exact .inr ⟨g, cap, cs, ts, a, b, hv, by omega, by omega, ownsRow_mono how h1, fun i hi => ⟨(hc i hi).1, (hc i hi).2.1, by have := (hc i hi).2.2.1; omega, by have := (hc i hi).2.2.2.1; omega, (hc i hi).2.2.2.2⟩, hd⟩


/-- A quota in a row of its own: cells 3 i, 3 i + 1, 3 i + 2. -/
theorem set_triple {cs : List Value} {n k : Nat} (hl : cs.length = n * 3) (hk : k < n) (x y z : Value) :
    (((cs.set (k * 3) x).set (k * 3 + 1) y).set (k * 3 + 2) z).length = n * 3 ∧ (((cs.set (k * 3) x).set (k * 3 + 1) y).set (k * 3 + 2) z)[k * 3]? = some x ∧ (((cs.set (k * 3) x).set (k * 3 + 1) y).set (k * 3 + 2) z)[k * 3 + 1]? = some y ∧ (((cs.set (k * 3) x).set (k * 3 + 1) y).set (k * 3 + 2) z)[k * 3 + 2]? = some z ∧
    ∀ j, j ≠ k → (((cs.set (k * 3) x).set (k * 3 + 1) y).set (k * 3 + 2) z)[j * 3]? = cs[j * 3]? ∧ (((cs.set (k * 3) x).set (k * 3 + 1) y).set (k * 3 + 2) z)[j * 3 + 1]? = cs[j * 3 + 1]? ∧ (((cs.set (k * 3) x).set (k * 3 + 1) y).set (k * 3 + 2) z)[j * 3 + 2]? = cs[j * 3 + 2]? := by
  refine ⟨by simp [hl], ?_, ?_, ?_, fun j hj => ⟨?_, ?_, ?_⟩⟩
  · rw [List.getElem?_set_ne (by omega), List.getElem?_set_ne (by omega), List.getElem?_set_self (by omega)]
  · rw [List.getElem?_set_ne (by omega), List.getElem?_set_self (by simp; omega)]
  · rw [List.getElem?_set_self (by simp; omega)]
  · rw [List.getElem?_set_ne (by omega), List.getElem?_set_ne (by omega), List.getElem?_set_ne (by omega)]
  · rw [List.getElem?_set_ne (by omega), List.getElem?_set_ne (by omega), List.getElem?_set_ne (by omega)]
  · rw [List.getElem?_set_ne (by omega), List.getElem?_set_ne (by omega), List.getElem?_set_ne (by omega)]


set_option maxHeartbeats 400000 in
theorem laws_eqQuota (t t' : Value) (xs : List Int) (x y : Int) (w : World) (h : RI w t xs) (h' : RI w t' xs) (hn : xs.length ≤ 1048576) :
    Calls Tryd.prog 57 #[.agg #[t, .int .i64 x, .int .i64 y], .agg #[t', .int .i64 x, .int .i64 y]] w fun e w' => e = .returned (.bool true) ∧ Ext w w' := by
  obtain ⟨p, cap, rfl, -, hc⟩ := h.form
  obtain ⟨p', cap', rfl, -, hc'⟩ := h'.form
  have HC := Lib.hid (And.intro hc hc'); clear hc hc'
  go_enter Tryd.func57, Tryd.ntmps57
  go_wp2_with (first | (go_at_call 62; refine Calls.mono (laws_eqInt64S _ _ xs xs true (by simp) _ (h.ext ExtC.ext) (h'.ext ExtC.ext) (by omega) (by omega)) ?_; rintro e w' ⟨rfl, hx⟩; obtain ⟨g1, rfl⟩ := hx.grow; clear hx))
  go_ret
  exact ⟨rfl, ExtC.ext⟩

set_option maxHeartbeats 1000000 in
theorem laws_eqQuotaS (v u : Value) (L : List QD) (w : World) (h : RQ w v L) (h' : RQ w u L) (hs : ShortQ L) :
    Calls Tryd.prog 36 #[v, u] w fun e w' => e = .returned (.bool true) ∧ Ext w w' := by
  obtain ⟨p, cap, rfl, hc⟩ := h.form
  obtain ⟨q, cap', rfl, hc'⟩ := h'.form
  obtain ⟨hn, hm⟩ := hs
  clear h h'
  by_cases h0 : 0 < L.length
  · obtain ⟨b1, off, rfl, i1, c1⟩ := hc h0
    obtain ⟨b2, off', rfl, i2, c2⟩ := hc' h0
    have HC := Lib.hid (And.intro c1 c2)
    have HM := Lib.hid hm
    clear hc hc' c1 c2 hm
    go_enter Tryd.func36, Tryd.ntmps36
    go_wp2
    go_loopw [5] (fun i wr => ∃ k : Nat, k ≤ L.length ∧ i = .int .i64 k ∧ Ext w wr) (fun i _ => L.length - (intOf i).toNat)
    case atStart => exact ⟨0, Nat.zero_le _, rfl, Ext.refl _⟩
    case round =>
      obtain ⟨k, hk, rfl, hx⟩ := hrel
      obtain ⟨g0, rfl⟩ := hx.grow; clear hx
      by_cases hlt : k < L.length
      · obtain ⟨⟨t1, d1, d3⟩, d4, d5⟩ := HC.out.1 k hlt
        obtain ⟨⟨t1', d1', d3'⟩, d4', d5'⟩ := HC.out.2 k hlt
        have D3 := Lib.hid (And.intro d3 d3'); clear d3 d3'
        go_wp2
        refine wp_region_grow (by kernel_rfl) (by kernel_rfl) ?_
        repeat (go_big_quiet_step ((first | (go_at_call 57; exact grow_of (laws_eqQuota _ _ L[k].1 _ _ _ (D3.out.1.ext ExtC.ext) (D3.out.2.ext ExtC.ext) (HM.out k hlt))))))
        refine wpQuiet_nil ?_
        intro _ hw'
        obtain ⟨g, hw''⟩ := hw'
        subst hw''
        go_wp2
        go_roundw
        case rel => exact ⟨k + 1, by omega, by go_num, ExtC.ext⟩
        case measure => simp [intOf]; omega
      · go_wp2
        go_ret
        exact ⟨rfl, ExtC.ext⟩
  · have e1 : L = [] := List.length_eq_zero_iff.1 (by omega)
    subst e1
    clear hc hc' hm
    go_enter Tryd.func36, Tryd.ntmps36
    go_wp2
    refine wp_loop_rounds 1 ?_; rw [rounds_succ]
    go_wp2
    go_ret
    exact ⟨rfl, Ext.refl _⟩
end Go.Proofs.YthcomgnokkndgaaDoor
