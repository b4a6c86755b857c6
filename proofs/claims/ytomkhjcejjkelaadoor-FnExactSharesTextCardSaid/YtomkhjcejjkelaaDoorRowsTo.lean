/- The laws' helpers on slices of slices: copies, sizes. -/
import Derived.Test.YtomkhjcejjkelaaDoorNest
import Derived.Test.YtomkhjcejjkelaaDoorShare
namespace Go.Proofs.YtomkhjcejjkelaaDoor
open Go.RowKit

/-- The lengths of rows, together. -/
def rsum {β : Type} (L : List (List β)) : Nat := (L.map List.length).sum
theorem rsum_take {β : Type} (L : List (List β)) (k : Nat) (h : k < L.length) : rsum (L.take (k + 1)) = rsum (L.take k) + L[k].length := by
  rw [List.take_succ_eq_append_getElem h]; simp only [rsum, List.map_append, List.sum_append, List.map_cons, List.map_nil, List.sum_cons, List.sum_nil]; omega
theorem rsum_take_le {β : Type} (L : List (List β)) (k : Nat) : rsum (L.take k) ≤ rsum L := by
  have h := List.take_append_drop k L
  have : rsum L = rsum (L.take k) + rsum (L.drop k) := by
    conv => lhs; rw [← h]
    simp only [rsum, List.map_append, List.sum_append]
  omega
theorem rsum_get {β : Type} (L : List (List β)) (k : Nat) (h : k < L.length) : L[k].length ≤ rsum L := by
  have h1 := rsum_take L k h
  have h2 := rsum_take_le L (k + 1)
  omega

theorem Tryd.info_rowShare : (Tryd.prog.info? 71).map (fun i => (i.zero, i.size, i.bytes)) = some (some (.slice none 0 0), 1, 24) := by kernel_rfl
set_option maxHeartbeats 1000000 in
theorem laws_toShareSS (v : Value) (L : List (SD)) (w : World) (h : RowsR shareKind w v L) (hn : L.length ≤ 1048576) (hm : rsum L ≤ 1048576) :
    Calls Tryd.prog 35 #[v] w fun e w' => ∃ v', e = .returned v' ∧ v' ≠ .slice none 0 0 ∧ OwnR shareKind 71 w.heap.size w'.heap.size w' v' L ∧ Ext w w' := by
  obtain ⟨i0, hi, hz0, hz1, hz2⟩ := info_parts Tryd.info_rowShare
  rcases h with ⟨b, off, cap, rfl, -, hb, hc⟩ | ⟨rfl, p, cap, rfl⟩
  · have HM : Hid (∀ i (h : i < L.length), L[i].length ≤ 1048576) := Lib.hid fun i h => by have := rsum_get L i h; omega
    clear hm
    have HC := Lib.hid hc; clear hc
    go_enter Tryd.func35, Tryd.ntmps35
    go_wp2_with (at_make; refine wpList_make_full _ rfl _ _ 22 rfl w.heap.size 71 i0 (.slice none 0 0) 1 Tryd.underlying22 hi hz0 hz1 _ _ _ _ L.length rfl rfl rfl rfl (by rw [hz2]; omega) (by unfold maxLen; omega) (Nat.le_refl _) ?_; intro w1 hown hgrow)
    have hx1 := grownBy_ext hgrow (fun k h => by cases h)
    have hlt1 := (hown.lt w.heap.size rfl).2
    go_loopw [4] (fun i wr => ∃ k : Nat, k ≤ L.length ∧ i = .int .i64 k ∧ Ext w wr ∧ ∃ (cs : List Value) (a : Nat → Nat), wr.ownsRow w.heap.size 71 1 (.slice (some ⟨w.heap.size, 0, none⟩) L.length L.length) L.length cs ∧
        Hid (w.heap.size < a 0 ∧ a k ≤ wr.heap.size ∧ (∀ i j, i ≤ j → j ≤ k → a i ≤ a j) ∧ ∀ i (h : i < L.length), i < k → ∃ t, cs[i]? = some t ∧ Kind.Own shareKind (a i) (a (i + 1)) wr t L[i])) (fun i _ => L.length - (intOf i).toNat)
    case atStart => exact ⟨0, Nat.zero_le _, rfl, hx1, _, fun _ => w1.heap.size, hown, Lib.hid ⟨hlt1, Nat.le_refl _, fun _ _ _ _ => Nat.le_refl _, fun i _ h => by omega⟩⟩
    case round =>
      obtain ⟨k, hk, rfl, hx, cs, a, how, HI⟩ := hrel
      clear hown hgrow hx1 hlt1
      by_cases hlt : k < L.length
      · obtain ⟨t, d2, d3⟩ := HC.out k hlt
        have c2 : wr.cell? ⟨b, off + k, none⟩ = some t := by rw [Below.cell hx hb.lt]; exact d2
        have e3 := Lib.hid (Kind.r_ext shareKind d3 hx); clear d2 d3
        have hl : cs.length = L.length := by rw [how.1]; omega
        have hgw := (how.lt w.heap.size rfl).2
        have iw : InW w.heap.size wr := ⟨hgw⟩
        obtain ⟨u1, f1⟩ : ∃ u, wr.cell? ⟨w.heap.size, k, none⟩ = some u := ⟨cs[k], by rw [how.cellAt _ (by omega)]; simp⟩
        have f3 := how.frozenAt k
        have hxc : ExtC w wr := ⟨hx⟩
        have hm := HM.out k hlt
        have HL := Lib.hid hl; clear hl
        obtain ⟨tp, tn, tc, rfl⟩ := Kind.r_form shareKind e3.out
        go_wp2_with (first | (go_at_call 77; refine Calls.mono (laws_toShareS _ L[k] _ (Kind.r_ext shareKind e3.out ExtC.ext) hm) ?_; rintro e w' ⟨t', rfl, hn', ho, hx'⟩; obtain ⟨q, n, c, rfl⟩ := Kind.r_form shareKind (Kind.own_r shareKind ho); obtain ⟨g, rfl⟩ := hx'.grow; clear hx' hn'))
        go_roundw
        case rel =>
          have how2 := ownsRow_ext how g.ext
          have s1 := (how2.stored k (.slice q n c)).1
          obtain ⟨i1, i2, i3, i4⟩ := HI.out
          have i0' := i3 0 k (by omega) (Nat.le_refl _)
          have hs := g.ext.size
          have hl := HL.out
          have hset : ∀ (lo hi : Nat) (x : World) (u : Value) (r : SD), Kind.Own shareKind lo hi x u r → w.heap.size < lo → Kind.Own shareKind lo hi (x.setCell ⟨w.heap.size, k, none⟩ (.slice q n c)) u r := fun lo hi x u r hr hlo =>
            Kind.own_rng shareKind hr ((Rng.refl w.heap.size (w.heap.size + 1) x).setCell (p := ⟨w.heap.size, k, none⟩) (Nat.le_refl _) (Nat.lt_succ_self _) _) (.inr hlo)
          refine ⟨k + 1, by omega, by go_num, ExtC.ext, _, fun i => if i ≤ k then a i else g.fin.heap.size, s1, Lib.hid ⟨?_, ?_, ?_, ?_⟩⟩
          · simp only [Nat.zero_le, if_true]; exact i1
          · dsimp only; rw [if_neg (by omega)]; simp only [World.size_setCell]; exact Nat.le_refl _
          · intro i j hij hjk
            dsimp only
            by_cases h1 : j ≤ k
            · rw [if_pos (by omega), if_pos h1]; exact i3 i j hij h1
            · rw [if_neg h1]; split
              · have := i3 i k (by omega) (Nat.le_refl _); omega
              · exact Nat.le_refl _
          · intro i hi hik
            dsimp only
            by_cases h1 : i = k
            · subst h1
              rw [if_pos (Nat.le_refl _), if_neg (by omega)]
              exact ⟨.slice q n c, by rw [List.getElem?_set_self (by omega)], hset _ _ _ _ _ (Kind.own_mono shareKind ho (by omega) (Nat.le_refl _)) (by omega)⟩
            · rw [if_pos (by omega), if_pos (by omega), List.getElem?_set_ne (by omega)]
              obtain ⟨t', q1, q3⟩ := i4 i hi (by omega)
              have := i3 0 i (by omega) (by omega)
              exact ⟨t', q1, hset _ _ _ _ _ (Kind.own_ext shareKind q3 g.ext) (by omega)⟩
        case measure => simp [intOf]; omega
      · have hkn : k = L.length := by omega
        go_wp2
        go_ret
        obtain ⟨i1, i2, i3, i4⟩ := HI.out
        refine ⟨_, rfl, by simp, .inr ⟨_, _, cs, a, fun i => a (i + 1), rfl, Nat.le_refl _, (how.lt w.heap.size rfl).2, how, fun i hi' => ?_, fun i j hij hj => .inl (i3 (i + 1) j (by omega) (by omega))⟩, hx⟩
        obtain ⟨t, q2, q3⟩ := i4 i hi' (by omega)
        have h1 := i3 0 i (by omega) (by omega)
        have h2 := i3 (i + 1) k (by omega) (Nat.le_refl _)
        exact ⟨t, q2, q3, by omega, by show a (i + 1) ≤ _; omega, .inl (by omega)⟩
  · go_enter Tryd.func35, Tryd.ntmps35
    go_wp2_with (at_make; refine wpList_make_full _ rfl _ _ 22 rfl w.heap.size 71 i0 (.slice none 0 0) 1 Tryd.underlying22 hi hz0 hz1 _ _ _ _ 0 rfl rfl rfl rfl (by rw [hz2]; omega) (by unfold maxLen; omega) (Nat.le_refl _) ?_; intro w1 hown hgrow)
    have hx1 := grownBy_ext hgrow (fun k h => by cases h)
    refine wp_loop_rounds 1 ?_; rw [rounds_succ]
    go_wp2
    go_ret
    exact ⟨_, rfl, by simp, .inr ⟨_, _, _, fun _ => 0, fun _ => 0, rfl, Nat.le_refl _, (hown.lt w.heap.size rfl).2, hown, fun i hi' => absurd hi' (by simp), fun i j _ hj => absurd hj (by simp)⟩, hx1⟩
end Go.Proofs.YtomkhjcejjkelaaDoor
