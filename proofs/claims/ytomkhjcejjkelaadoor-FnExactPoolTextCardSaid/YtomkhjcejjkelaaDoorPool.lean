/- Pools: the contracts of the laws' helpers, and what comes in from outside. -/
import Derived.Test.YtomkhjcejjkelaaDoorArg
import Derived.Test.YtomkhjcejjkelaaDoorQuota
namespace Go.Proofs.YtomkhjcejjkelaaDoor
open Go.ChangeShapes Go.WideShapes Go.ChangeAt Go.RowKit Go.Joins Go.Deep

theorem choose_list' {α : Type} (n : Nat) (R : Nat → α → Prop) (h : ∀ i, i < n → ∃ a, R i a) : ∃ L : List α, L.length = n ∧ ∀ i (hi : i < L.length), R i L[i] := by
  induction n with
  | zero => exact ⟨[], rfl, fun i hi => absurd hi (by simp)⟩
  | succ n ih =>
    obtain ⟨L, hl, hL⟩ := ih (fun i hi => h i (by omega))
    obtain ⟨a, ha⟩ := h n (by omega)
    refine ⟨L ++ [a], by simp [hl], fun i hi => ?_⟩
    by_cases hin : i < L.length
    · rw [List.getElem_append_left hin]; exact hL i hin
    · have : i = L.length := by simp at hi; omega
      subst this
      simp; rw [hl]; exact ha

section
variable {H : Type} {enc : TypeId × Value → H} {w : World} {held : Bool} {base : Nat}
/-- A slice of three-cell elements. -/
theorem raw_triples {P : Program} {t e : TypeId} {f0 f1 f2 : Field} {fuel : Nat} {cs : List Value} {x : DataW H × List MemPlace} (ht : P.underlying t = some (.slice e)) (hs : P.underlying e = some (.struct #[f0, f1, f2])) (hone : oneCellFields P #[f0, f1, f2] = true) (hC : P.cellsOf e = 3)
    (h : DataW.trod enc P w base (fun _ => true) held fuel t cs = some x) : ∃ p len cap, cs = [.slice p len cap] ∧ len ≤ cap ∧ len ≤ 9223372036854775807 ∧ (0 < len → ∃ b off, p = some ⟨b, off, none⟩ ∧ InW b w ∧
      ∀ i, i < len → ∃ (v0 v1 v2 : Value) (y0 y1 y2 : DataW H × List MemPlace) (n : Nat), w.cell? ⟨b, off + i * 3, none⟩ = some v0 ∧ w.cell? ⟨b, off + i * 3 + 1, none⟩ = some v1 ∧ w.cell? ⟨b, off + i * 3 + 2, none⟩ = some v2 ∧
        DataW.trod enc P w base (fun _ => true) held n f0.type [v0] = some y0 ∧ DataW.trod enc P w base (fun _ => true) held n f1.type [v1] = some y1 ∧ DataW.trod enc P w base (fun _ => true) held n f2.type [v2] = some y2) := by
  rcases open_slice ht h with ⟨rfl, -⟩ | ⟨a, len, cap, m, n, D, Pl, rfl, -, h1, h2, h3, -, h4⟩
  · exact ⟨none, 0, 0, rfl, Nat.le_refl _, by simp, fun h => absurd h (by simp)⟩
  · simp only [if_true] at h3
    subst h3
    unfold maxLen at h2
    rw [hC] at h4
    refine ⟨some a, len, m, rfl, h1, by omega, fun h0 => ?_⟩
    have key : ∀ i, i < m → ∃ v0 v1 v2, w.cell? ((a.add (i * 3)).add 0) = some v0 ∧ w.cell? ((a.add (i * 3)).add 1) = some v1 ∧ w.cell? ((a.add (i * 3)).add 2) = some v2 ∧ DataW.trod enc P w base (fun _ => true) held n e [v0, v1, v2] = some (D i, Pl i) := by
      intro i hi
      obtain ⟨cs', hcs, htr⟩ := h4 i hi
      unfold World.cells? at hcs
      split at hcs
      · simp only [List.range_succ_eq_map, List.range_zero, List.map_nil, List.map_cons, List.mapM_cons, List.mapM_nil, Option.bind_eq_bind, Option.bind_eq_some_iff, Option.pure_def] at hcs
        obtain ⟨v0, e0, _, ⟨v1, e1, _, ⟨v2, e5, _, e6, e7⟩, e4⟩, e3⟩ := hcs
        simp only [Option.some.injEq] at e3 e4 e6 e7
        subst e6
        subst e7
        subst e4
        subst e3
        exact ⟨v0, v1, v2, e0, e1, e5, htr⟩
      · cases hcs
    obtain ⟨b, off, spot⟩ := a
    obtain ⟨v0, _, _, c0, _, _⟩ := key 0 (by omega)
    have hspot : spot = none := by simpa [Addr.add] using World.cell?_spot c0
    subst hspot
    have hin : InW b w := by
      have : (⟨b, off, none⟩ : Addr).add (0 * 3) = ⟨b, off, none⟩ := by simp [Addr.add]
      rw [this, add_plain] at c0
      exact InW.of_cell c0
    refine ⟨b, off, rfl, hin, fun i hi => ?_⟩
    obtain ⟨v0, v1, v2, c0, c1, c2, htr⟩ := key i (by omega)
    rw [add_plain, add_plain] at c0 c1 c2
    obtain ⟨y0, y1, y2, n', -, -, k0, k1, k2⟩ := trod_struct3 hs htr
    obtain ⟨o0, q0⟩ := hone_of hone 0 f0 rfl
    obtain ⟨o1, q1⟩ := hone_of hone 1 f1 rfl
    obtain ⟨o2, q2⟩ := hone_of hone 2 f2 rfl
    exact ⟨v0, v1, v2, y0, y1, y2, n', c0, c1, c2, by simpa [o0, q0] using k0, by simpa [o1, q1] using k1, by simpa [o2, q2] using k2⟩
end

theorem Tryd.cellsQuota : Tryd.prog.cellsOf 143 = 3 := by kernel_rfl
theorem Tryd.cellsPool : Tryd.prog.cellsOf 61 = 3 := by kernel_rfl
set_option maxRecDepth 100000 in
theorem open_pool {H : Type} {enc : TypeId × Value → H} {w : World} {held : Bool} {base : Nat} {r : Reach} {b0 : Nat} {v : Value} {d : DataW H} {ps : List MemPlace} (hval : Value.okWide Tryd.prog w r b0 61 v)
    (h : DataW.Trod enc Tryd.prog w base (fun _ => true) held 61 v d ps) : ∃ (pe sz : Int) (qv : Value) (L : List QD), v = .agg #[.int .i64 pe, .int .i64 sz, qv] ∧ I64 pe ∧ I64 sz ∧ RQ w qv L ∧ ShortQR L := by
  obtain ⟨v0, v1, v2, y0, y1, y2, k, rfl, -, -, k0, k1, k2⟩ := open_agg3 Tryd.underlying61 (by kernel_rfl) Tryd.cellsPool hval h
  obtain ⟨pe, e0, -, wm⟩ := DataW.trod_int Tryd.underlying2 k0
  obtain ⟨sz, e1, -, wm1⟩ := DataW.trod_int Tryd.underlying2 k1
  obtain ⟨p, len, cap, e2, hlc, hle, hc⟩ := raw_triples Tryd.underlying59 Tryd.underlying143 (by kernel_rfl) Tryd.cellsQuota k2
  simp only [Value.cells, List.cons.injEq, and_true] at e0 e1 e2
  subst e0 e1 e2
  by_cases h0 : 0 < len
  · obtain ⟨b, off, rfl, hb, hk⟩ := hc h0
    obtain ⟨L, hL, hR⟩ := choose_list' len (fun i (e : QD) => ((∃ t, w.cell? ⟨b, off + i * 3, none⟩ = some t ∧ RI w t e.1) ∧ w.cell? ⟨b, off + i * 3 + 1, none⟩ = some (.int .i64 e.2.1) ∧ w.cell? ⟨b, off + i * 3 + 2, none⟩ = some (.int .i64 e.2.2)) ∧ e.1.length ≤ 9223372036854775807) (by
      intro i hi
      obtain ⟨u0, u1, u2, z0, z1, z2, n, c0, c1, c2, q0, q1, q2⟩ := hk i hi
      obtain ⟨t', ys, e3, ht', hx', -⟩ := raw_ints Tryd.underlying86 Tryd.underlying2 Tryd.cellsI64 q0
      obtain ⟨m1, e4, -⟩ := DataW.trod_int Tryd.underlying2 q1
      obtain ⟨m2, e5, -⟩ := DataW.trod_int Tryd.underlying2 q2
      simp only [List.cons.injEq, and_true] at e3 e4 e5
      subst e3 e4 e5
      exact ⟨(ys, m1, m2), ⟨⟨_, c0, ht'⟩, c1, c2⟩, hx'⟩)
    subst hL
    exact ⟨pe, sz, _, L, rfl, wf_i64_range wm, wf_i64_range wm1, .inl ⟨b, off, cap, rfl, hb, fun i hi => (hR i hi).1⟩, hle, fun i hi => (hR i hi).2⟩
  · have : len = 0 := by omega
    subst this
    exact ⟨pe, sz, _, [], rfl, wf_i64_range wm, wf_i64_range wm1, .inr ⟨rfl, p, cap, rfl⟩, by simp, fun i hi => absurd hi (by simp)⟩

set_option maxHeartbeats 1000000 in
theorem laws_toPool (pe sz : Int) (qv : Value) (L : List QD) (w : World) (hq : RQ w qv L) (hn : L.length ≤ 1048576) (hm : qsum L ≤ 1048576) :
    Calls Tryd.prog 43 #[.agg #[.int .i64 pe, .int .i64 sz, qv]] w fun e w' => ∃ g c, e = .returned (.agg #[.int .i64 pe, .int .i64 sz, .slice (some ⟨g, 0, none⟩) L.length c]) ∧
      OwnQt w.heap.size w'.heap.size w' (.slice (some ⟨g, 0, none⟩) L.length c) L ∧ Ext w w' := by
  obtain ⟨p, c, rfl, -⟩ := hq.form
  have HQ := Lib.hid hq
  clear hq
  go_enter Tryd.func43, Tryd.ntmps43
  go_wp2_with (first | (go_at_call 87; refine Calls.mono (laws_toQuotaS _ L _ (HQ.out.ext ExtC.ext) hn hm) ?_; rintro e w' ⟨t', rfl, ht, ho, hx⟩; obtain ⟨q, c, rfl⟩ := ho.form ht; obtain ⟨g, rfl⟩ := hx.grow; clear hx ht; have HO := Lib.hid ho; clear ho))
  refine bodyPost_ret (v := .agg #[.int .i64 pe, .int .i64 sz, .slice (some ⟨q, 0, none⟩) L.length c]) (by simp [results, Tryd.results43, go_sem]) rfl ?_
  have ho := HO.out
  have hs := g.ext.size
  simp only [World.size_alloc, World.size_setCell] at ho hs
  refine ⟨q, c, rfl, ?_, ExtC.ext⟩
  simp only [World.size_setCell]
  refine OwnQt.mono (lo := w.heap.size + 1 + 1 + 1) (hi := g.fin.heap.size) ?_ (by omega) (Nat.le_refl _)
  have key : ∀ {x : World} {n o : Nat} {u : Value}, OwnQt (w.heap.size + 1 + 1 + 1) g.fin.heap.size x (.slice (some ⟨q, 0, none⟩) L.length c) L → n < w.heap.size + 1 + 1 + 1 → OwnQt (w.heap.size + 1 + 1 + 1) g.fin.heap.size (x.setCell ⟨n, o, none⟩ u) (.slice (some ⟨q, 0, none⟩) L.length c) L :=
    fun {x n o u} h hn => OwnQt.rng h (lo' := n) (hi' := n + 1) ((Rng.refl n (n + 1) x).setCell (p := ⟨n, o, none⟩) (Nat.le_refl n) (Nat.lt_succ_self n) u) (.inr (by omega))
  repeat (first | with_reducible exact ho | with_reducible refine key ?_ (by omega))

set_option maxHeartbeats 1000000 in
theorem laws_szPool (pe sz : Int) (qv : Value) (L : List QD) (w : World) (hq : RQ w qv L) (hs : ShortQR L) :
    Calls Tryd.prog 41 #[.agg #[.int .i64 pe, .int .i64 sz, qv], .int .i64 1048576] w fun e w' => ∃ r : Int, e = .returned (.int .i64 r) ∧ (r < 0 ∨ (0 ≤ r ∧ L.length ≤ 1048576 ∧ qsum L ≤ 1048576)) ∧ Ext w w' := by
  obtain ⟨p, c, rfl, -⟩ := hq.form
  have HQ := Lib.hid hq
  have HS := Lib.hid hs
  clear hq hs
  go_enter Tryd.func41, Tryd.ntmps41
  go_wp2_with fail
  refine Calls.mono (laws_szQuotaS _ L _ (HQ.out.ext ExtC.ext) HS.out.1 HS.out.2) ?_
  rintro e w' ⟨r, rfl, hr, hx⟩; obtain ⟨g2, rfl⟩ := hx.grow; clear hx
  have HR := Lib.hid hr; clear hr
  by_cases hr0 : r < 0
  · have hd : decide (r < 0) = true := by simp [hr0]
    go_wp2_with fail
    go_ret
    exact ⟨_, rfl, .inl (by omega), ExtC.ext⟩
  · have hd : decide (r < 0) = false := by simpa using hr0
    go_wp2_with fail
    go_ret
    refine ⟨_, rfl, .inr ?_, ExtC.ext⟩
    rcases HR.out with h | h
    · exact absurd h (by omega)
    · exact h

set_option maxHeartbeats 1000000 in
theorem laws_eqPool (pe sz : Int) (qv qv' : Value) (L : List QD) (w : World) (hq : RQ w qv L) (hq' : RQ w qv' L) (hs : ShortQ L) :
    Calls Tryd.prog 20 #[.agg #[.int .i64 pe, .int .i64 sz, qv], .agg #[.int .i64 pe, .int .i64 sz, qv']] w fun e w' => e = .returned (.bool true) ∧ Ext w w' := by
  obtain ⟨p, c, rfl, -⟩ := hq.form
  obtain ⟨p', c', rfl, -⟩ := hq'.form
  have HQ := Lib.hid (And.intro hq hq')
  have hz : (pe != pe) = false := by simp
  have hz2 : (sz != sz) = false := by simp
  clear hq hq'
  go_enter Tryd.func20, Tryd.ntmps20
  go_wp2_with (first | (go_at_call 63; refine Calls.mono (laws_eqQuotaS _ _ L _ (HQ.out.1.ext ExtC.ext) (HQ.out.2.ext ExtC.ext) hs) ?_; rintro e w' ⟨rfl, hx⟩; obtain ⟨g1, rfl⟩ := hx.grow; clear hx))
  go_ret
  exact ⟨rfl, ExtC.ext⟩
end Go.Proofs.YtomkhjcejjkelaaDoor
