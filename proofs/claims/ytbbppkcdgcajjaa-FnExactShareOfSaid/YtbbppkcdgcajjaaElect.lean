/- Elections: the contracts of the laws' helpers, and what comes in from outside. -/
import Derived.Test.YtbbppkcdgcajjaaRowsMark
import Derived.Test.YtbbppkcdgcajjaaArg
import Derived.Test.YtbbppkcdgcajjaaShareArg
import Derived.Test.YtbbppkcdgcajjaaCircles2
namespace Go.Proofs.Ytbbppkcdgcajjaa
open Go.ChangeShapes Go.WideShapes Go.ChangeAt Go.RowKit Go.Joins Go.Deep

theorem OwnR.form {α : Type} {K : Kind α} {T : TypeId} {lo hi : Nat} {w : World} {v : Value} {L : List α} (h : OwnR K T lo hi w v L) (hn : v ≠ .slice none 0 0) : ∃ g c, v = .slice (some ⟨g, 0, none⟩) L.length c := by
  rcases h with ⟨rfl, _⟩ | ⟨g, cap, cs, a, b, rfl, _⟩
  · exact absurd rfl hn
  · exact ⟨g, cap, rfl⟩

set_option maxHeartbeats 1000000 in
theorem laws_toElection (m : Int) (cv av : Value) (cs : List Int) (ap : List (List Int)) (w : World) (hc : RI w cv cs) (ha : RowsR intKind w av ap) (hn : cs.length ≤ 1048576) (hn2 : ap.length ≤ 1048576) (hm : rsum ap ≤ 1048576) :
    Calls Try.prog 41 #[.agg #[.int .i64 m, cv, av]] w fun e w' => ∃ g c g2 c2 mid, e = .returned (.agg #[.int .i64 m, .slice (some ⟨g, 0, none⟩) cs.length c, .slice (some ⟨g2, 0, none⟩) ap.length c2]) ∧
      OwnI w.heap.size mid w' (.slice (some ⟨g, 0, none⟩) cs.length c) cs ∧ OwnR intKind 24 mid w'.heap.size w' (.slice (some ⟨g2, 0, none⟩) ap.length c2) ap ∧ w.heap.size ≤ mid ∧ mid ≤ w'.heap.size ∧ Ext w w' := by
  obtain ⟨cp, cc, rfl, -, -⟩ := hc.form
  obtain ⟨pp, pc, rfl, -, -⟩ := ha.form
  have HC := Lib.hid hc
  have HA := Lib.hid ha
  clear hc ha
  go_enter Try.func41, Try.ntmps41
  go_wp2_with (first | (go_at_call 45; refine Calls.mono (laws_toInt64S _ cs _ (HC.out.ext ExtC.ext) hn) ?_; rintro e w' ⟨t', rfl, ht, ho, hx⟩; obtain ⟨q, c, rfl⟩ := ho.form ht; obtain ⟨g, rfl⟩ := hx.grow; clear hx ht; have HO := Lib.hid ho; clear ho) | (go_at_call 104; refine Calls.mono (laws_toInt64SS _ ap _ (HA.out.ext ExtC.ext) hn2 hm) ?_; rintro e w' ⟨t', rfl, ht, ho, hx⟩; obtain ⟨q2, c2, rfl⟩ := OwnR.form ho ht; obtain ⟨g2, rfl⟩ := hx.grow; clear hx ht; have HO2 := Lib.hid ho; clear ho))
  refine bodyPost_ret (v := .agg #[.int .i64 m, .slice (some ⟨q, 0, none⟩) cs.length c, .slice (some ⟨q2, 0, none⟩) ap.length c2]) (by simp [results, Try.results41, go_sem]) rfl ?_
  have ho := HO.out
  have ho2 := HO2.out
  have hs := g.ext.size
  have hs2 := g2.ext.size
  simp only [World.size_alloc, World.size_setCell] at ho ho2 hs hs2
  refine ⟨q, c, q2, c2, g.fin.heap.size, rfl, ?_, ?_, by omega, by simp only [World.size_setCell]; omega, ExtC.ext⟩
  · refine OwnI.mono (lo := w.heap.size + 1 + 1 + 1) (hi := g.fin.heap.size) ?_ (by omega) (Nat.le_refl _)
    repeat (first | exact ho | (refine OwnI.ext ?_ g2.ext) | refine OwnI.setCell ?_ (by omega))
  · simp only [World.size_setCell]
    have key : ∀ {x : World} {n o : Nat} {u : Value}, OwnR intKind 24 g.fin.heap.size g2.fin.heap.size x (.slice (some ⟨q2, 0, none⟩) ap.length c2) ap → n < g.fin.heap.size → OwnR intKind 24 g.fin.heap.size g2.fin.heap.size (x.setCell ⟨n, o, none⟩ u) (.slice (some ⟨q2, 0, none⟩) ap.length c2) ap :=
      fun {x n o u} h hn => OwnR.rng h (lo' := n) (hi' := n + 1) ((Rng.refl n (n + 1) x).setCell (p := ⟨n, o, none⟩) (Nat.le_refl n) (Nat.lt_succ_self n) u) (.inr (by omega))
    repeat (first | exact ho2 | refine key ?_ (by omega))

set_option maxHeartbeats 1000000 in
theorem laws_szElection (m : Int) (cv av : Value) (cs : List Int) (ap : List (List Int)) (left : Int) (w : World) (hc : RI w cv cs) (ha : RowsR intKind w av ap) (hn : cs.length ≤ 9223372036854775807) (hs : ShortRR ap) (h1 : 0 ≤ left) (h2 : left ≤ 1048576) :
    Calls Try.prog 39 #[.agg #[.int .i64 m, cv, av], .int .i64 left] w fun e w' => ∃ r : Int, e = .returned (.int .i64 r) ∧ (r < 0 ∨ (0 ≤ r ∧ cs.length ≤ 1048576 ∧ ap.length ≤ 1048576 ∧ rsum ap ≤ 1048576)) ∧ Ext w w' := by
  obtain ⟨cp, cc, rfl, -, -⟩ := hc.form
  obtain ⟨pp, pc, rfl, -, -⟩ := ha.form
  have HC := Lib.hid hc
  have HA := Lib.hid ha
  have HS := Lib.hid hs
  clear hc ha hs
  by_cases hlt : left - (cs.length : Int) < 0
  · go_enter Try.func39, Try.ntmps39
    go_wp2_with (first | (go_at_call 101; refine Calls.mono (laws_szInt64S _ cs _ _ (HC.out.ext ExtC.ext) hn h1 (by omega)) ?_; rw [if_pos hlt]; rintro e w' ⟨rfl, hx⟩; obtain ⟨g, rfl⟩ := hx.grow; clear hx))
    go_ret
    exact ⟨_, rfl, .inl (by omega), ExtC.ext⟩
  · have hz : decide (left - (cs.length : Int) < 0) = false := by simpa using hlt
    go_enter Try.func39, Try.ntmps39
    go_wp2_with (first | (go_at_call 101; refine Calls.mono (laws_szInt64S _ cs _ _ (HC.out.ext ExtC.ext) hn h1 (by omega)) ?_; rw [if_neg hlt]; rintro e w' ⟨rfl, hx⟩; obtain ⟨g, rfl⟩ := hx.grow; clear hx))
    refine Calls.mono (laws_szInt64SS _ ap _ _ (HA.out.ext ExtC.ext) HS.out.1 HS.out.2 (by omega) (by omega)) ?_
    rintro e w' ⟨r, rfl, hr, hx⟩; obtain ⟨g2, rfl⟩ := hx.grow; clear hx
    have HR := Lib.hid hr; clear hr
    by_cases hr0 : r < 0
    · have hd : decide (r < 0) = true := by simp [hr0]
      go_wp2_with fail
      go_ret
      exact ⟨_, rfl, .inl (by omega), ExtC.ext⟩
    · have hd : decide (r < 0) = false := by simpa using hr0
      go_wp2_with fail
      go_ret
      refine ⟨_, rfl, .inr ?_, ExtC.ext⟩
      rcases HR.out with h | ⟨h3, h4, h5, h6⟩
      · exact absurd h (by omega)
      · exact ⟨h3, by omega, h5, h6⟩

set_option maxHeartbeats 1000000 in
theorem laws_eqElection (m : Int) (cv av cv' av' : Value) (cs : List Int) (ap : List (List Int)) (w : World) (hc : RI w cv cs) (ha : RowsR intKind w av ap) (hc' : RI w cv' cs) (ha' : RowsR intKind w av' ap) (hn : cs.length ≤ 1048576) (hs : ShortRows ap) :
    Calls Try.prog 43 #[.agg #[.int .i64 m, cv, av], .agg #[.int .i64 m, cv', av']] w fun e w' => e = .returned (.bool true) ∧ Ext w w' := by
  obtain ⟨cp, cc, rfl, -, -⟩ := hc.form
  obtain ⟨pp, pc, rfl, -, -⟩ := ha.form
  obtain ⟨cp', cc', rfl, -, -⟩ := hc'.form
  obtain ⟨pp', pc', rfl, -, -⟩ := ha'.form
  have HC := Lib.hid (And.intro hc hc')
  have HA := Lib.hid (And.intro ha ha')
  have hz : (m != m) = false := by simp
  clear hc ha hc' ha'
  go_enter Try.func43, Try.ntmps43
  go_wp2_with (first | (go_at_call 24; refine Calls.mono (laws_eqInt64S _ _ cs cs true (by simp) _ (HC.out.1.ext ExtC.ext) (HC.out.2.ext ExtC.ext) (by omega) (by omega)) ?_; rintro e w' ⟨rfl, hx⟩; obtain ⟨g1, rfl⟩ := hx.grow; clear hx) | (go_at_call 109; refine Calls.mono (laws_eqInt64SS _ _ ap ap true (by simp) _ (HA.out.1.ext ExtC.ext) (HA.out.2.ext ExtC.ext) hs hs) ?_; rintro e w' ⟨rfl, hx⟩; obtain ⟨g2, rfl⟩ := hx.grow; clear hx))
  go_ret
  exact ⟨rfl, ExtC.ext⟩

theorem Try.cellsElect : Try.prog.cellsOf 38 = 3 := by kernel_rfl
theorem Try.cellsInt64S : Try.prog.cellsOf 24 = 1 := by kernel_rfl
set_option maxRecDepth 100000 in
theorem open_election {H : Type} {enc : TypeId × Value → H} {w : World} {held : Bool} {base : Nat} {r : Reach} {b0 : Nat} {v : Value} {d : DataW H} {ps : List MemPlace} (hval : Value.okWide Try.prog w r b0 38 v)
    (h : DataW.Trod enc Try.prog w base (fun _ => true) held 38 v d ps) : ∃ (m : Int) (cv av : Value) (cs : List Int) (ap : List (List Int)), v = .agg #[.int .i64 m, cv, av] ∧ I64 m ∧ RI w cv cs ∧ cs.length ≤ 9223372036854775807 ∧ RowsR intKind w av ap ∧ ShortRR ap := by
  obtain ⟨v0, v1, v2, y0, y1, y2, k, rfl, -, -, k0, k1, k2⟩ := open_agg3 Try.underlying38 (by kernel_rfl) Try.cellsElect hval h
  obtain ⟨m, e0, -, wm⟩ := DataW.trod_int Try.underlying2 k0
  obtain ⟨t, xs, e1, ht, hx, -⟩ := raw_ints Try.underlying24 Try.underlying2 Try.cellsI64 k1
  obtain ⟨p, len, cap, e2, hlc, hle, hc⟩ := raw_singles Try.underlying36 Try.cellsInt64S k2
  simp only [Value.cells, List.cons.injEq, and_true] at e0 e1 e2
  subst e0 e1 e2
  by_cases h0 : 0 < len
  · obtain ⟨b, off, rfl, hb, hk⟩ := hc h0
    obtain ⟨L, hL, hR⟩ := choose_list len (fun i (e : List Int) => (∃ t, w.cell? ⟨b, off + i, none⟩ = some t ∧ RI w t e) ∧ e.length ≤ 9223372036854775807) (by
      intro i hi
      obtain ⟨u0, z0, n, c0, q0⟩ := hk i hi
      obtain ⟨t', ys, e3, ht', hx', -⟩ := raw_ints Try.underlying24 Try.underlying2 Try.cellsI64 q0
      simp only [List.cons.injEq, and_true] at e3
      subst e3
      exact ⟨ys, ⟨_, c0, ht'⟩, hx'⟩)
    subst hL
    exact ⟨m, _, _, xs, L, rfl, wf_i64_range wm, ht, hx, .inl ⟨b, off, cap, rfl, hlc, hb, fun i hi => (hR i hi).1⟩, hle, fun i hi => (hR i hi).2⟩
  · have : len = 0 := by omega
    subst this
    exact ⟨m, _, _, xs, [], rfl, wf_i64_range wm, ht, hx, .inr ⟨rfl, p, cap, rfl⟩, by simp, fun i hi => absurd hi (by simp)⟩
end Go.Proofs.Ytbbppkcdgcajjaa
