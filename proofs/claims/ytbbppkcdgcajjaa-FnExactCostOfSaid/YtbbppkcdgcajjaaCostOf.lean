/- What projects cost: CostOf on both sides. -/
import Derived.Test.YtbbppkcdgcajjaaElectOk
import Derived.Test.YtbbppkcdgcajjaaTail
namespace Go.Proofs.Ytbbppkcdgcajjaa
open Go.RowKit

/-- What the first k of a list of projects cost. -/
def costTo (cs xs : List Int) (k : Nat) : Int := ((xs.take k).map fun x => cs.getD x.toNat 0).sum
theorem costTo_succ (cs xs : List Int) (k : Nat) (h : k < xs.length) {t : Nat} (ht : xs[k] = (t : Int)) (htl : t < cs.length) : costTo cs xs (k + 1) = costTo cs xs k + cs[t] := by
  unfold costTo
  rw [List.take_succ_eq_append_getElem h, List.map_append, List.sum_append, ht]
  simp [htl]
/-- Whether an election is valid and a list is a set of projects. -/
def PrP (m : Int) (cs : List Int) (ap : List (List Int)) (xs : List Int) : Prop := OkE m cs ap ∧ SetP xs 0 ((cs.length : Int) - 1)
open Classical in
noncomputable def prB (m : Int) (cs : List Int) (ap : List (List Int)) (xs : List Int) : Bool := decide (PrP m cs ap xs)
theorem prB_iff {m : Int} {cs : List Int} {ap : List (List Int)} {xs : List Int} {b : Bool} (h : prB m cs ap xs = b) : b = true ↔ PrP m cs ap xs := by subst h; simp [prB]
open Classical in
noncomputable def costZ (m : Int) (cs : List Int) (ap : List (List Int)) (xs : List Int) : Int := if PrP m cs ap xs then costTo cs xs xs.length else 0

set_option maxHeartbeats 1000000 in
theorem impl_isProjects (m : Int) (cv av sv : Value) (cs : List Int) (ap : List (List Int)) (xs : List Int) (w : World) (hc : RI w cv cs) (ha : RowsR intKind w av ap) (hx : RI w sv xs) (hn : cs.length ≤ 1048576) (hal : ap.length ≤ 1048576) (ham : ∀ i (h : i < ap.length), ap[i].length ≤ 1048576) (hxn : xs.length ≤ 1048576) (b : Bool) (hb : prB m cs ap xs = b) :
    Calls Try.prog 112 #[.agg #[.int .i64 m, cv, av], sv] w fun e w' => e = .returned (.bool b) ∧ Ext w w' := by
  obtain ⟨cp, cc, rfl, -, -⟩ := hc.form
  obtain ⟨pp, pc, rfl, -, -⟩ := ha.form
  obtain ⟨sp, sc, rfl, -, -⟩ := hx.form
  have HC := Lib.hid (And.intro hc (And.intro ha (And.intro hx ham)))
  have HB := Lib.hid (prB_iff hb)
  clear hc ha hx ham hb
  go_enter Try.func112, Try.ntmps112
  go_wp2_with fail
  refine Calls.mono (impl_ValidElection m _ _ cs ap _ (HC.out.1.ext ExtC.ext) (HC.out.2.1.ext ExtC.ext) hn hal HC.out.2.2.2) ?_
  rintro e w' ⟨⟨q, rfl, hq⟩, hx⟩; obtain ⟨g, rfl⟩ := hx.grow; clear hx
  have HQ := Lib.hid hq; clear hq
  cases q
  · go_wp2_with fail
    go_ret
    have : b = false := by
      cases b
      · rfl
      · have := HQ.out.2 (HB.out.1 (by trivial)).1; cases this
    subst this
    exact ⟨rfl, ExtC.ext⟩
  · go_wp2_with fail
    refine Calls.mono (impl_isSet _ xs (cs.length : Int) _ (HC.out.2.2.1.ext ExtC.ext) (by omega) (by omega)) ?_
    rintro e w' ⟨⟨r, rfl, hr⟩, hx⟩; obtain ⟨g2, rfl⟩ := hx.grow; clear hx
    have HR := Lib.hid hr; clear hr
    go_wp2_with fail
    go_ret
    have : r = b := by
      rw [Bool.eq_iff_iff, HR.out, HB.out]
      exact ⟨fun h => ⟨HQ.out.1 (by trivial), h⟩, fun h => h.2⟩
    subst this
    exact ⟨rfl, ExtC.ext⟩

set_option maxHeartbeats 1000000 in
theorem impl_cost (m : Int) (cv av sv : Value) (cs : List Int) (ap : List (List Int)) (xs : List Int) (w : World) (hc : RI w cv cs) (hx : RI w sv xs) (hxn : xs.length ≤ 1048576) (hok : PrP m cs ap xs) :
    Calls Try.prog 113 #[.agg #[.int .i64 m, cv, av], sv] w fun e w' => e = .returned (.int .i64 (costTo cs xs xs.length)) ∧ Ext w w' := by
  obtain ⟨cp, cc, rfl, -, hcq⟩ := hc.form
  obtain ⟨sp, sc, rfl, -, hxq⟩ := hx.form
  have hcl := hok.1.2.1
  have HC := Lib.hid hcq
  have HX := Lib.hid hxq
  have HK := Lib.hid hok
  clear hc hx hcq hxq hok
  go_enter Try.func113, Try.ntmps113
  go_wp2_with fail
  go_loopw [5, 10] (fun s i wr => ∃ (k : Nat) (z : Int), k ≤ xs.length ∧ i = .int .i64 k ∧ s = .int .i64 z ∧ 0 ≤ z ∧ z ≤ 60 * k ∧ Ext (w.alloc (.cells #[.int .i64 m, .slice cp cs.length cc, av] 41)) wr ∧ Hid (z = costTo cs xs k)) (fun _ i _ => xs.length - (intOf i).toNat)
  case atStart => exact ⟨0, 0, Nat.zero_le _, rfl, rfl, by omega, by omega, ExtC.ext, Lib.hid (by simp [costTo])⟩
  case round =>
    obtain ⟨k, z, hk, rfl, rfl, hz0, hz1, hx, HZ⟩ := hrel
    obtain ⟨g0, rfl⟩ := hx.grow; clear hx
    by_cases hlt : k < xs.length
    · obtain ⟨sb, so, hsp, isb, hsx⟩ := HX.out (by omega)
      subst hsp
      have d := hsx k hlt
      obtain ⟨cb, co, hcp, icb, hcx⟩ := HC.out (by omega)
      subst hcp
      have hr := (HK.out.2 k hlt).1
      obtain ⟨t, ht⟩ := Int.eq_ofNat_of_zero_le hr.1
      have htl : t < cs.length := by omega
      have dc := hcx t htl
      have hcb := HK.out.1.2.2.2.1 t htl
      have HST := Lib.hid (costTo_succ cs xs k hlt ht htl)
      rw [ht] at d
      obtain ⟨y, hy⟩ : ∃ y, cs[t] = y := ⟨_, rfl⟩
      rw [hy] at dc hcb
      have HY := Lib.hid hy
      have q1 : IntKind.i64.wrap (z + y) = z + y := IntWalk.i64_in _ (by omega)
      clear hsx hcx hr ht hy
      go_wp2_with fail
      go_roundw
      case rel => exact ⟨k + 1, z + y, by omega, by go_num, rfl, by omega, by omega, ExtC.ext, Lib.hid (by rw [HST.out, HY.out, HZ.out])⟩
      case measure => simp [intOf]; omega
    · have e : k = xs.length := by omega
      go_wp2
      go_ret
      exact ⟨ret_int (by rw [HZ.out, e]), ExtC.ext⟩

set_option maxHeartbeats 1000000 in
theorem impl_CostOf' (m : Int) (cv av sv : Value) (cs : List Int) (ap : List (List Int)) (xs : List Int) (w : World) (hc : RI w cv cs) (ha : RowsR intKind w av ap) (hx : RI w sv xs) (hn : cs.length ≤ 1048576) (hal : ap.length ≤ 1048576) (ham : ∀ i (h : i < ap.length), ap[i].length ≤ 1048576) (hxn : xs.length ≤ 1048576) (b : Bool) (hb : prB m cs ap xs = b) (z : Int) (hz : costZ m cs ap xs = z) :
    Calls Try.prog 46 #[.agg #[.int .i64 m, cv, av], sv] w fun e w' => e = .returned (.tuple #[.int .i64 z, .bool b]) ∧ Ext w w' := by
  have H1 := Lib.hid (fun x (hx' : Ext w x) => impl_isProjects m cv av sv cs ap xs x (hc.ext hx') (ha.ext hx') (hx.ext hx') hn hal ham hxn b hb)
  obtain ⟨cp, cc, rfl, -, -⟩ := hc.form
  obtain ⟨pp, pc, rfl, -, -⟩ := ha.form
  obtain ⟨sp, sc, rfl, -, -⟩ := hx.form
  cases b
  · have hno : ¬ PrP m cs ap xs := fun h => by have := (prB_iff hb).2 h; cases this
    have hz0 : z = 0 := by rw [← hz]; unfold costZ; rw [if_neg hno]
    subst hz0
    clear hc ha hx ham hb hz hno
    go_enter Try.func46, Try.ntmps46
    go_wp2_with fail
    refine Calls.mono (H1.out _ ExtC.ext) ?_
    rintro e w' ⟨rfl, hx⟩; obtain ⟨g, rfl⟩ := hx.grow; clear hx
    go_wp2_with fail
    refine bodyPost_ret (v := .tuple #[.int .i64 0, .bool false]) (by simp [results, Try.results46, go_sem]) rfl ⟨rfl, ?_⟩
    exact ExtC.ext
  · have hok := (prB_iff hb).1 rfl
    have hzz : costTo cs xs xs.length = z := by rw [← hz]; unfold costZ; rw [if_pos hok]
    have H2 := Lib.hid (fun x (hx' : Ext w x) => impl_cost m (.slice cp cs.length cc) (.slice pp ap.length pc) (.slice sp xs.length sc) cs ap xs x (hc.ext hx') (hx.ext hx') hxn hok)
    rw [hzz] at H2
    clear hc ha hx ham hb hz hok hzz
    go_enter Try.func46, Try.ntmps46
    go_wp2_with fail
    refine Calls.mono (H1.out _ ExtC.ext) ?_
    rintro e w' ⟨rfl, hx⟩; obtain ⟨g, rfl⟩ := hx.grow; clear hx
    go_wp2_with fail
    refine Calls.mono (H2.out _ ExtC.ext) ?_
    rintro e w' ⟨rfl, hx⟩; obtain ⟨g2, rfl⟩ := hx.grow; clear hx
    go_wp2_with fail
    refine bodyPost_ret (v := .tuple #[.int .i64 z, .bool true]) (by simp [results, Try.results46, go_sem]) rfl ⟨rfl, ?_⟩
    exact ExtC.ext

set_option maxHeartbeats 1000000 in
theorem spec_l05Set (b : Nat) (m : Int) (cv av sv : Value) (cs : List Int) (xs : List Int) (w : World) (hb : BxE b m cv av w) (hc : RI w cv cs) (hx : RI w sv xs) (hn : cs.length ≤ 1048576) (hxn : xs.length ≤ 1048576) :
    Calls Try.prog 110 #[.pointer (some ⟨b, 0, none⟩), sv] w fun e w' => RetB (SetP xs 0 ((cs.length : Int) - 1)) e ∧ Ext w w' := by
  obtain ⟨cp, cc, rfl, -, -⟩ := hc.form
  obtain ⟨sp, sc, rfl, -, -⟩ := hx.form
  have HX := Lib.hid hx
  obtain ⟨ib, b0, b1, b2⟩ := hb
  have z1 : IntKind.i64.wrap ((cs.length : Int) - 1) = (cs.length : Int) - 1 := IntWalk.i64_in _ (by omega)
  clear hc hx
  go_enter Try.func110, Try.ntmps110
  go_wp2_with fail
  refine Calls.mono (spec_l00Rises _ xs 0 ((cs.length : Int) - 1) _ (HX.out.ext ExtC.ext) (by omega)) ?_
  rintro e w' ⟨⟨r, rfl, hr⟩, hx⟩; obtain ⟨g2, rfl⟩ := hx.grow; clear hx
  have HR := Lib.hid hr; clear hr
  go_wp2_with fail
  go_ret
  exact ⟨⟨r, rfl, HR.out⟩, ExtC.ext⟩

set_option maxHeartbeats 2000000 in
set_option maxRecDepth 100000 in
theorem spec_l05Cost (b : Nat) (m : Int) (cv av sv : Value) (cs : List Int) (ap : List (List Int)) (xs : List Int) (w : World) (hb : BxE b m cv av w) (hc : RI w cv cs) (hx : RI w sv xs) (hxn : xs.length ≤ 1048576) (hok : PrP m cs ap xs) :
    Calls Try.prog 111 #[.pointer (some ⟨b, 0, none⟩), sv] w fun e w' => e = .returned (.int .i64 (costTo cs xs xs.length)) ∧ Ext w w' := by
  obtain ⟨cp, cc, rfl, -, hcq⟩ := hc.form
  obtain ⟨sp, sc, rfl, -, hxq⟩ := hx.form
  have hcl := hok.1.2.1
  have HC := Lib.hid hcq
  have HX := Lib.hid hxq
  have HK := Lib.hid hok
  obtain ⟨ib, b0, b1, b2⟩ := hb
  clear hc hx hcq hxq hok
  go_enter Try.func111, Try.ntmps111
  go_wp2_with fail
  go_loopw [5, 6] (fun s i wr => ∃ (k : Nat) (z : Int), k ≤ xs.length ∧ i = .int .i64 k ∧ s = .int .i64 z ∧ 0 ≤ z ∧ z ≤ 60 * k ∧ Ext w wr ∧ Hid (z = costTo cs xs k)) (fun _ i _ => xs.length - (intOf i).toNat)
  case atStart => exact ⟨0, 0, Nat.zero_le _, rfl, rfl, by omega, by omega, ExtC.ext, Lib.hid (by simp [costTo])⟩
  case round =>
    obtain ⟨k, z, hk, rfl, rfl, hz0, hz1, hx, HZ⟩ := hrel
    obtain ⟨g0, rfl⟩ := hx.grow; clear hx
    by_cases hlt : k < xs.length
    · obtain ⟨sb, so, hsp, isb, hsx⟩ := HX.out (by omega)
      subst hsp
      have d := hsx k hlt
      obtain ⟨cb, co, hcp, icb, hcx⟩ := HC.out (by omega)
      subst hcp
      have hr := (HK.out.2 k hlt).1
      obtain ⟨t, ht⟩ := Int.eq_ofNat_of_zero_le hr.1
      have htl : t < cs.length := by omega
      have dc := hcx t htl
      have hcb := HK.out.1.2.2.2.1 t htl
      have HST := Lib.hid (costTo_succ cs xs k hlt ht htl)
      rw [ht] at d
      obtain ⟨y, hy⟩ : ∃ y, cs[t] = y := ⟨_, rfl⟩
      rw [hy] at dc hcb
      have HY := Lib.hid hy
      have q1 : IntKind.i64.wrap (z + y) = z + y := IntWalk.i64_in _ (by omega)
      clear hsx hcx hr ht hy
      go_wp2_with fail
      refine wp_region_tail 12 (by kernel_rfl) (by kernel_rfl) ?_
      simp only [List.take_succ_cons, List.take_zero, List.drop_succ_cons, List.drop_zero]
      repeat (go_big_quiet_step (fail))
      refine wpQuiet_nil ?_
      intro g
      go_wp2_with fail
      go_roundw
      case rel => exact ⟨k + 1, z + y, by omega, by go_num, rfl, by omega, by omega, ExtC.ext, Lib.hid (by rw [HST.out, HY.out, HZ.out])⟩
      case measure => simp [intOf]; omega
    · have e : k = xs.length := by omega
      go_wp2
      go_ret
      exact ⟨ret_int (by rw [HZ.out, e]), ExtC.ext⟩

set_option maxHeartbeats 1000000 in
theorem spec_CostOf' (m : Int) (cv av sv : Value) (cs : List Int) (ap : List (List Int)) (xs : List Int) (w : World) (hc : RI w cv cs) (ha : RowsR intKind w av ap) (hx : RI w sv xs) (hn : cs.length ≤ 1048576) (hal : ap.length ≤ 1048576) (ham : ∀ i (h : i < ap.length), ap[i].length ≤ 1048576) (hxn : xs.length ≤ 1048576) (b : Bool) (hb : prB m cs ap xs = b) (z : Int) (hz : costZ m cs ap xs = z) :
    Calls Try.prog 44 #[.agg #[.int .i64 m, cv, av], sv] w fun e w' => e = .returned (.tuple #[.int .i64 z, .bool b]) ∧ Ext w w' := by
  obtain ⟨cp, cc, rfl, -, -⟩ := hc.form
  obtain ⟨pp, pc, rfl, -, -⟩ := ha.form
  obtain ⟨sp, sc, rfl, -, -⟩ := hx.form
  have HBX := Lib.hid (box_elect w m (.slice cp cs.length cc) (.slice pp ap.length pc) 41)
  have HC := Lib.hid (And.intro hc (And.intro ha (And.intro hx ham)))
  have HB := Lib.hid (And.intro (prB_iff hb) hz)
  clear hc ha hx ham hb hz
  go_enter Try.func44, Try.ntmps44
  go_wp2_with fail
  refine Calls.mono (spec_l05Ok w.heap.size m _ _ cs ap _ (HBX.out.ext ExtC.ext) (HC.out.1.ext ExtC.ext) (HC.out.2.1.ext ExtC.ext) hn hal HC.out.2.2.2) ?_
  rintro e w' ⟨⟨q, rfl, hq⟩, hx⟩; obtain ⟨g, rfl⟩ := hx.grow; clear hx
  have HQ := Lib.hid hq; clear hq
  cases q
  · have hno : ¬ PrP m cs ap xs := fun h => by have := HQ.out.2 h.1; cases this
    have hb0 : b = false := by
      cases b
      · rfl
      · exact absurd (HB.out.1.1 (by trivial)) hno
    have hz0 : z = 0 := by rw [← HB.out.2]; unfold costZ; rw [if_neg hno]
    subst hb0
    subst hz0
    clear hno
    go_wp2_with fail
    refine bodyPost_ret (v := .tuple #[.int .i64 0, .bool false]) (by simp [results, Try.results44, go_sem]) rfl ⟨rfl, ?_⟩
    exact ExtC.ext
  · go_wp2_with fail
    refine Calls.mono (spec_l05Set w.heap.size m _ _ _ cs xs _ (HBX.out.ext ExtC.ext) (HC.out.1.ext ExtC.ext) (HC.out.2.2.1.ext ExtC.ext) hn hxn) ?_
    rintro e w' ⟨⟨r, rfl, hr⟩, hx⟩; obtain ⟨g2, rfl⟩ := hx.grow; clear hx
    have HR := Lib.hid hr; clear hr
    cases r
    · have hno : ¬ PrP m cs ap xs := fun h => by have := HR.out.2 h.2; cases this
      have hb0 : b = false := by
        cases b
        · rfl
        · exact absurd (HB.out.1.1 (by trivial)) hno
      have hz0 : z = 0 := by rw [← HB.out.2]; unfold costZ; rw [if_neg hno]
      subst hb0
      subst hz0
      clear hno
      go_wp2_with fail
      refine bodyPost_ret (v := .tuple #[.int .i64 0, .bool false]) (by simp [results, Try.results44, go_sem]) rfl ⟨rfl, ?_⟩
      exact ExtC.ext
    · have hok : PrP m cs ap xs := ⟨HQ.out.1 (by trivial), HR.out.1 (by trivial)⟩
      have hb0 : b = true := HB.out.1.2 hok
      have hzz : costTo cs xs xs.length = z := by rw [← HB.out.2]; unfold costZ; rw [if_pos hok]
      have HOK := Lib.hid hok
      subst hb0
      have HZZ := Lib.hid hzz
      clear hok hzz
      go_wp2_with fail
      refine Calls.mono (spec_l05Cost w.heap.size m _ _ _ cs ap xs _ (HBX.out.ext ExtC.ext) (HC.out.1.ext ExtC.ext) (HC.out.2.2.1.ext ExtC.ext) hxn HOK.out) ?_
      rintro e w' ⟨rfl, hx⟩; obtain ⟨g3, rfl⟩ := hx.grow; clear hx
      rw [HZZ.out]
      go_wp2_with fail
      refine bodyPost_ret (v := .tuple #[.int .i64 z, .bool true]) (by simp [results, Try.results44, go_sem]) rfl ⟨rfl, ?_⟩
      exact ExtC.ext
end Go.Proofs.Ytbbppkcdgcajjaa
