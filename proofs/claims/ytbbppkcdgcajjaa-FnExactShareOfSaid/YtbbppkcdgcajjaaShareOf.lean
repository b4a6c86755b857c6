/- The share of each voter: ShareOf on both sides. -/
import Derived.Test.YtbbppkcdgcajjaaElectOk
import Derived.Test.YtbbppkcdgcajjaaFrac2
import Derived.Test.YtbbppkcdgcajjaaBox
namespace Go.Proofs.Ytbbppkcdgcajjaa
open Go.RowKit

set_option maxRecDepth 100000 in
theorem okF_small0 : ∀ a, a < 61 → ∀ b, b < 7 → 1 ≤ b → okF (redN (a : Nat) (b : Nat)) (redD (a : Nat) (b : Nat)) = true := by decide +kernel
theorem okF_small {m n : Int} (h0 : 0 ≤ m) (h1 : m ≤ 60) (h2 : 1 ≤ n) (h3 : n ≤ 6) : okF (redN m n) (redD m n) = true := by
  obtain ⟨a, rfl⟩ := Int.eq_ofNat_of_zero_le h0
  obtain ⟨b, rfl⟩ := Int.eq_ofNat_of_zero_le (show 0 ≤ n by omega)
  exact okF_small0 a (by omega) b (by omega) (by omega)
open Classical in
noncomputable def shN (m : Int) (cs : List Int) (ap : List (List Int)) : Int := if OkE m cs ap then redN m ap.length else 0
open Classical in
noncomputable def shD (m : Int) (cs : List Int) (ap : List (List Int)) : Int := if OkE m cs ap then redD m ap.length else 0
theorem sh_yes {m : Int} {cs : List Int} {ap : List (List Int)} (h : OkE m cs ap) : shN m cs ap = redN m ap.length ∧ shD m cs ap = redD m ap.length := by
  unfold shN shD; rw [if_pos h, if_pos h]; exact ⟨rfl, rfl⟩
theorem sh_no {m : Int} {cs : List Int} {ap : List (List Int)} (h : ¬ OkE m cs ap) : shN m cs ap = 0 ∧ shD m cs ap = 0 := by
  unfold shN shD; rw [if_neg h, if_neg h]; exact ⟨rfl, rfl⟩

set_option maxHeartbeats 1000000 in
theorem impl_share (m : Int) (cv av : Value) (ap : List (List Int)) (w : World) (ha : RowsR intKind w av ap) (h0 : 0 ≤ m) (h1 : m ≤ 60) (h2 : 1 ≤ ap.length) (h3 : ap.length ≤ 6) (x y : Int) (hx : redN m ap.length = x) (hy : redD m ap.length = y) :
    Calls Try.prog 127 #[.agg #[.int .i64 m, cv, av]] w fun e w' => e = .returned (.agg #[.int .i64 x, .int .i64 y]) ∧ Ext w w' := by
  obtain ⟨pp, pc, rfl, -, -⟩ := ha.form
  have HF := fun z => impl_fraction m (ap.length : Int) (by omega) (by omega) (by omega) (by omega) z
  rw [hx, hy] at HF
  clear ha hx hy
  go_enter Try.func127, Try.ntmps127
  go_wp2_with (first | (go_at_call 169; (with_reducible refine (HF _).mono ?_); rintro e w' ⟨rfl, hx⟩; obtain ⟨g, rfl⟩ := hx.grow; clear hx))
  refine bodyPost_ret (v := .agg #[.int .i64 x, .int .i64 y]) (by simp [results, Try.results127, go_sem]) rfl ⟨rfl, ?_⟩
  exact ExtC.ext

set_option maxHeartbeats 1000000 in
set_option maxRecDepth 100000 in
theorem spec_l05Share (b : Nat) (m : Int) (cv av : Value) (ap : List (List Int)) (w : World) (hb : BxE b m cv av w) (ha : RowsR intKind w av ap) (h0 : 0 ≤ m) (h1 : m ≤ 60) (h2 : 1 ≤ ap.length) (h3 : ap.length ≤ 6) (fn fd : Int) (hx : redN m ap.length = fn) (hy : redD m ap.length = fd) :
    Calls Try.prog 126 #[.pointer (some ⟨b, 0, none⟩)] w fun e w' => e = .returned (.agg #[.int .i64 fn, .int .i64 fd]) ∧ Ext w w' := by
  obtain ⟨pp, pc, rfl, -, -⟩ := ha.form
  have HF := fun z => spec_l01Make_pos m (ap.length : Int) (by omega) (by omega) (by omega) (by omega) z
  have hk := okF_small h0 h1 (show (1 : Int) ≤ ap.length by omega) (by omega)
  simp only [hk, keepI, if_true] at HF
  rw [hx, hy] at HF
  obtain ⟨ib, b0, b1, b2⟩ := hb
  clear ha hx hy hk
  go_enter Try.func126, Try.ntmps126
  go_wp2_with fail
  refine wp_region_box (V := .agg #[.int .i64 fn, .int .i64 fd]) 13 (.cells #[.int .i64 0, .int .i64 0] 61) (fun x b => ((x.setCell ⟨b, 0, none⟩ (.int .i64 fn)).setCell ⟨b, 1, none⟩ (.int .i64 fd))) (by kernel_rfl) (by kernel_rfl) rfl rfl (by intro a x; go_simp; rfl) rfl rfl rfl rfl ?hst (fun _ _ => ExtC.ext) ?_
  case hst => intro ev g0 g1 e1 e2; simp only [ptrTo] at e2; simp [go_sem, e1, e2]
  simp only [List.take_succ_cons, List.take_zero, List.drop_succ_cons, List.drop_zero]
  repeat (refine wpQuietE_step (fun K hK => ?_); go_simp; first | (refine hK _ ?_; clear hK K) | (apply Exists.intro; refine ⟨fun _ => ?_, hK _ ?_⟩; (first | (go_at_call 168; exact growE_of (HF _); clear hK K))))
  refine wpQuietE_nil ?_
  intro b; refine ⟨rfl, rfl, ?_⟩; intro g0 g1 g hb; subst hb
  simp only [Act.put, ptrTo]
  go_wp2_with fail
  refine bodyPost_ret (v := .agg #[.int .i64 fn, .int .i64 fd]) (by simp [results, Try.results126, go_sem]) rfl ⟨rfl, ?_⟩
  exact ExtC.ext

set_option maxHeartbeats 1000000 in
theorem impl_ShareOf' (m : Int) (cv av : Value) (cs : List Int) (ap : List (List Int)) (w : World) (hc : RI w cv cs) (ha : RowsR intKind w av ap) (hn : cs.length ≤ 1048576) (hal : ap.length ≤ 1048576) (ham : ∀ i (h : i < ap.length), ap[i].length ≤ 1048576) (b : Bool) (hb : okEB m cs ap = b) (x y : Int) (hx : shN m cs ap = x) (hy : shD m cs ap = y) :
    Calls Try.prog 57 #[.agg #[.int .i64 m, cv, av]] w fun e w' => e = .returned (.tuple #[.agg #[.int .i64 x, .int .i64 y], .bool b]) ∧ Ext w w' := by
  have H1 := Lib.hid (fun z (hz : Ext w z) => (impl_ValidElection m cv av cs ap z (hc.ext hz) (ha.ext hz) hn hal ham).mono fun e w' (h : RetB (OkE m cs ap) e ∧ Ext z w') => (⟨h.1.told' (okEB_iff hb), h.2⟩ : e = .returned (.bool b) ∧ Ext z w'))
  obtain ⟨cp, cc, rfl, -, -⟩ := hc.form
  obtain ⟨pp, pc, rfl, -, -⟩ := ha.form
  cases b
  · have hno : ¬ OkE m cs ap := fun h => by have := (okEB_iff hb).2 h; cases this
    obtain ⟨e1, e2⟩ := sh_no hno
    rw [hx] at e1
    rw [hy] at e2
    subst e1
    subst e2
    clear hc ha ham hb hx hy hno
    go_enter Try.func57, Try.ntmps57
    go_wp2_with fail
    refine Calls.mono (H1.out _ ExtC.ext) ?_
    rintro e w' ⟨rfl, hx⟩; obtain ⟨g, rfl⟩ := hx.grow; clear hx
    go_wp2_with fail
    refine bodyPost_ret (v := .tuple #[.agg #[.int .i64 0, .int .i64 0], .bool false]) (by simp [results, Try.results57, go_sem]) rfl ⟨rfl, ?_⟩
    exact ExtC.ext
  · have hok := (okEB_iff hb).1 rfl
    obtain ⟨e1, e2⟩ := sh_yes hok
    rw [hx] at e1
    rw [hy] at e2
    have H2 := Lib.hid (fun z (hz : Ext w z) => impl_share m (.slice cp cs.length cc) (.slice pp ap.length pc) ap z (ha.ext hz) hok.1.1 hok.1.2 hok.2.2.1.1 hok.2.2.1.2 x y e1.symm e2.symm)
    clear hc ha ham hb hx hy hok e1 e2
    go_enter Try.func57, Try.ntmps57
    go_wp2_with fail
    refine Calls.mono (H1.out _ ExtC.ext) ?_
    rintro e w' ⟨rfl, hx⟩; obtain ⟨g, rfl⟩ := hx.grow; clear hx
    go_wp2_with fail
    refine Calls.mono (H2.out _ ExtC.ext) ?_
    rintro e w' ⟨rfl, hx⟩; obtain ⟨g2, rfl⟩ := hx.grow; clear hx
    go_wp2_with fail
    refine bodyPost_ret (v := .tuple #[.agg #[.int .i64 x, .int .i64 y], .bool true]) (by simp [results, Try.results57, go_sem]) rfl ⟨rfl, ?_⟩
    exact ExtC.ext

set_option maxHeartbeats 1000000 in
theorem spec_ShareOf' (m : Int) (cv av : Value) (cs : List Int) (ap : List (List Int)) (w : World) (hc : RI w cv cs) (ha : RowsR intKind w av ap) (hn : cs.length ≤ 1048576) (hal : ap.length ≤ 1048576) (ham : ∀ i (h : i < ap.length), ap[i].length ≤ 1048576) (b : Bool) (hb : okEB m cs ap = b) (x y : Int) (hx : shN m cs ap = x) (hy : shD m cs ap = y) :
    Calls Try.prog 56 #[.agg #[.int .i64 m, cv, av]] w fun e w' => e = .returned (.tuple #[.agg #[.int .i64 x, .int .i64 y], .bool b]) ∧ Ext w w' := by
  obtain ⟨cp, cc, rfl, -, -⟩ := hc.form
  obtain ⟨pp, pc, rfl, -, -⟩ := ha.form
  have HBX := Lib.hid (box_elect w m (.slice cp cs.length cc) (.slice pp ap.length pc) 41)
  have HC := Lib.hid (And.intro hc (And.intro ha ham))
  have HB := Lib.hid (And.intro (okEB_iff hb) (And.intro hx hy))
  clear hc ha ham hb hx hy
  go_enter Try.func56, Try.ntmps56
  go_wp2_with fail
  refine Calls.mono (spec_l05Ok w.heap.size m _ _ cs ap _ (HBX.out.ext ExtC.ext) (HC.out.1.ext ExtC.ext) (HC.out.2.1.ext ExtC.ext) hn hal HC.out.2.2) ?_
  rintro e w' ⟨⟨q, rfl, hq⟩, hx⟩; obtain ⟨g, rfl⟩ := hx.grow; clear hx
  have hqb : q = b := by rw [Bool.eq_iff_iff, hq, HB.out.1]
  subst hqb
  have HQ := Lib.hid hq; clear hq
  cases q
  · have hno : ¬ OkE m cs ap := fun h => by have := HQ.out.2 h; cases this
    obtain ⟨e1, e2⟩ := sh_no hno
    rw [HB.out.2.1] at e1
    rw [HB.out.2.2] at e2
    subst e1
    subst e2
    clear hno
    go_wp2_with fail
    refine bodyPost_ret (v := .tuple #[.agg #[.int .i64 0, .int .i64 0], .bool false]) (by simp [results, Try.results56, go_sem]) rfl ⟨rfl, ?_⟩
    exact ExtC.ext
  · have hok : OkE m cs ap := HQ.out.1 (by trivial)
    obtain ⟨e1, e2⟩ := sh_yes hok
    rw [HB.out.2.1] at e1
    rw [HB.out.2.2] at e2
    have HOK := Lib.hid (And.intro hok (And.intro e1.symm e2.symm))
    clear hok e1 e2
    go_wp2_with fail
    refine Calls.mono (spec_l05Share w.heap.size m _ _ ap _ (HBX.out.ext ExtC.ext) (HC.out.2.1.ext ExtC.ext) HOK.out.1.1.1 HOK.out.1.1.2 HOK.out.1.2.2.1.1 HOK.out.1.2.2.1.2 x y HOK.out.2.1 HOK.out.2.2) ?_
    rintro e w' ⟨rfl, hx⟩; obtain ⟨g2, rfl⟩ := hx.grow; clear hx
    go_wp2_with fail
    refine bodyPost_ret (v := .tuple #[.agg #[.int .i64 x, .int .i64 y], .bool true]) (by simp [results, Try.results56, go_sem]) rfl ⟨rfl, ?_⟩
    exact ExtC.ext
end Go.Proofs.Ytbbppkcdgcajjaa
