/- Whether a list is a panel, and its shortfall: both sides. -/
import Derived.Test.YtoedphgoaifojaaShort
namespace Go.Proofs.Ytoedphgoaifojaa
open Go.RowKit

set_option maxHeartbeats 4000000 in
set_option maxRecDepth 100000 in
theorem impl_isSized (pe sz : Int) (qv v : Value) (L : List QD) (xs : List Int) (w : World) (hq : RQ w qv L) (hv : RI w v xs) (hs : ShortQ L) (hxl : xs.length ≤ 1048576) (b : Bool) (hb : b = true ↔ SizedP pe sz L xs) :
    Calls Try.prog 60 #[.agg #[.int .i64 pe, .int .i64 sz, qv], v] w fun e w' => e = .returned (.bool b) ∧ Ext w w' := by
  obtain ⟨p, c, rfl, -⟩ := hq.form
  obtain ⟨vp, vc, rfl, -, -⟩ := hv.form
  have HQ := Lib.hid (And.intro hq (And.intro hv hs))
  have HB := Lib.hid hb
  have HBX := Lib.hid (box_pool w pe sz (.slice p L.length c) 29)
  clear hq hv hs hb
  by_cases k1 : (xs.length : Int) = sz
  · have e1 : ((xs.length : Int) == sz) = true := by simp [k1]
    obtain ⟨q2, hq2⟩ := boolOf (SetP xs 0 (pe - 1))
    have HQ2 := Lib.hid hq2; clear hq2
    go_enter Try.func60, Try.ntmps60
    go_wp2_with fail
    refine Calls.mono (impl_ValidPool pe sz _ L _ (HQ.out.1.ext ExtC.ext) HQ.out.2.2) ?_
    rintro e w' ⟨⟨q, rfl, hq⟩, hx⟩; obtain ⟨g, rfl⟩ := hx.grow; clear hx
    obtain ⟨ib, b0, b1, b2⟩ := HBX.out.ext (ExtC.ext : Ext _ g.fin)
    cases q
    · have hb0 : b = false := by
        cases b
        · rfl
        · exact absurd (hq.2 (HB.out.1 rfl).1) (by simp)
      subst hb0
      clear hq
      go_wp2_with fail
      go_ret
      exact ⟨rfl, ExtC.ext⟩
    · have hok := hq.1 (by trivial)
      have hqb : q2 = b := by rw [Bool.eq_iff_iff, HQ2.out, HB.out]; exact ⟨fun h => ⟨hok, k1, h⟩, fun h => h.2.2⟩
      have hri := fun x (hx : Ext w x) => (impl_isSet (.slice vp xs.length vc) xs pe x (HQ.out.2.1.ext hx) (by omega) (by have := hok.1; omega)).mono fun e w' (h : RetB _ e ∧ Ext x w') => (⟨h.1.toldP HQ2.out, h.2⟩ : e = .returned (.bool q2) ∧ Ext x w')
      rw [hqb] at hri
      clear hq hok hqb
      go_wp2_with (first | (go_at_call 56; (with_reducible refine (hri _ ExtC.ext).mono ?_); rintro e w' ⟨rfl, hx⟩; obtain ⟨g, rfl⟩ := hx.grow; clear hx))
      go_ret
      exact ⟨rfl, ExtC.ext⟩
  · have e1 : ((xs.length : Int) == sz) = false := by simp [k1]
    have hb0 : b = false := by
      cases b
      · rfl
      · exact absurd (HB.out.1 rfl).2.1 k1
    subst hb0
    clear k1
    go_enter Try.func60, Try.ntmps60
    go_wp2_with fail
    refine Calls.mono (impl_ValidPool pe sz _ L _ (HQ.out.1.ext ExtC.ext) HQ.out.2.2) ?_
    rintro e w' ⟨⟨q, rfl, hq⟩, hx⟩; obtain ⟨g, rfl⟩ := hx.grow; clear hx hq
    obtain ⟨ib, b0, b1, b2⟩ := HBX.out.ext (ExtC.ext : Ext _ g.fin)
    cases q
    · go_wp2_with fail
      go_ret
      exact ⟨rfl, ExtC.ext⟩
    · go_wp2_with fail
      go_ret
      exact ⟨rfl, ExtC.ext⟩

set_option maxHeartbeats 4000000 in
set_option maxRecDepth 100000 in
theorem impl_IsPanel' (pe sz : Int) (qv v : Value) (L : List QD) (xs : List Int) (w : World) (hq : RQ w qv L) (hv : RI w v xs) (hs : ShortQ L) (hxl : xs.length ≤ 1048576) (b : Bool) (hb : b = true ↔ PanelP pe sz L xs) :
    Calls Try.prog 21 #[.agg #[.int .i64 pe, .int .i64 sz, qv], v] w fun e w' => e = .returned (.bool b) ∧ Ext w w' := by
  obtain ⟨p, c, rfl, -⟩ := hq.form
  obtain ⟨vp, vc, rfl, -, -⟩ := hv.form
  have HQ := Lib.hid (And.intro hq (And.intro hv hs))
  have HB := Lib.hid hb
  have HBX := Lib.hid (box_pool w pe sz (.slice p L.length c) 29)
  clear hq hv hs hb
  obtain ⟨q1, hq1⟩ := boolOf (SizedP pe sz L xs)
  have HQ1 := Lib.hid hq1; clear hq1
  go_enter Try.func21, Try.ntmps21
  go_wp2_with fail
  refine Calls.mono (impl_isSized pe sz _ _ L xs _ (HQ.out.1.ext ExtC.ext) (HQ.out.2.1.ext ExtC.ext) HQ.out.2.2 hxl q1 HQ1.out) ?_
  rintro e w' ⟨rfl, hx⟩; obtain ⟨g, rfl⟩ := hx.grow; clear hx
  obtain ⟨ib, b0, b1, b2⟩ := HBX.out.ext (ExtC.ext : Ext _ g.fin)
  cases q1
  · have hb0 : b = false := by
      cases b
      · rfl
      · exact absurd (HQ1.out.2 (HB.out.1 rfl).1) (by simp)
    subst hb0
    go_wp2_with fail
    go_ret
    exact ⟨rfl, ExtC.ext⟩
  · have hok := HQ1.out.1 (by trivial)
    obtain ⟨m, hm⟩ : ∃ m, missed L xs = m := ⟨_, rfl⟩
    have hsf := fun x (hx : Ext w x) => impl_shortfall pe sz _ _ L xs x (HQ.out.1.ext hx) (HQ.out.2.1.ext hx) hok.1.cnt (by omega) m hm
    have hbe : b = (m == 0) := by
      rw [Bool.eq_iff_iff, HB.out]; simp only [beq_iff_eq]
      exact ⟨fun h => by rw [← hm]; exact h.2, fun h => ⟨hok, by rw [hm]; exact h⟩⟩
    clear hok hm
    subst hbe
    go_wp2_with (first | (go_at_call 61; (with_reducible refine (hsf _ ExtC.ext).mono ?_); rintro e w' ⟨rfl, hx⟩; obtain ⟨g, rfl⟩ := hx.grow; clear hx))
    go_ret
    exact ⟨rfl, ExtC.ext⟩

open Classical in
noncomputable def shfX (pe sz : Int) (L : List QD) (xs : List Int) : Int := if SizedP pe sz L xs then missed L xs else 0

set_option maxHeartbeats 4000000 in
set_option maxRecDepth 100000 in
theorem impl_ShortfallOf' (pe sz : Int) (qv v : Value) (L : List QD) (xs : List Int) (w : World) (hq : RQ w qv L) (hv : RI w v xs) (hs : ShortQ L) (hxl : xs.length ≤ 1048576) (b : Bool) (hb : b = true ↔ SizedP pe sz L xs) (r : Int) (hr : shfX pe sz L xs = r) :
    Calls Try.prog 24 #[.agg #[.int .i64 pe, .int .i64 sz, qv], v] w fun e w' => e = .returned (.tuple #[.int .i64 r, .bool b]) ∧ Ext w w' := by
  obtain ⟨p, c, rfl, -⟩ := hq.form
  obtain ⟨vp, vc, rfl, -, -⟩ := hv.form
  have HQ := Lib.hid (And.intro hq (And.intro hv hs))
  have HB := Lib.hid (And.intro hb hr)
  have HBX := Lib.hid (box_pool w pe sz (.slice p L.length c) 29)
  clear hq hv hs hb hr
  go_enter Try.func24, Try.ntmps24
  go_wp2_with fail
  refine Calls.mono (impl_isSized pe sz _ _ L xs _ (HQ.out.1.ext ExtC.ext) (HQ.out.2.1.ext ExtC.ext) HQ.out.2.2 hxl b HB.out.1) ?_
  rintro e w' ⟨rfl, hx⟩; obtain ⟨g, rfl⟩ := hx.grow; clear hx
  obtain ⟨ib, b0, b1, b2⟩ := HBX.out.ext (ExtC.ext : Ext _ g.fin)
  cases b
  · have hno : r = 0 := by
      rw [← HB.out.2]; unfold shfX; rw [if_neg (fun h => by have := HB.out.1.2 h; cases this)]
    subst hno
    go_wp2_with fail
    refine bodyPost_ret (v := .tuple #[.int .i64 0, .bool false]) (by simp [results, Try.results24, go_sem]) rfl ⟨rfl, ?_⟩
    exact ExtC.ext
  · have hok := HB.out.1.1 (by trivial)
    have hm : missed L xs = r := by rw [← HB.out.2]; unfold shfX; rw [if_pos hok]
    have hsf := fun x (hx : Ext w x) => impl_shortfall pe sz _ _ L xs x (HQ.out.1.ext hx) (HQ.out.2.1.ext hx) hok.1.cnt (by omega) r hm
    clear hok hm
    go_wp2_with (first | (go_at_call 61; (with_reducible refine (hsf _ ExtC.ext).mono ?_); rintro e w' ⟨rfl, hx⟩; obtain ⟨g, rfl⟩ := hx.grow; clear hx))
    refine bodyPost_ret (v := .tuple #[.int .i64 r, .bool true]) (by simp [results, Try.results24, go_sem]) rfl ⟨rfl, ?_⟩
    exact ExtC.ext

set_option maxHeartbeats 4000000 in
set_option maxRecDepth 100000 in
theorem spec_l04Team (bx : Nat) (pe sz : Int) (qv v : Value) (xs : List Int) (w : World) (hb : BxP bx pe sz qv w) (hv : RI w v xs) (hp : 1 ≤ pe ∧ pe ≤ 7) (hxl : xs.length ≤ 1048576) (b : Bool) (hbb : b = true ↔ TeamP pe sz xs) :
    Calls Try.prog 62 #[.pointer (some ⟨bx, 0, none⟩), v] w fun e w' => e = .returned (.bool b) ∧ Ext w w' := by
  obtain ⟨vp, vc, rfl, -, -⟩ := hv.form
  have HV := Lib.hid hv
  have HB := Lib.hid hbb
  obtain ⟨ib, b0, b1, b2⟩ := hb
  clear hv hbb
  have z1 : IntKind.i64.wrap (pe - 1) = pe - 1 := IntWalk.i64_in _ (by omega)
  by_cases k1 : (xs.length : Int) = sz
  · have e1 : ((xs.length : Int) == sz) = true := by simp [k1]
    have HQ2 : Hid (b = true ↔ SetP xs 0 (pe - 1)) := Lib.hid (by rw [HB.out]; exact ⟨fun h => h.2, fun h => ⟨k1, h⟩⟩)
    have hri := fun x (hx : Ext w x) => (spec_l00Rises (.slice vp xs.length vc) xs 0 (pe - 1) x (HV.out.ext hx) (by omega)).mono fun e w' (h : RetB _ e ∧ Ext x w') => (⟨h.1.toldP HQ2.out, h.2⟩ : e = .returned (.bool b) ∧ Ext x w')
    go_enter Try.func62, Try.ntmps62
    go_wp2_with (first | (go_at_call 92; (with_reducible refine (hri _ ExtC.ext).mono ?_); rintro e w' ⟨rfl, hx⟩; obtain ⟨g, rfl⟩ := hx.grow; clear hx))
    go_ret
    exact ⟨rfl, ExtC.ext⟩
  · have e1 : ((xs.length : Int) == sz) = false := by simp [k1]
    have hb0 : b = false := by
      cases b
      · rfl
      · exact absurd (HB.out.1 rfl).1 k1
    subst hb0
    clear k1
    go_enter Try.func62, Try.ntmps62
    go_wp2_with fail
    go_ret
    exact ⟨rfl, ExtC.ext⟩

set_option maxHeartbeats 4000000 in
set_option maxRecDepth 100000 in
theorem spec_l04Panel (bx : Nat) (pe sz : Int) (qv v : Value) (L : List QD) (xs : List Int) (w : World) (hb : BxP bx pe sz qv w) (hq : RQ w qv L) (hv : RI w v xs) (hok : OkP pe sz L) (hxl : xs.length ≤ 1048576) (b : Bool) (hbb : b = true ↔ PanelP pe sz L xs) :
    Calls Try.prog 59 #[.pointer (some ⟨bx, 0, none⟩), v] w fun e w' => e = .returned (.bool b) ∧ Ext w w' := by
  obtain ⟨vp, vc, rfl, -, -⟩ := hv.form
  have HQ := Lib.hid (And.intro hq (And.intro hv (And.intro hok hb)))
  have HB := Lib.hid hbb
  clear hv hbb hb hq hok
  obtain ⟨q1, hq1⟩ := boolOf (TeamP pe sz xs)
  have HQ1 := Lib.hid hq1; clear hq1
  go_enter Try.func59, Try.ntmps59
  go_wp2_with fail
  refine Calls.mono (spec_l04Team bx pe sz qv _ xs _ (HQ.out.2.2.2.ext ExtC.ext) (HQ.out.2.1.ext ExtC.ext) HQ.out.2.2.1.1 hxl q1 HQ1.out) ?_
  rintro e w' ⟨rfl, hx⟩; obtain ⟨g, rfl⟩ := hx.grow; clear hx
  cases q1
  · have hb0 : b = false := by
      cases b
      · rfl
      · exact absurd (HQ1.out.2 (HB.out.1 rfl).1.2) (by simp)
    subst hb0
    go_wp2_with fail
    go_ret
    exact ⟨rfl, ExtC.ext⟩
  · have hteam := HQ1.out.1 (by trivial)
    obtain ⟨m, hm⟩ : ∃ m, missed L xs = m := ⟨_, rfl⟩
    have hsf := fun x (hx : Ext w x) => spec_l04Missed bx pe sz qv _ L xs x (HQ.out.2.2.2.ext hx) (HQ.out.1.ext hx) (HQ.out.2.1.ext hx) HQ.out.2.2.1.cnt (setP_nodup hteam.2) (by have := hteam.1; have := HQ.out.2.2.1; unfold OkP at this; omega) m hm
    have hbe : b = (m == 0) := by
      rw [Bool.eq_iff_iff, HB.out]; simp only [beq_iff_eq]
      exact ⟨fun h => by rw [← hm]; exact h.2, fun h => ⟨⟨HQ.out.2.2.1, hteam⟩, by rw [hm]; exact h⟩⟩
    clear hteam hm
    subst hbe
    go_wp2_with (first | (go_at_call 63; (with_reducible refine (hsf _ ExtC.ext).mono ?_); rintro e w' ⟨rfl, hx⟩; obtain ⟨g, rfl⟩ := hx.grow; clear hx))
    go_ret
    exact ⟨rfl, ExtC.ext⟩

set_option maxHeartbeats 4000000 in
set_option maxRecDepth 100000 in
theorem spec_IsPanel' (pe sz : Int) (qv v : Value) (L : List QD) (xs : List Int) (w : World) (hq : RQ w qv L) (hv : RI w v xs) (hs : ShortQ L) (hxl : xs.length ≤ 1048576) (b : Bool) (hb : b = true ↔ PanelP pe sz L xs) :
    Calls Try.prog 19 #[.agg #[.int .i64 pe, .int .i64 sz, qv], v] w fun e w' => e = .returned (.bool b) ∧ Ext w w' := by
  obtain ⟨p, c, rfl, -⟩ := hq.form
  obtain ⟨vp, vc, rfl, -, -⟩ := hv.form
  have HQ := Lib.hid (And.intro hq (And.intro hv hs))
  have HB := Lib.hid hb
  have HBX := Lib.hid (box_pool w pe sz (.slice p L.length c) 29)
  clear hq hv hs hb
  go_enter Try.func19, Try.ntmps19
  go_wp2_with fail
  refine Calls.mono (spec_l04Is w.heap.size pe sz _ L _ (HBX.out.ext ExtC.ext) (HQ.out.1.ext ExtC.ext) HQ.out.2.2) ?_
  rintro e w' ⟨⟨q, rfl, hq⟩, hx⟩; obtain ⟨g, rfl⟩ := hx.grow; clear hx
  cases q
  · have hb0 : b = false := by
      cases b
      · rfl
      · exact absurd (hq.2 (HB.out.1 rfl).1.1) (by simp)
    subst hb0
    clear hq
    go_wp2_with fail
    go_ret
    exact ⟨rfl, ExtC.ext⟩
  · have HOK := Lib.hid (hq.1 (by trivial)); clear hq
    go_wp2_with fail
    refine Calls.mono (spec_l04Panel w.heap.size pe sz _ _ L xs _ (HBX.out.ext ExtC.ext) (HQ.out.1.ext ExtC.ext) (HQ.out.2.1.ext ExtC.ext) HOK.out hxl b HB.out) ?_
    rintro e w' ⟨rfl, hx⟩; obtain ⟨g2, rfl⟩ := hx.grow; clear hx
    go_wp2_with fail
    go_ret
    exact ⟨rfl, ExtC.ext⟩

set_option maxHeartbeats 4000000 in
set_option maxRecDepth 100000 in
theorem spec_ShortfallOf' (pe sz : Int) (qv v : Value) (L : List QD) (xs : List Int) (w : World) (hq : RQ w qv L) (hv : RI w v xs) (hs : ShortQ L) (hxl : xs.length ≤ 1048576) (b : Bool) (hb : b = true ↔ SizedP pe sz L xs) (r : Int) (hr : shfX pe sz L xs = r) :
    Calls Try.prog 23 #[.agg #[.int .i64 pe, .int .i64 sz, qv], v] w fun e w' => e = .returned (.tuple #[.int .i64 r, .bool b]) ∧ Ext w w' := by
  obtain ⟨p, c, rfl, -⟩ := hq.form
  obtain ⟨vp, vc, rfl, -, -⟩ := hv.form
  have HQ := Lib.hid (And.intro hq (And.intro hv hs))
  have HB := Lib.hid (And.intro hb hr)
  have HBX := Lib.hid (box_pool w pe sz (.slice p L.length c) 29)
  clear hq hv hs hb hr
  go_enter Try.func23, Try.ntmps23
  go_wp2_with fail
  refine Calls.mono (spec_l04Is w.heap.size pe sz _ L _ (HBX.out.ext ExtC.ext) (HQ.out.1.ext ExtC.ext) HQ.out.2.2) ?_
  rintro e w' ⟨⟨q, rfl, hq⟩, hx⟩; obtain ⟨g, rfl⟩ := hx.grow; clear hx
  cases q
  · have hns : ¬ SizedP pe sz L xs := fun h => by have := hq.2 h.1; cases this
    have hno : r = 0 := by rw [← HB.out.2]; unfold shfX; rw [if_neg hns]
    have hb0 : b = false := by
      cases b
      · rfl
      · exact absurd (HB.out.1.1 rfl) hns
    subst hno
    subst hb0
    clear hq hns
    go_wp2_with fail
    refine bodyPost_ret (v := .tuple #[.int .i64 0, .bool false]) (by simp [results, Try.results23, go_sem]) rfl ⟨rfl, ?_⟩
    exact ExtC.ext
  · have HOK := Lib.hid (hq.1 (by trivial)); clear hq
    have hbt : b = true ↔ TeamP pe sz xs := by rw [HB.out.1]; exact ⟨fun h => h.2, fun h => ⟨HOK.out, h⟩⟩
    have HBT := Lib.hid hbt; clear hbt
    go_wp2_with fail
    refine Calls.mono (spec_l04Team w.heap.size pe sz _ _ xs _ (HBX.out.ext ExtC.ext) (HQ.out.2.1.ext ExtC.ext) HOK.out.1 hxl b HBT.out) ?_
    rintro e w' ⟨rfl, hx⟩; obtain ⟨g2, rfl⟩ := hx.grow; clear hx
    cases b
    · have hno : r = 0 := by
        rw [← HB.out.2]; unfold shfX; rw [if_neg (fun h => by have := HB.out.1.2 h; cases this)]
      subst hno
      go_wp2_with fail
      refine bodyPost_ret (v := .tuple #[.int .i64 0, .bool false]) (by simp [results, Try.results23, go_sem]) rfl ⟨rfl, ?_⟩
      exact ExtC.ext
    · have hteam := HBT.out.1 (by trivial)
      have hm : missed L xs = r := by rw [← HB.out.2]; unfold shfX; rw [if_pos ⟨HOK.out, hteam⟩]
      have hsf := fun x (hx : Ext w x) (hy : Ext (w.alloc (.cells #[.int .i64 pe, .int .i64 sz, .slice p L.length c] 29)) x) => spec_l04Missed w.heap.size pe sz _ _ L xs x (HBX.out.ext hy) (HQ.out.1.ext hx) (HQ.out.2.1.ext hx) HOK.out.cnt (setP_nodup hteam.2) (by have := hteam.1; have := HOK.out; unfold OkP at this; omega) r hm
      clear hteam hm
      go_wp2_with (first | (go_at_call 63; (with_reducible refine (hsf _ ExtC.ext ExtC.ext).mono ?_); rintro e w' ⟨rfl, hx⟩; obtain ⟨g, rfl⟩ := hx.grow; clear hx))
      refine bodyPost_ret (v := .tuple #[.int .i64 r, .bool true]) (by simp [results, Try.results23, go_sem]) rfl ⟨rfl, ?_⟩
      exact ExtC.ext
end Go.Proofs.Ytoedphgoaifojaa
