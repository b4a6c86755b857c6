/- Valid pools: both sides. -/
import Derived.Test.YthcomgnokkndgaaDoorMissed
import Derived.Test.YthcomgnokkndgaaDoorBasic
namespace Go.Proofs.YthcomgnokkndgaaDoor
open Go.RowKit

/-- A box with a pool in it. -/
structure BxP (b : Nat) (pe sz : Int) (qv : Value) (x : World) : Prop where
  inw : InW b x
  c0 : x.cell? ⟨b, 0, none⟩ = some (.int .i64 pe)
  c1 : x.cell? ⟨b, 1, none⟩ = some (.int .i64 sz)
  c2 : x.cell? ⟨b, 2, none⟩ = some qv
theorem BxP.ext {b : Nat} {pe sz : Int} {qv : Value} {x y : World} (h : BxP b pe sz qv x) (hx : Ext x y) : BxP b pe sz qv y :=
  ⟨⟨Nat.lt_of_lt_of_le h.inw.lt hx.size⟩, by rw [Below.cell hx h.inw.lt]; exact h.c0, by rw [Below.cell hx h.inw.lt]; exact h.c1, by rw [Below.cell hx h.inw.lt]; exact h.c2⟩
theorem box_pool (w : World) (pe sz : Int) (qv : Value) (T : TypeId) : BxP w.heap.size pe sz qv (w.alloc (.cells #[.int .i64 pe, .int .i64 sz, qv] T)) :=
  ⟨⟨by simp⟩, by rw [World.cell?_alloc_at _ _ _ _ rfl]; rfl, by rw [World.cell?_alloc_at _ _ _ _ rfl]; rfl, by rw [World.cell?_alloc_at _ _ _ _ rfl]; rfl⟩

theorem RetB.toldP {P : Prop} {e : Ending} {b : Bool} (h : RetB P e) (hb : b = true ↔ P) : e = .returned (.bool b) := by
  obtain ⟨c, rfl, hc⟩ := h
  have : c = b := by rw [Bool.eq_iff_iff, hc, hb]
  rw [this]
theorem boolOf (P : Prop) : ∃ q : Bool, q = true ↔ P := by classical exact ⟨decide P, decide_eq_true_iff⟩

set_option maxHeartbeats 8000000 in
set_option maxRecDepth 100000 in
theorem impl_ValidPool (pe sz : Int) (qv : Value) (L : List QD) (w : World) (hq : RQ w qv L) (hs : ShortQ L) :
    Calls Tryd.prog 55 #[.agg #[.int .i64 pe, .int .i64 sz, qv]] w fun e w' => RetB (OkP pe sz L) e ∧ Ext w w' := by
  obtain ⟨p, c, rfl, hqq⟩ := hq.form
  have HQ := Lib.hid hqq
  have HM := Lib.hid hs.2
  have hl := hs.1
  obtain ⟨m, hm⟩ : ∃ m, IntKind.i64.wrap (pe - 1) = m := ⟨_, rfl⟩
  have HW := Lib.hid hm
  clear hq hqq hs hm
  have HBX := Lib.hid (box_pool w pe sz (.slice p L.length c) 30)
  go_enter Tryd.func55, Tryd.ntmps55
  go_wp2_with fail
  go_loopw [8] (fun i wr => ∃ k : Nat, k ≤ L.length ∧ i = .int .i64 k ∧ Ext w wr ∧ Hid (BxP w.heap.size pe sz (.slice p L.length c) wr) ∧ Hid (∀ j (hj : j < L.length), j < k → OkQ m L[j])) (fun i _ => L.length - (intOf i).toNat)
  case atStart => exact ⟨0, Nat.zero_le _, rfl, ExtC.ext, HBX, Lib.hid fun j _ hj => absurd hj (by omega)⟩
  case round =>
    clear HBX
    obtain ⟨k, hk, rfl, hx, HBX, HI⟩ := hrel
    obtain ⟨g0, rfl⟩ := hx.grow; clear hx
    obtain ⟨ib, b0, b1, b2⟩ := HBX.out
    by_cases hlt : k < L.length
    · obtain ⟨b, off, hp, ibq, hc⟩ := HQ.out (by omega)
      subst hp
      obtain ⟨⟨t, d1, d2⟩, d3, d4⟩ := hc k hlt
      have HT := Lib.hid d2
      have hml := HM.out k hlt
      obtain ⟨tp, tc, rfl, -, -⟩ := d2.form
      clear hc d2
      obtain ⟨⟨mem, lst, mst⟩, hy⟩ : ∃ y, L[k] = y := ⟨_, rfl⟩
      rw [hy] at d1 d3 d4 HT hml
      dsimp only at d1 d3 d4 hml
      have HY := Lib.hid hy; clear hy
      have bad : ¬ OkQ m (mem, lst, mst) → RetB (OkP pe sz L) (.returned (.bool false)) := fun h => RetB.no fun hok => h (by
        have := hok.2.2.2 k hlt
        rw [HY.out, ← IntWalk.i64_in (pe - 1) (by have := hok.1; omega), HW.out] at this
        exact this)
      have HB := Lib.hid bad; clear bad
      by_cases k1 : mem.length = 0
      · have e1 : ((mem.length : Int) == 0) = true := by simp [k1]
        go_wp2_with fail
        go_ret
        exact ⟨HB.out fun h => by have := h.1; simp only at this; omega, ExtC.ext⟩
      have e1 : ((mem.length : Int) == 0) = false := by simp [k1]
      obtain ⟨q, hq⟩ := boolOf (SetP mem 0 m)
      have HQ2 := Lib.hid hq
      have hri := fun x (hx : Ext w x) => (impl_isSetW (.slice tp mem.length tc) mem pe m x (HT.out.ext hx) (by omega) HW.out).mono fun e w' (h : RetB _ e ∧ Ext x w') => (⟨h.1.toldP hq, h.2⟩ : e = .returned (.bool q) ∧ Ext x w')
      clear hq
      cases q
      · go_wp2_with (first | (go_at_call 73; (with_reducible refine (hri _ ExtC.ext).mono ?_); rintro e w' ⟨rfl, hx⟩; obtain ⟨g, rfl⟩ := hx.grow; clear hx))
        go_ret
        exact ⟨HB.out fun h => (by have := HQ2.out.2 h.2.1; cases this), ExtC.ext⟩
      by_cases k2 : lst < 0
      · go_wp2_with (first | (go_at_call 73; (with_reducible refine (hri _ ExtC.ext).mono ?_); rintro e w' ⟨rfl, hx⟩; obtain ⟨g, rfl⟩ := hx.grow; clear hx))
        go_ret
        exact ⟨HB.out fun h => by have := h.2.2.1; simp only at this; omega, ExtC.ext⟩
      by_cases k3 : mst < lst
      · go_wp2_with (first | (go_at_call 73; (with_reducible refine (hri _ ExtC.ext).mono ?_); rintro e w' ⟨rfl, hx⟩; obtain ⟨g, rfl⟩ := hx.grow; clear hx))
        go_ret
        exact ⟨HB.out fun h => by have := h.2.2.2.1; simp only at this; omega, ExtC.ext⟩
      by_cases k4 : 7 < mst
      · go_wp2_with (first | (go_at_call 73; (with_reducible refine (hri _ ExtC.ext).mono ?_); rintro e w' ⟨rfl, hx⟩; obtain ⟨g, rfl⟩ := hx.grow; clear hx))
        go_ret
        exact ⟨HB.out fun h => by have := h.2.2.2.2; simp only at this; omega, ExtC.ext⟩
      go_wp2_with (first | (go_at_call 73; (with_reducible refine (hri _ ExtC.ext).mono ?_); rintro e w' ⟨rfl, hx⟩; obtain ⟨g, rfl⟩ := hx.grow; clear hx))
      go_roundw
      case rel =>
        refine ⟨k + 1, by omega, by go_num, ExtC.ext, Lib.hid (HBX.out.ext ExtC.ext), Lib.hid fun j hj hjk => ?_⟩
        by_cases e : j = k
        · subst e
          rw [HY.out]
          exact ⟨by simp only; omega, HQ2.out.1 (by trivial), by simp only; omega, by simp only; omega, by simp only; omega⟩
        · exact HI.out j hj (by omega)
      case measure => simp [intOf]; omega
    · have hkn : k = L.length := by omega
      have HI2 := Lib.hid (fun j hj => HI.out j hj (by omega) : ∀ j (hj : j < L.length), OkQ m L[j])
      cases q1 : inB pe 1 7
      · have Q := Lib.hid (inB_false.1 q1)
        go_wp2_with (first | (go_at_call 50; (with_reducible refine (impl_within _ _ _ _ (by assumption) _).mono ?_); rintro e w' ⟨rfl, hx⟩; obtain ⟨g, rfl⟩ := hx.grow; clear hx))
        go_ret
        exact ⟨RetB.no fun hok => Q.out hok.1, ExtC.ext⟩
      cases q2 : inB sz 1 pe
      · have Q := Lib.hid (inB_false.1 q2)
        go_wp2_with (first | (go_at_call 50; (with_reducible refine (impl_within _ _ _ _ (by assumption) _).mono ?_); rintro e w' ⟨rfl, hx⟩; obtain ⟨g, rfl⟩ := hx.grow; clear hx))
        go_ret
        exact ⟨RetB.no fun hok => Q.out hok.2.1, ExtC.ext⟩
      have Q1 := Lib.hid (inB_true.1 q1)
      have Q2 := Lib.hid (inB_true.1 q2)
      by_cases k5 : L.length ≤ 6
      · have e5 : decide ((L.length : Int) ≤ 6) = true := by simp; omega
        go_wp2_with (first | (go_at_call 50; (with_reducible refine (impl_within _ _ _ _ (by assumption) _).mono ?_); rintro e w' ⟨rfl, hx⟩; obtain ⟨g, rfl⟩ := hx.grow; clear hx))
        go_ret
        refine ⟨RetB.yes ⟨Q1.out, Q2.out, k5, fun j hj => ?_⟩, ExtC.ext⟩
        have := HI2.out j hj
        rw [← HW.out, IntWalk.i64_in (pe - 1) (by have := Q1.out; omega)] at this
        exact this
      · have e5 : decide ((L.length : Int) ≤ 6) = false := by simp; omega
        go_wp2_with (first | (go_at_call 50; (with_reducible refine (impl_within _ _ _ _ (by assumption) _).mono ?_); rintro e w' ⟨rfl, hx⟩; obtain ⟨g, rfl⟩ := hx.grow; clear hx))
        go_ret
        exact ⟨RetB.no fun hok => k5 hok.2.2.1, ExtC.ext⟩

set_option maxHeartbeats 8000000 in
set_option maxRecDepth 100000 in
theorem spec_l04Is (bx : Nat) (pe sz : Int) (qv : Value) (L : List QD) (w : World) (hb : BxP bx pe sz qv w) (hq : RQ w qv L) (hs : ShortQ L) :
    Calls Tryd.prog 32 #[.pointer (some ⟨bx, 0, none⟩)] w fun e w' => RetB (OkP pe sz L) e ∧ Ext w w' := by
  obtain ⟨p, c, rfl, hqq⟩ := hq.form
  have HQ := Lib.hid hqq
  have HM := Lib.hid hs.2
  have hl := hs.1
  obtain ⟨ib, b0, b1, b2⟩ := hb
  clear hq hqq hs
  cases q1 : inB pe 1 7
  · have Q := Lib.hid (inB_false.1 q1)
    go_enter Tryd.func32, Tryd.ntmps32
    go_wp2_with fail
    refine wp_region_grow (by kernel_rfl) (by kernel_rfl) ?_
    repeat (go_big_quiet_step ((first | (go_at_call 44; with_reducible exact grow_of (spec_l00In _ _ _ _ (by assumption) _)))))
    refine wpQuiet_nil ?_
    intro _ hw'
    obtain ⟨g, hw''⟩ := hw'
    subst hw''
    go_wp2
    go_ret
    exact ⟨RetB.no fun hok => Q.out hok.1, ExtC.ext⟩
  cases q2 : inB sz 1 pe
  · have Q := Lib.hid (inB_false.1 q2)
    go_enter Tryd.func32, Tryd.ntmps32
    go_wp2_with fail
    refine wp_region_grow (by kernel_rfl) (by kernel_rfl) ?_
    repeat (go_big_quiet_step ((first | (go_at_call 44; with_reducible exact grow_of (spec_l00In _ _ _ _ (by assumption) _)))))
    refine wpQuiet_nil ?_
    intro _ hw'
    obtain ⟨g, hw''⟩ := hw'
    subst hw''
    go_wp2
    go_ret
    exact ⟨RetB.no fun hok => Q.out hok.2.1, ExtC.ext⟩
  by_cases k1 : 6 < L.length
  · have e1 : decide ((6 : Int) < L.length) = true := by simp; omega
    go_enter Tryd.func32, Tryd.ntmps32
    go_wp2_with fail
    refine wp_region_grow (by kernel_rfl) (by kernel_rfl) ?_
    repeat (go_big_quiet_step ((first | (go_at_call 44; with_reducible exact grow_of (spec_l00In _ _ _ _ (by assumption) _)))))
    refine wpQuiet_nil ?_
    intro _ hw'
    obtain ⟨g, hw''⟩ := hw'
    subst hw''
    go_wp2
    go_ret
    exact ⟨RetB.no fun hok => (by have := hok.2.2.1; omega), ExtC.ext⟩
  have e1 : decide ((6 : Int) < L.length) = false := by simp; omega
  have Q1 := Lib.hid (inB_true.1 q1)
  have Q2 := Lib.hid (inB_true.1 q2)
  go_enter Tryd.func32, Tryd.ntmps32
  go_wp2_with fail
  refine wp_region_grow (by kernel_rfl) (by kernel_rfl) ?_
  repeat (go_big_quiet_step ((first | (go_at_call 44; with_reducible exact grow_of (spec_l00In _ _ _ _ (by assumption) _)))))
  refine wpQuiet_nil ?_
  intro _ hw'
  obtain ⟨g, hw''⟩ := hw'
  subst hw''
  go_wp2
  clear q1 q2 e1
  have z1 : IntKind.i64.wrap (pe - 1) = pe - 1 := IntWalk.i64_in _ (by have := Q1.out; omega)
  go_loopw [3] (fun i wr => ∃ k : Nat, k ≤ L.length ∧ i = .int .i64 k ∧ Ext w wr ∧ Hid (∀ j (hj : j < L.length), j < k → OkQ (pe - 1) L[j])) (fun i _ => L.length - (intOf i).toNat)
  case atStart => exact ⟨0, Nat.zero_le _, rfl, ExtC.ext, Lib.hid fun j _ hj => absurd hj (by omega)⟩
  case round =>
    obtain ⟨k, hk, rfl, hx, HI⟩ := hrel
    clear g
    obtain ⟨g0, rfl⟩ := hx.grow; clear hx
    by_cases hlt : k < L.length
    · obtain ⟨b, off, hp, ibq, hc⟩ := HQ.out (by omega)
      subst hp
      obtain ⟨⟨t, d1, d2⟩, d3, d4⟩ := hc k hlt
      have HT := Lib.hid d2
      have hml := HM.out k hlt
      obtain ⟨tp, tc, rfl, -, -⟩ := d2.form
      clear hc d2
      obtain ⟨⟨mem, lst, mst⟩, hy⟩ : ∃ y, L[k] = y := ⟨_, rfl⟩
      rw [hy] at d1 d3 d4 HT hml
      dsimp only at d1 d3 d4 hml
      have HY := Lib.hid hy; clear hy
      have bad : ¬ OkQ (pe - 1) (mem, lst, mst) → RetB (OkP pe sz L) (.returned (.bool false)) := fun h => RetB.no fun hok => h (by
        have := hok.2.2.2 k hlt
        rw [HY.out] at this
        exact this)
      have HB := Lib.hid bad; clear bad
      by_cases k1 : mem.length = 0
      · have e1 : ((mem.length : Int) == 0) = true := by simp [k1]
        go_wp2_with fail
        refine wp_region_grow (by kernel_rfl) (by kernel_rfl) ?_
        repeat (go_big_quiet_step ((fail)))
        refine wpQuiet_nil ?_
        intro _ hw'
        obtain ⟨g, hw''⟩ := hw'
        subst hw''
        go_wp2
        go_ret
        exact ⟨HB.out fun h => by have := h.1; simp only at this; omega, ExtC.ext⟩
      have e1 : ((mem.length : Int) == 0) = false := by simp [k1]
      obtain ⟨q, hq⟩ := boolOf (SetP mem 0 (pe - 1))
      have HQ2 := Lib.hid hq
      have hri := fun x (hx : Ext w x) => (spec_l00Rises (.slice tp mem.length tc) mem 0 (pe - 1) x (HT.out.ext hx) (by omega)).mono fun e w' (h : RetB _ e ∧ Ext x w') => (⟨h.1.toldP hq, h.2⟩ : e = .returned (.bool q) ∧ Ext x w')
      clear hq
      cases q
      · go_wp2_with fail
        refine wp_region_grow (by kernel_rfl) (by kernel_rfl) ?_
        repeat (go_big_quiet_step ((first | (go_at_call 54; with_reducible exact grow_of (hri _ ExtC.ext)))))
        refine wpQuiet_nil ?_
        intro _ hw'
        obtain ⟨g, hw''⟩ := hw'
        subst hw''
        go_wp2
        go_ret
        exact ⟨HB.out fun h => (by have := HQ2.out.2 h.2.1; cases this), ExtC.ext⟩
      cases q3 : inB lst 0 mst
      · have Q := Lib.hid (inB_false.1 q3)
        go_wp2_with fail
        refine wp_region_grow (by kernel_rfl) (by kernel_rfl) ?_
        repeat (go_big_quiet_step ((first | (go_at_call 54; with_reducible exact grow_of (hri _ ExtC.ext)) | (go_at_call 44; with_reducible exact grow_of (spec_l00In _ _ _ _ (by assumption) _)))))
        refine wpQuiet_nil ?_
        intro _ hw'
        obtain ⟨g, hw''⟩ := hw'
        subst hw''
        go_wp2
        go_ret
        exact ⟨HB.out fun h => by have h1 := h.2.2.1; have h2 := h.2.2.2.1; exact Q.out ⟨h1, h2⟩, ExtC.ext⟩
      have Q3 := Lib.hid (inB_true.1 q3)
      by_cases k4 : 7 < mst
      · have e4 : decide ((7 : Int) < mst) = true := by simp; omega
        go_wp2_with fail
        refine wp_region_grow (by kernel_rfl) (by kernel_rfl) ?_
        repeat (go_big_quiet_step ((first | (go_at_call 54; with_reducible exact grow_of (hri _ ExtC.ext)) | (go_at_call 44; with_reducible exact grow_of (spec_l00In _ _ _ _ (by assumption) _)))))
        refine wpQuiet_nil ?_
        intro _ hw'
        obtain ⟨g, hw''⟩ := hw'
        subst hw''
        go_wp2
        go_ret
        exact ⟨HB.out fun h => by have := h.2.2.2.2; simp only at this; omega, ExtC.ext⟩
      have e4 : decide ((7 : Int) < mst) = false := by simp; omega
      go_wp2_with fail
      refine wp_region_grow (by kernel_rfl) (by kernel_rfl) ?_
      repeat (go_big_quiet_step ((first | (go_at_call 54; with_reducible exact grow_of (hri _ ExtC.ext)) | (go_at_call 44; with_reducible exact grow_of (spec_l00In _ _ _ _ (by assumption) _)))))
      refine wpQuiet_nil ?_
      intro _ hw'
      obtain ⟨g, hw''⟩ := hw'
      subst hw''
      go_wp2
      go_roundw
      case rel =>
        refine ⟨k + 1, by omega, by go_num, ExtC.ext, Lib.hid fun j hj hjk => ?_⟩
        by_cases e : j = k
        · subst e
          rw [HY.out]
          exact ⟨by simp only; omega, HQ2.out.1 (by trivial), Q3.out.1, Q3.out.2, by simp only; omega⟩
        · exact HI.out j hj (by omega)
      case measure => simp [intOf]; omega
    · have hkn : k = L.length := by omega
      go_wp2
      go_ret
      exact ⟨RetB.yes ⟨Q1.out, Q2.out, by omega, fun j hj => HI.out j hj (by omega)⟩, ExtC.ext⟩

end Go.Proofs.YthcomgnokkndgaaDoor
