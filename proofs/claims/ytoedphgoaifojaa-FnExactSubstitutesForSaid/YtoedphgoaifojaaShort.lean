/- The shortfall of a set on both sides; whether a list is a set of as many people as a panel has. -/
import Derived.Test.YtoedphgoaifojaaPoolOk
import Derived.Test.YtoedphgoaifojaaLib
import Derived.Test.YtoedphgoaifojaaFrac
namespace Go.Proofs.Ytoedphgoaifojaa
open Go.RowKit

/-- A box of three cells. -/
structure Bx3 (b : Nat) (u0 u1 u2 : Value) (x : World) : Prop where
  inw : InW b x
  c0 : x.cell? ⟨b, 0, none⟩ = some u0
  c1 : x.cell? ⟨b, 1, none⟩ = some u1
  c2 : x.cell? ⟨b, 2, none⟩ = some u2
theorem Bx3.ext {b : Nat} {u0 u1 u2 : Value} {x y : World} (h : Bx3 b u0 u1 u2 x) (hx : Ext x y) : Bx3 b u0 u1 u2 y :=
  ⟨⟨Nat.lt_of_lt_of_le h.inw.lt hx.size⟩, by rw [Below.cell hx h.inw.lt]; exact h.c0, by rw [Below.cell hx h.inw.lt]; exact h.c1, by rw [Below.cell hx h.inw.lt]; exact h.c2⟩

theorem box3 (x : World) (u0 u1 u2 : Value) (T : TypeId) : Bx3 x.heap.size u0 u1 u2 (x.alloc (.cells #[u0, u1, u2] T)) :=
  ⟨⟨by simp⟩, by rw [World.cell?_alloc_at _ _ _ _ rfl]; rfl, by rw [World.cell?_alloc_at _ _ _ _ rfl]; rfl, by rw [World.cell?_alloc_at _ _ _ _ rfl]; rfl⟩

def TeamP (pe sz : Int) (xs : List Int) : Prop := (xs.length : Int) = sz ∧ SetP xs 0 (pe - 1)
def SizedP (pe sz : Int) (L : List QD) (xs : List Int) : Prop := OkP pe sz L ∧ TeamP pe sz xs
def PanelP (pe sz : Int) (L : List QD) (xs : List Int) : Prop := SizedP pe sz L xs ∧ missed L xs = 0

set_option maxHeartbeats 4000000 in
set_option maxRecDepth 100000 in
theorem impl_shortfall (pe sz : Int) (qv v : Value) (L : List QD) (xs : List Int) (w : World) (hq : RQ w qv L) (hv : RI w v xs) (hs : CntQ L) (hxl : xs.length ≤ 1152921504606846976) (r : Int) (hr : missed L xs = r) :
    Calls Try.prog 61 #[.agg #[.int .i64 pe, .int .i64 sz, qv], v] w fun e w' => e = .returned (.int .i64 r) ∧ Ext w w' := by
  obtain ⟨p, c, rfl, hqq⟩ := hq.form
  have HQ := Lib.hid hqq
  have HV := Lib.hid hv
  have HS := Lib.hid hs
  have HR := Lib.hid hr
  have hl := hs.1
  obtain ⟨vp, vc, rfl, -, -⟩ := hv.form
  clear hq hqq hs hv hr
  go_enter Try.func61, Try.ntmps61
  go_wp2_with fail
  go_loopw [5, 14] (fun s i wr => ∃ (k : Nat) (z : Int), k ≤ L.length ∧ i = .int .i64 k ∧ s = .int .i64 z ∧ 0 ≤ z ∧ z ≤ 7 * k ∧ Ext w wr ∧ Hid (z = missed (L.take k) xs)) (fun _ i _ => L.length - (intOf i).toNat)
  case atStart => exact ⟨0, 0, Nat.zero_le _, rfl, rfl, by omega, by omega, ExtC.ext, Lib.hid (by simp [missed])⟩
  case round =>
    obtain ⟨k, z, hk, rfl, rfl, hz0, hz1, hx, HZ⟩ := hrel
    obtain ⟨g0, rfl⟩ := hx.grow; clear hx
    by_cases hlt : k < L.length
    · obtain ⟨b, off, hp, ibq, hc⟩ := HQ.out (by omega)
      subst hp
      obtain ⟨⟨t, d1, d2⟩, d3, d4⟩ := hc k hlt
      have HT := Lib.hid d2
      obtain ⟨tp, tc, rfl, -, hct⟩ := d2.form
      clear hc d2
      have bq := HS.out.2 k hlt
      have hstep := missed_take L xs k hlt
      rw [← HZ.out] at hstep
      obtain ⟨⟨mem, lst, mst⟩, hy⟩ : ∃ y, L[k] = y := ⟨_, rfl⟩
      rw [hy] at d1 d3 d4 HT hct bq hstep
      dsimp only at d1 d3 d4 hct bq hstep
      have HST := Lib.hid hstep
      have HBQ := Lib.hid bq
      have hml : mem.length ≤ 7 := bq.1
      have HCT := Lib.hid hct
      clear hct bq hstep hy
      go_wp2_with fail
      have HBX := Lib.hid (box3 g0.fin (.slice tp mem.length tc) (.int .i64 lst) (.int .i64 mst) 72)
      go_loopw [8, 21] (fun s i wr => ∃ (j n : Nat), j ≤ mem.length ∧ i = .int .i64 j ∧ s = .int .i64 n ∧ n ≤ j ∧ Ext g0.fin wr ∧ Hid (Bx3 g0.fin.heap.size (.slice tp mem.length tc) (.int .i64 lst) (.int .i64 mst) wr) ∧ Hid (n = cntI xs (mem.take j))) (fun _ i _ => mem.length - (intOf i).toNat)
      case atStart => exact ⟨0, 0, Nat.zero_le _, rfl, rfl, Nat.le_refl _, ExtC.ext, HBX, Lib.hid (by simp [cntI])⟩
      case round =>
        clear HBX
        obtain ⟨j, n, hj, rfl, rfl, hn, hx, HBX, HN⟩ := hrel
        obtain ⟨g1, rfl⟩ := hx.grow; clear hx
        obtain ⟨ib, b0, b1, b2⟩ := HBX.out
        by_cases hjl : j < mem.length
        · obtain ⟨mb, mo, hp, ibm, hcm⟩ := HCT.out (by omega)
          subst hp
          have d := hcm j hjl
          clear hcm
          have hstep := cntI_take xs mem j hjl
          rw [← HN.out] at hstep
          obtain ⟨y, hy⟩ : ∃ y, mem[j] = y := ⟨_, rfl⟩
          rw [hy] at d hstep
          cases q : decide (y ∈ xs)
          · rw [q] at hstep
            have HL := Lib.hid hstep; clear hstep hy
            go_wp2_with (first | (go_at_call 77; (with_reducible refine (slices_Contains _ xs _ _ (by assumption) _ (HV.out.ext ExtC.ext) hxl).mono ?_); rintro e w' ⟨rfl, hx⟩; obtain ⟨g, rfl⟩ := hx.grow; clear hx))
            go_roundw
            case rel => exact ⟨j + 1, n, by omega, by go_num, rfl, by omega, ExtC.ext, Lib.hid (HBX.out.ext ExtC.ext), Lib.hid (by rw [HL.out]; simp)⟩
            case measure => simp [intOf]; omega
          · rw [q] at hstep
            have HL := Lib.hid hstep; clear hstep hy
            go_wp2_with (first | (go_at_call 77; (with_reducible refine (slices_Contains _ xs _ _ (by assumption) _ (HV.out.ext ExtC.ext) hxl).mono ?_); rintro e w' ⟨rfl, hx⟩; obtain ⟨g, rfl⟩ := hx.grow; clear hx))
            go_roundw
            case rel => exact ⟨j + 1, n + 1, by omega, by go_num, by go_num, by omega, ExtC.ext, Lib.hid (HBX.out.ext ExtC.ext), Lib.hid (by rw [HL.out]; simp)⟩
            case measure => simp [intOf]; omega
        · have hjn : j = mem.length := by omega
          have e1 := HN.out
          rw [hjn, List.take_length] at e1
          have hst := HST.out
          rw [← e1] at hst
          have hbq := HBQ.out
          have hb := missQ_bound (n := (n : Int)) (q := (mem, lst, mst)) (by omega) (by omega) hbq.2.2.1 hbq.2.2.2.2 hbq.2.2.2.1
          unfold missQ at hst hb
          dsimp only at hst hb
          have HST2 := Lib.hid hst
          have HB2 := Lib.hid hb
          have z1 : IntKind.i64.wrap (lst - n) = lst - n := IntWalk.i64_in _ (by have := hbq.2.2; omega)
          have z2 : IntKind.i64.wrap (n - mst) = n - mst := IntWalk.i64_in _ (by have := hbq.2.2; omega)
          have z3 : IntKind.i64.wrap (z + max (max (lst - n) (n - mst)) 0) = z + max (max (lst - n) (n - mst)) 0 := IntWalk.i64_in _ (by omega)
          clear hst hb e1 hbq
          go_wp2
          have e : (if (if lst - (n : Int) < (n : Int) - mst then (n : Int) - mst else lst - (n : Int)) < 0 then 0 else if lst - (n : Int) < (n : Int) - mst then (n : Int) - mst else lst - (n : Int)) = max (max (lst - n) (n - mst)) 0 := by split <;> split <;> omega
          rw [e]
          refine ⟨⟨k + 1, z + max (max (lst - n) (n - mst)) 0, by omega, by go_num, congrArg (Value.int .i64) (by unfold wrap64; have := HB2.out; omega), by have := HB2.out; omega, by have := HB2.out; omega, ExtC.ext, Lib.hid HST2.out.symm⟩, by simp [intOf]; omega⟩
    · have hkn : k = L.length := by omega
      go_wp2
      go_ret
      have := HZ.out
      rw [hkn, List.take_length, HR.out] at this
      exact ⟨ret_int this, ExtC.ext⟩

set_option maxHeartbeats 4000000 in
set_option maxRecDepth 100000 in
theorem spec_l04Missed (bx : Nat) (pe sz : Int) (qv v : Value) (L : List QD) (xs : List Int) (w : World) (hb : BxP bx pe sz qv w) (hq : RQ w qv L) (hv : RI w v xs) (hs : CntQ L) (hnd : xs.Nodup) (hxl : xs.length ≤ 7) (r : Int) (hr : missed L xs = r) :
    Calls Try.prog 63 #[.pointer (some ⟨bx, 0, none⟩), v] w fun e w' => e = .returned (.int .i64 r) ∧ Ext w w' := by
  obtain ⟨p, c, rfl, hqq⟩ := hq.form
  have HQ := Lib.hid hqq
  have HS := Lib.hid hs
  have HR := Lib.hid hr
  have hl := hs.1
  have HND := Lib.hid hnd
  obtain ⟨ib, b0, b1, b2⟩ := hb
  obtain ⟨vp, vc, rfl, -, hvc⟩ := hv.form
  have HV := Lib.hid hvc
  clear hq hqq hs hv hr hvc hnd
  go_enter Try.func63, Try.ntmps63
  go_wp2_with fail
  go_loopw [5, 6] (fun s i wr => ∃ (k : Nat) (z : Int), k ≤ L.length ∧ i = .int .i64 k ∧ s = .int .i64 z ∧ 0 ≤ z ∧ z ≤ 7 * k ∧ Ext w wr ∧ Hid (z = missed (L.take k) xs)) (fun _ i _ => L.length - (intOf i).toNat)
  case atStart => exact ⟨0, 0, Nat.zero_le _, rfl, rfl, by omega, by omega, ExtC.ext, Lib.hid (by simp [missed])⟩
  case round =>
    obtain ⟨k, z, hk, rfl, rfl, hz0, hz1, hx, HZ⟩ := hrel
    obtain ⟨g0, rfl⟩ := hx.grow; clear hx
    by_cases hlt : k < L.length
    · obtain ⟨b, off, hp, ibq, hc⟩ := HQ.out (by omega)
      subst hp
      obtain ⟨⟨t, d1, d2⟩, d3, d4⟩ := hc k hlt
      have HT := Lib.hid d2
      obtain ⟨tp, tc, rfl, -, -⟩ := d2.form
      clear hc d2
      have bq := HS.out.2 k hlt
      have hstep := missed_take L xs k hlt
      rw [← HZ.out] at hstep
      obtain ⟨⟨mem, lst, mst⟩, hy⟩ : ∃ y, L[k] = y := ⟨_, rfl⟩
      rw [hy] at d1 d3 d4 HT bq hstep
      dsimp only at d1 d3 d4 bq hstep
      have HST := Lib.hid hstep
      have HBQ := Lib.hid bq
      have hml : mem.length ≤ 7 := bq.1
      clear bq hstep hy
      go_wp2_with fail
      go_loopw [8, 9] (fun s i wr => ∃ (j n : Nat), j ≤ xs.length ∧ i = .int .i64 j ∧ s = .int .i64 n ∧ n ≤ j ∧ Ext g0.fin wr ∧ Hid (n = cntI mem (xs.take j))) (fun _ i _ => xs.length - (intOf i).toNat)
      case atStart => exact ⟨0, 0, Nat.zero_le _, rfl, rfl, Nat.le_refl _, ExtC.ext, Lib.hid (by simp [cntI])⟩
      case round =>
        obtain ⟨j, n, hj, rfl, rfl, hn, hx, HN⟩ := hrel
        obtain ⟨g1, rfl⟩ := hx.grow; clear hx
        by_cases hjl : j < xs.length
        · obtain ⟨mb, mo, hp, ibm, hcm⟩ := HV.out (by omega)
          subst hp
          have d := hcm j hjl
          clear hcm
          have hstep := cntI_take mem xs j hjl
          rw [← HN.out] at hstep
          obtain ⟨y, hy⟩ : ∃ y, xs[j] = y := ⟨_, rfl⟩
          rw [hy] at d hstep
          cases q : decide (y ∈ mem)
          · rw [q] at hstep
            have HL := Lib.hid hstep; clear hstep hy
            go_wp2_with fail
            refine wp_region_grow (by kernel_rfl) (by kernel_rfl) ?_
            repeat (go_big_quiet_step ((first | (go_at_call 72; with_reducible exact grow_of (spec_l00Has _ mem _ _ (by assumption) _ (HT.out.ext ExtC.ext) (by omega))))))
            refine wpQuiet_nil ?_
            intro _ hw'
            obtain ⟨g, hw''⟩ := hw'
            subst hw''
            go_wp2
            go_roundw
            case rel => exact ⟨j + 1, n, by omega, by go_num, rfl, by omega, ExtC.ext, Lib.hid (by rw [HL.out]; simp)⟩
            case measure => simp [intOf]; omega
          · rw [q] at hstep
            have HL := Lib.hid hstep; clear hstep hy
            go_wp2_with fail
            refine wp_region_grow (by kernel_rfl) (by kernel_rfl) ?_
            repeat (go_big_quiet_step ((first | (go_at_call 72; with_reducible exact grow_of (spec_l00Has _ mem _ _ (by assumption) _ (HT.out.ext ExtC.ext) (by omega))))))
            refine wpQuiet_nil ?_
            intro _ hw'
            obtain ⟨g, hw''⟩ := hw'
            subst hw''
            go_wp2
            go_roundw
            case rel => exact ⟨j + 1, n + 1, by omega, by go_num, by go_num, by omega, ExtC.ext, Lib.hid (by rw [HL.out]; simp)⟩
            case measure => simp [intOf]; omega
        · have hjn : j = xs.length := by omega
          have e1 := HN.out
          rw [hjn, List.take_length, cnt_swap HBQ.out.2.1 HND.out] at e1
          have hst := HST.out
          rw [← e1] at hst
          have hbq := HBQ.out
          have hb := missQ_bound (n := (n : Int)) (q := (mem, lst, mst)) (by omega) (by omega) hbq.2.2.1 hbq.2.2.2.2 hbq.2.2.2.1
          rw [missQ_two hbq.2.2.2.1] at hst hb
          dsimp only at hst hb
          have HST2 := Lib.hid hst
          have HB2 := Lib.hid hb
          have z1 : IntKind.i64.wrap (lst - n) = lst - n := IntWalk.i64_in _ (by have := hbq.2.2; omega)
          have z2 : IntKind.i64.wrap (n - mst) = n - mst := IntWalk.i64_in _ (by have := hbq.2.2; omega)
          obtain ⟨ma, hma⟩ : ∃ m, max 0 (lst - (n : Int)) = m := ⟨_, rfl⟩
          obtain ⟨mb, hmb⟩ : ∃ m, max 0 ((n : Int) - mst) = m := ⟨_, rfl⟩
          have y1 : 0 ≤ ma ∧ ma ≤ 100 := by have := hbq.2.2; omega
          have y2 : 0 ≤ mb ∧ mb ≤ 100 := by have := hbq.2.2; omega
          rw [hma, hmb] at HST2 HB2
          have z4 : IntKind.i64.wrap (ma + mb) = ma + mb := IntWalk.i64_in _ (by omega)
          have z3 : IntKind.i64.wrap (z + (ma + mb)) = z + (ma + mb) := IntWalk.i64_in _ (by omega)
          have f1 := fun x => spec_l00Max 0 (lst - (n : Int)) x
          have f2 := fun x => spec_l00Max 0 ((n : Int) - mst) x
          rw [hma] at f1
          rw [hmb] at f2
          clear hst hb e1 hbq hma hmb
          go_wp2
          refine wp_region_grow (by kernel_rfl) (by kernel_rfl) ?_
          repeat (go_big_quiet_step ((first | (go_at_call 85; with_reducible exact grow_of (f1 _)) | (go_at_call 85; with_reducible exact grow_of (f2 _)))))
          refine wpQuiet_nil ?_
          intro _ hw'
          obtain ⟨g, hw''⟩ := hw'
          subst hw''
          go_wp2
          go_roundw
          case rel => exact ⟨k + 1, z + (ma + mb), by omega, by go_num, rfl, by have := HB2.out; omega, by have := HB2.out; omega, ExtC.ext, Lib.hid HST2.out.symm⟩
          case measure => simp [intOf]; omega
    · have hkn : k = L.length := by omega
      go_wp2
      go_ret
      have := HZ.out
      rw [hkn, List.take_length, HR.out] at this
      exact ⟨ret_int this, ExtC.ext⟩
end Go.Proofs.Ytoedphgoaifojaa
