/- Valid elections: both sides. -/
import Derived.Test.YtbbppkcdgcajjaaElect
import Derived.Test.YtbbppkcdgcajjaaSets
namespace Go.Proofs.Ytbbppkcdgcajjaa
open Go.RowKit

/-- Whether an election is valid. -/
def OkE (m : Int) (cs : List Int) (ap : List (List Int)) : Prop :=
  (0 ≤ m ∧ m ≤ 60) ∧ (1 ≤ cs.length ∧ cs.length ≤ 6) ∧ (1 ≤ ap.length ∧ ap.length ≤ 6) ∧ (∀ k (h : k < cs.length), 1 ≤ cs[k] ∧ cs[k] ≤ 60) ∧ ∀ k (h : k < ap.length), SetP ap[k] 0 ((cs.length : Int) - 1)
open Classical in
noncomputable def okEB (m : Int) (cs : List Int) (ap : List (List Int)) : Bool := decide (OkE m cs ap)
theorem okEB_iff {m : Int} {cs : List Int} {ap : List (List Int)} {b : Bool} (h : okEB m cs ap = b) : b = true ↔ OkE m cs ap := by subst h; simp [okEB]
/-- A box with an election in it. -/
structure BxE (b : Nat) (m : Int) (cv av : Value) (x : World) : Prop where
  inw : InW b x
  c0 : x.cell? ⟨b, 0, none⟩ = some (.int .i64 m)
  c1 : x.cell? ⟨b, 1, none⟩ = some cv
  c2 : x.cell? ⟨b, 2, none⟩ = some av
theorem BxE.ext {b : Nat} {m : Int} {cv av : Value} {x y : World} (h : BxE b m cv av x) (hx : Ext x y) : BxE b m cv av y :=
  ⟨⟨Nat.lt_of_lt_of_le h.inw.lt hx.size⟩, by rw [Below.cell hx h.inw.lt]; exact h.c0, by rw [Below.cell hx h.inw.lt]; exact h.c1, by rw [Below.cell hx h.inw.lt]; exact h.c2⟩

theorem box_elect (w : World) (m : Int) (cv av : Value) (T : TypeId) : BxE w.heap.size m cv av (w.alloc (.cells #[.int .i64 m, cv, av] T)) :=
  ⟨⟨by simp⟩, by rw [World.cell?_alloc_at _ _ _ _ rfl]; rfl, by rw [World.cell?_alloc_at _ _ _ _ rfl]; rfl, by rw [World.cell?_alloc_at _ _ _ _ rfl]; rfl⟩
theorem impl_ValidElection1 (b : Nat) (m : Int) (cv av t : Value) (cs xs : List Int) (w : World) (hb : BxE b m cv av w) (hc : RI w cv cs) (hn : cs.length ≤ 1048576) (hx : RI w t xs) (hxn : xs.length ≤ 1048576) :
    Calls Try.prog 107 #[t, .pointer (some ⟨b, 0, none⟩)] w fun e w' => RetB (¬ SetP xs 0 ((cs.length : Int) - 1)) e ∧ Ext w w' := by
  obtain ⟨cp, cc, rfl, -, -⟩ := hc.form
  obtain ⟨tp, tc, rfl, -, -⟩ := hx.form
  have HX := Lib.hid hx
  obtain ⟨ib, c0, c1, c2⟩ := hb
  clear hc hx
  go_enter Try.func107, Try.ntmps107
  go_wp2_with fail
  refine Calls.mono (impl_isSet _ xs (cs.length : Int) _ (HX.out.ext ExtC.ext) (by omega) (by omega)) ?_
  rintro e w' ⟨⟨q, rfl, hq⟩, hx⟩; obtain ⟨g, rfl⟩ := hx.grow; clear hx
  have HQ := Lib.hid hq; clear hq
  cases q
  · go_wp2_with fail
    go_ret
    exact ⟨RetB.yes fun h => (by have := HQ.out.2 h; cases this), ExtC.ext⟩
  · go_wp2_with fail
    go_ret
    exact ⟨RetB.no fun h => h (HQ.out.1 (by trivial)), ExtC.ext⟩

set_option maxHeartbeats 2000000 in
theorem find_bad (b : Nat) (m : Int) (cv av : Value) (cs : List Int) (ap : List (List Int)) (p : Option Addr) (c : Nat) (w : World) (hb : BxE b m cv av w) (hc : RI w cv cs) (hn : cs.length ≤ 1048576) (ha : RowsR intKind w (.slice p ap.length c) ap) (hal : ap.length ≤ 1048576) (ham : ∀ i (h : i < ap.length), ap[i].length ≤ 1048576) :
    Calls Try.prog 165 #[.slice p ap.length c, .func (.func 107) #[] #[.pointer (some ⟨b, 0, none⟩)]] w fun e w' => ∃ r : Int, e = .returned (.int .i64 r) ∧ -1 ≤ r ∧ r ≤ 1048576 ∧ (r < 0 ↔ ∀ k (h : k < ap.length), SetP ap[k] 0 ((cs.length : Int) - 1)) ∧ Ext w w' := by
  obtain ⟨p', c', hpe, -, hq⟩ := ha.form
  simp only [Value.slice.injEq, true_and] at hpe
  obtain ⟨rfl, rfl⟩ := hpe
  have HQ := Lib.hid hq
  have HM := Lib.hid ham
  have HF := Lib.hid (fun (t : Value) (xs : List Int) x (hx : Ext w x) (ht : RI x t xs) (hxn : xs.length ≤ 1048576) => impl_ValidElection1 b m cv av t cs xs x (hb.ext hx) (hc.ext hx) hn ht hxn)
  clear hq ha hb hc ham
  go_enter Try.func165, Try.ntmps165
  go_wp2_with fail
  go_loopw [8] (fun i wr => ∃ k : Nat, k ≤ ap.length ∧ i = .int .i64 k ∧ Ext w wr ∧ Hid (∀ j (hj : j < ap.length), j < k → SetP ap[j] 0 ((cs.length : Int) - 1))) (fun i _ => ap.length - (intOf i).toNat)
  case atStart => exact ⟨0, Nat.zero_le _, rfl, Ext.refl _, Lib.hid fun j _ hj => absurd hj (by omega)⟩
  case round =>
    obtain ⟨k, hk, rfl, hx, HNO⟩ := hrel
    obtain ⟨g0, rfl⟩ := hx.grow; clear hx
    by_cases hlt : k < ap.length
    · obtain ⟨b', off', hpp, ib', hr⟩ := HQ.out (by omega)
      subst hpp
      obtain ⟨t, d, ht⟩ := hr k hlt
      have HT := Lib.hid ht
      obtain ⟨tp, tc, rfl, -, -⟩ := RI.form ht
      clear hr ht
      have hml := HM.out k hlt
      go_wp2_with fail
      refine Calls.mono (HF.out _ ap[k] _ (ExtC.ext : Ext w g0.fin) (HT.out.ext ExtC.ext) hml) ?_
      rintro e w' ⟨⟨q, rfl, hq⟩, hx⟩; obtain ⟨g2, rfl⟩ := hx.grow; clear hx
      have HQ2 := Lib.hid hq; clear hq
      cases q
      · go_wp2_with fail
        go_roundw
        case rel =>
          refine ⟨k + 1, by omega, by go_num, ExtC.ext, Lib.hid fun j hj hjk => ?_⟩
          by_cases e : j = k
          · subst e; exact Classical.byContradiction fun hh => by have := HQ2.out.2 hh; cases this
          · exact HNO.out j hj (by omega)
        case measure => simp [intOf]; omega
      · go_wp2_with fail
        go_ret
        exact ⟨(k : Int), rfl, by omega, by omega, ⟨fun h => absurd h (by omega), fun h => absurd (h k hlt) (HQ2.out.1 (by trivial))⟩, ExtC.ext⟩
    · have e : k = ap.length := by omega
      go_wp2
      go_ret
      exact ⟨-1, rfl, by omega, by omega, ⟨fun _ j hj => HNO.out j hj (by omega), fun _ => by omega⟩, ExtC.ext⟩

theorem any_bad (b : Nat) (m : Int) (cv av : Value) (cs : List Int) (ap : List (List Int)) (p : Option Addr) (c : Nat) (w : World) (hb : BxE b m cv av w) (hc : RI w cv cs) (hn : cs.length ≤ 1048576) (ha : RowsR intKind w (.slice p ap.length c) ap) (hal : ap.length ≤ 1048576) (ham : ∀ i (h : i < ap.length), ap[i].length ≤ 1048576) :
    Calls Try.prog 106 #[.slice p ap.length c, .func (.func 107) #[] #[.pointer (some ⟨b, 0, none⟩)]] w fun e w' => RetB (¬ ∀ k (h : k < ap.length), SetP ap[k] 0 ((cs.length : Int) - 1)) e ∧ Ext w w' := by
  have H1 := find_bad b m cv av cs ap p c w hb hc hn ha hal ham
  clear hb hc ha ham
  go_enter Try.func106, Try.ntmps106
  go_wp2_with fail
  refine Calls.mono H1 ?_
  rintro e w' ⟨r, rfl, r0, r1, hrr, hx⟩; obtain ⟨g2, rfl⟩ := hx.grow; clear hx H1
  have HH := Lib.hid hrr; clear hrr
  by_cases h0 : 0 ≤ r
  · have hd : decide (0 ≤ r) = true := by simp [h0]
    go_wp2
    go_ret
    exact ⟨RetB.yes fun h => (by have := HH.out.2 h; omega), ExtC.ext⟩
  · have hd : decide (0 ≤ r) = false := by simpa using h0
    go_wp2
    go_ret
    exact ⟨RetB.no fun h => h (HH.out.1 (by omega)), ExtC.ext⟩

set_option maxHeartbeats 4000000 in
set_option maxRecDepth 100000 in
theorem impl_ValidElection (m : Int) (cv av : Value) (cs : List Int) (ap : List (List Int)) (w : World) (hc : RI w cv cs) (ha : RowsR intKind w av ap) (hn : cs.length ≤ 1048576) (hal : ap.length ≤ 1048576) (ham : ∀ i (h : i < ap.length), ap[i].length ≤ 1048576) :
    Calls Try.prog 42 #[.agg #[.int .i64 m, cv, av]] w fun e w' => RetB (OkE m cs ap) e ∧ Ext w w' := by
  obtain ⟨cp, cc, rfl, -, hcq⟩ := hc.form
  obtain ⟨pp, pc, rfl, -, -⟩ := ha.form
  have HC := Lib.hid hc
  have HA := Lib.hid ha
  have HCQ := Lib.hid hcq
  have HM := Lib.hid ham
  clear hc ha ham hcq
  cases q1 : inB m 0 60
  · have Q := Lib.hid (inB_false.1 q1)
    go_enter Try.func42, Try.ntmps42
    go_wp2_with (first | (go_at_call 105; (with_reducible refine (impl_within _ _ _ _ (by assumption) _).mono ?_); rintro e w' ⟨rfl, hx⟩; obtain ⟨g, rfl⟩ := hx.grow; clear hx))
    go_ret
    exact ⟨RetB.no fun hok => Q.out hok.1, ExtC.ext⟩
  cases q2 : inB (cs.length : Int) 1 6
  · have Q := Lib.hid (inB_false.1 q2)
    go_enter Try.func42, Try.ntmps42
    go_wp2_with (first | (go_at_call 105; (with_reducible refine (impl_within _ _ _ _ (by assumption) _).mono ?_); rintro e w' ⟨rfl, hx⟩; obtain ⟨g, rfl⟩ := hx.grow; clear hx))
    go_ret
    exact ⟨RetB.no fun hok => Q.out (by have := hok.2.1; omega), ExtC.ext⟩
  cases q3 : inB (ap.length : Int) 1 6
  · have Q := Lib.hid (inB_false.1 q3)
    go_enter Try.func42, Try.ntmps42
    go_wp2_with (first | (go_at_call 105; (with_reducible refine (impl_within _ _ _ _ (by assumption) _).mono ?_); rintro e w' ⟨rfl, hx⟩; obtain ⟨g, rfl⟩ := hx.grow; clear hx))
    go_ret
    exact ⟨RetB.no fun hok => Q.out (by have := hok.2.2.1; omega), ExtC.ext⟩
  have Q := Lib.hid (And.intro (inB_true.1 q1) (And.intro (inB_true.1 q2) (inB_true.1 q3)))
  go_enter Try.func42, Try.ntmps42
  go_wp2_with (first | (go_at_call 105; (with_reducible refine (impl_within _ _ _ _ (by assumption) _).mono ?_); rintro e w' ⟨rfl, hx⟩; obtain ⟨g, rfl⟩ := hx.grow; clear hx))
  clear q1 q2 q3
  have HBX : Hid (BxE w.heap.size m (.slice cp cs.length cc) (.slice pp ap.length pc) g.fin) := Lib.hid ((box_elect w m _ _ 41).ext ExtC.ext)
  go_loopw [26] (fun i wr => ∃ k : Nat, k ≤ cs.length ∧ i = .int .i64 k ∧ Ext g.fin wr ∧ Hid (∀ j (hj : j < cs.length), j < k → 1 ≤ cs[j] ∧ cs[j] ≤ 60)) (fun i _ => cs.length - (intOf i).toNat)
  case atStart => exact ⟨0, Nat.zero_le _, rfl, Ext.refl _, Lib.hid fun j _ hj => absurd hj (by omega)⟩
  case round =>
    obtain ⟨k, hk, rfl, hx, HI⟩ := hrel
    obtain ⟨g0, rfl⟩ := hx.grow; clear hx
    by_cases hlt : k < cs.length
    · obtain ⟨b, off, hp, ib, hcx⟩ := HCQ.out (by omega)
      subst hp
      have d := hcx k hlt
      clear hcx
      obtain ⟨y, hy⟩ : ∃ y, cs[k] = y := ⟨_, rfl⟩
      rw [hy] at d
      have HY := Lib.hid hy; clear hy
      cases q : inB y 1 60
      · have QQ := Lib.hid (inB_false.1 q)
        go_wp2_with (first | (go_at_call 105; (with_reducible refine (impl_within _ _ _ _ (by assumption) _).mono ?_); rintro e w' ⟨rfl, hx⟩; obtain ⟨g, rfl⟩ := hx.grow; clear hx))
        go_ret
        exact ⟨RetB.no fun hok => QQ.out (by rw [← HY.out]; exact hok.2.2.2.1 k hlt), ExtC.ext⟩
      · have QQ := Lib.hid (inB_true.1 q)
        go_wp2_with (first | (go_at_call 105; (with_reducible refine (impl_within _ _ _ _ (by assumption) _).mono ?_); rintro e w' ⟨rfl, hx⟩; obtain ⟨g, rfl⟩ := hx.grow; clear hx))
        go_roundw
        case rel =>
          refine ⟨k + 1, by omega, by go_num, ExtC.ext, Lib.hid fun j hj hjk => ?_⟩
          by_cases e : j = k
          · subst e; rw [HY.out]; exact QQ.out
          · exact HI.out j hj (by omega)
        case measure => simp [intOf]; omega
    · have e : k = cs.length := by omega
      go_wp2_with fail
      refine Calls.mono (any_bad w.heap.size m _ _ cs ap pp pc _ (HBX.out.ext ExtC.ext) (HC.out.ext ExtC.ext) hn (HA.out.ext ExtC.ext) hal HM.out) ?_
      rintro e w' ⟨⟨q, rfl, hq⟩, hx⟩; obtain ⟨g5, rfl⟩ := hx.grow; clear hx
      have HQ5 := Lib.hid hq; clear hq
      cases q
      · go_wp2_with fail
        go_ret
        obtain ⟨a1, a2, a3⟩ := Q.out
        exact ⟨RetB.yes ⟨a1, by omega, by omega, fun j hj => HI.out j hj (by omega), Classical.byContradiction fun hh => by have := HQ5.out.2 hh; cases this⟩, ExtC.ext⟩
      · go_wp2_with fail
        go_ret
        exact ⟨RetB.no fun hok => (HQ5.out.1 (by trivial)) hok.2.2.2.2, ExtC.ext⟩

set_option maxHeartbeats 4000000 in
set_option maxRecDepth 100000 in
theorem spec_l05Ok (b : Nat) (m : Int) (cv av : Value) (cs : List Int) (ap : List (List Int)) (w : World) (hb : BxE b m cv av w) (hc : RI w cv cs) (ha : RowsR intKind w av ap) (hn : cs.length ≤ 1048576) (hal : ap.length ≤ 1048576) (ham : ∀ i (h : i < ap.length), ap[i].length ≤ 1048576) :
    Calls Try.prog 103 #[.pointer (some ⟨b, 0, none⟩)] w fun e w' => RetB (OkE m cs ap) e ∧ Ext w w' := by
  obtain ⟨cp, cc, rfl, -, hcq⟩ := hc.form
  obtain ⟨pp, pc, rfl, -, haq⟩ := ha.form
  have HCQ := Lib.hid hcq
  have HAQ := Lib.hid haq
  have HM := Lib.hid ham
  obtain ⟨ib, b0, b1, b2⟩ := hb
  clear hc ha ham hcq haq
  cases q1 : inB m 0 60
  · have Q := Lib.hid (inB_false.1 q1)
    go_enter Try.func103, Try.ntmps103
    go_wp2_with (first | (go_at_call 133; (with_reducible refine (spec_l00In _ _ _ _ (by assumption) _).mono ?_); rintro e w' ⟨rfl, hx⟩; obtain ⟨g, rfl⟩ := hx.grow; clear hx))
    go_ret
    exact ⟨RetB.no fun hok => Q.out hok.1, ExtC.ext⟩
  by_cases k1 : cs.length < 1
  · go_enter Try.func103, Try.ntmps103
    go_wp2_with (first | (go_at_call 133; (with_reducible refine (spec_l00In _ _ _ _ (by assumption) _).mono ?_); rintro e w' ⟨rfl, hx⟩; obtain ⟨g, rfl⟩ := hx.grow; clear hx))
    go_ret
    exact ⟨RetB.no fun hok => (by have := hok.2.1; omega), ExtC.ext⟩
  by_cases k2 : 6 < cs.length
  · have e1 : decide ((cs.length : Int) < 1) = false := by simp; omega
    have e2 : decide ((6 : Int) < (cs.length : Int)) = true := by simp; omega
    go_enter Try.func103, Try.ntmps103
    go_wp2_with (first | (go_at_call 133; (with_reducible refine (spec_l00In _ _ _ _ (by assumption) _).mono ?_); rintro e w' ⟨rfl, hx⟩; obtain ⟨g, rfl⟩ := hx.grow; clear hx))
    go_ret
    exact ⟨RetB.no fun hok => (by have := hok.2.1; omega), ExtC.ext⟩
  by_cases k3 : ap.length < 1
  · have e1 : decide ((cs.length : Int) < 1) = false := by simp; omega
    have e2 : decide ((6 : Int) < (cs.length : Int)) = false := by simp; omega
    go_enter Try.func103, Try.ntmps103
    go_wp2_with (first | (go_at_call 133; (with_reducible refine (spec_l00In _ _ _ _ (by assumption) _).mono ?_); rintro e w' ⟨rfl, hx⟩; obtain ⟨g, rfl⟩ := hx.grow; clear hx))
    go_ret
    exact ⟨RetB.no fun hok => (by have := hok.2.2.1; omega), ExtC.ext⟩
  by_cases k4 : 6 < ap.length
  · have e1 : decide ((cs.length : Int) < 1) = false := by simp; omega
    have e2 : decide ((6 : Int) < (cs.length : Int)) = false := by simp; omega
    have e3 : decide ((ap.length : Int) < 1) = false := by simp; omega
    have e4 : decide ((6 : Int) < (ap.length : Int)) = true := by simp; omega
    go_enter Try.func103, Try.ntmps103
    go_wp2_with (first | (go_at_call 133; (with_reducible refine (spec_l00In _ _ _ _ (by assumption) _).mono ?_); rintro e w' ⟨rfl, hx⟩; obtain ⟨g, rfl⟩ := hx.grow; clear hx))
    go_ret
    exact ⟨RetB.no fun hok => (by have := hok.2.2.1; omega), ExtC.ext⟩
  have e1 : decide ((cs.length : Int) < 1) = false := by simp; omega
  have e2 : decide ((6 : Int) < (cs.length : Int)) = false := by simp; omega
  have e3 : decide ((ap.length : Int) < 1) = false := by simp; omega
  have e4 : decide ((6 : Int) < (ap.length : Int)) = false := by simp; omega
  have Q := Lib.hid (inB_true.1 q1)
  go_enter Try.func103, Try.ntmps103
  go_wp2_with (first | (go_at_call 133; (with_reducible refine (spec_l00In _ _ _ _ (by assumption) _).mono ?_); rintro e w' ⟨rfl, hx⟩; obtain ⟨g, rfl⟩ := hx.grow; clear hx))
  clear q1 e1 e2 e3 e4
  go_loopw [3] (fun i wr => ∃ k : Nat, k ≤ cs.length ∧ i = .int .i64 k ∧ Ext w wr ∧ Hid (∀ j (hj : j < cs.length), j < k → 1 ≤ cs[j] ∧ cs[j] ≤ 60)) (fun i _ => cs.length - (intOf i).toNat)
  case atStart => exact ⟨0, Nat.zero_le _, rfl, ExtC.ext, Lib.hid fun j _ hj => absurd hj (by omega)⟩
  case round =>
    obtain ⟨k, hk, rfl, hx, HI⟩ := hrel
    clear g
    obtain ⟨g0, rfl⟩ := hx.grow; clear hx
    by_cases hlt : k < cs.length
    · obtain ⟨bb, off, hp, ib2, hcx⟩ := HCQ.out (by omega)
      subst hp
      have d := hcx k hlt
      clear hcx
      obtain ⟨y, hy⟩ : ∃ y, cs[k] = y := ⟨_, rfl⟩
      rw [hy] at d
      have HY := Lib.hid hy; clear hy
      cases q : inB y 1 60
      · have QQ := Lib.hid (inB_false.1 q)
        go_wp2_with (first | (go_at_call 133; (with_reducible refine (spec_l00In _ _ _ _ (by assumption) _).mono ?_); rintro e w' ⟨rfl, hx⟩; obtain ⟨g, rfl⟩ := hx.grow; clear hx))
        go_ret
        exact ⟨RetB.no fun hok => QQ.out (by rw [← HY.out]; exact hok.2.2.2.1 k hlt), ExtC.ext⟩
      · have QQ := Lib.hid (inB_true.1 q)
        go_wp2_with (first | (go_at_call 133; (with_reducible refine (spec_l00In _ _ _ _ (by assumption) _).mono ?_); rintro e w' ⟨rfl, hx⟩; obtain ⟨g, rfl⟩ := hx.grow; clear hx))
        go_roundw
        case rel =>
          refine ⟨k + 1, by omega, by go_num, ExtC.ext, Lib.hid fun j hj hjk => ?_⟩
          by_cases e : j = k
          · subst e; rw [HY.out]; exact QQ.out
          · exact HI.out j hj (by omega)
        case measure => simp [intOf]; omega
    · have hkn : k = cs.length := by omega
      have HI2 := Lib.hid (fun j hj => HI.out j hj (by omega) : ∀ j (hj : j < cs.length), 1 ≤ cs[j] ∧ cs[j] ≤ 60)
      have HKN := Lib.hid hkn; clear hkn
      go_wp2_with fail
      go_loopw [4] (fun i wr => ∃ k : Nat, k ≤ ap.length ∧ i = .int .i64 k ∧ Ext w wr ∧ Hid (∀ j (hj : j < ap.length), j < k → SetP ap[j] 0 ((cs.length : Int) - 1))) (fun i _ => ap.length - (intOf i).toNat)
      case atStart => exact ⟨0, Nat.zero_le _, rfl, ExtC.ext, Lib.hid fun j _ hj => absurd hj (by omega)⟩
      case round =>
        obtain ⟨j, hj, rfl, hx, HJ⟩ := hrel
        obtain ⟨g1, rfl⟩ := hx.grow; clear hx
        by_cases hjl : j < ap.length
        · obtain ⟨bb, off, hpp, ib2, hr⟩ := HAQ.out (by omega)
          subst hpp
          obtain ⟨t, d, ht⟩ := hr j hjl
          have HT := Lib.hid ht
          obtain ⟨tp, tc, rfl, -, -⟩ := RI.form ht
          clear hr ht
          have hml := HM.out j hjl
          obtain ⟨q, hq⟩ : ∃ q : Bool, q = true ↔ SetP ap[j] 0 ((cs.length : Int) - 1) := by classical exact ⟨decide (SetP ap[j] 0 ((cs.length : Int) - 1)), decide_eq_true_iff⟩
          have HQ := Lib.hid hq
          have hri := fun x (hx : Ext w x) => (spec_l00Rises (.slice tp ap[j].length tc) ap[j] 0 ((cs.length : Int) - 1) x (HT.out.ext hx) (by omega)).mono fun e w' (h : RetB _ e ∧ Ext x w') => (⟨h.1.told' hq, h.2⟩ : e = .returned (.bool q) ∧ Ext x w')
          have z1 : IntKind.i64.wrap ((cs.length : Int) - 1) = (cs.length : Int) - 1 := IntWalk.i64_in _ (by omega)
          clear hq
          cases q
          · go_wp2_with fail
            refine wp_region_grow (by kernel_rfl) (by kernel_rfl) ?_
            repeat (go_big_quiet_step ((first | (go_at_call 164; with_reducible exact grow_of (hri _ ExtC.ext)))))
            refine wpQuiet_nil ?_
            intro _ hw'
            obtain ⟨g, hw''⟩ := hw'
            subst hw''
            go_wp2_with fail
            go_ret
            exact ⟨RetB.no fun hok => (by have := HQ.out.2 (hok.2.2.2.2 j hjl); cases this), ExtC.ext⟩
          · go_wp2_with fail
            refine wp_region_grow (by kernel_rfl) (by kernel_rfl) ?_
            repeat (go_big_quiet_step ((first | (go_at_call 164; with_reducible exact grow_of (hri _ ExtC.ext)))))
            refine wpQuiet_nil ?_
            intro _ hw'
            obtain ⟨g, hw''⟩ := hw'
            subst hw''
            go_wp2_with fail
            go_roundw
            case rel =>
              refine ⟨j + 1, by omega, by go_num, ExtC.ext, Lib.hid fun i hi hij => ?_⟩
              by_cases e : i = j
              · subst e; exact HQ.out.1 (by trivial)
              · exact HJ.out i hi (by omega)
            case measure => simp [intOf]; omega
        · have e : j = ap.length := by omega
          go_wp2
          go_ret
          exact ⟨RetB.yes ⟨Q.out, by omega, by omega, HI2.out, fun i hi => HJ.out i hi (by omega)⟩, ExtC.ext⟩

theorem spec_ValidElection (m : Int) (cv av : Value) (cs : List Int) (ap : List (List Int)) (w : World) (hc : RI w cv cs) (ha : RowsR intKind w av ap) (hn : cs.length ≤ 1048576) (hal : ap.length ≤ 1048576) (ham : ∀ i (h : i < ap.length), ap[i].length ≤ 1048576) :
    Calls Try.prog 40 #[.agg #[.int .i64 m, cv, av]] w fun e w' => RetB (OkE m cs ap) e ∧ Ext w w' := by
  obtain ⟨cp, cc, rfl, -, -⟩ := hc.form
  obtain ⟨pp, pc, rfl, -, -⟩ := ha.form
  have HBX := Lib.hid (box_elect w m (.slice cp cs.length cc) (.slice pp ap.length pc) 41)
  have HA := Lib.hid (And.intro hc (And.intro ha ham))
  clear hc ha ham
  go_enter Try.func40, Try.ntmps40
  go_wp2_with fail
  refine Calls.mono (spec_l05Ok w.heap.size m _ _ cs ap _ (HBX.out.ext ExtC.ext) (HA.out.1.ext ExtC.ext) (HA.out.2.1.ext ExtC.ext) hn hal HA.out.2.2) ?_
  rintro e w' ⟨⟨q, rfl, hq⟩, hx⟩; obtain ⟨g5, rfl⟩ := hx.grow; clear hx
  have HQ := Lib.hid hq; clear hq
  go_wp2_with fail
  go_ret
  exact ⟨⟨q, rfl, HQ.out⟩, ExtC.ext⟩
end Go.Proofs.Ytbbppkcdgcajjaa
