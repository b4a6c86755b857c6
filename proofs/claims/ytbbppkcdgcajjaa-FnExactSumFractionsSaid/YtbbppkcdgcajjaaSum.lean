/- The sum of fractions: SumFractions on both sides. -/
import Derived.Test.YtbbppkcdgcajjaaFracS
import Derived.Test.YtbbppkcdgcajjaaFrac3
import Derived.Test.YtbbppkcdgcajjaaBox
namespace Go.Proofs.Ytbbppkcdgcajjaa
open Go.RowKit

def stN (s f : Int × Int) : Int := redN (s.1 * f.2 + f.1 * s.2) (s.2 * f.2)
def stD (s f : Int × Int) : Int := redD (s.1 * f.2 + f.1 * s.2) (s.2 * f.2)
/-- The sum of the first k, if it stays within bounds. -/
def sumF (xs : SD) : Nat → Option (Int × Int)
  | 0 => some (0, 1)
  | k + 1 => match sumF xs k with
    | none => none
    | some s => if okF (stN s (xs.getD k (0, 1))) (stD s (xs.getD k (0, 1))) then some (stN s (xs.getD k (0, 1)), stD s (xs.getD k (0, 1))) else none
theorem sumF_yes {xs : SD} {k : Nat} {s : Int × Int} (h : sumF xs k = some s) (hk : k < xs.length) (ho : okF (stN s xs[k]) (stD s xs[k]) = true) : sumF xs (k + 1) = some (stN s xs[k], stD s xs[k]) := by
  have e : xs.getD k (0, 1) = xs[k] := by simp [hk]
  rw [sumF, h]; simp only [e, ho, if_true]
theorem sumF_no {xs : SD} {k : Nat} {s : Int × Int} (h : sumF xs k = some s) (hk : k < xs.length) (ho : okF (stN s xs[k]) (stD s xs[k]) = false) : sumF xs (k + 1) = none := by
  have e : xs.getD k (0, 1) = xs[k] := by simp [hk]
  rw [sumF, h]; simp only [e, ho, Bool.false_eq_true, if_false]
theorem sumF_none {xs : SD} {k : Nat} (h : sumF xs k = none) : ∀ n, k ≤ n → sumF xs n = none := by
  intro n hn
  induction n with
  | zero => rw [show 0 = k by omega]; exact h
  | succ n ih =>
    by_cases e : n + 1 = k
    · rw [e]; exact h
    · rw [sumF, ih (by omega)]
theorem sumF_ok {xs : SD} : ∀ (k : Nat) (s : Int × Int), sumF xs k = some s → okF s.1 s.2 = true := by
  intro k
  induction k with
  | zero => intro s h; simp only [sumF, Option.some.injEq] at h; subst h; decide +kernel
  | succ k ih =>
    intro s h
    rw [sumF] at h
    split at h
    · cases h
    · split at h
      · rename_i ho; simp only [Option.some.injEq] at h; subst h; exact ho
      · cases h
def FsP (xs : SD) : Prop := xs.length ≤ 20 ∧ ∀ k (h : k < xs.length), okF xs[k].1 xs[k].2 = true
open Classical in
noncomputable def sumB (xs : SD) : Bool := decide (FsP xs ∧ ∃ s, sumF xs xs.length = some s)
open Classical in
noncomputable def sumA (xs : SD) : Int × Int := if FsP xs then (sumF xs xs.length).getD (0, 0) else (0, 0)
open Classical in
theorem sum_no {xs : SD} (h : ¬ FsP xs) : sumB xs = false ∧ sumA xs = (0, 0) := by
  unfold sumB sumA; rw [if_neg h]; exact ⟨decide_eq_false fun hh => h hh.1, rfl⟩
open Classical in
theorem sum_over {xs : SD} (h : sumF xs xs.length = none) : sumB xs = false ∧ sumA xs = (0, 0) := by
  unfold sumB sumA
  refine ⟨decide_eq_false fun ⟨_, s, hs⟩ => (by rw [h] at hs; cases hs), ?_⟩
  split
  · rw [h]; rfl
  · rfl
open Classical in
theorem sum_yes {xs : SD} (h : FsP xs) {s : Int × Int} (hs : sumF xs xs.length = some s) : sumB xs = true ∧ sumA xs = s := by
  unfold sumB sumA; rw [if_pos h, hs]; exact ⟨decide_eq_true ⟨h, s, rfl⟩, rfl⟩

/-- A box with a fraction in it. -/
structure BxF (B : Nat) (s : Int × Int) (x : World) : Prop where
  inw : InW B x
  c0 : x.cell? ⟨B, 0, none⟩ = some (.int .i64 s.1)
  c1 : x.cell? ⟨B, 1, none⟩ = some (.int .i64 s.2)
  f0 : x.frozen? ⟨B, 0, none⟩ = false
  f1 : x.frozen? ⟨B, 1, none⟩ = false
theorem BxF.ext {B : Nat} {s : Int × Int} {x y : World} (h : BxF B s x) (hx : Ext x y) : BxF B s y :=
  ⟨⟨Nat.lt_of_lt_of_le h.inw.lt hx.size⟩, by rw [Below.cell hx h.inw.lt]; exact h.c0, by rw [Below.cell hx h.inw.lt]; exact h.c1, by rw [Below.frozen hx h.inw.lt]; exact h.f0, by rw [Below.frozen hx h.inw.lt]; exact h.f1⟩
theorem BxF.store {B : Nat} {s : Int × Int} {x : World} (h : BxF B s x) (t : Int × Int) : BxF B t ((x.setCell ⟨B, 0, none⟩ (.int .i64 t.1)).setCell ⟨B, 1, none⟩ (.int .i64 t.2)) := by
  have e1 : (x.setCell ⟨B, 0, none⟩ (.int .i64 t.1)).cell? ⟨B, 1, none⟩ = some (.int .i64 s.2) := by rw [World.cell?_setCell_other (h := by simp)]; exact h.c1
  refine ⟨⟨by simp only [World.size_setCell]; exact h.inw.lt⟩, ?_, ?_, by rw [World.frozen?_setCell, World.frozen?_setCell]; exact h.f0, by rw [World.frozen?_setCell, World.frozen?_setCell]; exact h.f1⟩
  · rw [World.cell?_setCell_other (h := by simp), World.cell?_setCell_same (h := h.c0)]
  · rw [World.cell?_setCell_same (h := e1)]
theorem box_frac (w : World) (s : Int × Int) (T : TypeId) : BxF w.heap.size s (w.alloc (.cells #[.int .i64 s.1, .int .i64 s.2] T)) :=
  ⟨⟨by simp⟩, by rw [World.cell?_alloc_at _ _ _ _ rfl]; rfl, by rw [World.cell?_alloc_at _ _ _ _ rfl]; rfl, by simp [go_sem], by simp [go_sem]⟩

set_option maxHeartbeats 400000 in
theorem impl_whole0 (w : World) : Calls Try.prog 146 #[.int .i64 0] w fun e w' => e = .returned (.agg #[.int .i64 0, .int .i64 1]) ∧ Ext w w' := by
  go_enter Try.func146, Try.ntmps146
  go_wp2
  refine bodyPost_ret (v := .agg #[.int .i64 0, .int .i64 1]) (by simp [results, Try.results146, go_sem]) rfl ⟨rfl, ?_⟩
  exact ExtC.ext
set_option maxHeartbeats 400000 in
theorem impl_Sum1 (n d : Int) (q : Bool) (hq : okF n d = q) (w : World) : Calls Try.prog 144 #[.agg #[.int .i64 n, .int .i64 d]] w fun e w' => e = .returned (.bool (!q)) ∧ Ext w w' := by
  go_enter Try.func144, Try.ntmps144
  go_wp2_with (first | (go_at_call 145; (with_reducible refine (impl_ValidFraction _ _ _ hq _).mono ?_); rintro e w' ⟨rfl, hx⟩; obtain ⟨g, rfl⟩ := hx.grow; clear hx))
  go_ret
  exact ⟨rfl, ExtC.ext⟩

set_option maxHeartbeats 2000000 in
theorem find_frac (p : Option Addr) (xs : SD) (c : Nat) (w : World) (h : RP w (.slice p xs.length c) xs) (hn : xs.length ≤ 1048576) :
    Calls Try.prog 176 #[.slice p xs.length c, .func (.func 144) #[] #[]] w fun e w' => ∃ r : Int, e = .returned (.int .i64 r) ∧ -1 ≤ r ∧ r ≤ 1048576 ∧ (r < 0 ↔ ∀ k (h : k < xs.length), okF xs[k].1 xs[k].2 = true) ∧ Ext w w' := by
  obtain ⟨p', c', hpe, -, hq⟩ := h.form
  simp only [Value.slice.injEq, true_and] at hpe
  obtain ⟨rfl, rfl⟩ := hpe
  have HQ := Lib.hid hq
  clear hq h
  go_enter Try.func176, Try.ntmps176
  go_wp2_with fail
  go_loopw [8] (fun i wr => ∃ k : Nat, k ≤ xs.length ∧ i = .int .i64 k ∧ Ext w wr ∧ Hid (∀ j (hj : j < xs.length), j < k → okF xs[j].1 xs[j].2 = true)) (fun i _ => xs.length - (intOf i).toNat)
  case atStart => exact ⟨0, Nat.zero_le _, rfl, Ext.refl _, Lib.hid fun j _ hj => absurd hj (by omega)⟩
  case round =>
    obtain ⟨k, hk, rfl, hx, HNO⟩ := hrel
    obtain ⟨g0, rfl⟩ := hx.grow; clear hx
    by_cases hlt : k < xs.length
    · obtain ⟨b', off', hpp, ib', hr⟩ := HQ.out (by omega)
      subst hpp
      obtain ⟨d1, d2⟩ := hr k hlt
      obtain ⟨n, hn1⟩ : ∃ n, xs[k].1 = n := ⟨_, rfl⟩
      obtain ⟨d, hd1⟩ : ∃ n, xs[k].2 = n := ⟨_, rfl⟩
      rw [hn1] at d1
      rw [hd1] at d2
      cases q : okF n d
      · have HQ2 := Lib.hid (show okF xs[k].1 xs[k].2 = false by rw [hn1, hd1]; exact q)
        have HF := fun z => impl_Sum1 n d false q z
        clear hr hn1 hd1 q
        go_wp2_with (first | (go_at_call 144; (with_reducible refine (HF _).mono ?_); rintro e w' ⟨rfl, hx⟩; obtain ⟨g, rfl⟩ := hx.grow; clear hx))
        go_ret
        exact ⟨(k : Int), rfl, by omega, by omega, ⟨fun h => absurd h (by omega), fun h => by have := h k hlt; rw [HQ2.out] at this; cases this⟩, ExtC.ext⟩
      · have HQ2 := Lib.hid (show okF xs[k].1 xs[k].2 = true by rw [hn1, hd1]; exact q)
        have HF := fun z => impl_Sum1 n d true q z
        clear hr hn1 hd1 q
        go_wp2_with (first | (go_at_call 144; (with_reducible refine (HF _).mono ?_); rintro e w' ⟨rfl, hx⟩; obtain ⟨g, rfl⟩ := hx.grow; clear hx))
        go_roundw
        case rel =>
          refine ⟨k + 1, by omega, by go_num, ExtC.ext, Lib.hid fun j hj hjk => ?_⟩
          by_cases e : j = k
          · subst e; exact HQ2.out
          · exact HNO.out j hj (by omega)
        case measure => simp [intOf]; omega
    · have e : k = xs.length := by omega
      go_wp2
      go_ret
      exact ⟨-1, rfl, by omega, by omega, ⟨fun _ j hj => HNO.out j hj (by omega), fun _ => by omega⟩, ExtC.ext⟩
theorem any_frac (p : Option Addr) (xs : SD) (c : Nat) (w : World) (h : RP w (.slice p xs.length c) xs) (hn : xs.length ≤ 1048576) (q : Bool) (hq : q = true ↔ ¬ ∀ k (h : k < xs.length), okF xs[k].1 xs[k].2 = true) :
    Calls Try.prog 143 #[.slice p xs.length c, .func (.func 144) #[] #[]] w fun e w' => e = .returned (.bool q) ∧ Ext w w' := by
  have H1 := find_frac p xs c w h hn
  clear h
  go_enter Try.func143, Try.ntmps143
  go_wp2_with fail
  refine Calls.mono H1 ?_
  rintro e w' ⟨r, rfl, r0, r1, hrr, hx⟩; obtain ⟨g2, rfl⟩ := hx.grow; clear hx H1
  have HH := Lib.hid (And.intro hq hrr); clear hq hrr
  by_cases h0 : 0 ≤ r
  · have hd : decide (0 ≤ r) = true := by simp [h0]
    have : q = true := HH.out.1.2 fun h => by have := HH.out.2.2 h; omega
    subst this
    go_wp2
    go_ret
    exact ⟨rfl, ExtC.ext⟩
  · have hd : decide (0 ≤ r) = false := by simpa using h0
    have : q = false := by
      cases q
      · rfl
      · exact absurd (HH.out.2.1 (by omega)) (HH.out.1.1 rfl)
    subst this
    go_wp2
    go_ret
    exact ⟨rfl, ExtC.ext⟩

set_option maxHeartbeats 4000000 in
set_option maxRecDepth 100000 in
theorem impl_SumFractions' (v : Value) (xs : SD) (w : World) (h : RP w v xs) (hn : xs.length ≤ 1048576) (b : Bool) (hb : sumB xs = b) (pn pd : Int) (hp : sumA xs = (pn, pd)) :
    Calls Try.prog 71 #[v] w fun e w' => e = .returned (.tuple #[.agg #[.int .i64 pn, .int .i64 pd], .bool b]) ∧ Ext w w' := by
  obtain ⟨p, c, rfl, -, hq⟩ := h.form
  have HR := Lib.hid h
  have HQ := Lib.hid hq
  clear h hq
  have hN := Lib.hid (fun (h : sumB xs = false ∧ sumA xs = (0, 0)) => (by
    have := hp.symm.trans h.2
    simp only [Prod.mk.injEq] at this
    exact ⟨hb.symm.trans h.1, this.1, this.2⟩ : b = false ∧ pn = 0 ∧ pd = 0))
  have hY := Lib.hid (fun (s : Int × Int) (h : sumB xs = true ∧ sumA xs = s) => (by
    have := hp.symm.trans h.2
    exact ⟨hb.symm.trans h.1, by rw [← this], by rw [← this]⟩ : b = true ∧ pn = s.1 ∧ pd = s.2))
  clear hb hp
  by_cases hbig : 20 < xs.length
  · obtain ⟨rfl, rfl, rfl⟩ := hN.out (sum_no fun hh => by have := hh.1; omega)
    have hd : decide ((20 : Int) < (xs.length : Int)) = true := by simp; omega
    go_enter Try.func71, Try.ntmps71
    go_wp2_with fail
    refine bodyPost_ret (v := .tuple #[.agg #[.int .i64 0, .int .i64 0], .bool false]) (by simp [results, Try.results71, go_sem]) rfl ⟨rfl, ?_⟩
    exact ExtC.ext
  have hd : decide ((20 : Int) < (xs.length : Int)) = false := by simp; omega
  by_cases hall : ∀ k (h : k < xs.length), okF xs[k].1 xs[k].2 = true
  · have HA := Lib.hid hall
    have HF := fun z (hz : Ext w z) => any_frac p xs c z (HR.out.ext hz) hn false (by simp [hall])
    clear hall
    go_enter Try.func71, Try.ntmps71
    go_wp2_with (first | (go_at_call 143; (with_reducible refine (HF _ ExtC.ext).mono ?_); rintro e w' ⟨rfl, hx⟩; obtain ⟨g, rfl⟩ := hx.grow; clear hx) | (go_at_call 146; (with_reducible refine (impl_whole0 _).mono ?_); rintro e w' ⟨rfl, hx⟩; obtain ⟨g, rfl⟩ := hx.grow; clear hx))
    have nb : NewB (w.alloc (.cells #[.int .i64 0, .int .i64 0] 61)) g.fin.heap.size := ⟨(ExtC.ext : Ext (w.alloc (.cells #[.int .i64 0, .int .i64 0] 61)) g.fin).size⟩
    have HB0 : Hid (BxF g.fin.heap.size (0, 1) (g.fin.alloc (.cells #[.int .i64 0, .int .i64 1] 61))) := Lib.hid (box_frac g.fin (0, 1) _)
    clear hd
    go_loopw [5, 19] (fun o i wr => ∃ (k : Nat) (s : Int × Int), k ≤ xs.length ∧ i = .int .i64 k ∧ o = .bool true ∧ Ext (w.alloc (.cells #[.int .i64 0, .int .i64 0] 61)) wr ∧ Hid (BxF g.fin.heap.size s wr) ∧ Hid (sumF xs k = some s)) (fun _ i _ => xs.length - (intOf i).toNat)
    case atStart => exact ⟨0, (0, 1), Nat.zero_le _, rfl, rfl, ExtC.ext, HB0, Lib.hid rfl⟩
    case round =>
      obtain ⟨k, ⟨sn, sd⟩, hk, rfl, rfl, hx, HB, HS⟩ := hrel
      clear HB0
      obtain ⟨g0, rfl⟩ := hx.grow; clear hx
      obtain ⟨ib, c0, c1, f0, f1⟩ := HB.out
      dsimp only at c0 c1
      by_cases hlt : k < xs.length
      · obtain ⟨xb, xo, hxp, ixb, hxx⟩ := HQ.out (by omega)
        subst hxp
        obtain ⟨d1, d2⟩ := hxx k hlt
        have o1 := sumF_ok k _ HS.out
        have o2 := HA.out k hlt
        have hyes := sumF_yes HS.out hlt
        have hnot := sumF_no HS.out hlt
        obtain ⟨⟨n, d⟩, hnd⟩ : ∃ f, xs[k] = f := ⟨_, rfl⟩
        rw [hnd] at d1 d2 o2 hyes hnot
        dsimp only at d1 d2 o1 o2
        have HP := fun z => impl_plus sn sd n d o1 o2 z
        unfold stN stD at hyes hnot
        dsimp only at hyes hnot
        obtain ⟨un, hun⟩ : ∃ u, redN (sn * d + n * sd) (sd * d) = u := ⟨_, rfl⟩
        obtain ⟨ud, hud⟩ : ∃ u, redD (sn * d + n * sd) (sd * d) = u := ⟨_, rfl⟩
        rw [hun, hud] at HP hyes hnot
        have HT := fun z => impl_told un ud z
        clear hxx hnd o1 o2 hun hud
        cases q : okF un ud
        · simp only [q, keepI, Bool.false_eq_true, if_false] at HT
          have HNO := Lib.hid (sumF_none (hnot q) xs.length (by omega))
          clear hyes hnot q
          obtain ⟨rfl, rfl, rfl⟩ := hN.out (sum_over HNO.out)
          go_wp2_with (first | (go_at_call 148; (with_reducible refine (HP _).mono ?_); rintro e w' ⟨rfl, hx⟩; obtain ⟨g6, rfl⟩ := hx.grow; clear hx) | (go_at_call 147; (with_reducible refine (HT _).mono ?_); rintro e w' ⟨rfl, hx⟩; obtain ⟨g7, rfl⟩ := hx.grow; clear hx))
          refine bodyPost_ret (v := .tuple #[.agg #[.int .i64 0, .int .i64 0], .bool false]) (by simp [results, Try.results71, go_sem]) rfl ⟨rfl, ?_⟩
          exact ExtC.ext
        · simp only [q, keepI, if_true] at HT
          have HYES := Lib.hid (hyes q)
          clear hyes hnot q
          go_wp2_with (first | (go_at_call 148; (with_reducible refine (HP _).mono ?_); rintro e w' ⟨rfl, hx⟩; obtain ⟨g6, rfl⟩ := hx.grow; clear hx) | (go_at_call 147; (with_reducible refine (HT _).mono ?_); rintro e w' ⟨rfl, hx⟩; obtain ⟨g7, rfl⟩ := hx.grow; clear hx))
          go_roundw
          case rel => exact ⟨k + 1, (un, ud), by omega, by go_num, rfl, ExtC.ext, Lib.hid ((HB.out.ext (ExtC.ext : Ext g0.fin g7.fin)).store (un, ud)), HYES⟩
          case measure => simp [intOf]; omega
      · have e : k = xs.length := by omega
        subst e
        obtain ⟨rfl, e1, e2⟩ := hY.out _ (sum_yes (show FsP xs from ⟨by omega, HA.out⟩) HS.out)
        dsimp only at e1 e2
        subst e1
        subst e2
        go_wp2_with fail
        refine bodyPost_ret (v := .tuple #[.agg #[.int .i64 pn, .int .i64 pd], .bool true]) (by simp [results, Try.results71, go_sem]) rfl ⟨rfl, ?_⟩
        exact ExtC.ext
  · obtain ⟨rfl, rfl, rfl⟩ := hN.out (sum_no fun hh => hall hh.2)
    have HF := fun z (hz : Ext w z) => any_frac p xs c z (HR.out.ext hz) hn true (by simp [hall])
    clear hall
    go_enter Try.func71, Try.ntmps71
    go_wp2_with (first | (go_at_call 143; (with_reducible refine (HF _ ExtC.ext).mono ?_); rintro e w' ⟨rfl, hx⟩; obtain ⟨g, rfl⟩ := hx.grow; clear hx))
    refine bodyPost_ret (v := .tuple #[.agg #[.int .i64 0, .int .i64 0], .bool false]) (by simp [results, Try.results71, go_sem]) rfl ⟨rfl, ?_⟩
    exact ExtC.ext

set_option maxHeartbeats 4000000 in
set_option maxRecDepth 100000 in
theorem spec_l01Sum (v : Value) (xs : SD) (w : World) (h : RP w v xs) (hF : FsP xs) (b : Bool) (pn pd : Int) (hN : sumF xs xs.length = none → b = false ∧ pn = 0 ∧ pd = 0) (hY : ∀ s, sumF xs xs.length = some s → b = true ∧ pn = s.1 ∧ pd = s.2) :
    Calls Try.prog 141 #[v] w fun e w' => e = .returned (.tuple #[.agg #[.int .i64 pn, .int .i64 pd], .bool b]) ∧ Ext w w' := by
  obtain ⟨p, c, rfl, -, hq⟩ := h.form
  have HQ := Lib.hid hq
  have HA := Lib.hid hF.2
  have hl := hF.1
  have HNN := Lib.hid (And.intro hN hY)
  clear h hq hF hN hY
  go_enter Try.func141, Try.ntmps141
  go_wp2_with fail
  have HB0 : Hid (BxF (w.heap.size + 1) (0, 1) ((w.alloc (.cells #[.int .i64 0, .int .i64 0] 61)).alloc (.cells #[.int .i64 0, .int .i64 1] 61))) := Lib.hid (by have := box_frac (w.alloc (.cells #[.int .i64 0, .int .i64 0] 61)) (0, 1) 61; simpa using this)
  have nb : NewB (w.alloc (.cells #[.int .i64 0, .int .i64 0] 61)) (w.heap.size + 1) := ⟨by simp⟩
  go_loopw [5] (fun i wr => ∃ (k : Nat) (s : Int × Int), k ≤ xs.length ∧ i = .int .i64 k ∧ Ext (w.alloc (.cells #[.int .i64 0, .int .i64 0] 61)) wr ∧ Hid (BxF (w.heap.size + 1) s wr) ∧ Hid (sumF xs k = some s)) (fun i _ => xs.length - (intOf i).toNat)
  case atStart => exact ⟨0, (0, 1), Nat.zero_le _, rfl, ExtC.ext, HB0, Lib.hid rfl⟩
  case round =>
    obtain ⟨k, ⟨sn, sd⟩, hk, rfl, hx, HB, HS⟩ := hrel
    clear HB0
    obtain ⟨gk, rfl⟩ := hx.grow; clear hx
    obtain ⟨ib, c0, c1, f0, f1⟩ := HB.out
    dsimp only at c0 c1
    by_cases hlt : k < xs.length
    · obtain ⟨xb, xo, hxp, ixb, hxx⟩ := HQ.out (by omega)
      subst hxp
      obtain ⟨d1, d2⟩ := hxx k hlt
      have o1 := sumF_ok k _ HS.out
      have o2 := HA.out k hlt
      have hyes := sumF_yes HS.out hlt
      have hnot := sumF_no HS.out hlt
      obtain ⟨⟨n, d⟩, hnd⟩ : ∃ f, xs[k] = f := ⟨_, rfl⟩
      rw [hnd] at d1 d2 o2 hyes hnot
      dsimp only at d1 d2 o1 o2
      have HP := fun z => spec_l01Add sn sd n d o1 o2 z
      unfold stN stD at hyes hnot
      dsimp only at hyes hnot
      obtain ⟨un, hun⟩ : ∃ u, redN (sn * d + n * sd) (sd * d) = u := ⟨_, rfl⟩
      obtain ⟨ud, hud⟩ : ∃ u, redD (sn * d + n * sd) (sd * d) = u := ⟨_, rfl⟩
      rw [hun, hud] at HP hyes hnot
      clear hxx hnd o1 o2 hun hud
      cases q : okF un ud
      · simp only [q, keepI, Bool.false_eq_true, if_false] at HP
        have HNO := Lib.hid (sumF_none (hnot q) xs.length (by omega))
        clear hyes hnot q
        obtain ⟨rfl, rfl, rfl⟩ := HNN.out.1 HNO.out
        go_wp2_with fail
        refine wp_region_box (V := .agg #[.int .i64 0, .int .i64 0]) 9 (.cells #[.int .i64 0, .int .i64 0] 61) (fun x b => ((x.setCell ⟨b, 0, none⟩ (.int .i64 0)).setCell ⟨b, 1, none⟩ (.int .i64 0))) (by kernel_rfl) (by kernel_rfl) rfl rfl (by intro a x; go_simp; rfl) rfl rfl rfl rfl ?hst (fun _ _ => ExtC.ext) ?_
        case hst => intro ev g0 g1 e1 e2; simp only [ptrTo] at e2; simp [go_sem, e1, e2]
        simp only [List.take_succ_cons, List.take_zero, List.drop_succ_cons, List.drop_zero]
        repeat (refine wpQuietE_step (fun K hK => ?_); go_simp; first | (refine hK _ ?_; clear hK K) | (apply Exists.intro; refine ⟨fun _ => ?_, hK _ ?_⟩; (first | (go_at_call 175; exact growE_of (HP _); clear hK K))))
        refine wpQuietE_nil ?_
        intro b; refine ⟨rfl, rfl, ?_⟩; intro g0 g1 g hb; subst hb
        simp only [Act.put, ptrTo]
        go_wp2_with fail
        refine bodyPost_ret (v := .tuple #[.agg #[.int .i64 0, .int .i64 0], .bool false]) (by simp [results, Try.results141, go_sem]) rfl ⟨rfl, ?_⟩
        exact ExtC.ext
      · simp only [q, keepI, if_true] at HP
        have HYES := Lib.hid (hyes q)
        clear hyes hnot q
        go_wp2_with fail
        refine wp_region_box (V := .agg #[.int .i64 un, .int .i64 ud]) 9 (.cells #[.int .i64 0, .int .i64 0] 61) (fun x b => ((x.setCell ⟨b, 0, none⟩ (.int .i64 un)).setCell ⟨b, 1, none⟩ (.int .i64 ud))) (by kernel_rfl) (by kernel_rfl) rfl rfl (by intro a x; go_simp; rfl) rfl rfl rfl rfl ?hst (fun _ _ => ExtC.ext) ?_
        case hst => intro ev g0 g1 e1 e2; simp only [ptrTo] at e2; simp [go_sem, e1, e2]
        simp only [List.take_succ_cons, List.take_zero, List.drop_succ_cons, List.drop_zero]
        repeat (refine wpQuietE_step (fun K hK => ?_); go_simp; first | (refine hK _ ?_; clear hK K) | (apply Exists.intro; refine ⟨fun _ => ?_, hK _ ?_⟩; (first | (go_at_call 175; exact growE_of (HP _); clear hK K))))
        refine wpQuietE_nil ?_
        intro b; refine ⟨rfl, rfl, ?_⟩; intro g0 g1 g hb; subst hb
        simp only [Act.put, ptrTo]
        go_wp2_with fail
        go_roundw
        case rel => exact ⟨k + 1, (un, ud), by omega, by go_num, ExtC.ext, Lib.hid ((HB.out.ext (ExtC.ext : Ext gk.fin g.fin)).store (un, ud)), HYES⟩
        case measure => simp [intOf]; omega
    · have e : k = xs.length := by omega
      subst e
      obtain ⟨rfl, e1, e2⟩ := HNN.out.2 _ HS.out
      dsimp only at e1 e2
      subst e1
      subst e2
      go_wp2_with fail
      refine bodyPost_ret (v := .tuple #[.agg #[.int .i64 pn, .int .i64 pd], .bool true]) (by simp [results, Try.results141, go_sem]) rfl ⟨rfl, ?_⟩
      exact ExtC.ext

set_option maxHeartbeats 4000000 in
set_option maxRecDepth 100000 in
theorem spec_SumFractions' (v : Value) (xs : SD) (w : World) (h : RP w v xs) (hn : xs.length ≤ 1048576) (b : Bool) (hb : sumB xs = b) (pn pd : Int) (hp : sumA xs = (pn, pd)) :
    Calls Try.prog 69 #[v] w fun e w' => e = .returned (.tuple #[.agg #[.int .i64 pn, .int .i64 pd], .bool b]) ∧ Ext w w' := by
  obtain ⟨p, c, rfl, -, hq⟩ := h.form
  have HR := Lib.hid h
  have HQ := Lib.hid hq
  clear h hq
  have hN := Lib.hid (fun (h : sumB xs = false ∧ sumA xs = (0, 0)) => (by
    have := hp.symm.trans h.2
    simp only [Prod.mk.injEq] at this
    exact ⟨hb.symm.trans h.1, this.1, this.2⟩ : b = false ∧ pn = 0 ∧ pd = 0))
  have hY := Lib.hid (fun (s : Int × Int) (h : sumB xs = true ∧ sumA xs = s) => (by
    have := hp.symm.trans h.2
    exact ⟨hb.symm.trans h.1, by rw [← this], by rw [← this]⟩ : b = true ∧ pn = s.1 ∧ pd = s.2))
  clear hb hp
  go_enter Try.func69, Try.ntmps69
  go_wp2_with fail
  go_loopw [4] (fun i wr => ∃ k : Nat, k ≤ xs.length ∧ i = .int .i64 k ∧ Ext (w.alloc (.cells #[.int .i64 0, .int .i64 0] 61)) wr ∧ Hid (∀ j (hj : j < xs.length), j < k → okF xs[j].1 xs[j].2 = true)) (fun i _ => xs.length - (intOf i).toNat)
  case atStart => exact ⟨0, Nat.zero_le _, rfl, ExtC.ext, Lib.hid fun j _ hj => absurd hj (by omega)⟩
  case round =>
    obtain ⟨k, hk, rfl, hx, HI⟩ := hrel
    obtain ⟨g0, rfl⟩ := hx.grow; clear hx
    by_cases hlt : k < xs.length
    · obtain ⟨b', off', hpp, ib', hr⟩ := HQ.out (by omega)
      subst hpp
      obtain ⟨d1, d2⟩ := hr k hlt
      obtain ⟨n, hn1⟩ : ∃ n, xs[k].1 = n := ⟨_, rfl⟩
      obtain ⟨d, hd1⟩ : ∃ n, xs[k].2 = n := ⟨_, rfl⟩
      rw [hn1] at d1
      rw [hd1] at d2
      cases q : okF n d
      · have HQ2 := Lib.hid (show okF xs[k].1 xs[k].2 = false by rw [hn1, hd1]; exact q)
        have HF := fun z => spec_l01Ok n d false q z
        clear hr hn1 hd1 q
        obtain ⟨rfl, rfl, rfl⟩ := hN.out (sum_no fun hh => by have := hh.2 k hlt; rw [HQ2.out] at this; cases this)
        go_wp2_with (first | (go_at_call 140; (with_reducible refine (HF _).mono ?_); rintro e w' ⟨rfl, hx⟩; obtain ⟨g, rfl⟩ := hx.grow; clear hx))
        refine bodyPost_ret (v := .tuple #[.agg #[.int .i64 0, .int .i64 0], .bool false]) (by simp [results, Try.results69, go_sem]) rfl ⟨rfl, ?_⟩
        exact ExtC.ext
      · have HQ2 := Lib.hid (show okF xs[k].1 xs[k].2 = true by rw [hn1, hd1]; exact q)
        have HF := fun z => spec_l01Ok n d true q z
        clear hr hn1 hd1 q
        go_wp2_with (first | (go_at_call 140; (with_reducible refine (HF _).mono ?_); rintro e w' ⟨rfl, hx⟩; obtain ⟨g, rfl⟩ := hx.grow; clear hx))
        go_roundw
        case rel =>
          refine ⟨k + 1, by omega, by go_num, ExtC.ext, Lib.hid fun j hj hjk => ?_⟩
          by_cases e : j = k
          · subst e; exact HQ2.out
          · exact HI.out j hj (by omega)
        case measure => simp [intOf]; omega
    · have e : k = xs.length := by omega
      have HI2 := Lib.hid (fun j hj => HI.out j hj (by omega) : ∀ j (hj : j < xs.length), okF xs[j].1 xs[j].2 = true)
      clear e
      by_cases hbig : 20 < xs.length
      · obtain ⟨rfl, rfl, rfl⟩ := hN.out (sum_no fun hh => by have := hh.1; omega)
        have hd : decide ((20 : Int) < (xs.length : Int)) = true := by simp; omega
        go_wp2_with fail
        refine bodyPost_ret (v := .tuple #[.agg #[.int .i64 0, .int .i64 0], .bool false]) (by simp [results, Try.results69, go_sem]) rfl ⟨rfl, ?_⟩
        exact ExtC.ext
      · have hd : decide ((20 : Int) < (xs.length : Int)) = false := by simp; omega
        have HFS := Lib.hid (show FsP xs from ⟨by omega, HI2.out⟩)
        go_wp2_with fail
        refine Calls.mono (spec_l01Sum _ xs _ (HR.out.ext ExtC.ext) HFS.out b pn pd (fun h => hN.out (sum_over h)) (fun s hs => hY.out s (sum_yes HFS.out hs))) ?_
        rintro e w' ⟨rfl, hx⟩; obtain ⟨g2, rfl⟩ := hx.grow; clear hx
        go_wp2_with fail
        refine bodyPost_ret (v := .tuple #[.agg #[.int .i64 pn, .int .i64 pd], .bool b]) (by simp [results, Try.results69, go_sem]) rfl ⟨rfl, ?_⟩
        exact ExtC.ext
end Go.Proofs.Ytbbppkcdgcajjaa
