/- slices.DeleteFunc at rows, walked: what is kept of the rows that a function owns. -/
import Derived.Test.YtoedphgoaifojaaSetsOf
import Derived.Test.YtoedphgoaifojaaTeamsS
import Derived.Lib.SlKept
import Derived.Lib.SliceRun
import Derived.Sort.WalkB12
namespace Go.Proofs.Ytoedphgoaifojaa
open Go.RowKit Go.Lib Go.Sort

set_option maxHeartbeats 1000000 in
theorem impl_panels1 (bx : Nat) (pe sz : Int) (qv t : Value) (L : List QD) (xs : List Int) (w : World) (hb : BxP bx pe sz qv w) (hq : RQ w qv L) (ht : RI w t xs) (hs : CntQ L) (hxl : xs.length ≤ 1152921504606846976) (b : Bool) (hbb : b = true ↔ missed L xs ≠ 0) :
    Calls Try.prog 111 #[t, .pointer (some ⟨bx, 0, none⟩)] w fun e w' => e = .returned (.bool b) ∧ Ext w w' := by
  obtain ⟨p, c, rfl, -⟩ := hq.form
  obtain ⟨tp, tc, rfl, -, -⟩ := ht.form
  obtain ⟨m, hm⟩ : ∃ m, missed L xs = m := ⟨_, rfl⟩
  have hm0 := (missed_all hs xs).1
  have hsf := fun x (hx : Ext w x) => impl_shortfall pe sz _ _ L xs x (hq.ext hx) (ht.ext hx) hs hxl m hm
  rw [hm] at hm0 hbb
  have hbe : b = decide (0 < m) := by rw [Bool.eq_iff_iff, hbb]; simp only [decide_eq_true_eq]; omega
  subst hbe
  obtain ⟨ib, b0, b1, b2⟩ := hb
  clear hq ht hm hbb
  go_enter Try.func111, Try.ntmps111
  go_wp2_with (first | (go_at_call 61; (with_reducible refine (hsf _ ExtC.ext).mono ?_); rintro e w' ⟨rfl, hx⟩; obtain ⟨g, rfl⟩ := hx.grow; clear hx))
  go_ret
  exact ⟨rfl, ExtC.ext⟩

/-- The row of a slice that is cut. -/
theorem ownsRow_take {lo g n c i : Nat} {T : TypeId} {w : World} {cs : List Value} (h : w.ownsRow lo T 1 (.slice (some ⟨g, 0, none⟩) n c) n cs) (hi : i ≤ n) : w.ownsRow lo T 1 (.slice (some ⟨g, 0, none⟩) i c) i (cs.take i) := by
  obtain ⟨h1, h2⟩ := h
  refine ⟨by rw [List.length_take]; omega, ?_⟩
  rcases h2 with ⟨e, _⟩ | ⟨g', cap', cur, e, q1, q2, q3, q4, q5, q6⟩
  · cases e
  simp only [Value.slice.injEq, Option.some.injEq, Addr.mk.injEq, and_true, true_and] at e
  obtain ⟨rfl, rfl⟩ := e
  refine .inr ⟨g, c, cur, rfl, q1, q2, by omega, q4, q5, ?_⟩
  rw [← q6, List.take_take, Nat.min_eq_left (by omega)]; congr 1; omega
theorem row_setCells {lo g n c i : Nat} {T : TypeId} : ∀ (vs : List Value) (w : World) (o : Nat) (cs : List Value), w.ownsRow lo T 1 (.slice (some ⟨g, 0, none⟩) n c) n cs → i ≤ o → ∃ cs', (w.setCells g o vs).ownsRow lo T 1 (.slice (some ⟨g, 0, none⟩) n c) n cs' ∧ cs'.take i = cs.take i
  | [], w, o, cs, h, _ => ⟨cs, h, rfl⟩
  | v :: vs, w, o, cs, h, hi => by
    obtain ⟨cs', h1, h2⟩ := row_setCells (i := i) vs (w.setCell ⟨g, o, none⟩ v) (o + 1) _ (h.stored o v).1 (by omega)
    refine ⟨cs', h1, h2.trans ?_⟩
    rw [List.take_set_of_le hi]

/-- The closure that strikes: true where a row is not kept. -/
def Strikes (bx g : Nat) (w : World) (Tl : List (List Int)) (kp : Nat → Bool) : Prop :=
  ∀ j (hj : j < Tl.length) (t : Value) x, RI x t Tl[j] → Rng g (g + 1) w x → Calls Try.prog 111 #[t, .pointer (some ⟨bx, 0, none⟩)] x fun e w' => e = .returned (.bool (!kp j)) ∧ Ext x w'

set_option maxHeartbeats 2000000 in
theorem find_struck (bx g n c : Nat) (Tl : List (List Int)) (kp : Nat → Bool) (w : World) (hC : Strikes bx g w Tl kp) (hn : Tl.length = n) (hnl : n ≤ 1048576) (ib : InW g w) (ts : Nat → Value) (hr : ∀ i (h : i < Tl.length), w.cell? ⟨g, i, none⟩ = some (ts i) ∧ RI w (ts i) Tl[i]) :
    Calls Try.prog 140 #[.slice (some ⟨g, 0, none⟩) n c, .func (.func 111) #[] #[.pointer (some ⟨bx, 0, none⟩)]] w fun e w' => ∃ r : Int, e = .returned (.int .i64 r) ∧
      ((r = -1 ∧ ∀ j, j < n → kp j = true) ∨ ∃ k0 : Nat, k0 < n ∧ r = k0 ∧ kp k0 = false ∧ ∀ j, j < k0 → kp j = true) ∧ Ext w w' := by
  subst hn
  have HR := Lib.hid hr
  have HC := Lib.hid hC
  clear hr hC
  go_enter Try.func140, Try.ntmps140
  go_wp2_with fail
  go_loopw [8] (fun i wr => ∃ k : Nat, k ≤ Tl.length ∧ i = .int .i64 k ∧ Ext w wr ∧ Hid (∀ j, j < k → kp j = true)) (fun i _ => Tl.length - (intOf i).toNat)
  case atStart => exact ⟨0, Nat.zero_le _, rfl, Ext.refl _, Lib.hid fun j hj => absurd hj (by omega)⟩
  case round =>
    obtain ⟨k, hk, rfl, hx, HNO⟩ := hrel
    obtain ⟨g0, rfl⟩ := hx.grow; clear hx
    by_cases hlt : k < Tl.length
    · have d := (HR.out k hlt).1
      obtain ⟨q, hq⟩ : ∃ q, kp k = q := ⟨_, rfl⟩
      have hcall := fun x (hx : Ext w x) => HC.out k hlt (ts k) x ((HR.out k hlt).2.ext hx) (Rng.of_ext hx)
      rw [hq] at hcall
      have HK := Lib.hid hq; clear hq
      cases q
      · go_wp2_with fail
        refine Calls.mono (hcall _ ExtC.ext) ?_
        rintro e w' ⟨rfl, hx⟩; obtain ⟨g2, rfl⟩ := hx.grow; clear hx
        go_wp2_with fail
        go_ret
        exact ⟨(k : Int), rfl, .inr ⟨k, hlt, rfl, HK.out, HNO.out⟩, ExtC.ext⟩
      · go_wp2_with fail
        refine Calls.mono (hcall _ ExtC.ext) ?_
        rintro e w' ⟨rfl, hx⟩; obtain ⟨g2, rfl⟩ := hx.grow; clear hx
        go_wp2_with fail
        go_roundw
        case rel =>
          refine ⟨k + 1, by omega, by go_num, ExtC.ext, Lib.hid fun j hjk => ?_⟩
          by_cases e : j = k
          · subst e; exact HK.out
          · exact HNO.out j (by omega)
        case measure => simp [intOf]; omega
    · have e : k = Tl.length := by omega
      go_wp2
      go_ret
      exact ⟨-1, rfl, .inl ⟨rfl, fun j hj => HNO.out j (by omega)⟩, ExtC.ext⟩

theorem range_getD (n j : Nat) (hj : j < n) : (Array.range n)[j]! = j := by simp [hj]
set_option maxHeartbeats 4000000 in
set_option maxRecDepth 100000 in
theorem delete_rows {lo hi g n c : Nat} (bx : Nat) (Tl : List (List Int)) (kp : Nat → Bool) (w : World) (h : OwnR intKind 33 lo hi w (.slice (some ⟨g, 0, none⟩) n c) Tl) (hC : Strikes bx g w Tl kp) (hnl : n ≤ 1048576) (L' : List (List Int)) (hL : ((List.range n).filter kp).map (fun i => Tl.getD i []) = L') :
    Calls Try.prog 110 #[.slice (some ⟨g, 0, none⟩) n c, .func (.func 111) #[] #[.pointer (some ⟨bx, 0, none⟩)]] w fun e w' =>
      e = .returned (.slice (some ⟨g, 0, none⟩) L'.length c) ∧ OwnR intKind 33 lo hi w' (.slice (some ⟨g, 0, none⟩) L'.length c) L' ∧ Rng g (g + 1) w w' := by
  have hw0 := Lib.hid h
  rcases h with ⟨e, _⟩ | ⟨g0, cap, cs, a, b, e, h3, h4, how, hc, hd⟩
  · simp at e
  simp only [Value.slice.injEq, Option.some.injEq, Addr.mk.injEq, and_true] at e
  obtain ⟨rfl, rfl, rfl⟩ := e
  have hlt := (how.lt g rfl).2
  have ig : InW g w := ⟨hlt⟩
  have hcl : cs.length = Tl.length := by rw [how.1]; omega
  obtain ⟨ts, hts⟩ : ∃ ts : Nat → Value, ts = fun i => cs.getD i (.slice none 0 0) := ⟨_, rfl⟩
  have hcs : (List.range Tl.length).map ts = cs := by
    apply List.ext_getElem?
    intro j
    rw [hts]
    by_cases hj : j < Tl.length
    · simp [hj, show j < cs.length by omega]
    · rw [List.getElem?_eq_none (by simp; omega), List.getElem?_eq_none (by omega)]
  have hrow : ∀ i (h : i < Tl.length), OwnI (a i) (b i) w (ts i) Tl[i] ∧ lo ≤ a i ∧ b i ≤ hi ∧ (g < a i ∨ b i ≤ g) := fun i hi' => by
    obtain ⟨t, q1, q2⟩ := hc i hi'
    have : ts i = t := by rw [hts]; simp [q1]
    rw [this]; exact q2
  have hcell : ∀ i (h : i < Tl.length), w.cell? ⟨g, i, none⟩ = some (ts i) := fun i hi' => by
    rw [how.cellAt i (by omega), ← hcs]; simp [hi']
  have hfind := find_struck bx g Tl.length c Tl kp w hC rfl hnl ig ts (fun i hi' => ⟨hcell i hi', (hrow i hi').1.ri⟩)
  -- the end: what is kept lies at the row's head
  have hend : ∀ (x : World) (m : Nat) (dk : Array Nat) (cs' : List Value), Rng g (g + 1) w x → (keptUpTo kp (Array.range Tl.length) Tl.length).length = m → m ≤ Tl.length → (∀ j, j < m → (keptUpTo kp (Array.range Tl.length) Tl.length)[j]? = some dk[j]!) → dk.size = Tl.length →
      x.ownsRow lo 33 1 (.slice (some ⟨g, 0, none⟩) Tl.length c) Tl.length cs' → cs'.take m = (dk.toList.map ts).take m → L'.length = m ∧ OwnR intKind 33 lo hi x (.slice (some ⟨g, 0, none⟩) L'.length c) L' := by
    intro x m dk cs' hr hm hmn hlow hds hox hct
    have hk0 : keptUpTo kp (Array.range Tl.length) Tl.length = (List.range Tl.length).filter kp := by
      unfold keptUpTo
      rw [show ((List.range Tl.length).filter kp).map (fun x => (Array.range Tl.length)[x]!) = ((List.range Tl.length).filter kp).map id from List.map_congr_left fun j hj => range_getD _ _ (List.mem_range.1 (List.mem_filter.1 hj).1), List.map_id]
    rw [hk0] at hm hlow
    have hLl : L'.length = m := by rw [← hL, List.length_map]; exact hm
    have hkj : ∀ j, j < m → dk[j]! < Tl.length ∧ L'[j]? = some (Tl.getD dk[j]! []) := fun j hj => by
      have h1 := hlow j hj
      have hmem := List.mem_of_getElem? h1
      refine ⟨List.mem_range.1 (List.mem_filter.1 hmem).1, ?_⟩
      rw [← hL, List.getElem?_map, h1]; rfl
    refine ⟨hLl, .inr ⟨g, c, cs'.take m, fun j => a dk[j]!, fun j => b dk[j]!, rfl, h3, h4, by rw [hLl]; exact ownsRow_take hox hmn, fun i hi' => ?_, fun i j hij hj => ?_⟩⟩
    · obtain ⟨k1, k2⟩ := hkj i (by omega)
      obtain ⟨r1, r2, r3, r4⟩ := hrow _ k1
      refine ⟨ts dk[i]!, ?_, ?_, r2, r3, r4⟩
      · rw [hct, List.getElem?_take, if_pos (by omega)]
        simp [show i < dk.size by omega]
      · have e : L'[i] = Tl[dk[i]!] := by
          have := List.getElem?_eq_getElem hi'
          rw [k2] at this
          have := Option.some.inj this
          rw [← this]; simp [k1]
        rw [e]
        exact r1.rng hr (by omega)
    · obtain ⟨k1, _⟩ := hkj i (by omega)
      obtain ⟨k2, _⟩ := hkj j (by omega)
      have hlt2 : dk[i]! < dk[j]! := by
        have p1 : ((List.range Tl.length).filter kp).Pairwise (· < ·) := List.pairwise_lt_range.filter _
        have q1 := hlow i (by omega)
        have q2 := hlow j (by omega)
        obtain ⟨i1, e1⟩ := List.getElem?_eq_some_iff.1 q1
        obtain ⟨i2, e2⟩ := List.getElem?_eq_some_iff.1 q2
        have := List.pairwise_iff_getElem.1 p1 i j i1 i2 hij
        rw [e1, e2] at this
        exact this
      exact hd _ _ hlt2 k2
  have HEND := Lib.hid hend
  have HC := Lib.hid hC
  have HOW := Lib.hid how
  have HCS := Lib.hid hcs
  have HROW := Lib.hid (And.intro hrow hcell)
  clear hend hC how hcs hrow hcell hts hc hd hL hw0
  go_enter Try.func110, Try.ntmps110
  go_wp2_with fail
  refine Calls.mono hfind ?_
  rintro e w' ⟨r, rfl, hr, hx⟩; obtain ⟨g1, rfl⟩ := hx.grow; clear hx hfind
  rcases hr with ⟨rfl, hall⟩ | ⟨k0, hk0, rfl, hk1, hall⟩
  · have hkeep : keptUpTo kp (Array.range Tl.length) Tl.length = (List.range Tl.length).map ((Array.range Tl.length)[·]!) := keptUpTo_all kp _ _ hall
    obtain ⟨e1, e2⟩ := HEND.out g1.fin Tl.length (Array.range Tl.length) cs (Rng.of_ext ExtC.ext) (by rw [hkeep]; simp) (Nat.le_refl _) (fun j hj => by rw [hkeep]; simp [hj]) (by simp) (ownsRow_ext HOW.out ExtC.ext) (by rw [← HCS.out]; simp)
    have HE := Lib.hid e2
    clear hkeep hall e2
    have hne : ((-1 : Int) == -1) = true := rfl
    go_wp2_with fail
    go_ret
    refine ⟨by rw [e1]; rfl, HE.out, Rng.of_ext ExtC.ext⟩
  · have hne : ((k0 : Int) == -1) = false := beq_eq_false_iff_ne.2 (by omega)
    have HS := Lib.hid (KeptInv.start (d := Array.range Tl.length) hall hk1)
    clear hall hk1
    go_wp2_with fail
    go_loopw [5, 6] (fun s5 s6 wr => ∃ (i j : Nat) (dk : Array Nat), s5 = .int .i64 i ∧ s6 = .int .i64 j ∧ i < j ∧ j ≤ Tl.length ∧ Rng g (g + 1) w wr ∧ wr.ownsRow lo 33 1 (.slice (some ⟨g, 0, none⟩) Tl.length c) Tl.length (dk.toList.map ts) ∧ Hid (KeptInv kp (Array.range Tl.length) j i dk)) (fun _ s6 _ => Tl.length - (intOf s6).toNat)
    case atStart => exact ⟨k0, k0 + 1, Array.range Tl.length, rfl, by go_num, by omega, by omega, Rng.of_ext ExtC.ext, by have := ownsRow_ext HOW.out (ExtC.ext : Ext w g1.fin); rw [← HCS.out] at this; simpa using this, HS⟩
    case round =>
      clear HS
      obtain ⟨i, j, dk, rfl, rfl, hij, hjn, hr, how', HI⟩ := hrel
      have hds : dk.size = Tl.length := by have := HI.out.size; simpa using this
      have iw : InW g wr := ⟨(how'.lt g rfl).2⟩
      have hci : ∀ x, Ext wr x → ∀ y, y < Tl.length → x.cell? ⟨g, y, none⟩ = some (ts dk[y]!) := fun x hx y hy => by
        rw [(ownsRow_ext how' hx).cellAt y (by omega)]; simp [show y < dk.size by omega]
      have hfz : ∀ x, Ext wr x → ∀ y, x.frozen? ⟨g, y, none⟩ = false := fun x hx y => (ownsRow_ext how' hx).frozenAt y
      have HCI := Lib.hid (And.intro hci hfz)
      have HOX := Lib.hid (And.intro how' hr)
      clear hci hfz how' hr
      by_cases hlt : j < Tl.length
      · have hdj : dk[j]! = j := by rw [HI.out.high j (by omega)]; exact range_getD _ _ hlt
        have d1 := HCI.out.1 wr (Ext.refl _) j hlt
        rw [hdj] at d1
        obtain ⟨q, hq⟩ : ∃ q, kp j = q := ⟨_, rfl⟩
        obtain ⟨r1, r2, r3, r4⟩ := HROW.out.1 j hlt
        have hcall := HC.out j hlt (ts j) wr (r1.rng HOX.out.2 (by omega)).ri HOX.out.2
        rw [hq] at hcall
        have HK := Lib.hid hq
        obtain ⟨tp, tc, htj, -, -⟩ := r1.ri.form
        rw [htj] at d1 hcall
        have HTJ := Lib.hid htj
        clear hq hdj r1 r2 r3 r4 htj
        cases q
        · go_wp2_with fail
          refine Calls.mono hcall ?_
          rintro e w' ⟨rfl, hx⟩; obtain ⟨g2, rfl⟩ := hx.grow; clear hx
          go_wp2_with fail
          exact ⟨⟨i, j + 1, dk, rfl, by go_num, by omega, by omega, HOX.out.2.trans (Rng.of_ext ExtC.ext), ownsRow_ext HOX.out.1 ExtC.ext, Lib.hid (HI.out.skip HK.out)⟩, by simp [intOf]; omega⟩
        · go_wp2_with fail
          refine Calls.mono hcall ?_
          rintro e w' ⟨rfl, hx⟩; obtain ⟨g2, rfl⟩ := hx.grow; clear hx
          have f1 := HCI.out.1 g2.fin ExtC.ext i (by omega)
          have f2 := HCI.out.2 g2.fin ExtC.ext i
          have hin : i < Tl.length := by omega
          go_wp2_with fail
          have hst := ((ownsRow_ext HOX.out.1 (ExtC.ext : Ext wr g2.fin)).stored i (ts j)).1
          have hset : (dk.toList.map ts).set i (ts j) = (dk.setIfInBounds i j).toList.map ts := by rw [Array.toList_setIfInBounds, List.map_set]
          rw [hset] at hst
          have hkp := HI.out.keep (by simpa using hlt) HK.out
          rw [range_getD _ _ hlt] at hkp
          rw [← HTJ.out]
          exact ⟨⟨i + 1, j + 1, dk.setIfInBounds i j, by go_num, by go_num, by omega, by omega, (HOX.out.2.trans (Rng.of_ext ExtC.ext)).setCell (p := ⟨g, i, none⟩) (Nat.le_refl g) (Nat.lt_succ_self g) _, hst, Lib.hid hkp⟩, by simp [intOf]; omega⟩
      · have hjT : j = Tl.length := by omega
        subst hjT
        have hcl : ∀ ty, (Builtin.clear_ #[54] ty #[.slice (some ⟨g, i, none⟩) (Tl.length - i) (c - i)]).run Try.prog wr = .ok (.tuple #[]) (wr.setCells g i (List.replicate (Tl.length - i) (.slice none 0 0))) :=
          fun ty => Lib.run_clear_slice wr _ _ ty _ Try.underlying54 Try.zeroValue33 rfl rfl g i _ _ (by omega) (fun t ht => by rw [HCI.out.1 wr (Ext.refl _) (i + t) (by omega)]; rfl) (fun t ht => HCI.out.2 wr (Ext.refl _) (i + t))
        have hlc : i ≤ c := by have := own_le HOX.out.1; omega
        have hcne : ¬ c = i := by have := own_le HOX.out.1; omega
        go_wp2_with fail
        have hk := HI.out
        obtain ⟨cs', h1, h2⟩ := row_setCells (i := i) (List.replicate (Tl.length - i) (.slice none 0 0)) wr i _ HOX.out.1 (Nat.le_refl _)
        have hr2 := HOX.out.2.trans (rng_setCells wr g i (List.replicate (Tl.length - i) (.slice none 0 0))).1
        obtain ⟨e1, e2⟩ := HEND.out _ i dk cs' hr2 (by have := hk.len; simpa using this) (by omega) (fun j hj => hk.low j hj) hds h1 h2
        refine bodyPost_ret (v := .slice (some ⟨g, 0, none⟩) i c) (by simp [results, Try.results110, go_sem]) rfl ⟨by rw [e1], e2, hr2⟩
end Go.Proofs.Ytoedphgoaifojaa
