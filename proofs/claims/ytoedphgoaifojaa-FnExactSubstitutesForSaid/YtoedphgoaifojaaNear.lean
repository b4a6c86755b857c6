/- The set with the least shortfall: NearestPanel on both sides. -/
import Derived.Test.YtoedphgoaifojaaSetsOf
import Derived.Test.YtoedphgoaifojaaTeamsS
import Derived.Test.YtoedphgoaifojaaTail
namespace Go.Proofs.Ytoedphgoaifojaa
open Go.RowKit

/-- The rows that a function owns, one by one. -/
theorem OwnR.parts {T : TypeId} {lo hi : Nat} {w : World} {g n c : Nat} {L : List (List Int)} (h : OwnR intKind T lo hi w (.slice (some ⟨g, 0, none⟩) n c) L) :
    InW g w ∧ ∃ (ts : Nat → Value) (a b : Nat → Nat), ∀ i (hi' : i < L.length), w.cell? ⟨g, i, none⟩ = some (ts i) ∧ OwnI (a i) (b i) w (ts i) L[i] ∧ lo ≤ a i ∧ b i ≤ hi := by
  rcases h with ⟨e, _⟩ | ⟨g0, cap, cs0, a, b, e, h3, h4, how, hc, hd⟩
  · simp at e
  simp only [Value.slice.injEq, Option.some.injEq, Addr.mk.injEq, and_true] at e
  obtain ⟨rfl, rfl, rfl⟩ := e
  refine ⟨⟨(how.lt g rfl).2⟩, fun i => cs0.getD i undef, a, b, fun i hi' => ?_⟩
  obtain ⟨t, q1, q2, q3, q4, q5⟩ := hc i hi'
  have e1 : cs0.getD i undef = t := by simp [q1]
  dsimp only
  rw [how.cellAt i (by omega), e1]
  exact ⟨q1, q2, q3, q4⟩

def bestTo (L : List QD) (T : List (List Int)) : Nat → Nat
  | 0 => 0
  | k + 1 => if missed L (T.getD k []) < missed L (T.getD (bestTo L T k) []) then k else bestTo L T k
theorem bestTo_lt (L : List QD) (T : List (List Int)) (h : 0 < T.length) : ∀ k, k ≤ T.length → bestTo L T k < T.length
  | 0, _ => h
  | k + 1, hk => by
    unfold bestTo
    have := bestTo_lt L T h k (by omega)
    split <;> omega
theorem bestTo_one (L : List QD) (T : List (List Int)) : bestTo L T 1 = 0 := by
  unfold bestTo; split <;> rfl
def nearT (n k : Nat) (L : List QD) : List Int := (teams n k).getD (bestTo L (teams n k) (teams n k).length) []
open Classical in
noncomputable def nearX (pe sz : Int) (L : List QD) : List Int := if OkP pe sz L then nearT pe.toNat sz.toNat L else []
open Classical in
noncomputable def nearM (pe sz : Int) (L : List QD) : Int := if OkP pe sz L then missed L (nearT pe.toNat sz.toNat L) else 0
theorem team_small {n k : Nat} (h1 : 1 ≤ k) (h2 : k ≤ n) (h3 : n ≤ 7) {i : Nat} : ((teams n k).getD i []).length ≤ 7 := by
  by_cases hi : i < (teams n k).length
  · have := (teamsF n k h1 h2 h3).team ((teams n k).getD i []) (by simp [hi])
    omega
  · simp [List.getElem?_eq_none (show (teams n k).length ≤ i by omega)]
theorem OkP.nat {pe sz : Int} {L : List QD} (h : OkP pe sz L) : ∃ n k : Nat, pe = n ∧ sz = k ∧ 1 ≤ k ∧ k ≤ n ∧ n ≤ 7 := by
  obtain ⟨⟨a, b⟩, ⟨c, d⟩, _⟩ := h
  exact ⟨pe.toNat, sz.toNat, by omega, by omega, by omega, by omega, by omega⟩
theorem nearX_small {pe sz : Int} {L : List QD} : (nearX pe sz L).length ≤ 7 := by
  unfold nearX
  split
  · rename_i h
    obtain ⟨n, k, rfl, rfl, h1, h2, h3⟩ := h.nat
    exact team_small h1 h2 h3
  · simp

set_option maxHeartbeats 8000000 in
set_option maxRecDepth 100000 in
theorem impl_NearestPanel' (pe sz : Int) (qv : Value) (L : List QD) (w : World) (hq : RQ w qv L) (hs : ShortQ L) (b : Bool) (hb : okPB pe sz L = b) (xs : List Int) (hxs : nearX pe sz L = xs) (nm : Int) (hnm : nearM pe sz L = nm) :
    Calls Try.prog 36 #[.agg #[.int .i64 pe, .int .i64 sz, qv]] w fun e w' => ∃ v, e = .returned (.tuple #[v, .int .i64 nm, .bool b]) ∧ OwnI w.heap.size w'.heap.size w' v xs ∧ Ext w w' := by
  obtain ⟨p, c, rfl, -⟩ := hq.form
  have HV := fun x (hx : Ext w x) => (impl_ValidPool pe sz _ L x (hq.ext hx) hs).mono fun e w' (h : RetB _ e ∧ Ext x w') => (⟨h.1.toldP (okPB_iff hb), h.2⟩ : e = .returned (.bool b) ∧ Ext x w')
  have HQ := Lib.hid hq
  clear hq
  cases b
  · have hno : ¬ OkP pe sz L := fun h => by have := (okPB_iff hb).2 h; cases this
    have e1 : xs = [] := by rw [← hxs]; unfold nearX; rw [if_neg hno]
    have e2 : nm = 0 := by rw [← hnm]; unfold nearM; rw [if_neg hno]
    subst e1 e2
    clear hno hxs hnm
    go_enter Try.func36, Try.ntmps36
    go_wp2_with (first | (go_at_call 17; (with_reducible refine (HV _ ExtC.ext).mono ?_); rintro e w' ⟨rfl, hx⟩; obtain ⟨g, rfl⟩ := hx.grow; clear hx))
    refine bodyPost_ret (v := .tuple #[.slice none 0 0, .int .i64 0, .bool false]) (by simp [results, Try.results36, go_sem]) rfl ⟨_, rfl, .inl ⟨rfl, rfl⟩, ExtC.ext⟩
  · have hok := (okPB_iff hb).1 rfl
    obtain ⟨n, k, rfl, rfl, h1, h2, h3⟩ := hok.nat
    obtain ⟨T, hT⟩ : ∃ T, teams n k = T := ⟨_, rfl⟩
    have hxx : xs = T.getD (bestTo L T T.length) [] := by rw [← hxs, ← hT]; unfold nearX; rw [if_pos hok]; rfl
    have hnn : nm = missed L xs := by rw [← hnm, ← hxs]; unfold nearX nearM; rw [if_pos hok, if_pos hok]
    have hcnt := hok.cnt
    have HX := Lib.hid (And.intro hxx (And.intro hnn hcnt))
    have HF : Hid (TeamsF n k) := Lib.hid (teamsF n k h1 h2 h3)
    have HT := Lib.hid hT
    have hT0 : 0 < T.length ∧ T.length ≤ 35 := by rw [← hT]; have := HF.out; exact ⟨this.least, this.most⟩
    have HBX := Lib.hid (box_pool w n k (.slice p L.length c) 29)
    have hsets := fun x => impl_sets n k (.slice p L.length c) x h1 h2 h3 ⟨_, _, _, rfl⟩ T hT
    clear hxx hnn hcnt hok hxs hnm hT
    go_enter Try.func36, Try.ntmps36
    go_wp2_with (first | (go_at_call 17; (with_reducible refine (HV _ ExtC.ext).mono ?_); rintro e w' ⟨rfl, hx⟩; obtain ⟨g, rfl⟩ := hx.grow; clear hx) | (go_at_call 80; (with_reducible refine (hsets _).mono ?_); rintro e w' ⟨sg, sc, rfl, ho, hx⟩; obtain ⟨g1, rfl⟩ := hx.grow; clear hx; obtain ⟨isg, ts, ra, rb, hp⟩ := ho.parts; have hc0 := (hp 0 hT0.1).1; have HP := Lib.hid hp; clear hp ho))
    have hlo := (ExtC.ext : Ext w g.fin).size
    go_loopw [6, 19] (fun bv i wr => ∃ m : Nat, m ≤ T.length ∧ i = .int .i64 m ∧ bv = ts (bestTo L T m) ∧ Ext g1.fin wr) (fun _ i _ => T.length - (intOf i).toNat)
    case atStart => exact ⟨0, Nat.zero_le _, rfl, rfl, Ext.refl _⟩
    case round =>
      obtain ⟨m, hm, rfl, rfl, hx⟩ := hrel
      obtain ⟨g2, rfl⟩ := hx.grow; clear hx
      have hbm := bestTo_lt L T hT0.1 m hm
      have hfun : ∀ j (hj : j < T.length) x, Ext g1.fin x → Calls Try.prog 61 #[.agg #[.int .i64 (n : Int), .int .i64 (k : Int), .slice p L.length c], ts j] x fun e w' => e = .returned (.int .i64 (missed L (T.getD j []))) ∧ Ext x w' := fun j hj x hx => by
        have e : T.getD j [] = T[j] := by simp [hj]
        rw [e]
        have hl : T[j].length ≤ 7 := by have := (HF.out.team T[j] (by rw [HT.out]; exact List.getElem_mem hj)).1; omega
        exact impl_shortfall n k _ _ L T[j] x (HQ.out.ext ((ExtC.ext : Ext w g1.fin).trans hx)) (((HP.out j hj).2.1.ext hx).ri) HX.out.2.2 (by omega) _ rfl
      have HFN := Lib.hid hfun; clear hfun
      have f2 := HFN.out _ hbm
      obtain ⟨m2, hm2⟩ : ∃ m2, missed L (T.getD (bestTo L T m) []) = m2 := ⟨_, rfl⟩
      rw [hm2] at f2
      by_cases hlt : m < T.length
      · have f1 := HFN.out _ hlt
        have d1 := (HP.out m hlt).1
        have hst : bestTo L T (m + 1) = if missed L (T.getD m []) < missed L (T.getD (bestTo L T m) []) then m else bestTo L T m := rfl
        obtain ⟨m1, hm1⟩ : ∃ m1, missed L (T.getD m []) = m1 := ⟨_, rfl⟩
        rw [hm1] at f1
        rw [hm1, hm2] at hst
        clear hm1 hm2
        obtain ⟨bt, hbt⟩ : ∃ bt, bestTo L T m = bt := ⟨_, rfl⟩
        rw [hbt] at hst f2 hbm
        rw [hbt]
        have HBT := Lib.hid (And.intro hbt hst); clear hbt hst
        by_cases hd : m1 < m2
        · have e1 : decide (m1 < m2) = true := decide_eq_true hd
          have hst2 : bestTo L T (m + 1) = m := by rw [HBT.out.2, if_pos hd]
          clear hd
          have HST := Lib.hid hst2; clear hst2
          go_wp2_with fail
          refine wp_region_grow (by kernel_rfl) (by kernel_rfl) ?_
          repeat (go_big_quiet_step ((first | (go_at_call 61; with_reducible exact grow_of (f1 _ ExtC.ext)) | (go_at_call 61; with_reducible exact grow_of (f2 _ ExtC.ext)))))
          refine wpQuiet_nil ?_
          intro _ hw'
          obtain ⟨g, hw''⟩ := hw'
          subst hw''
          go_wp2_with fail
          exact ⟨⟨m + 1, by omega, by go_num, by rw [HST.out], ExtC.ext⟩, by simp [intOf]; omega⟩
        · have e1 : decide (m1 < m2) = false := decide_eq_false hd
          have hst2 : bestTo L T (m + 1) = bt := by rw [HBT.out.2, if_neg hd]
          clear hd
          have HST := Lib.hid hst2; clear hst2
          go_wp2_with fail
          refine wp_region_grow (by kernel_rfl) (by kernel_rfl) ?_
          repeat (go_big_quiet_step ((first | (go_at_call 61; with_reducible exact grow_of (f1 _ ExtC.ext)) | (go_at_call 61; with_reducible exact grow_of (f2 _ ExtC.ext)))))
          refine wpQuiet_nil ?_
          intro _ hw'
          obtain ⟨g, hw''⟩ := hw'
          subst hw''
          go_wp2_with fail
          exact ⟨⟨m + 1, by omega, by go_num, by rw [HST.out], ExtC.ext⟩, by simp [intOf]; omega⟩
      · have hmT : m = T.length := by omega
        subst hmT
        have hxs : T.getD (bestTo L T T.length) [] = xs := by rw [HX.out.1]
        have hnm : m2 = nm := by rw [← hm2, hxs, HX.out.2.1]
        have hown := (HP.out _ hbm).2
        have e : T.getD (bestTo L T T.length) [] = T[bestTo L T T.length] := by simp [hbm]
        rw [← e, hxs] at hown
        have HOW := Lib.hid hown
        subst hnm
        clear hown e hxs hm2
        go_wp2_with (first | (go_at_call 61; (with_reducible refine (f2 _ ExtC.ext).mono ?_); rintro e w' ⟨rfl, hx⟩; obtain ⟨g, rfl⟩ := hx.grow; clear hx))
        refine bodyPost_ret (v := .tuple #[ts (bestTo L T T.length), .int .i64 m2, .bool true]) (by simp [results, Try.results36, go_sem]) rfl ⟨_, rfl, ?_, ExtC.ext⟩
        obtain ⟨o1, o2, o3⟩ := HOW.out
        refine (o1.ext (ExtC.ext : Ext g1.fin _)).mono ?_ ?_
        · omega
        · have := (ExtC.ext : Ext g1.fin g.fin).size
          omega

set_option maxHeartbeats 8000000 in
set_option maxRecDepth 100000 in
theorem spec_NearestPanel' (pe sz : Int) (qv : Value) (L : List QD) (w : World) (hq : RQ w qv L) (hs : ShortQ L) (b : Bool) (hb : okPB pe sz L = b) (xs : List Int) (hxs : nearX pe sz L = xs) (nm : Int) (hnm : nearM pe sz L = nm) :
    Calls Try.prog 35 #[.agg #[.int .i64 pe, .int .i64 sz, qv]] w fun e w' => ∃ v, e = .returned (.tuple #[v, .int .i64 nm, .bool b]) ∧ OwnI w.heap.size w'.heap.size w' v xs ∧ Ext w w' := by
  obtain ⟨p, c, rfl, -⟩ := hq.form
  have HBX := Lib.hid (box_pool w pe sz (.slice p L.length c) 29)
  have HV := fun x (hy : Ext (w.alloc (.cells #[.int .i64 pe, .int .i64 sz, .slice p L.length c] 29)) x) (hx : Ext w x) => (spec_l04Is w.heap.size pe sz _ L x (HBX.out.ext hy) (hq.ext hx) hs).mono fun e w' (h : RetB _ e ∧ Ext x w') => (⟨h.1.toldP (okPB_iff hb), h.2⟩ : e = .returned (.bool b) ∧ Ext x w')
  have HQ := Lib.hid hq
  clear hq
  cases b
  · have hno : ¬ OkP pe sz L := fun h => by have := (okPB_iff hb).2 h; cases this
    have e1 : xs = [] := by rw [← hxs]; unfold nearX; rw [if_neg hno]
    have e2 : nm = 0 := by rw [← hnm]; unfold nearM; rw [if_neg hno]
    subst e1 e2
    clear hno hxs hnm
    go_enter Try.func35, Try.ntmps35
    go_wp2_with (first | (go_at_call 54; (with_reducible refine (HV _ ExtC.ext ExtC.ext).mono ?_); rintro e w' ⟨rfl, hx⟩; obtain ⟨g, rfl⟩ := hx.grow; clear hx))
    refine bodyPost_ret (v := .tuple #[.slice none 0 0, .int .i64 0, .bool false]) (by simp [results, Try.results35, go_sem]) rfl ⟨_, rfl, .inl ⟨rfl, rfl⟩, ExtC.ext⟩
  · have hok := (okPB_iff hb).1 rfl
    obtain ⟨n, k, rfl, rfl, h1, h2, h3⟩ := hok.nat
    obtain ⟨T, hT⟩ : ∃ T, teams n k = T := ⟨_, rfl⟩
    have hxx : xs = T.getD (bestTo L T T.length) [] := by rw [← hxs, ← hT]; unfold nearX; rw [if_pos hok]; rfl
    have hnn : nm = missed L xs := by rw [← hnm, ← hxs]; unfold nearX nearM; rw [if_pos hok, if_pos hok]
    have hcnt := hok.cnt
    have HX := Lib.hid (And.intro hxx (And.intro hnn hcnt))
    have HF : Hid (TeamsF n k) := Lib.hid (teamsF n k h1 h2 h3)
    have HT := Lib.hid hT
    have hT0 : 0 < T.length ∧ T.length ≤ 35 := by rw [← hT]; have := HF.out; exact ⟨this.least, this.most⟩
    have hteams := fun x (hy : Ext (w.alloc (.cells #[.int .i64 (n : Int), .int .i64 (k : Int), .slice p L.length c] 29)) x) => spec_l04Teams w.heap.size n k (.slice p L.length c) x (HBX.out.ext hy) h1 h2 h3 T hT
    clear hxx hnn hcnt hok hxs hnm hT
    go_enter Try.func35, Try.ntmps35
    go_wp2_with (first | (go_at_call 54; (with_reducible refine (HV _ ExtC.ext ExtC.ext).mono ?_); rintro e w' ⟨rfl, hx⟩; obtain ⟨g, rfl⟩ := hx.grow; clear hx) | (go_at_call 79; (with_reducible refine (hteams _ ExtC.ext).mono ?_); rintro e w' ⟨sg, sc, rfl, ho, hx⟩; obtain ⟨g1, rfl⟩ := hx.grow; clear hx; obtain ⟨isg, ts, ra, rb, hp⟩ := ho.parts; have HP := Lib.hid hp; clear hp ho))
    have hlo := (ExtC.ext : Ext w g.fin).size
    have hfun : ∀ j (hj : j < T.length) x, Ext g1.fin x → Calls Try.prog 63 #[.pointer (some ⟨w.heap.size, 0, none⟩), ts j] x fun e w' => e = .returned (.int .i64 (missed L (T.getD j []))) ∧ Ext x w' := fun j hj x hx => by
      have e : T.getD j [] = T[j] := by simp [hj]
      rw [e]
      have ht := HF.out.team T[j] (by rw [HT.out]; exact List.getElem_mem hj)
      exact spec_l04Missed w.heap.size n k _ _ L T[j] x (HBX.out.ext ((ExtC.ext : Ext (w.alloc (.cells #[.int .i64 (n : Int), .int .i64 (k : Int), .slice p L.length c] 29)) g1.fin).trans hx)) (HQ.out.ext ((ExtC.ext : Ext w g1.fin).trans hx)) (((HP.out j hj).2.1.ext hx).ri) HX.out.2.2 (setP_nodup ht.2) (by omega) _ rfl
    have HFN := Lib.hid hfun; clear hfun
    go_loopw [6, 7] (fun bv i wr => ∃ m : Nat, 1 ≤ m ∧ m ≤ T.length ∧ i = .int .i64 m ∧ bv = .int .i64 ((bestTo L T m : Nat) : Int) ∧ Ext g1.fin wr) (fun _ i _ => T.length - (intOf i).toNat)
    case atStart => exact ⟨1, Nat.le_refl _, by omega, rfl, by rw [bestTo_one]; rfl, Ext.refl _⟩
    case round =>
      obtain ⟨m, hm1, hm, rfl, rfl, hx⟩ := hrel
      obtain ⟨g2, rfl⟩ := hx.grow; clear hx
      have hbm := bestTo_lt L T hT0.1 m hm
      have f2 := HFN.out _ hbm
      have d2 := (HP.out _ hbm).1
      obtain ⟨m2, hm2⟩ : ∃ m2, missed L (T.getD (bestTo L T m) []) = m2 := ⟨_, rfl⟩
      rw [hm2] at f2
      by_cases hlt : m < T.length
      · have f1 := HFN.out _ hlt
        have d1 := (HP.out m hlt).1
        have hst : bestTo L T (m + 1) = if missed L (T.getD m []) < missed L (T.getD (bestTo L T m) []) then m else bestTo L T m := rfl
        obtain ⟨m1, hm1'⟩ : ∃ m1, missed L (T.getD m []) = m1 := ⟨_, rfl⟩
        rw [hm1'] at f1
        rw [hm1', hm2] at hst
        clear hm1' hm2
        obtain ⟨bt, hbt⟩ : ∃ bt, bestTo L T m = bt := ⟨_, rfl⟩
        rw [hbt] at hst f2 hbm d2
        rw [hbt]
        have HBT := Lib.hid (And.intro hbt hst); clear hbt hst
        by_cases hd : m1 < m2
        · have e1 : decide (m1 < m2) = true := decide_eq_true hd
          have hst2 : bestTo L T (m + 1) = m := by rw [HBT.out.2, if_pos hd]
          clear hd
          have HST := Lib.hid hst2; clear hst2
          go_wp2_with fail
          refine wp_region_grow (by kernel_rfl) (by kernel_rfl) ?_
          repeat (go_big_quiet_step ((first | (go_at_call 63; with_reducible exact grow_of (f1 _ ExtC.ext)) | (go_at_call 63; with_reducible exact grow_of (f2 _ ExtC.ext)))))
          refine wpQuiet_nil ?_
          intro _ hw'
          obtain ⟨g, hw''⟩ := hw'
          subst hw''
          go_wp2_with fail
          exact ⟨⟨m + 1, by omega, by omega, by go_num, by rw [HST.out], ExtC.ext⟩, by simp [intOf]; omega⟩
        · have e1 : decide (m1 < m2) = false := decide_eq_false hd
          have hst2 : bestTo L T (m + 1) = bt := by rw [HBT.out.2, if_neg hd]
          clear hd
          have HST := Lib.hid hst2; clear hst2
          go_wp2_with fail
          refine wp_region_grow (by kernel_rfl) (by kernel_rfl) ?_
          repeat (go_big_quiet_step ((first | (go_at_call 63; with_reducible exact grow_of (f1 _ ExtC.ext)) | (go_at_call 63; with_reducible exact grow_of (f2 _ ExtC.ext)))))
          refine wpQuiet_nil ?_
          intro _ hw'
          obtain ⟨g, hw''⟩ := hw'
          subst hw''
          go_wp2_with fail
          exact ⟨⟨m + 1, by omega, by omega, by go_num, by rw [HST.out], ExtC.ext⟩, by simp [intOf]; omega⟩
      · have hmT : m = T.length := by omega
        subst hmT
        have hxs : T.getD (bestTo L T T.length) [] = xs := by rw [HX.out.1]
        have hnm : m2 = nm := by rw [← hm2, hxs, HX.out.2.1]
        have hown := (HP.out _ hbm).2
        have e : T.getD (bestTo L T T.length) [] = T[bestTo L T T.length] := by simp [hbm]
        rw [← e, hxs] at hown
        have HOW := Lib.hid hown
        subst hnm
        clear hown e hxs hm2
        obtain ⟨bt, hbt⟩ : ∃ bt, bestTo L T T.length = bt := ⟨_, rfl⟩
        rw [hbt] at f2 hbm d2 HOW
        rw [hbt]
        clear hbt
        go_wp2_with fail
        refine wp_region_grow (by kernel_rfl) (by kernel_rfl) ?_
        repeat (go_big_quiet_step ((first | (go_at_call 63; with_reducible exact grow_of (f2 _ ExtC.ext)))))
        refine wpQuiet_nil ?_
        intro _ hw'
        obtain ⟨g, hw''⟩ := hw'
        subst hw''
        go_wp2_with fail
        refine bodyPost_ret (v := .tuple #[ts bt, .int .i64 m2, .bool true]) (by simp [results, Try.results35, go_sem]) rfl ⟨_, rfl, ?_, ExtC.ext⟩
        obtain ⟨o1, o2, o3⟩ := HOW.out
        refine (o1.ext (ExtC.ext : Ext g1.fin _)).mono ?_ ?_
        · omega
        · have := (ExtC.ext : Ext g1.fin g.fin).size
          omega
end Go.Proofs.Ytoedphgoaifojaa
