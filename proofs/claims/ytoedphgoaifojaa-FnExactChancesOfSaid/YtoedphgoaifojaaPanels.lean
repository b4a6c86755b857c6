/- All panels in order: both sides. -/
import Derived.Test.YtoedphgoaifojaaDelete
import Derived.Test.YtoedphgoaifojaaNear
namespace Go.Proofs.Ytoedphgoaifojaa
open Go.RowKit

/-- All panels of a pool. -/
def panelsL (n k : Nat) (L : List QD) : List (List Int) := (teams n k).filter fun t => decide (missed L t = 0)
theorem filter_range (T : List (List Int)) (p : List Int → Bool) : ((List.range T.length).filter fun j => p (T.getD j [])).map (fun i => T.getD i []) = T.filter p := by
  have e3 : (List.range T.length).map (fun i => T.getD i []) = T := by
    apply List.ext_getElem?
    intro j
    by_cases hj : j < T.length
    · simp [hj]
    · simp [List.getElem?_eq_none (show T.length ≤ j by omega)]; omega
  conv => rhs; rw [← e3]
  rw [List.filter_map]; rfl
theorem panels_mem {n k : Nat} {L : List QD} {t : List Int} (h : t ∈ panelsL n k L) : t ∈ teams n k ∧ missed L t = 0 := by
  have := List.mem_filter.1 h
  exact ⟨this.1, by simpa using this.2⟩
theorem panels_few {n k : Nat} {L : List QD} (h1 : 1 ≤ k) (h2 : k ≤ n) (h3 : n ≤ 7) : (panelsL n k L).length ≤ 35 ∧ ∀ t ∈ panelsL n k L, t.length = k ∧ SetP t 0 ((n : Int) - 1) := by
  have hF := teamsF n k h1 h2 h3
  exact ⟨Nat.le_trans (List.length_filter_le _ _) hF.most, fun t ht => hF.team t (panels_mem ht).1⟩

set_option maxHeartbeats 4000000 in
set_option maxRecDepth 100000 in
theorem impl_panels (n k : Nat) (qv : Value) (L : List QD) (w : World) (hq : RQ w qv L) (hok : OkP n k L) (PL : List (List Int)) (hPL : panelsL n k L = PL) :
    Calls Try.prog 83 #[.agg #[.int .i64 (n : Int), .int .i64 (k : Int), qv]] w fun e w' => ∃ g c, e = .returned (.slice (some ⟨g, 0, none⟩) PL.length c) ∧ OwnR intKind 33 w.heap.size w'.heap.size w' (.slice (some ⟨g, 0, none⟩) PL.length c) PL ∧ Ext w w' := by
  obtain ⟨p, c, rfl, -⟩ := hq.form
  have h123 : 1 ≤ k ∧ k ≤ n ∧ n ≤ 7 := by have := hok; unfold OkP at this; omega
  obtain ⟨h1, h2, h3⟩ := h123
  obtain ⟨T, hT⟩ : ∃ T, teams n k = T := ⟨_, rfl⟩
  have HF : Hid (TeamsF n k) := Lib.hid (teamsF n k h1 h2 h3)
  have hT0 : T.length ≤ 35 := by rw [← hT]; exact HF.out.most
  have hPT : ((List.range T.length).filter fun j => decide (missed L (T.getD j []) = 0)).map (fun i => T.getD i []) = PL := by
    rw [← hPL]; unfold panelsL; rw [hT]; exact filter_range T fun t => decide (missed L t = 0)
  have HBX := Lib.hid (box_pool w n k (.slice p L.length c) 29)
  have hsets := fun x => impl_sets n k (.slice p L.length c) x h1 h2 h3 ⟨_, _, _, rfl⟩ T hT
  have HQ := Lib.hid (And.intro hq (And.intro hok.cnt (And.intro hT hPT)))
  clear hq hok hPL hT hPT
  go_enter Try.func83, Try.ntmps83
  go_wp2_with (first | (go_at_call 80; (with_reducible refine (hsets _).mono ?_); rintro e w' ⟨sg, sc, rfl, ho, hx⟩; obtain ⟨g1, rfl⟩ := hx.grow; clear hx; have HS := Lib.hid ho; clear ho))
  have hsg := HS.out.at0
  simp only [World.size_alloc] at hsg
  have hstr : Strikes w.heap.size sg g1.fin T (fun j => decide (missed L (T.getD j []) = 0)) := by
    intro j hj t x ht hr
    have hx1 : Ext (w.alloc (.cells #[.int .i64 (n : Int), .int .i64 (k : Int), .slice p L.length c] 29)) x := Ext.rng ExtC.ext hr (by simp only [World.size_alloc]; omega)
    have hx0 : Ext w x := Ext.rng (ExtC.ext : Ext w g1.fin) hr (by omega)
    have e : T.getD j [] = T[j] := by simp [hj]
    have hl : T[j].length ≤ 7 := by have := (HF.out.team T[j] (by rw [HQ.out.2.2.1]; exact List.getElem_mem hj)).1; omega
    refine impl_panels1 w.heap.size n k _ t L T[j] x (HBX.out.ext hx1) (HQ.out.1.ext hx0) ht HQ.out.2.1 (by omega) _ ?_
    simp only [e]
    by_cases hz : missed L T[j] = 0 <;> simp [hz]
  have hdel := delete_rows w.heap.size T _ g1.fin HS.out hstr (by omega) PL HQ.out.2.2.2
  clear hstr hsets
  go_wp2_with fail
  refine hdel.mono ?_
  rintro e w' ⟨rfl, ho, hr⟩
  have hx : Ext w w' := Ext.rng (ExtC.ext : Ext w g1.fin) hr (by omega)
  have HO := Lib.hid (ho.mono (lo' := w.heap.size) (hi' := w'.heap.size) (by simp only [World.size_alloc]; omega) hr.size)
  clear ho hr hdel
  obtain ⟨g3, rfl⟩ := hx.grow; clear hx
  go_wp2_with fail
  refine bodyPost_ret (v := .slice (some ⟨sg, 0, none⟩) PL.length sc) (by simp [results, Try.results83, go_sem]) rfl ?_
  exact ⟨_, _, rfl, HO.out, ExtC.ext⟩
/-- v reads as the rows L, all of it in the blocks from lo on, below hi. -/
def SeenR (lo hi : Nat) (w : World) (v : Value) (L : List (List Int)) : Prop :=
  (v = .slice none 0 0 ∧ L = []) ∨ ∃ (g c : Nat) (ts : Nat → Value) (a b : Nat → Nat), v = .slice (some ⟨g, 0, none⟩) L.length c ∧ L.length ≤ c ∧ lo ≤ g ∧ g < hi ∧ g < w.heap.size ∧ ∀ i (h : i < L.length), w.cell? ⟨g, i, none⟩ = some (ts i) ∧ OwnI (a i) (b i) w (ts i) L[i] ∧ lo ≤ a i ∧ b i ≤ hi
theorem SeenR.ext {lo hi : Nat} {w w' : World} {v : Value} {L : List (List Int)} (h : SeenR lo hi w v L) (hx : Ext w w') : SeenR lo hi w' v L := by
  rcases h with h | ⟨g, c, ts, a, b, hv, h0, h1, h2, h3, hc⟩
  · exact .inl h
  · refine .inr ⟨g, c, ts, a, b, hv, h0, h1, h2, Nat.lt_of_lt_of_le h3 hx.size, fun i hi' => ?_⟩
    obtain ⟨c1, c2, c3⟩ := hc i hi'
    exact ⟨by rw [Below.cell hx h3]; exact c1, c2.ext hx, c3⟩
theorem SeenR.rng {lo hi lo' hi' : Nat} {w w' : World} {v : Value} {L : List (List Int)} (h : SeenR lo hi w v L) (hx : Rng lo' hi' w w') (hd : hi ≤ lo' ∨ hi' ≤ lo) : SeenR lo hi w' v L := by
  rcases h with h | ⟨g, c, ts, a, b, hv, h0, h1, h2, h3, hc⟩
  · exact .inl h
  · refine .inr ⟨g, c, ts, a, b, hv, h0, h1, h2, Nat.lt_of_lt_of_le h3 hx.size, fun i hi' => ?_⟩
    obtain ⟨c1, c2, c3, c4⟩ := hc i hi'
    exact ⟨by rw [hx.cell h3 (by omega)]; exact c1, c2.rng hx (by omega), c3, c4⟩
theorem SeenR.r {lo hi : Nat} {w : World} {v : Value} {L : List (List Int)} (h : SeenR lo hi w v L) : RowsR intKind w v L := by
  rcases h with ⟨rfl, rfl⟩ | ⟨g, c, ts, a, b, rfl, h0, h1, h2, h3, hc⟩
  · exact .inr ⟨rfl, none, 0, rfl⟩
  · exact .inl ⟨g, 0, c, rfl, h0, ⟨h3⟩, fun i hi' => ⟨ts i, by rw [Nat.zero_add]; exact (hc i hi').1, (hc i hi').2.1.ri⟩⟩
theorem SeenR.mono {lo hi lo' hi' : Nat} {w : World} {v : Value} {L : List (List Int)} (h : SeenR lo hi w v L) (h1 : lo' ≤ lo) (h2 : hi ≤ hi') : SeenR lo' hi' w v L := by
  rcases h with h | ⟨g, c, ts, a, b, hv, h0, q1, q2, h3, hc⟩
  · exact .inl h
  · exact .inr ⟨g, c, ts, a, b, hv, h0, by omega, by omega, h3, fun i hi' => ⟨(hc i hi').1, (hc i hi').2.1, by have := (hc i hi').2.2; omega, by have := (hc i hi').2.2; omega⟩⟩

/-- One value appended to a row that a function owns. -/
theorem app_raw {ops : Array Oper} {rest : List Oper} {o : Oper} {a : Act} {Q : Exit → Act → World → Prop} {w : World} {lo : Nat} (s x : Operand) (g cap n : Nat) (cs : List Value) (ad : Addr) (c : Nat) (t : Value)
    (hgd : o.guard = none) (ho : o.op = .call { callee := .builtin .append, args := #[s, x], argTypes := #[54, 54] })
    (hs : a.eval s = .slice (some ⟨g, 0, none⟩) n cap) (hcs : w.ownsRow lo 33 1 (.slice (some ⟨g, 0, none⟩) n cap) n cs) (hx : a.eval x = .slice (some ad) 1 c)
    (hy : w.cell? (ad.add 0) = some t) (ht1 : t.oneCell' = true) (hb : n ≤ 1099511627776)
    (h : ∀ g' c' w', w'.ownsRow lo 33 1 (.slice (some ⟨g', 0, none⟩) (n + 1) c') (n + 1) (cs ++ [t]) → Rng g (g + 1) w w' → (g' = w.heap.size ∨ g = g') → wpList Try.prog ops Q rest (a.put o.dst (.slice (some ⟨g', 0, none⟩) (n + 1) c')) w') : wpList Try.prog ops Q (o :: rest) a w := by
  obtain ⟨i0, hi0, hz0, hz1, hz2⟩ := info_parts Try.info_rowApp
  have hgl := hcs.lt g rfl
  refine wpList_append_own2 w hgd s x _ ho lo 33 i0 (.slice none 0 0) 1 24 Try.underlying54 hi0 hz0 hz1 hz2 rfl (by decide) _ n cs hs hcs ad 1 c [t] hx (by simp) (fun j u hj => ?_) (fun u hu => ?_) (by unfold maxLen; omega) (by omega) (by omega) (fun v' w' h2 h3 h4 h5 => ?_)
  · have : j = 0 := by have := (List.getElem?_eq_some_iff.1 hj).1; simpa using this
    subst this
    simp at hj; subst hj; exact hy
  · simp at hu; subst hu; exact ht1
  · obtain ⟨g', c', rfl, hw⟩ := h5 (by omega)
    have hw' : g' = w.heap.size ∨ g = g' := by simpa [Value.ownBlock] using hw
    exact h g' c' w' h2 (rng_of_grown h3) hw'

set_option maxHeartbeats 8000000 in
set_option maxRecDepth 100000 in
theorem spec_l04Panels (bx n k : Nat) (qv : Value) (L : List QD) (w : World) (hb : BxP bx n k qv w) (hq : RQ w qv L) (hok : OkP n k L) (PL : List (List Int)) (hPL : panelsL n k L = PL) :
    Calls Try.prog 82 #[.pointer (some ⟨bx, 0, none⟩)] w fun e w' => ∃ g c, e = .returned (.slice (some ⟨g, 0, none⟩) PL.length c) ∧ SeenR w.heap.size w'.heap.size w' (.slice (some ⟨g, 0, none⟩) PL.length c) PL ∧ Ext w w' := by
  have h123 : 1 ≤ k ∧ k ≤ n ∧ n ≤ 7 := by have := hok; unfold OkP at this; omega
  obtain ⟨h1, h2, h3⟩ := h123
  obtain ⟨T, hT⟩ : ∃ T, teams n k = T := ⟨_, rfl⟩
  have HF : Hid (TeamsF n k) := Lib.hid (teamsF n k h1 h2 h3)
  have hT0 : T.length ≤ 35 := by rw [← hT]; exact HF.out.most
  obtain ⟨kp, hkp⟩ : ∃ kp : Nat → Bool, kp = fun j => decide (missed L (T.getD j []) = 0) := ⟨_, rfl⟩
  have hPT : ((List.range T.length).filter kp).map (fun i => T.getD i []) = PL := by
    rw [← hPL, hkp]; unfold panelsL; rw [hT]; exact filter_range T fun t => decide (missed L t = 0)
  have hteams := fun x (hx : Ext w x) => spec_l04Teams bx n k qv x (hb.ext hx) h1 h2 h3 T hT
  have HQ := Lib.hid (And.intro hq (And.intro hok.cnt (And.intro hT (And.intro hPT hkp))))
  have HBX := Lib.hid hb
  have HE := Lib.hid (World.ownsRow_made (e := 33) (size := 1) (base := w.heap.size) w #[] 0 (Nat.le_refl _) (by unfold maxLen; omega) (by rfl))
  clear hq hok hPL hT hPT hkp hb
  go_enter Try.func82, Try.ntmps82
  go_wp2_with (first | (go_at_call 79; (with_reducible refine (hteams _ ExtC.ext).mono ?_); rintro e w' ⟨sg, sc, rfl, ho, hx⟩; obtain ⟨g1, rfl⟩ := hx.grow; clear hx; obtain ⟨isg, ts, ra, rb, hp⟩ := ho.parts; have hsg := ho.at0; have HP := Lib.hid hp; clear hp ho))
  clear hteams
  simp only [World.size_alloc] at hsg
  have hs1 := (ExtC.ext : Ext (w.alloc (.cells #[] 33)) g1.fin).size
  simp only [World.size_alloc] at hs1
  have hr1 : g1.fin.ownsRow w.heap.size 33 1 (.slice (some ⟨w.heap.size, 0, none⟩) 0 0) 0 [] := by
    have := ownsRow_ext HE.out (ExtC.ext : Ext (w.alloc (.cells #[] 33)) g1.fin)
    simpa using this
  go_loopw [3, 5] (fun o i wr => ∃ (m og oc : Nat) (js : List Nat), m ≤ T.length ∧ i = .int .i64 m ∧ o = .slice (some ⟨og, 0, none⟩) js.length oc ∧ js.length ≤ m ∧ Rng w.heap.size (w.heap.size + 1) g1.fin wr ∧ (og = w.heap.size ∨ g1.fin.heap.size ≤ og) ∧ js = (List.range m).filter kp ∧ Hid (wr.ownsRow w.heap.size 33 1 (.slice (some ⟨og, 0, none⟩) js.length oc) js.length (js.map ts))) (fun _ i _ => T.length - (intOf i).toNat)
  case atStart => exact ⟨0, _, _, [], Nat.zero_le _, rfl, rfl, Nat.le_refl _, Rng.refl _ _ _, .inl rfl, rfl, Lib.hid hr1⟩
  case round =>
    clear HE hr1
    obtain ⟨m, og, oc, js, hm, rfl, rfl, hjl, hr, hog, hjs, HO⟩ := hrel
    have hx0 : Ext w wr := Ext.rng (ExtC.ext : Ext w g1.fin) hr (Nat.le_refl _)
    have HR := Lib.hid (And.intro hr (And.intro hog hjs))
    clear hr hog hjs
    obtain ⟨g2, rfl⟩ := hx0.grow
    have HX0 := Lib.hid hx0; clear hx0
    by_cases hlt : m < T.length
    · obtain ⟨c1, c2, c3, c4⟩ := HP.out m hlt
      simp only [World.size_alloc] at c3
      have hisg : InW sg g2.fin := ⟨Nat.lt_of_lt_of_le isg.lt HR.out.1.size⟩
      have d1 : g2.fin.cell? ⟨sg, m, none⟩ = some (ts m) := by rw [HR.out.1.cell isg.lt (.inr (by omega))]; exact c1
      have hri : RI g2.fin (ts m) T[m] := (c2.rng HR.out.1 (.inr (by omega))).ri
      have ht := HF.out.team T[m] (by rw [HQ.out.2.2.1]; exact List.getElem_mem hlt)
      obtain ⟨m1, hm1⟩ : ∃ m1, missed L T[m] = m1 := ⟨_, rfl⟩
      have hsf := fun x (hx : Ext g2.fin x) => spec_l04Missed bx n k qv (ts m) L T[m] x (HBX.out.ext ((ExtC.ext : Ext w g2.fin).trans hx)) (HQ.out.1.ext ((ExtC.ext : Ext w g2.fin).trans hx)) (hri.ext hx) HQ.out.2.1 (setP_nodup ht.2) (by omega) m1 hm1
      have hk : (m1 == 0) = kp m := by
        rw [HQ.out.2.2.2.2]; simp only [← hm1]
        have e : T.getD m [] = T[m] := by simp [hlt]
        rw [e]
        by_cases hz : missed L T[m] = 0 <;> simp [hz]
      have h1c : (ts m).oneCell' = true := by
        rcases c2 with ⟨e, _⟩ | ⟨g', c', e, _⟩ <;> (rw [e]; rfl)
      have hflt : (List.range (m + 1)).filter kp = (List.range m).filter kp ++ if kp m then [m] else [] := by
        rw [List.range_succ, List.filter_append]
        congr 1
        by_cases h : kp m <;> simp [h]
      rw [← HR.out.2.2] at hflt
      obtain ⟨tp, tc, htj, -, -⟩ := c2.ri.form
      rw [htj] at d1 hsf h1c
      have HTJ := Lib.hid htj
      obtain ⟨q, hq⟩ : ∃ q, kp m = q := ⟨_, rfl⟩
      rw [hq] at hk hflt
      have HL := Lib.hid hflt
      clear hri ht hm1 hflt c1 c2 c3 c4 hq htj
      cases q
      · go_wp2_with (first | (go_at_call 63; (with_reducible refine (hsf _ ExtC.ext).mono ?_); rintro e w' ⟨rfl, hx⟩; obtain ⟨g, rfl⟩ := hx.grow; clear hx))
        refine ⟨⟨m + 1, og, oc, js, by omega, by go_num, rfl, by omega, HR.out.1.trans (Rng.of_ext ExtC.ext), HR.out.2.1, by rw [HL.out]; simp, Lib.hid (ownsRow_ext HO.out ExtC.ext)⟩, by simp [intOf]; omega⟩
      · go_wp2_with (first | (go_at_call 63; (with_reducible refine (hsf _ ExtC.ext).mono ?_); rintro e w' ⟨rfl, hx⟩; obtain ⟨g, rfl⟩ := hx.grow; clear hx) | (at_builtin; refine app_raw (lo := w.heap.size) _ _ og oc js.length (js.map ts) ⟨g.fin.heap.size, 0, none⟩ 1 (.slice tp T[m].length tc) rfl rfl rfl (ownsRow_ext HO.out ExtC.ext) rfl (cell_new _ _ _) h1c (by omega) ?_; intro g' c' w' ho hr hg; have HO2 := Lib.hid (And.intro ho (And.intro hr hg)); clear ho hr hg))
        obtain ⟨ho, hr, hg⟩ := HO2.out
        have hga := HR.out.1.size
        have hgb := (ExtC.ext : Ext g2.fin g.fin).size
        simp only [World.size_alloc] at hg
        refine ⟨⟨m + 1, g', c', js ++ [m], by omega, by go_num, by simp, by simp; omega, (HR.out.1.trans (Rng.of_ext (ExtC.ext : Ext g2.fin (g.fin.alloc (.cells #[.slice tp T[m].length tc] 33))))).trans2 hr HR.out.2.1, ?_, by rw [HL.out]; simp, Lib.hid ?_⟩, by simp [intOf]; omega⟩
        · have := HR.out.2.1; omega
        · rw [← HTJ.out] at ho
          simpa using ho
    · have hmT : m = T.length := by omega
      subst hmT
      go_wp2_with fail
      have hPL : js.map (fun i => T.getD i []) = PL := by rw [HR.out.2.2]; exact HQ.out.2.2.2.1
      have hlen : PL.length = js.length := by rw [← hPL]; simp
      refine bodyPost_ret (v := .slice (some ⟨og, 0, none⟩) js.length oc) (by simp [results, Try.results82, go_sem]) rfl ?_
      rw [hlen]
      refine ⟨_, _, rfl, .inr ⟨og, oc, fun i => ts (js.getD i 0), fun i => ra (js.getD i 0), fun i => rb (js.getD i 0), by rw [hlen], by rw [hlen]; exact own_le HO.out, (HO.out.lt og rfl).1, (HO.out.lt og rfl).2, (HO.out.lt og rfl).2, fun i hi => ?_⟩, ExtC.ext⟩
      have hi' : i < js.length := by omega
      have hjT : js[i] < T.length := by
        have hall : ∀ y ∈ js, y < T.length := by
          rw [HR.out.2.2]; intro y hy; exact List.mem_range.1 (List.mem_filter.1 hy).1
        exact hall _ (List.getElem_mem hi')
      obtain ⟨c1, c2, c3, c4⟩ := HP.out js[i] hjT
      simp only [World.size_alloc] at c3
      have e : js.getD i 0 = js[i] := by simp [hi']
      have e2 : PL[i] = T[js[i]] := by
        have h5 : PL[i]? = (js.map fun i => T.getD i [])[i]? := by rw [hPL]
        rw [List.getElem?_eq_getElem hi] at h5
        simp [hi', hjT] at h5
        exact h5
      have hga := HR.out.1.size
      simp only [e]
      refine ⟨?_, ?_, by omega, by omega⟩
      · rw [HO.out.cellAt i (by omega)]; simp [hi']
      · rw [e2]; exact c2.rng HR.out.1 (.inr (by omega))
end Go.Proofs.Ytoedphgoaifojaa
