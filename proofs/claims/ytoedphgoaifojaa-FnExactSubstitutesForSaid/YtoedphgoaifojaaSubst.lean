/- Who may take a member's place in a panel: SubstitutesFor on both sides. -/
import Derived.Test.YtoedphgoaifojaaPanel
import Derived.Test.YtoedphgoaifojaaPut
import Derived.Test.YtoedphgoaifojaaSort
import Derived.Test.YtoedphgoaifojaaNear
namespace Go.Proofs.Ytoedphgoaifojaa
open Go.RowKit

theorem mem_set_iff {xs : List Int} {i : Nat} {o y : Int} (hi : i < xs.length) (hnd : xs.Nodup) : y ∈ xs.set i o ↔ (y ∈ xs ∧ y ≠ xs[i]) ∨ y = o := by
  have hne : ∀ a b (ha : a < xs.length) (hb : b < xs.length), a ≠ b → xs[a] ≠ xs[b] := fun a b ha hb hab => by
    rcases Nat.lt_or_gt_of_ne hab with h | h
    · exact List.pairwise_iff_getElem.1 hnd a b ha hb h
    · exact (List.pairwise_iff_getElem.1 hnd b a hb ha h).symm
  constructor
  · intro h
    obtain ⟨j, hj, e⟩ := List.getElem_of_mem h
    rw [List.length_set] at hj
    rw [List.getElem_set] at e
    by_cases hij : i = j
    · rw [if_pos hij] at e; exact .inr e.symm
    · rw [if_neg hij] at e
      exact .inl ⟨by rw [← e]; exact List.getElem_mem hj, by rw [← e]; exact hne j i hj hi (fun h => hij h.symm)⟩
  · rintro (⟨h, hn⟩ | h)
    · obtain ⟨j, hj, e⟩ := List.getElem_of_mem h
      have hij : i ≠ j := fun h => hn (by subst h; exact e.symm)
      refine List.mem_iff_getElem.2 ⟨j, by rw [List.length_set]; exact hj, ?_⟩
      rw [List.getElem_set, if_neg hij]; exact e
    · refine List.mem_iff_getElem.2 ⟨i, by rw [List.length_set]; exact hi, ?_⟩
      rw [List.getElem_set_self]; exact h.symm
theorem nodup_set {xs : List Int} {i : Nat} {o : Int} (hnd : xs.Nodup) (ho : o ∉ xs) : (xs.set i o).Nodup := by
  rw [List.nodup_iff_pairwise_ne, List.pairwise_iff_getElem]
  intro a b ha hb hab
  rw [List.length_set] at ha hb
  rw [List.getElem_set, List.getElem_set]
  have h1 := List.pairwise_iff_getElem.1 hnd a b ha hb hab
  by_cases h2 : i = a
  · rw [if_pos h2, if_neg (by omega)]
    exact fun h => ho (by rw [h]; exact List.getElem_mem hb)
  · rw [if_neg h2]
    by_cases h3 : i = b
    · rw [if_pos h3]
      exact fun h => ho (by rw [← h]; exact List.getElem_mem ha)
    · rw [if_neg h3]; exact h1
def restL (xs : List Int) (m : Int) : List Int := xs.filter fun y => decide (y ≠ m)
theorem sub_eq {xs : List Int} {lo hi : Int} (h : SetP xs lo hi) {i : Nat} (hi' : i < xs.length) {o : Int} (ho : o ∉ xs) : sortI (xs.set i o) = putA false (restL xs xs[i]) o := by
  have hnd := setP_nodup h
  refine rising_unique _ _ (sortI_rising (nodup_set hnd ho)) (putA_rising _ ((setP_pair h).filter _)) fun y => ?_
  rw [(sortI_perm _).mem_iff, mem_set_iff hi' hnd, putA_mem, restL, List.mem_filter]
  simp
theorem sub_team {xs : List Int} {n k : Int} (h : TeamP n k xs) {i : Nat} (hi' : i < xs.length) {o : Int} (ho : o ∉ xs) (h0 : 0 ≤ o) (h1 : o ≤ n - 1) : TeamP n k (sortI (xs.set i o)) := by
  have hnd := setP_nodup h.2
  refine ⟨by rw [(sortI_perm _).length_eq, List.length_set]; exact h.1, setP_of (sortI_rising (nodup_set hnd ho)) fun y hy => ?_⟩
  rw [(sortI_perm _).mem_iff, mem_set_iff hi' hnd] at hy
  rcases hy with hy | hy
  · exact setP_mem h.2 hy.1
  · subst hy; exact ⟨h0, h1⟩
/-- Whether a person may take the place. -/
def subOk (L : List QD) (xs : List Int) (m : Int) (o : Nat) : Bool := decide ((o : Int) ∉ xs) && decide (missed L (putA false (restL xs m) (o : Int)) = 0)
def subTo (L : List QD) (xs : List Int) (m : Int) (k : Nat) : List Int := ((List.range k).filter fun o => subOk L xs m o).map fun o : Nat => (o : Int)
theorem subTo_succ (L : List QD) (xs : List Int) (m : Int) (k : Nat) : subTo L xs m (k + 1) = subTo L xs m k ++ if subOk L xs m k then [(k : Int)] else [] := by
  unfold subTo
  rw [List.range_succ, List.filter_append, List.map_append]
  congr 1
  by_cases h : subOk L xs m k <;> simp [h]
theorem subTo_len (L : List QD) (xs : List Int) (m : Int) (k : Nat) : (subTo L xs m k).length ≤ k := by
  unfold subTo
  rw [List.length_map]
  exact Nat.le_trans (List.length_filter_le _ _) (by simp)
def SubP (pe sz : Int) (L : List QD) (xs : List Int) (m : Int) : Prop := PanelP pe sz L xs ∧ m ∈ xs
open Classical in
noncomputable def sbX (pe sz : Int) (L : List QD) (xs : List Int) (m : Int) : List Int := if SubP pe sz L xs m then subTo L xs m pe.toNat else []
theorem sbX_no {pe sz : Int} {L : List QD} {xs : List Int} {m : Int} (h : ¬ SubP pe sz L xs m) : sbX pe sz L xs m = [] := if_neg h
theorem sbX_yes {pe sz : Int} {L : List QD} {xs : List Int} {m : Int} (h : SubP pe sz L xs m) : sbX pe sz L xs m = subTo L xs m pe.toNat := if_pos h
theorem sbX_small {pe sz : Int} {L : List QD} {xs : List Int} {m : Int} : (sbX pe sz L xs m).length ≤ 7 := by
  by_cases h : SubP pe sz L xs m
  · rw [sbX_yes h]; have := subTo_len L xs m pe.toNat; have := h.1.1.1.1; omega
  · rw [sbX_no h]; simp
theorem pos_in : ∀ {xs : List Int} {m : Int}, m ∈ xs → ∃ i : Nat, posOf xs m = i ∧ ∃ hi : i < xs.length, xs[i] = m
  | [], m, h => absurd h (by simp)
  | y :: ys, m, h => by
    by_cases e : y = m
    · exact ⟨0, by rw [posOf, if_pos e]; rfl, by simp, by simpa using e⟩
    · have hm : m ∈ ys := (List.mem_cons.1 h).resolve_left (fun h => e h.symm)
      obtain ⟨i, h1, h2, h3⟩ := pos_in hm
      exact ⟨i + 1, by rw [posOf, if_neg e, if_neg (by omega), h1]; omega, by simp; omega, by simpa using h3⟩
theorem OwnI.put {lo hi g n c : Nat} {w : World} {xs : List Int} (h : OwnI lo hi w (.slice (some ⟨g, 0, none⟩) n c) xs) (i : Nat) (v : Int) : OwnI lo hi (w.setCell ⟨g, i, none⟩ (.int .i64 v)) (.slice (some ⟨g, 0, none⟩) n c) (xs.set i v) := by
  rcases h with ⟨e, _⟩ | ⟨g', cap, e, h1, h2, h3⟩
  · cases e
  simp only [Value.slice.injEq, Option.some.injEq, Addr.mk.injEq, and_true] at e
  obtain ⟨rfl, rfl, rfl⟩ := e
  have := (h3.stored i (iv v)).1
  refine .inr ⟨g, c, by rw [List.length_set], h1, h2, ?_⟩
  rw [List.length_set, List.map_set]
  exact this
theorem OwnI.cellF {lo hi g n c : Nat} {w : World} {xs : List Int} (h : OwnI lo hi w (.slice (some ⟨g, 0, none⟩) n c) xs) (i : Nat) (hi' : i < xs.length) : w.cell? ⟨g, i, none⟩ = some (.int .i64 xs[i]) ∧ w.frozen? ⟨g, i, none⟩ = false ∧ InW g w := by
  rcases h with ⟨e, _⟩ | ⟨g', cap, e, h1, h2, h3⟩
  · cases e
  simp only [Value.slice.injEq, Option.some.injEq, Addr.mk.injEq, and_true] at e
  obtain ⟨rfl, rfl, rfl⟩ := e
  exact ⟨by rw [h3.cellAt i (by omega)]; simp [hi'], h3.frozenAt i, ⟨(h3.lt g rfl).2⟩⟩
theorem pos_out {xs : List Int} {m : Int} (h : m ∉ xs) : posOf xs m = -1 := posOf_none xs m fun j hj e => h (by rw [← e]; exact List.getElem_mem hj)

set_option maxHeartbeats 8000000 in
set_option maxRecDepth 100000 in
theorem impl_SubstitutesFor' (pe sz : Int) (qv u : Value) (mb : Int) (L : List QD) (ps : List Int) (w : World) (hq : RQ w qv L) (hu : RI w u ps) (hs : ShortQ L) (hxl : ps.length ≤ 1048576) (b : Bool) (hb : b = true ↔ SubP pe sz L ps mb) (xs : List Int) (hxs : sbX pe sz L ps mb = xs) :
    Calls Try.prog 31 #[.agg #[.int .i64 pe, .int .i64 sz, qv], u, .int .i64 mb] w fun e w' => ∃ v, e = .returned (.tuple #[v, .bool b]) ∧ OwnI w.heap.size w'.heap.size w' v xs ∧ Ext w w' := by
  obtain ⟨p, c, rfl, -⟩ := hq.form
  obtain ⟨up, uc, rfl, -, -⟩ := hu.form
  have HQ := Lib.hid (And.intro hq (And.intro hu hs))
  have HBX := Lib.hid (box_pool w pe sz (.slice p L.length c) 29)
  obtain ⟨q0, hq0⟩ := boolOf (PanelP pe sz L ps)
  have HV := fun x (hx : Ext w x) => impl_IsPanel' pe sz _ _ L ps x (hq.ext hx) (hu.ext hx) hs hxl q0 hq0
  have HI := fun x (hx : Ext w x) => slices_Index _ ps mb x (hu.ext hx) (by omega)
  clear hq
  cases q0
  · have hno : ¬ SubP pe sz L ps mb := fun h => by have := hq0.2 h.1; cases this
    have hb0 : b = false := by
      cases b
      · rfl
      · exact absurd (hb.1 rfl) hno
    rw [sbX_no hno] at hxs
    subst hb0 hxs
    clear hb hno hq0 hu
    go_enter Try.func31, Try.ntmps31
    go_wp2_with (first | (go_at_call 74; (with_reducible refine (HI _ ExtC.ext).mono ?_); rintro e w' ⟨rfl, hx⟩; obtain ⟨g, rfl⟩ := hx.grow; clear hx) | (go_at_call 21; (with_reducible refine (HV _ ExtC.ext).mono ?_); rintro e w' ⟨rfl, hx⟩; obtain ⟨g, rfl⟩ := hx.grow; clear hx))
    refine bodyPost_ret (v := .tuple #[.slice none 0 0, .bool false]) (by simp [results, Try.results31, go_sem]) rfl ⟨_, rfl, .inl ⟨rfl, rfl⟩, ExtC.ext⟩
  · have hpp := hq0.1 rfl
    by_cases hm : mb ∈ ps
    · have hsub : SubP pe sz L ps mb := ⟨hpp, hm⟩
      have hbt := hb.2 hsub
      rw [sbX_yes hsub] at hxs
      obtain ⟨i, hpos, hil, him⟩ := pos_in hm
      rw [hpos] at HI
      subst hbt
      obtain ⟨n, k0, rfl, rfl, h1, h2, h3⟩ := hpp.1.1.nat
      rw [Int.toNat_natCast] at hxs
      have hpl : ps.length ≤ 7 := by have := hpp.1.2.1; omega
      have his := hu.is (by omega)
      have HCL := fun x (hx : Ext w x) => slices_Clone _ ps x (his.ext hx) (by omega)
      have HR := Lib.hid (And.intro hpp (And.intro hxs him))
      have hi0 : ¬ (i : Int) < 0 := by omega
      clear hb hq0 hm hsub hpos hpp hxs him his hu
      go_enter Try.func31, Try.ntmps31
      go_wp2_with (first | (go_at_call 74; (with_reducible refine (HI _ ExtC.ext).mono ?_); rintro e w' ⟨rfl, hx⟩; obtain ⟨g, rfl⟩ := hx.grow; clear hx))
      refine Calls.mono (HV _ ExtC.ext) ?_
      rintro e w' ⟨rfl, hx⟩; obtain ⟨gv, rfl⟩ := hx.grow; clear hx
      have HGX := Lib.hid ((ExtC.ext : Ext (w.alloc (.cells #[.int .i64 (n : Int), .int .i64 (k0 : Int), .slice p L.length c] 29)) gv.fin))
      obtain ⟨ib0, bb0, bb1, bb2⟩ := HBX.out.ext HGX.out
      have hwv := (ExtC.ext : Ext w gv.fin).size
      have HE := Lib.hid (own_empty gv.fin gv.fin.heap.size (Nat.le_refl _))
      go_wp2_with fail
      go_loopw [9, 26] (fun o s wr => ∃ (k og oc : Nat) (C : List Int), k ≤ n ∧ s = .int .i64 k ∧ o = .slice (some ⟨og, 0, none⟩) C.length oc ∧ C.length ≤ k ∧ Ext gv.fin wr ∧ Hid (C = subTo L ps mb k) ∧ Hid (OwnI gv.fin.heap.size wr.heap.size wr (.slice (some ⟨og, 0, none⟩) C.length oc) C)) (fun _ s _ => n - (intOf s).toNat)
      case atStart => exact ⟨0, _, _, [], Nat.zero_le _, rfl, rfl, by simp, ExtC.ext, Lib.hid rfl, Lib.hid (by have := HE.out; simp only [World.size_alloc] at this ⊢; exact this)⟩
      case round =>
        clear HE
        obtain ⟨k, og, oc, C, hk, rfl, rfl, hC, hx, HCk, HO⟩ := hrel
        obtain ⟨g2, rfl⟩ := hx.grow; clear hx
        by_cases hkn : k < n
        · have hsu := subTo_succ L ps mb k
          rw [← HCk.out] at hsu
          have hsl : (ps.set i (k : Int)).length = ps.length := by simp
          cases q : decide ((k : Int) ∈ ps)
          · have hni : (k : Int) ∉ ps := by simpa using q
            have hteam := sub_team HR.out.1.1.2 hil hni (by omega) (by omega)
            have heq := sub_eq HR.out.1.1.2.2 hil hni
            rw [HR.out.2.2] at heq
            have hslen : (sortI (ps.set i (k : Int))).length = ps.length := by rw [(sortI_perm _).length_eq]; simp
            obtain ⟨q1, hq1⟩ := boolOf (PanelP n k0 L (sortI (ps.set i (k : Int))))
            have hsk : subOk L ps mb k = q1 := by
              rw [Bool.eq_iff_iff, hq1]
              unfold subOk PanelP SizedP
              rw [← heq]
              simp only [hni, not_false_eq_true, decide_true, Bool.true_and, decide_eq_true_eq]
              exact ⟨fun h => ⟨⟨HR.out.1.1.1, hteam⟩, h⟩, fun h => h.2⟩
            rw [hsk] at hsu
            have HPX := fun v (x : World) (hx : Ext w x) (hv : RI x v (sortI (ps.set i (k : Int)))) => impl_IsPanel' n k0 _ v L (sortI (ps.set i (k : Int))) x (HQ.out.1.ext hx) hv HQ.out.2.2 (by omega) q1 hq1
            have HSU := Lib.hid (And.intro hsu hslen)
            clear hsu hni hteam heq hsk hq1
            cases q1
            · go_wp2_with (first | (go_at_call 75; (with_reducible refine (HCL _ ExtC.ext).mono ?_); rintro e w' ⟨sb, sc, rfl, ho, hx⟩; obtain ⟨g3, rfl⟩ := hx.grow; clear hx; obtain ⟨c9, f9, iw9⟩ := ho.cellF i hil; have nb9 := ho.len; have HS3 := Lib.hid ho; clear ho))
              have hsort := slices_Sort (ps.set i (k : Int)) (g3.fin.setCell ⟨sb, i, none⟩ (.int .i64 (k : Int))) (HS3.out.put i (k : Int)) (by simp; omega)
              refine Calls.mono hsort ?_
              rintro e w' ⟨rfl, ho, hr⟩
              obtain ⟨g4, rfl⟩ := (Ext.rng ((ExtC.ext : Ext g2.fin g3.fin).setCell (p := ⟨sb, i, none⟩) HS3.out.len.2.1 (.int .i64 (k : Int))) hr (by have := HS3.out.len; omega)).grow
              have HS4 := Lib.hid ho.ri
              clear hsort ho hr c9 f9 iw9 nb9 HS3
              go_wp2_with (first | (go_at_call 77; (with_reducible refine (slices_Contains _ ps _ _ (by assumption) _ (HQ.out.2.1.ext ExtC.ext) (by omega)).mono ?_); rintro e w' ⟨rfl, hx⟩; obtain ⟨g5, rfl⟩ := hx.grow; clear hx) | (go_at_call 21; (with_reducible refine (HPX _ _ ExtC.ext (HS4.out.ext ExtC.ext)).mono ?_); rintro e w' ⟨rfl, hx⟩; obtain ⟨g6, rfl⟩ := hx.grow; clear hx))
              exact ⟨⟨k + 1, og, oc, C, by omega, by go_num, rfl, by omega, ExtC.ext, Lib.hid (by rw [HSU.out.1]; simp), Lib.hid ((HO.out.ext ExtC.ext).mono (Nat.le_refl _) (ExtC.ext : Ext g2.fin _).size)⟩, by simp [intOf]; omega⟩
            · go_wp2_with (first | (go_at_call 75; (with_reducible refine (HCL _ ExtC.ext).mono ?_); rintro e w' ⟨sb, sc, rfl, ho, hx⟩; obtain ⟨g3, rfl⟩ := hx.grow; clear hx; obtain ⟨c9, f9, iw9⟩ := ho.cellF i hil; have nb9 := ho.len; have HS3 := Lib.hid ho; clear ho))
              have hsort := slices_Sort (ps.set i (k : Int)) (g3.fin.setCell ⟨sb, i, none⟩ (.int .i64 (k : Int))) (HS3.out.put i (k : Int)) (by simp; omega)
              refine Calls.mono hsort ?_
              rintro e w' ⟨rfl, ho, hr⟩
              obtain ⟨g4, rfl⟩ := (Ext.rng ((ExtC.ext : Ext g2.fin g3.fin).setCell (p := ⟨sb, i, none⟩) HS3.out.len.2.1 (.int .i64 (k : Int))) hr (by have := HS3.out.len; omega)).grow
              have HS4 := Lib.hid ho.ri
              clear hsort ho hr c9 f9 iw9 nb9 HS3
              go_wp2_with (first | (go_at_call 77; (with_reducible refine (slices_Contains _ ps _ _ (by assumption) _ (HQ.out.2.1.ext ExtC.ext) (by omega)).mono ?_); rintro e w' ⟨rfl, hx⟩; obtain ⟨g5, rfl⟩ := hx.grow; clear hx) | (go_at_call 21; (with_reducible refine (HPX _ _ ExtC.ext (HS4.out.ext ExtC.ext)).mono ?_); rintro e w' ⟨rfl, hx⟩; obtain ⟨g6, rfl⟩ := hx.grow; clear hx) | (at_builtin; refine app_int (w0 := gv.fin) (lo := gv.fin.heap.size) (hi := g2.fin.heap.size) _ _ (.slice (some ⟨og, 0, none⟩) C.length oc) C ⟨g6.fin.heap.size, 0, none⟩ 1 [(k : Int)] rfl rfl rfl (HO.out.ext ExtC.ext) rfl (cells_one _ _ _) (by simp only [List.length_cons, List.length_nil]; omega) ExtC.ext (Nat.le_refl _) (by have := (ExtC.ext : Ext gv.fin g6.fin).size; simp only [World.size_alloc]; omega) (by simp) ?_; intro g' c' w' ho hx; obtain ⟨g8, rfl⟩ := hx.grow; clear hx; have HO2 := Lib.hid ho; clear ho))
              exact ⟨⟨k + 1, g', c', C ++ [(k : Int)], by omega, by go_num, by simp, by simp; omega, ExtC.ext, Lib.hid (by rw [HSU.out.1]; simp), HO2⟩, by simp [intOf]; omega⟩
          · have hin : (k : Int) ∈ ps := by simpa using q
            have hsk : subOk L ps mb k = false := by unfold subOk; simp [hin]
            rw [hsk] at hsu
            have HSU := Lib.hid hsu
            clear hsu hin hsk
            go_wp2_with (first | (go_at_call 75; (with_reducible refine (HCL _ ExtC.ext).mono ?_); rintro e w' ⟨sb, sc, rfl, ho, hx⟩; obtain ⟨g3, rfl⟩ := hx.grow; clear hx; obtain ⟨c9, f9, iw9⟩ := ho.cellF i hil; have nb9 := ho.len; have HS3 := Lib.hid ho; clear ho))
            have hsort := slices_Sort (ps.set i (k : Int)) (g3.fin.setCell ⟨sb, i, none⟩ (.int .i64 (k : Int))) (HS3.out.put i (k : Int)) (by simp; omega)
            refine Calls.mono hsort ?_
            rintro e w' ⟨rfl, ho, hr⟩
            obtain ⟨g4, rfl⟩ := (Ext.rng ((ExtC.ext : Ext g2.fin g3.fin).setCell (p := ⟨sb, i, none⟩) HS3.out.len.2.1 (.int .i64 (k : Int))) hr (by have := HS3.out.len; omega)).grow
            have HS4 := Lib.hid ho.ri
            clear hsort ho hr c9 f9 iw9 nb9 HS3
            go_wp2_with (first | (go_at_call 77; (with_reducible refine (slices_Contains _ ps _ _ (by assumption) _ (HQ.out.2.1.ext ExtC.ext) (by omega)).mono ?_); rintro e w' ⟨rfl, hx⟩; obtain ⟨g5, rfl⟩ := hx.grow; clear hx))
            exact ⟨⟨k + 1, og, oc, C, by omega, by go_num, rfl, by omega, ExtC.ext, Lib.hid (by rw [HSU.out]; simp), Lib.hid ((HO.out.ext ExtC.ext).mono (Nat.le_refl _) (ExtC.ext : Ext g2.fin _).size)⟩, by simp [intOf]; omega⟩
        · have hkn2 : k = n := by omega
          subst hkn2
          go_wp2_with fail
          refine bodyPost_ret (v := .tuple #[.slice (some ⟨og, 0, none⟩) C.length oc, .bool true]) (by simp [results, Try.results31, go_sem]) rfl ⟨_, rfl, ?_, ExtC.ext⟩
          rw [← HR.out.2.1, ← HCk.out]
          exact HO.out.mono hwv (Nat.le_refl _)
    · have hno : ¬ SubP pe sz L ps mb := fun h => hm h.2
      have hb0 : b = false := by
        cases b
        · rfl
        · exact absurd (hb.1 rfl) hno
      rw [sbX_no hno] at hxs
      rw [pos_out hm] at HI
      subst hb0 hxs
      clear hb hno hq0 hm hpp hu
      go_enter Try.func31, Try.ntmps31
      go_wp2_with (first | (go_at_call 74; (with_reducible refine (HI _ ExtC.ext).mono ?_); rintro e w' ⟨rfl, hx⟩; obtain ⟨g, rfl⟩ := hx.grow; clear hx) | (go_at_call 21; (with_reducible refine (HV _ ExtC.ext).mono ?_); rintro e w' ⟨rfl, hx⟩; obtain ⟨g, rfl⟩ := hx.grow; clear hx))
      refine bodyPost_ret (v := .tuple #[.slice none 0 0, .bool false]) (by simp [results, Try.results31, go_sem]) rfl ⟨_, rfl, .inl ⟨rfl, rfl⟩, ExtC.ext⟩
theorem restL_take (ps : List Int) (mb : Int) (k : Nat) (h : k < ps.length) : restL (ps.take (k + 1)) mb = if ps[k] = mb then restL (ps.take k) mb else restL (ps.take k) mb ++ [ps[k]] := by
  unfold restL
  rw [List.take_succ_eq_append_getElem h, List.filter_append]
  by_cases e : ps[k] = mb <;> simp [e]
theorem restL_len (ps : List Int) (mb : Int) : (restL ps mb).length ≤ ps.length := List.length_filter_le _ _

set_option maxHeartbeats 8000000 in
set_option maxRecDepth 100000 in
theorem spec_SubstitutesFor' (pe sz : Int) (qv u : Value) (mb : Int) (L : List QD) (ps : List Int) (w : World) (hq : RQ w qv L) (hu : RI w u ps) (hs : ShortQ L) (hxl : ps.length ≤ 1048576) (b : Bool) (hb : b = true ↔ SubP pe sz L ps mb) (xs : List Int) (hxs : sbX pe sz L ps mb = xs) :
    Calls Try.prog 30 #[.agg #[.int .i64 pe, .int .i64 sz, qv], u, .int .i64 mb] w fun e w' => ∃ v, e = .returned (.tuple #[v, .bool b]) ∧ OwnI w.heap.size w'.heap.size w' v xs ∧ Ext w w' := by
  obtain ⟨p, c, rfl, -⟩ := hq.form
  obtain ⟨up, uc, rfl, -, huq⟩ := hu.form
  have HQ := Lib.hid (And.intro hq (And.intro hu (And.intro hs huq)))
  have HBX := Lib.hid (box_pool w pe sz (.slice p L.length c) 29)
  obtain ⟨q0, hq0⟩ : ∃ q, okPB pe sz L = q := ⟨_, rfl⟩
  have HV := fun x (hy : Ext (w.alloc (.cells #[.int .i64 pe, .int .i64 sz, .slice p L.length c] 29)) x) (hx : Ext w x) => (spec_l04Is w.heap.size pe sz _ L x (HBX.out.ext hy) (hq.ext hx) hs).mono fun e w' (h : RetB _ e ∧ Ext x w') => (⟨h.1.toldP (okPB_iff hq0), h.2⟩ : e = .returned (.bool q0) ∧ Ext x w')
  clear hq huq
  cases q0
  · have hno : ¬ SubP pe sz L ps mb := fun h => by have := (okPB_iff hq0).2 h.1.1.1; cases this
    have hb0 : b = false := by
      cases b
      · rfl
      · exact absurd (hb.1 rfl) hno
    rw [sbX_no hno] at hxs
    subst hb0 hxs
    clear hb hno hq0 hu
    go_enter Try.func30, Try.ntmps30
    go_wp2_with (first | (go_at_call 54; (with_reducible refine (HV _ ExtC.ext ExtC.ext).mono ?_); rintro e w' ⟨rfl, hx⟩; obtain ⟨g, rfl⟩ := hx.grow; clear hx))
    refine bodyPost_ret (v := .tuple #[.slice none 0 0, .bool false]) (by simp [results, Try.results30, go_sem]) rfl ⟨_, rfl, .inl ⟨rfl, rfl⟩, ExtC.ext⟩
  · have hok := (okPB_iff hq0).1 rfl
    obtain ⟨n, k0, rfl, rfl, h1, h2, h3⟩ := hok.nat
    obtain ⟨q1, hq1⟩ := boolOf (PanelP n k0 L ps)
    have HPN := fun x (hy : Ext (w.alloc (.cells #[.int .i64 (n : Int), .int .i64 (k0 : Int), .slice p L.length c] 29)) x) (hx : Ext w x) => spec_l04Panel w.heap.size n k0 _ _ L ps x (HBX.out.ext hy) (HQ.out.1.ext hx) (HQ.out.2.1.ext hx) hok hxl q1 hq1
    obtain ⟨q2, hq2⟩ : ∃ q, decide (mb ∈ ps) = q := ⟨_, rfl⟩
    have HHS := fun x (hx : Ext w x) => spec_l00Has _ ps mb q2 hq2 x (HQ.out.2.1.ext hx) (by omega)
    have hbb : b = (q1 && q2) := by
      rw [Bool.eq_iff_iff, hb, Bool.and_eq_true, hq1, ← hq2, decide_eq_true_eq]; rfl
    subst hbb
    cases q1
    · have hno : ¬ SubP n k0 L ps mb := fun h => by have := hq1.2 h.1; cases this
      rw [sbX_no hno] at hxs
      subst hxs
      clear hb hno hq0 hq1 hq2 hu hok
      rw [Bool.false_and]
      go_enter Try.func30, Try.ntmps30
      go_wp2_with (first | (go_at_call 54; (with_reducible refine (HV _ ExtC.ext ExtC.ext).mono ?_); rintro e w' ⟨rfl, hx⟩; obtain ⟨g, rfl⟩ := hx.grow; clear hx) | (go_at_call 59; (with_reducible refine (HPN _ ExtC.ext ExtC.ext).mono ?_); rintro e w' ⟨rfl, hx⟩; obtain ⟨g, rfl⟩ := hx.grow; clear hx))
      refine bodyPost_ret (v := .tuple #[.slice none 0 0, .bool false]) (by simp [results, Try.results30, go_sem]) rfl ⟨_, rfl, .inl ⟨rfl, rfl⟩, ExtC.ext⟩
    · cases q2
      · have hno : ¬ SubP n k0 L ps mb := fun h => by have := h.2; simp at hq2; exact hq2 this
        rw [sbX_no hno] at hxs
        subst hxs
        clear hb hno hq0 hq1 hq2 hu hok
        rw [Bool.and_false]
        go_enter Try.func30, Try.ntmps30
        go_wp2_with (first | (go_at_call 54; (with_reducible refine (HV _ ExtC.ext ExtC.ext).mono ?_); rintro e w' ⟨rfl, hx⟩; obtain ⟨g, rfl⟩ := hx.grow; clear hx) | (go_at_call 59; (with_reducible refine (HPN _ ExtC.ext ExtC.ext).mono ?_); rintro e w' ⟨rfl, hx⟩; obtain ⟨g, rfl⟩ := hx.grow; clear hx) | (go_at_call 72; (with_reducible refine (HHS _ ExtC.ext).mono ?_); rintro e w' ⟨rfl, hx⟩; obtain ⟨g, rfl⟩ := hx.grow; clear hx))
        refine bodyPost_ret (v := .tuple #[.slice none 0 0, .bool false]) (by simp [results, Try.results30, go_sem]) rfl ⟨_, rfl, .inl ⟨rfl, rfl⟩, ExtC.ext⟩
      · have hpp := hq1.1 rfl
        have hm : mb ∈ ps := by simpa using hq2
        rw [sbX_yes ⟨hpp, hm⟩, Int.toNat_natCast] at hxs
        obtain ⟨i, hpos, hil, him⟩ := pos_in hm
        have hpl : ps.length ≤ 7 := by have := hpp.1.2.1; omega
        have HR := Lib.hid (And.intro hpp (And.intro hxs him))
        clear hb hq0 hq1 hq2 hm hpos hpp hxs him hu hok
        rw [Bool.and_true]
        go_enter Try.func30, Try.ntmps30
        go_wp2_with fail
        refine Calls.mono (HV _ ExtC.ext ExtC.ext) ?_
        rintro e w' ⟨rfl, hx⟩; obtain ⟨ga, rfl⟩ := hx.grow; clear hx
        go_wp2_with fail
        refine Calls.mono (HPN _ ExtC.ext ExtC.ext) ?_
        rintro e w' ⟨rfl, hx⟩; obtain ⟨gb, rfl⟩ := hx.grow; clear hx
        go_wp2_with fail
        refine Calls.mono (HHS _ ExtC.ext) ?_
        rintro e w' ⟨rfl, hx⟩; obtain ⟨gv, rfl⟩ := hx.grow; clear hx
        have HGX := Lib.hid ((ExtC.ext : Ext (w.alloc (.cells #[.int .i64 (n : Int), .int .i64 (k0 : Int), .slice p L.length c] 29)) gv.fin))
        obtain ⟨ib0, bb0, bb1, bb2⟩ := HBX.out.ext HGX.out
        have hwv := (ExtC.ext : Ext w gv.fin).size
        have HE := Lib.hid (own_empty gv.fin gv.fin.heap.size (Nat.le_refl _))
        go_wp2_with fail
        go_loopw [8, 9] (fun o s wr => ∃ (m og oc : Nat) (C : List Int), m ≤ ps.length ∧ s = .int .i64 m ∧ o = .slice (some ⟨og, 0, none⟩) C.length oc ∧ C.length ≤ m ∧ Ext gv.fin wr ∧ Hid (C = restL (ps.take m) mb) ∧ Hid (OwnI gv.fin.heap.size wr.heap.size wr (.slice (some ⟨og, 0, none⟩) C.length oc) C)) (fun _ s _ => ps.length - (intOf s).toNat)
        case atStart => exact ⟨0, _, _, [], Nat.zero_le _, rfl, rfl, by simp, ExtC.ext, Lib.hid rfl, Lib.hid (by have := HE.out; simp only [World.size_alloc] at this ⊢; exact this)⟩
        case round =>
          clear HE
          obtain ⟨m, og, oc, C, hmk, rfl, rfl, hC, hx, HCk, HO⟩ := hrel
          obtain ⟨g2, rfl⟩ := hx.grow; clear hx
          by_cases hlt : m < ps.length
          · obtain ⟨b0, off, hpq, ib, hc⟩ := HQ.out.2.2.2 (by omega)
            subst hpq
            have d := hc m hlt
            have hst := restL_take ps mb m hlt
            rw [← HCk.out] at hst
            obtain ⟨y, hy⟩ : ∃ y, ps[m] = y := ⟨_, rfl⟩
            rw [hy] at d hst
            have HST := Lib.hid hst
            clear hc hy hst
            by_cases hym : y = mb
            · have e1 : (y != mb) = false := by simp [hym]
              have HCS : Hid (C = restL (ps.take (m + 1)) mb) := Lib.hid (by rw [HST.out, if_pos hym])
              clear hym HST
              go_wp2_with fail
              exact ⟨⟨m + 1, og, oc, C, by omega, by go_num, rfl, by omega, ExtC.ext, HCS, HO⟩, by simp [intOf]; omega⟩
            · have e1 : (y != mb) = true := by simp [hym]
              have HCS : Hid (C ++ [y] = restL (ps.take (m + 1)) mb) := Lib.hid (by rw [HST.out, if_neg hym])
              clear hym HST
              go_wp2_with (first | (at_builtin; refine app_int (w0 := gv.fin) (lo := gv.fin.heap.size) (hi := g2.fin.heap.size) _ _ (.slice (some ⟨og, 0, none⟩) C.length oc) C ⟨g2.fin.heap.size, 0, none⟩ 1 [y] rfl rfl rfl (HO.out.ext ExtC.ext) rfl (cells_one _ _ _) (by simp only [List.length_cons, List.length_nil]; omega) ExtC.ext (Nat.le_refl _) (by have := (ExtC.ext : Ext gv.fin g2.fin).size; simp only [World.size_alloc]; omega) (by simp) ?_; intro g' c' w' ho hx; obtain ⟨g8, rfl⟩ := hx.grow; clear hx; have HO2 := Lib.hid ho; clear ho))
              exact ⟨⟨m + 1, g', c', C ++ [y], by omega, by go_num, by simp, by simp; omega, ExtC.ext, HCS, HO2⟩, by simp [intOf]; omega⟩
          · have hmn : m = ps.length := by omega
            have HRS : Hid (C = restL ps mb) := Lib.hid (by rw [HCk.out, hmn, List.take_length])
            have HRI := Lib.hid HO.out.ri
            have hcl : C.length ≤ 7 := by omega
            have HE2 := Lib.hid (own_empty g2.fin g2.fin.heap.size (Nat.le_refl _))
            have hw2 := (ExtC.ext : Ext w g2.fin).size
            subst hmn
            clear HCk HO hC
            go_wp2_with fail
            go_loopw [10, 11] (fun o s wr => ∃ (k og' oc' : Nat) (D : List Int), k ≤ n ∧ s = .int .i64 k ∧ o = .slice (some ⟨og', 0, none⟩) D.length oc' ∧ D.length ≤ k ∧ Ext g2.fin wr ∧ Hid (D = subTo L ps mb k) ∧ Hid (OwnI g2.fin.heap.size wr.heap.size wr (.slice (some ⟨og', 0, none⟩) D.length oc') D)) (fun _ s _ => n - (intOf s).toNat)
            case atStart => exact ⟨0, _, _, [], Nat.zero_le _, rfl, rfl, by simp, ExtC.ext, Lib.hid rfl, Lib.hid (by have := HE2.out; simp only [World.size_alloc] at this ⊢; exact this)⟩
            case round =>
              clear HE2
              obtain ⟨k, og', oc', D, hk, rfl, rfl, hD, hx, HDk, HO⟩ := hrel
              obtain ⟨g3, rfl⟩ := hx.grow; clear hx
              by_cases hkn : k < n
              · have hsu := subTo_succ L ps mb k
                rw [← HDk.out] at hsu
                cases q : decide ((k : Int) ∈ ps)
                · have hni : (k : Int) ∉ ps := by simpa using q
                  have heq := sub_eq HR.out.1.1.2.2 hil hni
                  rw [HR.out.2.2, ← HRS.out] at heq
                  obtain ⟨ys, hys⟩ : ∃ ys, putA false C (k : Int) = ys := ⟨_, rfl⟩
                  rw [hys] at heq
                  have hyl : ys.length = ps.length := by rw [← heq, (sortI_perm _).length_eq]; simp
                  have hynd : ys.Nodup := by rw [← heq]; exact (sortI_perm _).nodup_iff.2 (nodup_set (setP_nodup HR.out.1.1.2.2) hni)
                  obtain ⟨m1, hm1⟩ : ∃ m1, missed L ys = m1 := ⟨_, rfl⟩
                  have hsk : subOk L ps mb k = (m1 == 0) := by
                    unfold subOk
                    rw [← HRS.out, hys, hm1]
                    simp only [hni, not_false_eq_true, decide_true, Bool.true_and]
                    by_cases hz : m1 = 0 <;> simp [hz]
                  rw [hsk] at hsu
                  have HPT := fun x (hx : Ext g2.fin x) => spec_l00Put _ C (k : Int) x (HRI.out.ext hx) (by omega) ys hys
                  have HMS := fun v x (hx : Ext g2.fin x) (hv : RI x v ys) => spec_l04Missed w.heap.size n k0 _ v L ys x (HBX.out.ext (HGX.out.trans ((ExtC.ext : Ext gv.fin g2.fin).trans hx))) (HQ.out.1.ext ((ExtC.ext : Ext w g2.fin).trans hx)) hv HR.out.1.1.1.cnt hynd (by omega) m1 hm1
                  have HKH := fun x (hx : Ext w x) => spec_l00Has _ ps (k : Int) false q x (HQ.out.2.1.ext hx) (by omega)
                  clear hni heq hsk hyl hynd hys hm1
                  by_cases hz : m1 = 0
                  · have e2 : (m1 == 0) = true := by simp [hz]
                    rw [e2] at hsu
                    have HSU := Lib.hid hsu
                    clear hsu hz
                    go_wp2_with (first | (go_at_call 72; (with_reducible refine (HKH _ ExtC.ext).mono ?_); rintro e w' ⟨rfl, hx⟩; obtain ⟨g, rfl⟩ := hx.grow; clear hx) | (go_at_call 73; (with_reducible refine (HPT _ ExtC.ext).mono ?_); rintro e w' ⟨yg, yc, rfl, ho, hx⟩; obtain ⟨g5, rfl⟩ := hx.grow; clear hx; have HYI := Lib.hid ho.ri; clear ho) | (go_at_call 63; (with_reducible refine (HMS _ _ ExtC.ext (HYI.out.ext ExtC.ext)).mono ?_); rintro e w' ⟨rfl, hx⟩; obtain ⟨g6, rfl⟩ := hx.grow; clear hx) | (at_builtin; refine app_int (w0 := g2.fin) (lo := g2.fin.heap.size) (hi := g3.fin.heap.size) _ _ (.slice (some ⟨og', 0, none⟩) D.length oc') D ⟨g6.fin.heap.size, 0, none⟩ 1 [(k : Int)] rfl rfl rfl (HO.out.ext ExtC.ext) rfl (cells_one _ _ _) (by simp only [List.length_cons, List.length_nil]; omega) ExtC.ext (Nat.le_refl _) (by have := (ExtC.ext : Ext g2.fin g6.fin).size; simp only [World.size_alloc]; omega) (by simp) ?_; intro gn cn w' ho hx; obtain ⟨g8, rfl⟩ := hx.grow; clear hx; have HO2 := Lib.hid ho; clear ho))
                    exact ⟨⟨k + 1, gn, cn, D ++ [(k : Int)], by omega, by go_num, by simp, by simp; omega, ExtC.ext, Lib.hid (by rw [HSU.out]; simp), HO2⟩, by simp [intOf]; omega⟩
                  · have e2 : (m1 == 0) = false := by simp [hz]
                    rw [e2] at hsu
                    have HSU := Lib.hid hsu
                    clear hsu hz
                    go_wp2_with (first | (go_at_call 72; (with_reducible refine (HKH _ ExtC.ext).mono ?_); rintro e w' ⟨rfl, hx⟩; obtain ⟨g, rfl⟩ := hx.grow; clear hx) | (go_at_call 73; (with_reducible refine (HPT _ ExtC.ext).mono ?_); rintro e w' ⟨yg, yc, rfl, ho, hx⟩; obtain ⟨g5, rfl⟩ := hx.grow; clear hx; have HYI := Lib.hid ho.ri; clear ho) | (go_at_call 63; (with_reducible refine (HMS _ _ ExtC.ext (HYI.out.ext ExtC.ext)).mono ?_); rintro e w' ⟨rfl, hx⟩; obtain ⟨g6, rfl⟩ := hx.grow; clear hx))
                    exact ⟨⟨k + 1, og', oc', D, by omega, by go_num, rfl, by omega, ExtC.ext, Lib.hid (by rw [HSU.out]; simp), Lib.hid ((HO.out.ext ExtC.ext).mono (Nat.le_refl _) (ExtC.ext : Ext g3.fin _).size)⟩, by simp [intOf]; omega⟩
                · have hin : (k : Int) ∈ ps := by simpa using q
                  have hsk : subOk L ps mb k = false := by unfold subOk; simp [hin]
                  rw [hsk] at hsu
                  have HSU := Lib.hid hsu
                  have HKH := fun x (hx : Ext w x) => spec_l00Has _ ps (k : Int) true q x (HQ.out.2.1.ext hx) (by omega)
                  clear hsu hin hsk
                  go_wp2_with (first | (go_at_call 72; (with_reducible refine (HKH _ ExtC.ext).mono ?_); rintro e w' ⟨rfl, hx⟩; obtain ⟨g, rfl⟩ := hx.grow; clear hx))
                  exact ⟨⟨k + 1, og', oc', D, by omega, by go_num, rfl, by omega, ExtC.ext, Lib.hid (by rw [HSU.out]; simp), Lib.hid ((HO.out.ext ExtC.ext).mono (Nat.le_refl _) (ExtC.ext : Ext g3.fin _).size)⟩, by simp [intOf]; omega⟩
              · have hkn2 : k = n := by omega
                subst hkn2
                go_wp2_with fail
                refine bodyPost_ret (v := .tuple #[.slice (some ⟨og', 0, none⟩) D.length oc', .bool true]) (by simp [results, Try.results30, go_sem]) rfl ⟨_, rfl, ?_, ExtC.ext⟩
                rw [← HR.out.2.1, ← HDk.out]
                exact HO.out.mono hw2 (Nat.le_refl _)
end Go.Proofs.Ytoedphgoaifojaa
