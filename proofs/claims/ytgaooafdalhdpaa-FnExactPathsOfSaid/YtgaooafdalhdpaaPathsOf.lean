/- All paths that begin with some members: PathsOf on both sides. -/
import Derived.Test.YtgaooafdalhdpaaAppR
import Derived.Test.YtgaooafdalhdpaaCircles2
import Derived.Test.YtgaooafdalhdpaaSilence
namespace Go.Proofs.Ytgaooafdalhdpaa
open Go.RowKit

def allFrom (L : List VD) : Nat → List Int → List (List Int)
  | 0, _ => []
  | f + 1, p => if (At L (p.getLast?.getD 0)).1 = true then [p] else (At L (p.getLast?.getD 0)).2.flatMap fun t => if t ∈ p then [] else allFrom L f (p ++ [t])
def stepF (L : List VD) (f : Nat) (p : List Int) (t : Int) : List (List Int) := if t ∈ p then [] else allFrom L f (p ++ [t])
theorem allFrom_speaks {L : List VD} {f : Nat} {p : List Int} {a : Int} (ha : p.getLast? = some a) (h : (At L a).1 = true) : allFrom L (f + 1) p = [p] := by rw [allFrom, ha, Option.getD_some, if_pos h]
theorem allFrom_goes {L : List VD} {f : Nat} {p : List Int} {a : Int} (ha : p.getLast? = some a) (h : (At L a).1 = false) : allFrom L (f + 1) p = (At L a).2.flatMap (stepF L f p) := by
  rw [allFrom, ha, Option.getD_some, if_neg (by rw [h]; simp)]; rfl
theorem flatMap_le {α β : Type} (xs : List α) (g : α → List β) (n : Nat) (h : ∀ x, (g x).length ≤ n) : (xs.flatMap g).length ≤ xs.length * n := by
  induction xs with
  | nil => simp
  | cons a l ih => rw [List.flatMap_cons, List.length_append, List.length_cons, Nat.add_mul]; have := h a; omega
theorem allFrom_few {L : List VD} (hok : OkV L) : ∀ (f : Nat) (p : List Int), (allFrom L f p).length ≤ 4 ^ f := by
  intro f
  induction f with
  | zero => intro p; simp [allFrom]
  | succ f ih =>
    intro p
    have h1 : 1 ≤ 4 ^ (f + 1) := Nat.one_le_pow _ _ (by omega)
    cases hs : (At L (p.getLast?.getD 0)).1
    · have e : allFrom L (f + 1) p = (At L (p.getLast?.getD 0)).2.flatMap (stepF L f p) := by rw [allFrom, if_neg (by rw [hs]; simp)]; rfl
      rw [e]
      have hf := hok.few (p.getLast?.getD 0)
      have := flatMap_le (At L (p.getLast?.getD 0)).2 (stepF L f p) (4 ^ f) fun t => by
        unfold stepF; split
        · simp
        · exact ih _
      have h2 : (At L (p.getLast?.getD 0)).2.length * 4 ^ f ≤ 4 * 4 ^ f := Nat.mul_le_mul_right _ hf
      rw [Nat.pow_succ, Nat.mul_comm]; omega
    · rw [allFrom, if_pos hs]; simpa using h1
theorem allFrom_long {L : List VD} : ∀ (f : Nat) (p x : List Int), x ∈ allFrom L f p → x.length + 1 ≤ p.length + f := by
  intro f
  induction f with
  | zero => intro p x h; simp [allFrom] at h
  | succ f ih =>
    intro p x h
    rw [allFrom] at h
    split at h
    · simp at h; subst h; omega
    · rw [List.mem_flatMap] at h
      obtain ⟨t, _, h⟩ := h
      split at h
      · cases h
      · have := ih _ _ h; simp at this; omega

/-- A path in the making. -/
def Walk (L : List VD) (p : List Int) : Prop := 0 < p.length ∧ p.length ≤ L.length ∧ ∀ k (h : k < p.length), 0 ≤ p[k] ∧ p[k] < L.length ∧ p[k] ∉ p.take k
theorem Walk.snoc {L : List VD} {p : List Int} (h : Walk L p) {t : Int} (h0 : 0 ≤ t) (h1 : t < L.length) (hn : t ∉ p) : Walk L (p ++ [t]) := by
  have key : ∀ k (h : k < (p ++ [t]).length), 0 ≤ (p ++ [t])[k] ∧ (p ++ [t])[k] < L.length ∧ (p ++ [t])[k] ∉ (p ++ [t]).take k := by
    intro k hk
    by_cases hkp : k < p.length
    · rw [List.getElem_append_left hkp, List.take_append_of_le_length (by omega)]; exact h.2.2 k hkp
    · have : k = p.length := by simp at hk; omega
      subst this
      rw [List.getElem_append_right (Nat.le_refl _)]
      simp only [Nat.sub_self, List.getElem_cons_zero]
      exact ⟨h0, h1, by rw [List.take_append_of_le_length (Nat.le_refl _), List.take_length]; exact hn⟩
  exact ⟨by simp, nodup_length L.length _ key, key⟩
theorem Walk.last {L : List VD} {p : List Int} (h : Walk L p) : ∃ a, p.getLast? = some a ∧ 0 ≤ a ∧ a < L.length ∧ ∃ hh : p.length - 1 < p.length, p[p.length - 1] = a := by
  have hl : p.length - 1 < p.length := by have := h.1; omega
  refine ⟨p[p.length - 1], ?_, (h.2.2 _ hl).1, (h.2.2 _ hl).2.1, hl, rfl⟩
  rw [List.getLast?_eq_getElem?, List.getElem?_eq_getElem hl]

theorem flatMap_take {α β : Type} (xs : List α) (g : α → List β) (k : Nat) (h : k < xs.length) : (xs.take (k + 1)).flatMap g = (xs.take k).flatMap g ++ g xs[k] := by
  rw [List.take_succ_eq_append_getElem h, List.flatMap_append]; simp
theorem allFrom_cap {L : List VD} (hok : OkV L) {f : Nat} (hf : f ≤ 6) (p : List Int) : (allFrom L f p).length ≤ 1099511627776 := by
  have h1 := allFrom_few hok f p
  have h2 : 4 ^ f ≤ 4 ^ 6 := Nat.pow_le_pow_right (by omega) hf
  have h3 : 4 ^ 6 = 4096 := by decide
  omega
theorem own_snoc_len {lo hi g c : Nat} {w : World} {xs : List Int} {x : Int} (h : OwnI lo hi w (.slice (some ⟨g, 0, none⟩) (xs ++ [x]).length c) (xs ++ [x])) : OwnI lo hi w (.slice (some ⟨g, 0, none⟩) (xs.length + 1) c) (xs ++ [x]) := by simpa using h
theorem stepF_few {L : List VD} (hok : OkV L) {f : Nat} (hf : f ≤ 6) (p : List Int) (T : List Int) (hT : T.length ≤ 4) : (T.flatMap (stepF L f p)).length ≤ 16384 := by
  have h1 := flatMap_le T (stepF L f p) (4 ^ f) fun t => by
    unfold stepF; split
    · simp
    · exact allFrom_few hok _ _
  have h2 : 4 ^ f ≤ 4 ^ 6 := Nat.pow_le_pow_right (by omega) hf
  have h3 : T.length * 4 ^ f ≤ 4 * 4 ^ 6 := Nat.mul_le_mul hT h2
  have : 4 * 4 ^ 6 = 16384 := by decide
  omega

set_option maxHeartbeats 2000000 in
theorem spec_l02All (v : Value) (L : List VD) (w0 : World) (h : VS w0 v L) (hok : OkV L) (hsix : L.length ≤ 6) (f : Nat) :
    ∀ (p : List Int) (u : Value) (w : World), Ext w0 w → IS w u p → Walk L p → f + p.length = L.length + 1 →
    Calls Try.prog 72 #[v, u] w fun e w' => ∃ g c, e = .returned (.slice (some ⟨g, 0, none⟩) (allFrom L f p).length c) ∧ OwnR intKind 29 w.heap.size w'.heap.size w' (.slice (some ⟨g, 0, none⟩) (allFrom L f p).length c) (allFrom L f p) ∧ Ext w w' := by
  induction f with
  | zero => intro p u w _ _ hw hf; have := hw.2.1; omega
  | succ f ih =>
    intro p u w hx0 hu hw hf
    have hln := hok.2
    obtain ⟨a, ha, a0, a1, hl1, hpa⟩ := hw.last
    have hpl := hw.1
    have hp2 := hw.2.1
    have HU := Lib.hid hu
    obtain ⟨ub, uo, uc, rfl, hul, hub, hux⟩ := hu
    have du := hux (p.length - 1) hl1
    rw [hpa] at du
    have HV := Lib.hid h
    obtain ⟨vb, vo, vc, rfl, hvb, hc⟩ := h.at
    obtain ⟨c1, t, c2, c3⟩ := hc a a0 (by omega)
    obtain ⟨tp, tc, rfl, -, hcx⟩ := c3.form
    obtain ⟨gw, rfl⟩ := hx0.grow
    have HX := Lib.hid (And.intro hcx (And.intro c3 (And.intro hw hux)))
    obtain ⟨s, hs⟩ : ∃ s, (At L a).1 = s := ⟨_, rfl⟩
    rw [hs] at c1
    have hfew := hok.few a
    have HOK := Lib.hid (And.intro hok (And.intro ha hs))
    have q1 : IntKind.i64.wrap ((p.length : Int) - 1) = (p.length : Int) - 1 := IntWalk.i64_in _ (by omega)
    have q2 : (1 : Int) ≤ p.length := by omega
    have q3 : ((p.length : Int) - 1).toNat = p.length - 1 := by omega
    clear hcx c3 hw hux hok ha hs hpa h hx0 hl1 hc
    cases s
    · have HR := Lib.hid (allFrom_goes (f := f) HOK.out.2.1 HOK.out.2.2)
      go_enter Try.func72, Try.ntmps72
      obtain ⟨T, hT⟩ : ∃ T, (At L a).2 = T := ⟨_, rfl⟩
      rw [hT] at c2 hfew HX HR
      have hrg := fun (k : Nat) (hk : k < T.length) => (by subst hT; exact HOK.out.1.range hk : 0 ≤ T[k] ∧ T[k] < L.length)
      have HRG := Lib.hid hrg
      clear hrg hT
      go_wp2_with fail
      go_loopw [6, 7] (fun o i wr => ∃ (k og oc : Nat) (C : List (List Int)), k ≤ T.length ∧ i = .int .i64 k ∧ o = .slice (some ⟨og, 0, none⟩) C.length oc ∧ C.length ≤ 16384 ∧ Ext gw.fin wr ∧ Hid (C = (T.take k).flatMap (stepF L f p)) ∧ Hid (OwnR intKind 29 gw.fin.heap.size wr.heap.size wr (.slice (some ⟨og, 0, none⟩) C.length oc) C)) (fun _ i _ => T.length - (intOf i).toNat)
      case atStart => exact ⟨0, _, _, [], Nat.zero_le _, rfl, rfl, by simp, ExtC.ext, Lib.hid rfl, Lib.hid ((own_rows_empty gw.fin gw.fin.heap.size (Nat.le_refl _)).mono (Nat.le_refl _) (by simp))⟩
      case round =>
        obtain ⟨k, og, oc, C, hk, rfl, rfl, hC, hx, HCk, HO⟩ := hrel
        obtain ⟨g1, rfl⟩ := hx.grow; clear hx
        by_cases hlt : k < T.length
        · obtain ⟨tb, to, htp, itb, hcx⟩ := HX.out.1 (by omega)
          subst htp
          have d := hcx k hlt
          have HCX := Lib.hid hcx; clear hcx
          have hfr := HRG.out k hlt
          have HTK := Lib.hid (flatMap_take T (stepF L f p) k hlt)
          cases q : decide (T[k] ∈ p)
          · have HNI := Lib.hid (show T[k] ∉ p by simpa using q)
            have HSF := Lib.hid (show stepF L f p T[k] = allFrom L f (p ++ [T[k]]) from if_neg HNI.out)
            have HB := Lib.hid (allFrom_cap HOK.out.1 (f := f) (by omega) (p ++ [T[k]]))
            have HB2 := Lib.hid (show (C ++ allFrom L f (p ++ [T[k]])).length ≤ 16384 by rw [HCk.out, ← HSF.out, ← HTK.out]; exact stepF_few HOK.out.1 (by omega) p _ (by simp; omega))
            go_wp2_with (first | (go_at_call 82; (with_reducible refine (spec_l00Has _ p _ _ (by assumption) _ (HU.out.ri.ext ExtC.ext) (by omega)).mono ?_); rintro e w' ⟨rfl, hx⟩; obtain ⟨g2, rfl⟩ := hx.grow; clear hx) | (go_at_call 100; (with_reducible refine (spec_l00Own _ p _ (HU.out.ri.ext ExtC.ext) (by omega)).mono ?_); rintro e w' ⟨gp, cp, rfl, ho, hx⟩; obtain ⟨g3, rfl⟩ := hx.grow; clear hx; have HP := Lib.hid ho; clear ho) | (go_at_call 72; (with_reducible refine (ih (p ++ [T[k]]) _ _ (ExtC.ext : Ext w0 g4.fin) (IS.of_own HQ.out) (HX.out.2.2.1.snoc hfr.1 hfr.2 HNI.out) (by simp; omega)).mono ?_); rintro e w' ⟨gr, cr, rfl, ho, hx⟩; obtain ⟨g5, rfl⟩ := hx.grow; clear hx; have HR5 := Lib.hid ho; clear ho) | (at_builtin; refine app_int (w0 := g2.fin) (lo := g2.fin.heap.size) (hi := g3.fin.heap.size) _ _ (.slice (some ⟨gp, 0, none⟩) p.length cp) p ⟨g3.fin.heap.size, 0, none⟩ 1 [T[k]] rfl rfl rfl (HP.out.ext ExtC.ext) rfl (cells_one _ _ _) (by simp; omega) ExtC.ext (Nat.le_refl _) (by have := (ExtC.ext : Ext g2.fin g3.fin).size; simp; omega) (by simp) ?_; intro gq cq w' ho hx; obtain ⟨g4, rfl⟩ := hx.grow; clear hx; have HQ := Lib.hid (own_snoc_len ho); clear ho) | (at_builtin; refine app_rows (w0 := gw.fin) (lo := gw.fin.heap.size) (mid0 := g1.fin.heap.size) (mid := g4.fin.heap.size) (hi := g5.fin.heap.size) _ _ og oc C.length gr cr _ C (allFrom L f (p ++ [T[k]])) rfl rfl rfl rfl rfl (HO.out.ext ExtC.ext) rfl (HR5.out.ext ExtC.ext) (ExtC.ext : Ext g1.fin g4.fin).size (ExtC.ext : Ext gw.fin g4.fin).size (Nat.le_refl _) (ExtC.ext : Ext g4.fin g5.fin).size (by omega) HB.out ExtC.ext (Nat.le_refl _) ?_; intro g' c' w' ho hx; have HO2 := Lib.hid ho; clear ho))
            go_roundw
            case rel => exact ⟨k + 1, g', c', C ++ allFrom L f (p ++ [T[k]]), by omega, by go_num, by simp, HB2.out, hx, Lib.hid (by rw [HTK.out, HSF.out, HCk.out]), Lib.hid (by rw [List.length_append]; exact HO2.out)⟩
            case measure => simp [intOf]; omega
          · have HSF := Lib.hid (show stepF L f p T[k] = [] from if_pos (by simpa using q))
            go_wp2_with (first | (go_at_call 82; (with_reducible refine (spec_l00Has _ p _ _ (by assumption) _ (HU.out.ri.ext ExtC.ext) (by omega)).mono ?_); rintro e w' ⟨rfl, hx⟩; obtain ⟨g2, rfl⟩ := hx.grow; clear hx))
            go_roundw
            case rel => exact ⟨k + 1, og, oc, C, by omega, by go_num, rfl, hC, ExtC.ext, Lib.hid (by rw [HTK.out, HSF.out, List.append_nil, HCk.out]), Lib.hid ((HO.out.ext ExtC.ext).mono (Nat.le_refl _) (ExtC.ext : Ext g1.fin _).size)⟩
            case measure => simp [intOf]; omega
        · have e : k = T.length := by omega
          subst e
          go_wp2
          refine bodyPost_ret (v := .slice (some ⟨og, 0, none⟩) C.length oc) (by simp [results, Try.results72, go_sem]) rfl ?_
          have e : C = allFrom L (f + 1) p := by rw [HR.out, HCk.out, List.take_length]
          rw [← e]
          exact ⟨_, _, rfl, HO.out, ExtC.ext⟩
    · have HR := Lib.hid (allFrom_speaks (f := f) HOK.out.2.1 HOK.out.2.2)
      go_enter Try.func72, Try.ntmps72
      go_wp2_with (first | (go_at_call 100; (with_reducible refine (spec_l00Own _ p _ (HU.out.ri.ext ExtC.ext) (by omega)).mono ?_); rintro e w' ⟨g', c', rfl, ho, hx⟩; obtain ⟨g, rfl⟩ := hx.grow; clear hx; have HO := Lib.hid ho; clear ho))
      refine bodyPost_ret (v := .slice (some ⟨g.fin.heap.size, 0, none⟩) 1 1) (by simp [results, Try.results72, go_sem]) rfl ?_
      rw [HR.out]
      refine ⟨_, _, rfl, ?_, ExtC.ext⟩
      have hown := World.ownsRow_lit (e := 29) (size := 1) (base := gw.fin.heap.size) g.fin #[.slice (some ⟨g', 0, none⟩) p.length c'] 1 (ExtC.ext : Ext gw.fin g.fin).size (by unfold maxLen; omega) (by rfl)
      have hgs := (ExtC.ext : Ext gw.fin g.fin).size
      have hb := HO.out.block g' rfl
      refine .inr ⟨_, _, [.slice (some ⟨g', 0, none⟩) p.length c'], fun _ => gw.fin.heap.size, fun _ => g.fin.heap.size, rfl, hgs, by simp, hown, fun i hi => ?_, fun i j hij hj => ?_⟩
      · have : i = 0 := by simpa using hi
        subst this
        exact ⟨_, rfl, HO.out.ext (Ext.alloc (Ext.refl _) _), Nat.le_refl _, by simp, .inr (Nat.le_refl _)⟩
      · simp at hj; omega

set_option maxHeartbeats 2000000 in
theorem impl_extend (v : Value) (L : List VD) (w0 : World) (h : VS w0 v L) (hok : OkV L) (hsix : L.length ≤ 6) (f : Nat) :
    ∀ (p : List Int) (ug : Nat) (O : List (List Int)) (og oc : Nat) (u : Value) (w : World) (ba bb lo : Nat), Ext w0 w → w0.heap.size ≤ lo → (∃ uc, u = .slice (some ⟨ug, 0, none⟩) p.length uc) → OwnI ba bb w u p → (og < ba ∨ bb ≤ og) → Walk L p → f + p.length = L.length + 1 →
      OwnR intKind 29 lo w.heap.size w (.slice (some ⟨og, 0, none⟩) O.length oc) O → O.length + 4 ^ f ≤ 16384 →
    Calls Try.prog 73 #[v, u, .slice (some ⟨og, 0, none⟩) O.length oc] w fun e w' => ∃ g c, e = .returned (.slice (some ⟨g, 0, none⟩) (O ++ allFrom L f p).length c) ∧ OwnR intKind 29 lo w'.heap.size w' (.slice (some ⟨g, 0, none⟩) (O ++ allFrom L f p).length c) (O ++ allFrom L f p) ∧ Rng og (og + 1) w w' ∧ (g = og ∨ w.heap.size ≤ g) := by
  induction f with
  | zero => intro p ug O og oc u w ba bb lo _ _ _ _ _ hw hf _ _; have := hw.2.1; omega
  | succ f ih =>
    intro p ug O og oc u w ba bb lo hx0 hlo hu1 hu hdj hw hf ho hO
    obtain ⟨uc, rfl⟩ := hu1
    have hln := hok.2
    obtain ⟨N, hN⟩ : ∃ N, 4 ^ f = N := ⟨_, rfl⟩
    have hO4 : O.length + 4 * N ≤ 16384 := by rw [← hN]; rw [Nat.pow_succ, Nat.mul_comm] at hO; exact hO
    rw [hN] at ih
    have HNN := Lib.hid hN
    clear hN hO
    have hO : O.length ≤ 16384 := by omega
    obtain ⟨a, ha, a0, a1, hl1, hpa⟩ := hw.last
    have hpl := hw.1
    have hp2 := hw.2.1
    obtain ⟨-, ho2, -, ho4⟩ := ho.at0
    have HU := Lib.hid hu
    obtain ⟨ub, uo, uc', hue, hul, hub, hux⟩ := IS.of_own hu
    simp only [Value.slice.injEq, Option.some.injEq, Addr.mk.injEq, and_true] at hue
    obtain ⟨⟨rfl, rfl⟩, -, rfl⟩ := hue
    have du := hux (p.length - 1) hl1
    rw [hpa, Nat.zero_add] at du
    have HO0 := Lib.hid ho
    obtain ⟨vb, vo, vc, rfl, hvb, hc⟩ := h.at
    obtain ⟨c1, t, c2, c3⟩ := hc a a0 (by omega)
    obtain ⟨tp, tc, rfl, -, hcx⟩ := c3.form
    obtain ⟨gw, rfl⟩ := hx0.grow
    have HX := Lib.hid (And.intro hcx (And.intro c3 hw))
    obtain ⟨s, hs⟩ : ∃ s, (At L a).1 = s := ⟨_, rfl⟩
    rw [hs] at c1
    have hfew := hok.few a
    have HOK := Lib.hid (And.intro hok (And.intro ha hs))
    have q1 : IntKind.i64.wrap ((p.length : Int) - 1) = (p.length : Int) - 1 := IntWalk.i64_in _ (by omega)
    have q2 : (1 : Int) ≤ p.length := by omega
    have q3 : ((p.length : Int) - 1).toNat = p.length - 1 := by omega
    clear hcx c3 hw hux hok ha hs hpa h hx0 hl1 hc hu ho
    cases s
    · have HR := Lib.hid (allFrom_goes (f := f) HOK.out.2.1 HOK.out.2.2)
      obtain ⟨T, hT⟩ : ∃ T, (At L a).2 = T := ⟨_, rfl⟩
      rw [hT] at c2 hfew HX HR
      have hrg := fun (k : Nat) (hk : k < T.length) => (by subst hT; exact HOK.out.1.range hk : 0 ≤ T[k] ∧ T[k] < L.length)
      have HRG := Lib.hid hrg
      clear hrg hT
      go_enter Try.func73, Try.ntmps73
      go_wp2_with fail
      go_loopw [2, 29] (fun o i wr => ∃ (k og1 oc1 : Nat) (C : List (List Int)), k ≤ T.length ∧ i = .int .i64 k ∧ o = .slice (some ⟨og1, 0, none⟩) C.length oc1 ∧ C.length ≤ 16384 ∧ Hid (C.length ≤ O.length + k * N) ∧ Hid (C = O ++ (T.take k).flatMap (stepF L f p)) ∧ Hid (OwnR intKind 29 lo wr.heap.size wr (.slice (some ⟨og1, 0, none⟩) C.length oc1) C) ∧ Hid (Rng og (og + 1) gw.fin wr ∧ (og1 = og ∨ gw.fin.heap.size ≤ og1))) (fun _ i _ => T.length - (intOf i).toNat)
      case atStart => exact ⟨0, _, _, O, Nat.zero_le _, rfl, rfl, hO, Lib.hid (by omega), Lib.hid (by simp), Lib.hid ((HO0.out.ext (ExtC.ext : Ext gw.fin _)).mono (Nat.le_refl _) (ExtC.ext : Ext gw.fin (gw.fin.alloc _)).size), Lib.hid ⟨Rng.of_ext ExtC.ext, .inl rfl⟩⟩
      case round =>
        obtain ⟨k, og1, oc1, C, hk, rfl, rfl, hC, HCB, HCk, HO, HG⟩ := hrel
        have hx : Ext w0 wr := Ext.rng gw.ext HG.out.1 (Nat.le_trans hlo ho2)
        obtain ⟨g1, rfl⟩ := hx.grow; clear hx
        by_cases hlt : k < T.length
        · obtain ⟨tb, to, htp, itb, hcx⟩ := HX.out.1 (by omega)
          subst htp
          have d := hcx k hlt
          have HCX := Lib.hid hcx; clear hcx
          have hfr := HRG.out k hlt
          have HTK := Lib.hid (flatMap_take T (stepF L f p) k hlt)
          have HUX := Lib.hid (HU.out.rng HG.out.1 (by omega))
          have HLT := Lib.hid HO.out.at0.2.2.1
          cases q : decide (T[k] ∈ p)
          · have HNI := Lib.hid (show T[k] ∉ p by simpa using q)
            have HSF := Lib.hid (show stepF L f p T[k] = allFrom L f (p ++ [T[k]]) from if_neg HNI.out)
            have hkN : k * N ≤ 3 * N := Nat.mul_le_mul_right _ (by omega)
            have hCN : C.length + N ≤ 16384 := by have := HCB.out; omega
            have hfew2 : (allFrom L f (p ++ [T[k]])).length ≤ N := by rw [← HNN.out]; exact allFrom_few HOK.out.1 f _
            go_wp2_with (first | (go_at_call 61; (with_reducible refine (slices_Contains _ p _ _ (by assumption) _ (HUX.out.ri.ext ExtC.ext) (by omega)).mono ?_); rintro e w' ⟨rfl, hx⟩; obtain ⟨g2, rfl⟩ := hx.grow; clear hx) | (go_at_call 101; (with_reducible refine (slices_Clone _ p _ ((IS.of_own HUX.out).ext ExtC.ext) (by omega)).mono ?_); rintro e w' ⟨gp, cp, rfl, ho, hx⟩; obtain ⟨g3, rfl⟩ := hx.grow; clear hx; have HP := Lib.hid ho; clear ho) | (go_at_call 73; (refine (ih (p ++ [T[k]]) gq C og1 oc1 _ g4.fin g2.fin.heap.size g4.fin.heap.size lo (ExtC.ext : Ext w0 g4.fin) hlo ⟨cq, by simp⟩ HQ.out (.inl (Nat.lt_of_lt_of_le HLT.out (ExtC.ext : Ext g1.fin g2.fin).size)) (HX.out.2.2.snoc hfr.1 hfr.2 HNI.out) (by simp; omega) ((HO.out.ext (ExtC.ext : Ext g1.fin g4.fin)).mono (Nat.le_refl _) (ExtC.ext : Ext g1.fin g4.fin).size) (by omega)).mono ?_); rintro e w' ⟨gr, cr, rfl, ho, hr, hg⟩; have HR5 := Lib.hid (And.intro ho (And.intro hr hg)); clear ho hr hg) | (at_builtin; refine app_int (w0 := g2.fin) (lo := g2.fin.heap.size) (hi := g3.fin.heap.size) _ _ (.slice (some ⟨gp, 0, none⟩) p.length cp) p ⟨g3.fin.heap.size, 0, none⟩ 1 [T[k]] rfl rfl rfl (HP.out.ext ExtC.ext) rfl (cells_one _ _ _) (by simp; omega) ExtC.ext (Nat.le_refl _) (by have := (ExtC.ext : Ext g2.fin g3.fin).size; simp; omega) (by simp) ?_; intro gq cq w' ho hx; obtain ⟨g4, rfl⟩ := hx.grow; clear hx; have HQ := Lib.hid (own_snoc_len ho); clear ho))
            go_roundw
            case rel =>
              obtain ⟨ho, hr, hg⟩ := HR5.out
              refine ⟨k + 1, gr, cr, C ++ allFrom L f (p ++ [T[k]]), by omega, by go_num, by rw [List.length_append], by rw [List.length_append]; omega, Lib.hid (by rw [List.length_append, Nat.add_mul]; have := HCB.out; omega), Lib.hid (by rw [HTK.out, HSF.out, HCk.out, List.append_assoc]), Lib.hid ho, Lib.hid ⟨(HG.out.1.trans (Rng.of_ext (ExtC.ext : Ext g1.fin g4.fin))).trans2 hr HG.out.2, ?_⟩⟩
              have h1 := HG.out.1.size
              have h2 := (ExtC.ext : Ext g1.fin g4.fin).size
              have h3 := HG.out.2
              omega
            case measure => simp [intOf]; omega
          · have HSF := Lib.hid (show stepF L f p T[k] = [] from if_pos (by simpa using q))
            go_wp2_with (first | (go_at_call 61; (with_reducible refine (slices_Contains _ p _ _ (by assumption) _ (HUX.out.ri.ext ExtC.ext) (by omega)).mono ?_); rintro e w' ⟨rfl, hx⟩; obtain ⟨g2, rfl⟩ := hx.grow; clear hx))
            go_roundw
            case rel =>
              refine ⟨k + 1, og1, oc1, C, by omega, by go_num, rfl, hC, Lib.hid (by rw [Nat.add_mul]; have := HCB.out; omega), Lib.hid (by rw [HTK.out, HSF.out, List.append_nil, HCk.out]), Lib.hid ((HO.out.ext (ExtC.ext : Ext g1.fin g2.fin)).mono (Nat.le_refl _) (ExtC.ext : Ext g1.fin g2.fin).size), Lib.hid ⟨HG.out.1.trans (Rng.of_ext ExtC.ext), HG.out.2⟩⟩
            case measure => simp [intOf]; omega
        · have e : k = T.length := by omega
          subst e
          go_wp2
          refine bodyPost_ret (v := .slice (some ⟨og1, 0, none⟩) C.length oc1) (by simp [results, Try.results73, go_sem]) rfl ?_
          have e : C = O ++ allFrom L (f + 1) p := by rw [HR.out, HCk.out, List.take_length]
          rw [← e]
          exact ⟨_, _, rfl, HO.out, HG.out.1, HG.out.2⟩
    · have HR := Lib.hid (allFrom_speaks (f := f) HOK.out.2.1 HOK.out.2.2)
      go_enter Try.func73, Try.ntmps73
      go_wp2_with (first | (go_at_call 101; (with_reducible refine (slices_Clone _ p _ ((IS.of_own HU.out).ext ExtC.ext) (by omega)).mono ?_); rintro e w' ⟨gp, cp, rfl, ho, hx⟩; obtain ⟨g3, rfl⟩ := hx.grow; clear hx; have HP := Lib.hid ho; clear ho) | (at_builtin; refine app_row2 (lo := lo) (mid := gw.fin.heap.size + 1) (hi := g3.fin.heap.size) _ _ og oc O.length O ⟨g3.fin.heap.size, 0, none⟩ 1 (.slice (some ⟨gp, 0, none⟩) p.length cp) p rfl rfl rfl rfl ((HO0.out.ext (ExtC.ext : Ext gw.fin _)).mono (Nat.le_refl _) (Nat.le_succ _)) rfl (cell_new _ _ _) rfl ((HP.out.ext ExtC.ext).mono (by simp) (Nat.le_refl _)) (by have := HO0.out.at0; omega) (by simp) (by have := g3.ext.size; simp at this; simp; omega) (by omega) ?_; intro g' c' w' ho hr hg; have HO2 := Lib.hid ho; clear ho))
      refine bodyPost_ret (v := .slice (some ⟨g', 0, none⟩) (O.length + 1) c') (by simp [results, Try.results73, go_sem]) rfl ?_
      rw [HR.out]
      refine ⟨_, _, by rw [List.length_append]; rfl, by rw [List.length_append]; exact HO2.out, (Rng.of_ext (ExtC.ext : Ext gw.fin _)).trans hr, ?_⟩
      rcases hg with e | e
      · right; rw [e]; exact (ExtC.ext : Ext gw.fin (g3.fin.alloc _)).size
      · left; exact e.symm

def PathsP (L : List VD) (m : Int) : Prop := MemP L m ∧ L.length ≤ 6
open Classical in
noncomputable def pthB (L : List VD) (m : Int) : Bool := decide (PathsP L m)
open Classical in
noncomputable def pthX (L : List VD) (m : Int) : List (List Int) := if PathsP L m then allFrom L L.length [m] else []
theorem pthB_iff {L : List VD} {m : Int} {b : Bool} (h : pthB L m = b) : b = true ↔ PathsP L m := by subst h; simp [pthB]
theorem walk_one {L : List VD} {m : Int} (h : MemP L m) : Walk L [m] := by
  have hl := h.1.2
  refine ⟨by simp, by simpa using hl.1, fun k hk => ?_⟩
  have : k = 0 := by simpa using hk
  subst this
  have := h.2
  exact ⟨by simpa using this.1, by simp; omega, by simp⟩
theorem pthX_small {L : List VD} {m : Int} : (pthX L m).length ≤ 4096 ∧ ∀ x ∈ pthX L m, x.length ≤ 7 := by
  unfold pthX
  split
  · rename_i h
    refine ⟨?_, fun x hx => ?_⟩
    · have h1 := allFrom_few h.1.1 L.length [m]
      have h2 : 4 ^ L.length ≤ 4 ^ 6 := Nat.pow_le_pow_right (by omega) h.2
      have h3 : 4 ^ 6 = 4096 := by decide
      omega
    · have := allFrom_long _ _ _ hx
      have := h.2
      simp at *; omega
  · simp

theorem pow_six {n : Nat} (h : n ≤ 6) : ([] : List (List Int)).length + 4 ^ n ≤ 16384 := by
  have h2 : 4 ^ n ≤ 4 ^ 6 := Nat.pow_le_pow_right (by omega) h
  have h3 : 4 ^ 6 = 4096 := by decide
  simp only [List.length_nil]; omega
set_option maxHeartbeats 1000000 in
theorem impl_PathsOf' (v : Value) (m : Int) (L : List VD) (w : World) (h : VS w v L) (hs : Short L) (b : Bool) (hb : pthB L m = b) (xs : List (List Int)) (hxs : pthX L m = xs) :
    Calls Try.prog 40 #[v, .int .i64 m] w fun e w' => ∃ v', e = .returned (.tuple #[v', .bool b]) ∧ OwnR intKind 29 w.heap.size w'.heap.size w' v' xs ∧ Ext w w' := by
  have hln := hs.1
  obtain ⟨b1, hb1⟩ := bool_of (MemP L m)
  have H1 := fun x (hx : Ext w x) => impl_isMember v m L x (h.ext hx) hs b1 hb1
  have hno : b = false → xs = [] := fun e => by rw [← hxs]; unfold pthX; rw [if_neg (by rw [← pthB_iff hb, e]; simp)]
  have HV := Lib.hid h
  obtain ⟨vb, vo, vc, rfl, -⟩ := h
  cases b1
  · have hbf : b = false := by cases b; rfl; exact absurd (hb1.2 ((pthB_iff hb).1 rfl).1) (by simp)
    have HN := Lib.hid (hno hbf)
    subst hbf
    clear hb hxs hno hb1
    go_enter Try.func40, Try.ntmps40
    go_wp2_with (first | (go_at_call 66; (with_reducible refine (H1 _ ExtC.ext).mono ?_); rintro e w' ⟨rfl, hx⟩; obtain ⟨g, rfl⟩ := hx.grow; clear hx))
    refine bodyPost_ret (v := .tuple #[.slice none 0 0, .bool false]) (by simp [results, Try.results40, go_sem]) rfl ?_
    exact ⟨_, rfl, .inl ⟨rfl, HN.out⟩, ExtC.ext⟩
  have hm := hb1.1 rfl
  by_cases h6 : 6 < L.length
  · have hbf : b = false := by cases b; rfl; exact absurd ((pthB_iff hb).1 rfl).2 (by omega)
    have HN := Lib.hid (hno hbf)
    subst hbf
    clear hb hxs hno hb1 hm
    go_enter Try.func40, Try.ntmps40
    go_wp2_with (first | (go_at_call 66; (with_reducible refine (H1 _ ExtC.ext).mono ?_); rintro e w' ⟨rfl, hx⟩; obtain ⟨g, rfl⟩ := hx.grow; clear hx))
    refine bodyPost_ret (v := .tuple #[.slice none 0 0, .bool false]) (by simp [results, Try.results40, go_sem]) rfl ?_
    exact ⟨_, rfl, .inl ⟨rfl, HN.out⟩, ExtC.ext⟩
  have hok : PathsP L m := ⟨hm, by omega⟩
  have hbt : b = true := (pthB_iff hb).2 hok
  have HN := Lib.hid (show allFrom L L.length [m] = xs by rw [← hxs]; unfold pthX; rw [if_pos hok])
  have HW := Lib.hid (walk_one hm)
  have HK := Lib.hid hm.1
  subst hbt
  clear hb hxs hno hb1 hm hok
  go_enter Try.func40, Try.ntmps40
  go_wp2_with (first | (go_at_call 66; (with_reducible refine (H1 _ ExtC.ext).mono ?_); rintro e w' ⟨rfl, hx⟩; obtain ⟨g, rfl⟩ := hx.grow; clear hx))
  have hr0 : OwnR intKind 29 (g.fin.heap.size + 1) ((g.fin.alloc (.cells #[.int .i64 m] 2)).alloc (.cells #[] 29)).heap.size ((g.fin.alloc (.cells #[.int .i64 m] 2)).alloc (.cells #[] 29)) (.slice (some ⟨g.fin.heap.size + 1, 0, none⟩) ([] : List (List Int)).length 0) [] := by
    have := own_rows_empty (g.fin.alloc (.cells #[.int .i64 m] 2)) (g.fin.heap.size + 1) (by simp)
    simpa using this
  have HR0 := Lib.hid hr0; clear hr0
  refine Calls.mono (impl_extend _ L w HV.out HK.out (by omega) L.length [m] g.fin.heap.size [] (g.fin.heap.size + 1) 0 _ _ g.fin.heap.size (g.fin.heap.size + 1) (g.fin.heap.size + 1) ExtC.ext (by have := (ExtC.ext : Ext w g.fin).size; omega) ⟨1, rfl⟩ ((own_one g.fin m).ext ExtC.ext) (.inr (Nat.le_refl _)) HW.out (by simp) HR0.out (pow_six (by omega))) ?_
  rintro e w' ⟨gr, cr, rfl, ho, hr, hg⟩
  have HR := Lib.hid (And.intro ho hr); clear ho hr hg
  go_wp2_with fail
  refine bodyPost_ret (v := .tuple #[.slice (some ⟨gr, 0, none⟩) ([] ++ allFrom L L.length [m]).length cr, .bool true]) (by simp [results, Try.results40, go_sem]) rfl ?_
  obtain ⟨ho, hr⟩ := HR.out
  rw [List.nil_append, HN.out] at ho
  rw [List.nil_append, HN.out]
  exact ⟨_, rfl, ho.mono (by have := (ExtC.ext : Ext w g.fin).size; omega) (Nat.le_refl _), Ext.rng (ExtC.ext : Ext w _) hr (by have := (ExtC.ext : Ext w g.fin).size; omega)⟩

set_option maxHeartbeats 1000000 in
theorem spec_PathsOf' (v : Value) (m : Int) (L : List VD) (w : World) (h : VS w v L) (hs : Short L) (b : Bool) (hb : pthB L m = b) (xs : List (List Int)) (hxs : pthX L m = xs) :
    Calls Try.prog 39 #[v, .int .i64 m] w fun e w' => ∃ v', e = .returned (.tuple #[v', .bool b]) ∧ OwnR intKind 29 w.heap.size w'.heap.size w' v' xs ∧ Ext w w' := by
  have hln := hs.1
  obtain ⟨b1, hb1⟩ := bool_of (OkV L)
  have H1 := fun x (hx : Ext w x) => spec_l02Ok_b v L x (h.ext hx) hs b1 hb1
  have hno : b = false → xs = [] := fun e => by rw [← hxs]; unfold pthX; rw [if_neg (by rw [← pthB_iff hb, e]; simp)]
  have HV := Lib.hid h
  obtain ⟨vb, vo, vc, rfl, -⟩ := h
  cases b1
  · have hbf : b = false := by cases b; rfl; exact absurd (hb1.2 ((pthB_iff hb).1 rfl).1.1) (by simp)
    have HN := Lib.hid (hno hbf)
    subst hbf
    clear hb hxs hno hb1
    go_enter Try.func39, Try.ntmps39
    go_wp2_with (first | (go_at_call 58; (with_reducible refine (H1 _ ExtC.ext).mono ?_); rintro e w' ⟨rfl, hx⟩; obtain ⟨g, rfl⟩ := hx.grow; clear hx))
    refine bodyPost_ret (v := .tuple #[.slice none 0 0, .bool false]) (by simp [results, Try.results39, go_sem]) rfl ?_
    exact ⟨_, rfl, .inl ⟨rfl, HN.out⟩, ExtC.ext⟩
  have hv := hb1.1 rfl
  cases q : inB m 0 ((L.length : Int) - 1)
  · have hbf : b = false := by cases b; rfl; exact absurd ((pthB_iff hb).1 rfl).1.2 (inB_false.1 q)
    have HN := Lib.hid (hno hbf)
    have R := fun x => spec_l02Member (some ⟨vb, vo, none⟩) L.length vc m false q x hln
    subst hbf
    clear hb hxs hno hb1 hv q
    go_enter Try.func39, Try.ntmps39
    go_wp2_with (first | (go_at_call 58; (with_reducible refine (H1 _ ExtC.ext).mono ?_); rintro e w' ⟨rfl, hx⟩; obtain ⟨g, rfl⟩ := hx.grow; clear hx) | (go_at_call 64; (with_reducible refine (R _).mono ?_); rintro e w' ⟨rfl, hx⟩; obtain ⟨g, rfl⟩ := hx.grow; clear hx))
    refine bodyPost_ret (v := .tuple #[.slice none 0 0, .bool false]) (by simp [results, Try.results39, go_sem]) rfl ?_
    exact ⟨_, rfl, .inl ⟨rfl, HN.out⟩, ExtC.ext⟩
  have R := fun x => spec_l02Member (some ⟨vb, vo, none⟩) L.length vc m true q x hln
  have hm : MemP L m := ⟨hv, inB_true.1 q⟩
  clear q
  by_cases h6 : 6 < L.length
  · have hbf : b = false := by cases b; rfl; exact absurd ((pthB_iff hb).1 rfl).2 (by omega)
    have HN := Lib.hid (hno hbf)
    subst hbf
    clear hb hxs hno hb1 hm hv
    go_enter Try.func39, Try.ntmps39
    go_wp2_with (first | (go_at_call 58; (with_reducible refine (H1 _ ExtC.ext).mono ?_); rintro e w' ⟨rfl, hx⟩; obtain ⟨g, rfl⟩ := hx.grow; clear hx) | (go_at_call 64; (with_reducible refine (R _).mono ?_); rintro e w' ⟨rfl, hx⟩; obtain ⟨g, rfl⟩ := hx.grow; clear hx))
    refine bodyPost_ret (v := .tuple #[.slice none 0 0, .bool false]) (by simp [results, Try.results39, go_sem]) rfl ?_
    exact ⟨_, rfl, .inl ⟨rfl, HN.out⟩, ExtC.ext⟩
  have hok : PathsP L m := ⟨hm, by omega⟩
  have hbt : b = true := (pthB_iff hb).2 hok
  have HN := Lib.hid (show allFrom L L.length [m] = xs by rw [← hxs]; unfold pthX; rw [if_pos hok])
  have HW := Lib.hid (walk_one hm)
  have HK := Lib.hid hm.1
  subst hbt
  clear hb hxs hno hb1 hm hok hv
  go_enter Try.func39, Try.ntmps39
  go_wp2_with (first | (go_at_call 58; (with_reducible refine (H1 _ ExtC.ext).mono ?_); rintro e w' ⟨rfl, hx⟩; obtain ⟨g, rfl⟩ := hx.grow; clear hx) | (go_at_call 64; (with_reducible refine (R _).mono ?_); rintro e w' ⟨rfl, hx⟩; obtain ⟨g, rfl⟩ := hx.grow; clear hx))
  refine Calls.mono (spec_l02All _ L w HV.out HK.out (by omega) L.length [m] _ _ (ExtC.ext : Ext w _) (IS.of_own (own_one _ m)) HW.out (by simp)) ?_
  rintro e w' ⟨gr, cr, rfl, ho, hx⟩
  obtain ⟨g9, rfl⟩ := hx.grow; clear hx
  have HR := Lib.hid ho; clear ho
  go_wp2_with fail
  refine bodyPost_ret (v := .tuple #[.slice (some ⟨gr, 0, none⟩) (allFrom L L.length [m]).length cr, .bool true]) (by simp [results, Try.results39, go_sem]) rfl ?_
  have ho := HR.out
  rw [HN.out] at ho ⊢
  exact ⟨_, rfl, ho.mono (ExtC.ext : Ext w _).size (Nat.le_refl _), ExtC.ext⟩
end Go.Proofs.Ytgaooafdalhdpaa
