/- Room for a ballot, the reference's side: spec.l02Room. -/
import Derived.Test.YthcomgnokkndgaaMatch
import Derived.Test.YthcomgnokkndgaaRowI
import Derived.Test.YthcomgnokkndgaaRowB
import Derived.Test.YthcomgnokkndgaaNest
namespace Go.Proofs.Ythcomgnokkndgaa
open Go.RowKit

/-- A row of a list of rows. -/
theorem rows_at {w : World} {g n c : Nat} {E : List (List Int)} (h : RowsR intKind w (.slice (some ⟨g, 0, none⟩) n c) E) (hE : 0 < E.length) : InW g w ∧ ∀ k (hk : k < E.length), ∃ t, w.cell? ⟨g, k, none⟩ = some t ∧ RI w t E[k] := by
  rcases h with ⟨b, off, cap, e, -, ib, hc⟩ | ⟨rfl, _⟩
  · simp only [Value.slice.injEq, Option.some.injEq, Addr.mk.injEq, and_true] at e
    obtain ⟨⟨rfl, rfl⟩, -, -⟩ := e
    exact ⟨ib, fun k hk => by obtain ⟨t, h1, h2⟩ := hc k hk; rw [Nat.zero_add] at h1; exact ⟨t, h1, h2⟩⟩
  · simp at hE

def FnF (F : List Int) : Nat → Int := fun i => F.getD i (-1)
def FnT (T : List Bool) : Int → Bool := fun e => decide (0 ≤ e) && T.getD e.toNat false
theorem FnF_at {F : List Int} {i : Nat} (h : i < F.length) : FnF F i = F[i] := by simp [FnF, h]
theorem FnF_set {F : List Int} {i : Nat} (v : Int) (h : i < F.length) : FnF (F.set i v) = upd (FnF F) i v := by
  funext j
  unfold FnF upd
  by_cases e : j = i
  · subst e; simp [h]
  · have e2 : ¬ i = j := fun e' => e e'.symm
    rw [if_neg e]; simp [e2]
theorem FnT_at {T : List Bool} {i : Nat} (h : i < T.length) : FnT T (i : Int) = T[i] := by simp [FnT, h]
theorem FnT_set {T : List Bool} {i : Nat} (h : i < T.length) : FnT (T.set i true) = ins (FnT T) (i : Int) := by
  funext e
  unfold FnT ins
  by_cases h0 : 0 ≤ e
  · by_cases e1 : e = (i : Int)
    · subst e1; simp [h]
    · have e2 : e.toNat ≠ i := by omega
      have e3 : ¬ i = e.toNat := fun e' => e2 e'.symm
      simp [h0, e3, e1]
  · have e1 : e ≠ (i : Int) := by omega
    simp [h0, e1]
theorem ct_strict {p q : Nat → Bool} {i : Nat} : ∀ {n : Nat}, i < n → (∀ j, j < n → p j = true → q j = true) → p i = false → q i = true → ct n p < ct n q
  | 0, h, _, _, _ => by omega
  | n + 1, h, hm, h1, h2 => by
    rw [ct_succ, ct_succ]
    by_cases e : i = n
    · subst e
      have := ct_le (n := i) (p := p) (q := q) fun j hj => hm j (by omega)
      rw [h1, h2]; simp; omega
    · have ih := ct_strict (n := n) (i := i) (p := p) (q := q) (by omega) (fun j hj => hm j (by omega)) h1 h2
      have := hm n (by omega)
      cases hp : p n
      · simp; omega
      · simp [this hp]; omega
/-- How many ends are not yet seen. -/
def left (n : Nat) (T : List Bool) : Nat := ct n fun e => !FnT T (e : Int)
theorem left_lt {n : Nat} {T T' : List Bool} {e : Nat} (he : e < n) (hm : ∀ x, FnT T x = true → FnT T' x = true) (h1 : FnT T (e : Int) = false) (h2 : FnT T' (e : Int) = true) : left n T' < left n T :=
  ct_strict he (fun j _ h => by
    cases hh : FnT T (j : Int)
    · rfl
    · rw [hm _ hh] at h; cases h) (by simp [h2]) (by simp [h1])

theorem row_block {base g n cap : Nat} {e : TypeId} {size : Nat} {w w' : World} {xs : List Value} (h : w.ownsRow base e size (.slice (some ⟨g, 0, none⟩) n cap) n xs) (hx : w'.heap[g]? = w.heap[g]?) :
    w'.ownsRow base e size (.slice (some ⟨g, 0, none⟩) n cap) n xs := by
  obtain ⟨h1, h2⟩ := h
  refine ⟨h1, ?_⟩
  rcases h2 with h2 | ⟨g', cap', cur, e1, e2, e3, r⟩
  · exact .inl h2
  · simp only [Value.slice.injEq, Option.some.injEq, Addr.mk.injEq, and_true, true_and] at e1
    obtain ⟨rfl, rfl⟩ := e1
    refine .inr ⟨g, cap, cur, rfl, e2, ?_, r⟩
    rw [hx]; exact e3

/-- The memory of a search. -/
structure RmW (n wb wc fb fc tb tc : Nat) (fr : List Bool) (w0 : World) (F : List Int) (T : List Bool) (w : World) : Prop where
  ext : Ext w0 w
  wi : RowI 2 w0.heap.size w (.slice (some ⟨wb, 0, none⟩) n wc) F
  fi : RowB 4 w0.heap.size w (.slice (some ⟨fb, 0, none⟩) n fc) fr
  ti : RowB 4 w0.heap.size w (.slice (some ⟨tb, 0, none⟩) n tc) T
  ne1 : wb ≠ fb
  ne2 : wb ≠ tb
  ne3 : tb ≠ fb
section
variable {n wb wc fb fc tb tc : Nat} {fr : List Bool} {w0 : World} {F : List Int} {T : List Bool} {w : World}
theorem RmW.setW (h : RmW n wb wc fb fc tb tc fr w0 F T w) (i : Nat) (v : Int) : RmW n wb wc fb fc tb tc fr w0 (F.set i v) T (w.setCell ⟨wb, i, none⟩ (.int .i64 v)) := by
  have e : n = F.length := h.wi.eq
  have e2 := h.fi.eq
  have e3 := h.ti.eq
  subst e
  refine ⟨h.ext.setCell h.wi.len.1 _, by have := h.wi.store i v; simpa using this, ?_, ?_, h.ne1, h.ne2, h.ne3⟩
  · have := h.fi
    unfold RowB at *
    rw [← e2] at this ⊢
    exact row_block this (Below.heap_setCell _ _ _ _ (by have := h.ne1; simp; omega))
  · have := h.ti
    unfold RowB at *
    rw [← e3] at this ⊢
    exact row_block this (Below.heap_setCell _ _ _ _ (by have := h.ne2; simp; omega))
theorem RmW.setT (h : RmW n wb wc fb fc tb tc fr w0 F T w) (i : Nat) (v : Bool) : RmW n wb wc fb fc tb tc fr w0 F (T.set i v) (w.setCell ⟨tb, i, none⟩ (.bool v)) := by
  have e : n = F.length := h.wi.eq
  have e2 := h.fi.eq
  refine ⟨h.ext.setCell h.ti.len.1 _, ?_, ?_, by have := h.ti.store i v; simpa using this, h.ne1, h.ne2, h.ne3⟩
  · have := h.wi
    unfold RowI at *
    rw [← e] at this ⊢
    exact row_block this (Below.heap_setCell _ _ _ _ (by have := h.ne2; simp; omega))
  · have := h.fi
    unfold RowB at *
    rw [← e2] at this ⊢
    exact row_block this (Below.heap_setCell _ _ _ _ (by have := h.ne3; simp; omega))
end

/-- What is told of the ballots and does not turn. -/
structure RmG (n : Nat) (E : List (List Int)) (fr : List Bool) (tl : Nat → Int) (E' : Nat → List Int) (lim : Int) : Prop where
  n12 : n ≤ 12
  eok : EOk n n E'
  el : E.length = n
  fl : fr.length = n
  el12 : ∀ i (h : i < E.length), E[i].length ≤ 12
  own : ∀ i (h : i < E.length), fr.getD i false = true → E' i = E[i]
  fix : ∀ i, i < n → fr.getD i false = false → ∀ e, e ∈ E' i → e = tl i
  l1 : 1 ≤ lim
  l2 : lim ≤ 12
structure RmP (n : Nat) (fr : List Bool) (tl : Nat → Int) (F : List Int) : Prop where
  fix : ∀ i, i < n → fr.getD i false = false → FnF F i = tl i
  rng : ∀ i, i < n → FnF F i = -1 ∨ (0 ≤ FnF F i ∧ FnF F i < n)
theorem RmP.aug {n m : Nat} {E : List (List Int)} {fr : List Bool} {tl : Nat → Int} {E' : Nat → List Int} {lim : Int} {F F' : List Int} {S : Int → Bool} (G : RmG n E fr tl E' lim) (h : RmP n fr tl F) (hm : fr.getD m false = true) (hmn : m < n)
    (k : Aug n E' (fun _ => lim) (FnF F) S m (FnF F')) : RmP n fr tl F' :=
  ⟨fun i hi hf => by
    have hne : i ≠ m := fun e => by rw [e, hm] at hf; cases hf
    rcases k.ok i hi hne with e | ⟨-, e⟩
    · rw [e]; exact h.fix i hi hf
    · exact G.fix i hi hf _ e, fun i hi => by
    by_cases hne : i = m
    · subst hne; exact .inr (G.eok i hi _ k.new)
    · rcases k.ok i hi hne with e | ⟨-, e⟩
      · rw [e]; exact h.rng i hi
      · exact .inr (G.eok i hi _ e)⟩

set_option maxHeartbeats 16000000 in
set_option maxRecDepth 100000 in
theorem spec_l02Room {n wb wc fb fc tb tc eg ec : Nat} {E : List (List Int)} {fr : List Bool} {tl : Nat → Int} {E' : Nat → List Int} {lim : Int} {w0 : World} (G : RmG n E fr tl E' lim) (he : RowsR intKind w0 (.slice (some ⟨eg, 0, none⟩) n ec) E) :
    ∀ (k m : Nat) (F : List Int) (T : List Bool) (w : World), left n T ≤ k → m < n → fr.getD m false = true → RmW n wb wc fb fc tb tc fr w0 F T w → RmP n fr tl F → (FnF F m = -1 ∨ FnT T (FnF F m) = true) →
    Calls Try.prog 34 #[.slice (some ⟨eg, 0, none⟩) n ec, .slice (some ⟨wb, 0, none⟩) n wc, .slice (some ⟨fb, 0, none⟩) n fc, .int .i64 lim, .int .i64 m, .slice (some ⟨tb, 0, none⟩) n tc] w fun e w' =>
      ∃ b F' T', e = .returned (.bool b) ∧ RmW n wb wc fb fc tb tc fr w0 F' T' w' ∧ RmP n fr tl F' ∧
        (b = false → F' = F ∧ Fail n E' (fun _ => lim) (FnF F) (FnT T) m (FnT T')) ∧ (b = true → Aug n E' (fun _ => lim) (FnF F) (FnT T) m (FnF F')) := by
  intro k
  induction k using Nat.strongRecOn with
  | ind k ih =>
  intro m F T w hk hm hfm hW hP hfi
  have HG := Lib.hid G
  have HE := Lib.hid he
  have IH := Lib.hid ih
  have HP := Lib.hid hP
  have HW := Lib.hid hW
  have HFI := Lib.hid hfi
  have HFM := Lib.hid hfm
  have HK := Lib.hid hk
  have hel : E.length = n := G.el
  have hFl : F.length = n := hW.wi.eq.symm
  have hn12 := G.n12
  have hl1 := G.l1
  have hl2 := G.l2
  obtain ⟨R, hR⟩ : ∃ R, E[m]'(by omega) = R := ⟨_, rfl⟩
  have HRE := Lib.hid (show E' m = R by rw [← hR]; exact G.own m (by omega) hfm)
  have hRl : R.length ≤ 12 := by rw [← hR]; exact G.el12 m (by omega)
  have HROW := Lib.hid (fun x (hx : Ext w0 x) => (by
    obtain ⟨ieg, hce⟩ := rows_at (he.ext hx) (by omega)
    obtain ⟨t, d2, d3⟩ := hce m (by omega)
    rw [hR] at d3
    obtain ⟨tp, tcp, rfl, -, hct⟩ := d3.form
    exact ⟨tp, tcp, d2, hct⟩ : ∃ tp tcp, x.cell? ⟨eg, m, none⟩ = some (.slice tp R.length tcp) ∧ (0 < R.length → ∃ b off, tp = some ⟨b, off, none⟩ ∧ InW b x ∧ ∀ i (h : i < R.length), x.cell? ⟨b, off + i, none⟩ = some (iv R[i]))))
  clear G he ih hP hfi hfm hR hk
  go_enter Try.func34, Try.ntmps34
  go_wp2_with fail
  go_loopw [13] (fun i wr => ∃ (q : Nat) (T1 : List Bool), q ≤ R.length ∧ i = .int .i64 q ∧ Hid (RmW n wb wc fb fc tb tc fr w0 F T1 wr) ∧ Hid (Part n E' (fun _ => lim) (FnF F) (FnT T) (R.take q) (FnT T1))) (fun i _ => R.length - (intOf i).toNat)
  case atStart => exact ⟨0, T, Nat.zero_le _, rfl, HW, Lib.hid Part.start⟩
  case round =>
    clear HW hW
    obtain ⟨q, T1, hq, rfl, HW, HPT⟩ := hrel
    obtain ⟨tp, tcp, d1, hct⟩ := HROW.out wr HW.out.ext
    have hTl : T1.length = n := HW.out.ti.eq.symm
    by_cases hlt : q < R.length
    · obtain ⟨rb, ro, rfl, -, hcc⟩ := hct (by omega)
      have d2 := hcc q hlt
      clear hct hcc
      have hen := HG.out.eok m hm R[q] (by rw [HRE.out]; exact List.getElem_mem hlt)
      obtain ⟨e, he⟩ : ∃ e, R[q] = e := ⟨_, rfl⟩
      have HTK := Lib.hid (show R.take (q + 1) = R.take q ++ [e] by rw [List.take_succ_eq_append_getElem hlt, he])
      have HEM := Lib.hid (show e ∈ E' m by rw [HRE.out, ← he]; exact List.getElem_mem hlt)
      rw [he] at d2 hen
      obtain ⟨en, hen'⟩ := Int.eq_ofNat_of_zero_le hen.1
      subst hen'
      clear he
      have henn : en < n := by omega
      have d3 := HW.out.ti.cell en (by omega)
      cases hTe : T1[en]
      · rw [hTe] at d3
        have f3 := HW.out.ti.frozen en
        have HTE := Lib.hid (show FnT T1 (en : Int) = false by rw [FnT_at (by omega)]; exact hTe)
        clear hTe
        have HWS := Lib.hid (HW.out.setT en true)
        have HLEFT := Lib.hid (fun T2 (hm : ∀ x, FnT T x = true → FnT T2 x = true) (h2 : FnT T2 (en : Int) = true) => (left_lt henn hm (by
          cases hh : FnT T (en : Int)
          · rfl
          · have := HPT.out.mono _ hh; rw [HTE.out] at this; cases this) h2 : left n T2 < left n T))
        obtain ⟨T2, hT2⟩ : ∃ T2, T1.set en true = T2 := ⟨_, rfl⟩
        have HT2 := Lib.hid (show FnT T2 = ins (FnT T1) (en : Int) by rw [← hT2]; exact FnT_set (by omega))
        rw [hT2] at HWS
        obtain ⟨ws, hws⟩ : ∃ ws, wr.setCell ⟨tb, en, none⟩ (.bool true) = ws := ⟨_, rfl⟩
        rw [hws] at HWS
        go_wp2_with fail
        clear hws hT2
        go_loopw [15, 16] (fun mn i w2 => ∃ j : Nat, j ≤ n ∧ i = .int .i64 j ∧ mn = .int .i64 (cnt j (FnF F) en : Nat) ∧ w2 = ws) (fun _ i _ => n - (intOf i).toNat)
        case atStart => exact ⟨0, Nat.zero_le _, rfl, rfl, rfl⟩
        case round =>
          obtain ⟨j, hj, rfl, rfl, rfl⟩ := hrel
          by_cases hjn : j < n
          · have d5 := HWS.out.wi.cell j (by omega)
            have HS := Lib.hid (show cnt (j + 1) (FnF F) en = cnt j (FnF F) en + if F[j]'(by omega) = (en : Int) then 1 else 0 by unfold cnt; rw [ct_succ, FnF_at (by omega)]; simp)
            have hcl : cnt j (FnF F) en ≤ j := ct_lt_or _ _
            obtain ⟨y, hy⟩ : ∃ y, F[j]'(by omega) = y := ⟨_, rfl⟩
            rw [hy] at d5 HS
            clear hy
            obtain ⟨cj, hcj⟩ : ∃ c, cnt j (FnF F) en = c := ⟨_, rfl⟩
            rw [hcj] at HS hcl ⊢
            clear hcj
            by_cases hye : y = (en : Int)
            · have hb : (y == (en : Int)) = true := by simp [hye]
              have HYE := Lib.hid hye
              clear hye
              go_wp2_with fail
              go_roundw
              case rel => exact ⟨j + 1, by omega, by go_num, by rw [HS.out, if_pos HYE.out]; go_num, trivial⟩
              case measure => simp [intOf]; omega
            · have hb : (y == (en : Int)) = false := by simp [hye]
              have HYE := Lib.hid hye
              clear hye
              go_wp2_with fail
              go_roundw
              case rel => exact ⟨j + 1, by omega, by go_num, by rw [HS.out, if_neg HYE.out]; rfl, trivial⟩
              case measure => simp [intOf]; omega
          · obtain rfl : j = n := by omega
            have hcl : cnt j (FnF F) en ≤ j := ct_lt_or _ _
            obtain ⟨cj, hcj⟩ : ∃ c, cnt j (FnF F) en = c := ⟨_, rfl⟩
            have HCJ := Lib.hid hcj
            rw [hcj] at hcl ⊢
            clear hcj
            by_cases hmany : (cj : Int) < lim
            · have d6 := HWS.out.wi.cell m (by omega)
              have f6 := HWS.out.wi.frozen m
              have HMY := Lib.hid hmany
              go_wp2_with fail
              go_ret
              refine ⟨true, F.set m en, T2, rfl, HWS.out.setW m en, ?_, fun h => (by cases h), fun _ => ?_⟩
              · refine RmP.aug (S := FnT T) HG.out HP.out HFM.out hm ?_
                rw [FnF_set _ (by omega)]
                exact Aug.base hm HEM.out hen.1 (by
                  cases hh : FnT T (en : Int)
                  · rfl
                  · have := HPT.out.mono _ hh; rw [HTE.out] at this; cases this) (by rw [HCJ.out]; exact HMY.out)
              · rw [FnF_set _ (by omega)]
                exact Aug.base hm HEM.out hen.1 (by
                  cases hh : FnT T (en : Int)
                  · rfl
                  · have := HPT.out.mono _ hh; rw [HTE.out] at this; cases this) (by rw [HCJ.out]; exact HMY.out)
            · have HINN := Lib.hid (HPT.out.inn HTE.out (by show lim ≤ _; rw [HCJ.out]; omega))
              go_wp2_with fail
              go_loopw [17] (fun i w3 => ∃ (z : Nat) (T3 : List Bool), z ≤ j ∧ i = .int .i64 z ∧ Hid (RmW j wb wc fb fc tb tc fr w0 F T3 w3) ∧ Hid (Inn j E' (fun _ => lim) (FnF F) (FnT T) (R.take q) en (fun o => o < z ∧ FnF F o = en) (FnT T3))) (fun i _ => j - (intOf i).toNat)
              case atStart => exact ⟨0, T2, Nat.zero_le _, rfl, HWS, Lib.hid (by rw [HT2.out]; exact HINN.out.mono_set fun o ho => absurd ho.1 (by omega))⟩
              case round =>
                clear HINN HWS
                obtain ⟨z, T3, hz, rfl, HW3, HIN⟩ := hrel
                by_cases hzj : z < j
                · have d7 := HW3.out.fi.cell z (by have := HG.out.fl; omega)
                  have d8 := HW3.out.wi.cell z (by omega)
                  have hfl := HG.out.fl
                  have HFZ := Lib.hid (FnF_at (F := F) (i := z) (by omega))
                  obtain ⟨y, hy⟩ : ∃ y, F[z]'(by omega) = y := ⟨_, rfl⟩
                  rw [hy] at d8 HFZ
                  clear hy
                  have HFR := Lib.hid (show fr.getD z false = fr[z]'(by omega) by simp [show z < fr.length by omega])
                  cases hfz : fr[z]'(by omega)
                  · rw [hfz] at d7 HFR
                    clear hfz
                    have HNX := Lib.hid (HIN.out.mono_set (B' := fun o => o < z + 1 ∧ FnF F o = en) fun o ho => by
                      by_cases hoz : o = z
                      · subst hoz
                        refine .inr fun e' he' => ?_
                        have := HG.out.fix o hzj HFR.out e' he'
                        rw [this, ← HP.out.fix o hzj HFR.out, ho.2]
                        exact HIN.out.this
                      · exact .inl ⟨by omega, ho.2⟩)
                    go_wp2_with fail
                    go_roundw
                    case rel => exact ⟨z + 1, T3, by omega, by go_num, HW3, HNX⟩
                    case measure => simp [intOf]; omega
                  rw [hfz] at d7 HFR
                  clear hfz
                  by_cases hye : y = (en : Int)
                  · have hb : (y == (en : Int)) = true := by simp [hye]
                    have HYE := Lib.hid (HFZ.out.trans hye)
                    clear hye
                    go_wp2_with fail
                    refine Calls.mono (IH.out (left j T3) (Nat.lt_of_lt_of_le (HLEFT.out T3 HIN.out.mono HIN.out.this) HK.out) z F T3 _ (Nat.le_refl _) hzj HFR.out HW3.out HP.out (.inr (by rw [HYE.out]; exact HIN.out.this))) ?_
                    rintro e w4 ⟨b, F', T4, rfl, hw4, hp4, h0, h1⟩
                    have HW4 := Lib.hid hw4
                    have HP4 := Lib.hid hp4
                    clear hp4 hw4
                    cases b
                    · obtain ⟨rfl, hff⟩ := h0 rfl
                      have HNX := Lib.hid ((HIN.out.step hff).mono_set (B' := fun o => o < z + 1 ∧ FnF F' o = en) fun o ho => by
                        by_cases hoz : o = z
                        · exact .inl (.inr hoz)
                        · exact .inl (.inl ⟨by omega, ho.2⟩))
                      clear h0 h1 hff
                      go_wp2_with fail
                      go_roundw
                      case rel => exact ⟨z + 1, T4, by omega, by go_num, HW4, HNX⟩
                      case measure => simp [intOf]; omega
                    · have HA := Lib.hid (h1 rfl)
                      clear h0 h1
                      have hF'l : F'.length = j := HW4.out.wi.eq.symm
                      have d9 := HW4.out.wi.cell m (by omega)
                      have f9 := HW4.out.wi.frozen m
                      have HAS := Lib.hid (show Aug j E' (fun _ => lim) (FnF F) (FnT T) m (FnF (F'.set m en)) by
                        rw [FnF_set _ (by omega)]
                        have hS : FnT T (en : Int) = false := by
                          cases hh : FnT T (en : Int)
                          · rfl
                          · have := HPT.out.mono _ hh; rw [HTE.out] at this; cases this
                        exact HA.out.step hm hzj HEM.out hen.1 HIN.out.mono hS HYE.out (fun e => by
                          subst e
                          rcases HFI.out with q | q
                          · rw [HYE.out] at q; omega
                          · rw [HYE.out, hS] at q; cases q) HFI.out)
                      go_wp2_with fail
                      go_ret
                      exact ⟨true, F'.set m en, T4, rfl, HW4.out.setW m en, RmP.aug HG.out HP.out HFM.out hm HAS.out, fun h => (by cases h), fun _ => HAS.out⟩
                  · have hb : (y == (en : Int)) = false := by simp [hye]
                    have HYE := Lib.hid (fun e => hye (HFZ.out.symm.trans e) : ¬ FnF F z = (en : Int))
                    clear hye
                    have HNX := Lib.hid (HIN.out.mono_set (B' := fun o => o < z + 1 ∧ FnF F o = en) fun o ho => by
                      by_cases hoz : o = z
                      · subst hoz; exact absurd ho.2 HYE.out
                      · exact .inl ⟨by omega, ho.2⟩)
                    go_wp2_with fail
                    go_roundw
                    case rel => exact ⟨z + 1, T3, by omega, by go_num, HW3, HNX⟩
                    case measure => simp [intOf]; omega
                · obtain rfl : z = j := by omega
                  go_wp2_with fail
                  go_roundw
                  case rel => exact ⟨q + 1, T3, by omega, by go_num, HW3, Lib.hid (by rw [HTK.out]; exact HIN.out.done fun o ho hfo => ⟨ho, hfo⟩)⟩
                  case measure => simp [intOf]; omega
      · rw [hTe] at d3
        have HTE := Lib.hid (show FnT T1 (en : Int) = true by rw [FnT_at (by omega)]; exact hTe)
        clear hTe
        go_wp2_with fail
        go_roundw
        case rel => exact ⟨q + 1, T1, by omega, by go_num, HW, Lib.hid (by rw [HTK.out]; exact HPT.out.skip HTE.out)⟩
        case measure => simp [intOf]; omega
    · clear hct
      go_wp2_with fail
      go_ret
      exact ⟨false, F, T1, rfl, HW.out, HP.out, fun _ => ⟨rfl, by
        have := HPT.out
        rw [List.take_of_length_le (by omega), ← HRE.out] at this
        exact this⟩, fun h => by cases h⟩
end Go.Proofs.Ythcomgnokkndgaa
