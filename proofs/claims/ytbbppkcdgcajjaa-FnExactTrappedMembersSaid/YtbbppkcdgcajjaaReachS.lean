/- Whom something of a ballot comes to, on the reference's side: ReachedFrom. -/
import Derived.Test.YtbbppkcdgcajjaaReachI
import Derived.Test.YtbbppkcdgcajjaaCosts
import Derived.Test.YtbbppkcdgcajjaaTail
namespace Go.Proofs.Ytbbppkcdgcajjaa
open Go.RowKit

/-- A row of the matrix of the parts, after j shares. -/
def rowA (xs : SD) (n j : Nat) : List Int := (xs.take j).foldl (fun r s => r.set s.1.toNat s.2) (List.replicate n 0)
theorem rowA_zero (xs : SD) (n : Nat) : rowA xs n 0 = List.replicate n 0 := by simp [rowA]
theorem rowA_succ (xs : SD) (n j : Nat) (h : j < xs.length) : rowA xs n (j + 1) = (rowA xs n j).set xs[j].1.toNat xs[j].2 := by
  unfold rowA
  rw [List.take_succ_eq_append_getElem h, List.foldl_append]; rfl
theorem rowA_length (xs : SD) (n : Nat) : ∀ j, j ≤ xs.length → (rowA xs n j).length = n := by
  intro j
  induction j with
  | zero => intro _; simp [rowA]
  | succ j ih => intro h; rw [rowA_succ xs n j (by omega), List.length_set]; exact ih (by omega)
theorem rowA_pos (xs : SD) (n : Nat) (h1 : ∀ k (h : k < xs.length), 1 ≤ xs[k].2) (h0 : ∀ k (h : k < xs.length), 0 ≤ xs[k].1) : ∀ j (hj : j ≤ xs.length) (k : Nat) (hk : k < n), 0 < (rowA xs n j)[k]'(by rw [rowA_length xs n j hj]; exact hk) ↔ ∃ i, ∃ h : i < xs.length, i < j ∧ xs[i].1 = (k : Int) := by
  intro j
  induction j with
  | zero => intro hj k hk; simp [rowA]
  | succ j ih =>
    intro hj k hk
    have hjl : j < xs.length := by omega
    have e : (rowA xs n (j + 1))[k]'(by rw [rowA_length xs n _ hj]; exact hk) = ((rowA xs n j).set xs[j].1.toNat xs[j].2)[k]'(by rw [List.length_set, rowA_length xs n j (by omega)]; exact hk) := by
      congr 1; exact rowA_succ xs n j hjl
    rw [e, List.getElem_set]
    have hp := h1 j hjl
    have hz := h0 j hjl
    split
    · rename_i e2
      exact ⟨fun _ => ⟨j, hjl, by omega, by omega⟩, fun _ => by omega⟩
    · rename_i e2
      rw [ih (by omega) k hk]
      constructor
      · rintro ⟨i, hi, hij, h⟩; exact ⟨i, hi, by omega, h⟩
      · rintro ⟨i, hi, hij, h⟩
        by_cases e3 : i = j
        · subst e3; omega
        · exact ⟨i, hi, by omega, h⟩
def partsTo (L : List SD) (k : Nat) : List (List Int) := (L.take k).map fun xs => rowA xs L.length xs.length
theorem partsTo_succ (L : List SD) (k : Nat) (h : k < L.length) : partsTo L (k + 1) = partsTo L k ++ [rowA L[k] L.length L[k].length] := by
  unfold partsTo
  rw [List.take_succ_eq_append_getElem h, List.map_append]; rfl
theorem partsTo_length (L : List SD) : (partsTo L L.length).length = L.length := by simp [partsTo]
theorem partsTo_get (L : List SD) (i : Nat) (h : i < L.length) : (partsTo L L.length)[i]'(by rw [partsTo_length]; exact h) = rowA L[i] L.length L[i].length := by simp [partsTo]
theorem parts_edge {L : List SD} (hok : OkS L) {i k : Nat} (hi : i < L.length) (hk : k < L.length) : 0 < (rowA L[i] L.length L[i].length)[k]'(by rw [rowA_length _ _ _ (Nat.le_refl _)]; exact hk) ↔ Edge L (i : Int) (k : Int) := by
  have hp := hok.1 i hi
  rw [rowA_pos L[i] L.length hp.part (fun k hk => (hp.1 k hk).1.1) _ (Nat.le_refl _) k hk, Edge.at hi]
  exact ⟨fun ⟨j, hj, _, h⟩ => ⟨j, hj, h⟩, fun ⟨j, hj, h⟩ => ⟨j, hj, hj, h⟩⟩

theorem row_zerosR {lo g n c : Nat} {w : World} (h : w.ownsRow lo 2 1 (.slice (some ⟨g, 0, none⟩) n c) n (madeCells (Value.int .i64 0).cells (n * 1)).toList) : RowI 2 lo w (.slice (some ⟨g, 0, none⟩) n c) (List.replicate n 0) := by
  unfold RowI
  rw [List.length_replicate, List.map_replicate]
  have := h
  rw [Nat.mul_one] at this
  rwa [show (Value.int IntKind.i64 0).cells = #[Value.int IntKind.i64 0] from rfl, toList_madeCells_one] at this

set_option maxHeartbeats 4000000 in
set_option maxRecDepth 100000 in
theorem spec_l03Parts (v : Value) (L : List SD) (w : World) (h : RowsS shareKind w v L) (hok : OkS L) (X : List (List Int)) (hX : partsTo L L.length = X) :
    Calls Try.prog 136 #[v] w fun e w' => ∃ g c, e = .returned (.slice (some ⟨g, 0, none⟩) X.length c) ∧ OwnR intKind 24 w.heap.size w'.heap.size w' (.slice (some ⟨g, 0, none⟩) X.length c) X ∧ Ext w w' := by
  obtain ⟨i0, hi, hz0, hz1, hz2⟩ := info_parts Try.info_i64
  have HN := Lib.hid hX.symm
  have hl := hok.2
  have HK := Lib.hid hok
  obtain ⟨b, off, cap, rfl, -, hb, hc⟩ := h
  have HC := Lib.hid hc
  clear hc hok hX
  go_enter Try.func136, Try.ntmps136
  go_wp2_with fail
  go_loopw [3, 4] (fun o i wr => ∃ (k og oc : Nat) (C : List (List Int)), k ≤ L.length ∧ i = .int .i64 k ∧ o = .slice (some ⟨og, 0, none⟩) C.length oc ∧ C.length ≤ k ∧ Ext w wr ∧ Hid (C = partsTo L k) ∧ Hid (OwnR intKind 24 w.heap.size wr.heap.size wr (.slice (some ⟨og, 0, none⟩) C.length oc) C)) (fun _ i _ => L.length - (intOf i).toNat)
  case atStart => exact ⟨0, _, _, [], Nat.zero_le _, rfl, rfl, Nat.le_refl _, ExtC.ext, Lib.hid rfl, Lib.hid ((own_rows_empty w w.heap.size (Nat.le_refl _)).mono (Nat.le_refl _) (by simp))⟩
  case round =>
    obtain ⟨k, og, oc, C, hk, rfl, rfl, hC, hx, HCk, HO⟩ := hrel
    obtain ⟨g0, rfl⟩ := hx.grow; clear hx
    by_cases hlt : k < L.length
    · obtain ⟨t, d2, d3⟩ := HC.out k hlt
      have hp := HK.out.1 k hlt
      have hf12 := hp.few
      have HP := Lib.hid hp; clear hp
      obtain ⟨p, tc, rfl, htc, d4⟩ := RP.form d3
      have D4 := Lib.hid d4; clear d3 d4
      have HPS := Lib.hid (partsTo_succ L k hlt)
      go_wp2_with (at_make; refine wpList_make_full _ rfl _ _ 24 rfl g0.fin.heap.size 2 i0 (.int .i64 0) 1 Try.underlying24 hi hz0 hz1 _ _ _ _ L.length rfl rfl rfl rfl (by rw [hz2]; omega) (by unfold maxLen; omega) (Nat.le_refl _) ?_; intro w1 hown hgrow)
      have hx1 := grownBy_ext hgrow (fun k h => by cases h)
      have H00 := Lib.hid (row_zerosR hown)
      clear hown hgrow
      go_loopw [6] (fun q wr => ∃ j : Nat, j ≤ L[k].length ∧ q = .int .i64 j ∧ Ext g0.fin wr ∧ Hid (RowI 2 g0.fin.heap.size wr (.slice (some ⟨g0.fin.heap.size, 0, none⟩) L.length L.length) (rowA L[k] L.length j))) (fun q _ => L[k].length - (intOf q).toNat)
      case atStart => exact ⟨0, Nat.zero_le _, rfl, hx1, by rw [rowA_zero]; exact H00⟩
      case round =>
        obtain ⟨j, hj, rfl, hx, HR⟩ := hrel
        clear hx1 H00
        obtain ⟨g1, rfl⟩ := hx.grow; clear hx
        by_cases hjl : j < L[k].length
        · obtain ⟨b', off', hpp, ib', c'⟩ := D4.out (by omega)
          subst hpp
          obtain ⟨d5, d6⟩ := c' j hjl
          have CC := Lib.hid c'; clear c'
          have hsh := HP.out.1 j hjl
          have HRS := Lib.hid (rowA_succ L[k] L.length j hjl)
          have hrl := rowA_length L[k] L.length j (by omega)
          obtain ⟨y, hy⟩ : ∃ y, L[k][j].2 = y := ⟨_, rfl⟩
          obtain ⟨tn, htn⟩ := Int.eq_ofNat_of_zero_le hsh.1.1
          have htl : tn < L.length := by have := hsh.1.2; omega
          rw [htn] at d5
          rw [hy] at d6
          have HTN := Lib.hid (And.intro htn hy)
          have e1 := HR.out.cell tn (by omega)
          have e3 := HR.out.frozen tn
          have iw : InW g0.fin.heap.size g1.fin := ⟨HR.out.len.2⟩
          obtain ⟨z, hz⟩ : ∃ z, (rowA L[k] L.length j)[tn]'(by omega) = z := ⟨_, rfl⟩
          rw [hz] at e1
          clear hz hrl hsh htn hy
          go_wp2_with fail
          refine wp_region_tail 18 (by kernel_rfl) (by kernel_rfl) ?_
          simp only [List.take_succ_cons, List.take_zero, List.drop_succ_cons, List.drop_zero]
          repeat (go_big_quiet_step (fail))
          refine wpQuiet_nil ?_
          intro g
          go_wp2_with fail
          go_roundw
          case rel => exact ⟨j + 1, by omega, by go_num, ExtC.ext, Lib.hid (by rw [HRS.out, HTN.out.1, HTN.out.2, Int.toNat_natCast]; exact (HR.out.ext (ExtC.ext : Ext g1.fin _)).store tn _)⟩
          case measure => simp [intOf]; omega
        · have e : j = L[k].length := by omega
          have hrl := rowA_length L[k] L.length L[k].length (Nat.le_refl _)
          have hown : OwnI g0.fin.heap.size g1.fin.heap.size g1.fin (.slice (some ⟨g0.fin.heap.size, 0, none⟩) L.length L.length) (rowA L[k] L.length L[k].length) := by
            have := HR.out
            rw [e] at this
            unfold RowI at this
            rw [hrl] at this
            refine OwnI.of_row ?_
            rw [hrl]; exact this
          have HW := Lib.hid hown
          clear hown
          go_wp2_with (at_builtin; refine app_row (w0 := w) (lo := w.heap.size) (mid := g0.fin.heap.size) (hi := g1.fin.heap.size) _ _ og oc C ⟨g1.fin.heap.size, 0, none⟩ 1 (.slice (some ⟨g0.fin.heap.size, 0, none⟩) L.length L.length) (rowA L[k] L.length L[k].length) rfl rfl rfl (HO.out.ext ExtC.ext) rfl (cell_new _ _ _) rfl (HW.out.ext ExtC.ext) (ExtC.ext : Ext w g0.fin).size (ExtC.ext : Ext g1.fin _).size (ExtC.ext : Ext g0.fin _).size (by omega) ExtC.ext (Nat.le_refl _) ?_; intro g' c' w' ho hx)
          have HO2 := Lib.hid ho; clear ho
          go_roundw
          case rel => exact ⟨k + 1, g', c', C ++ [rowA L[k] L.length L[k].length], by omega, by go_num, by simp, by simp; omega, hx, Lib.hid (by rw [HPS.out, HCk.out]), HO2⟩
          case measure => simp [intOf]; omega
    · have e : k = L.length := by omega
      subst e
      go_wp2
      go_ret
      have e2 : C = X := by rw [HN.out, HCk.out]
      subst e2
      exact ⟨_, _, rfl, HO.out, ExtC.ext⟩

/-- A row of truth values. -/
def RowB (T : TypeId) (lo : Nat) (w : World) (v : Value) (bs : List Bool) : Prop := w.ownsRow lo T 1 v bs.length (bs.map Value.bool)
section
variable {T : TypeId} {lo g n c : Nat} {w : World} {bs : List Bool}
theorem RowB.len (h : RowB T lo w (.slice (some ⟨g, 0, none⟩) n c) bs) : lo ≤ g ∧ g < w.heap.size := World.ownsRow.lt h g rfl
theorem RowB.eq (h : RowB T lo w (.slice (some ⟨g, 0, none⟩) n c) bs) : n = bs.length := by
  rcases h.2 with ⟨e, _⟩ | ⟨g', cap', cur, e, _⟩
  · cases e
  · simp only [Value.slice.injEq] at e; exact e.2.1
theorem RowB.cell (h : RowB T lo w (.slice (some ⟨g, 0, none⟩) n c) bs) (i : Nat) (hi : i < bs.length) : w.cell? ⟨g, i, none⟩ = some (.bool bs[i]) := by
  obtain rfl := h.eq
  rw [World.ownsRow.cellAt h i (by omega)]; simp [hi]
theorem RowB.frozen (h : RowB T lo w (.slice (some ⟨g, 0, none⟩) n c) bs) (i : Nat) : w.frozen? ⟨g, i, none⟩ = false := by
  obtain rfl := h.eq
  exact World.ownsRow.frozenAt h i
theorem RowB.ext {w' : World} {v : Value} (h : RowB T lo w v bs) (hx : Ext w w') : RowB T lo w' v bs := ownsRow_ext h hx
theorem RowB.store (h : RowB T lo w (.slice (some ⟨g, 0, none⟩) n c) bs) (i : Nat) (v : Bool) : RowB T lo (w.setCell ⟨g, i, none⟩ (.bool v)) (.slice (some ⟨g, 0, none⟩) n c) (bs.set i v) := by
  obtain rfl := h.eq
  unfold RowB
  rw [List.length_set, List.map_set]
  exact (World.ownsRow.stored h i (.bool v)).1
theorem row_falses (h : w.ownsRow lo T 1 (.slice (some ⟨g, 0, none⟩) n c) n (madeCells (Value.bool false).cells (n * 1)).toList) : RowB T lo w (.slice (some ⟨g, 0, none⟩) n c) (List.replicate n false) := by
  unfold RowB
  rw [List.length_replicate, List.map_replicate]
  have := h
  rw [Nat.mul_one] at this
  rwa [show (Value.bool false).cells = #[Value.bool false] from rfl, toList_madeCells_one] at this
end
theorem Try.info_bool : (Try.prog.info? 4).map (fun i => (i.zero, i.size, i.bytes)) = some (some (.bool false), 1, 1) := by kernel_rfl

set_option maxHeartbeats 4000000 in
set_option maxRecDepth 100000 in
theorem spec_l03Reached (v : Value) (m : Int) (L : List SD) (X : List (List Int)) (hX : partsTo L L.length = X) (w : World) (h : RowsS intKind w v X) (hok : OkS L) (h0 : 0 ≤ m) (h1 : m < L.length) :
    Calls Try.prog 135 #[v, .int .i64 m] w fun e w' => ∃ g, ∃ bs : List Bool, e = .returned (.slice (some ⟨g, 0, none⟩) L.length L.length) ∧ RowB 4 w.heap.size w' (.slice (some ⟨g, 0, none⟩) L.length L.length) bs ∧ bs.length = L.length ∧ (∀ j : Nat, bs[j]? = some true ↔ Gets L m j) ∧ Ext w w' := by
  obtain ⟨i0, hi, hz0, hz1, hz2⟩ := info_parts Try.info_bool
  have hl := hok.2
  have HK := Lib.hid hok
  have HFI := Lib.hid (fun bs (hS : Spr L m L.length 0 0 bs) => hS.final h0)
  have hXl : X.length = L.length := by rw [← hX, partsTo_length]
  have HXG := Lib.hid (fun (i : Nat) (hi : i < L.length) => (by subst hX; exact partsTo_get L i hi : X[i]'(by omega) = rowA L[i] L.length L[i].length))
  have HED := Lib.hid (fun (i k : Nat) (hi : i < L.length) (hk : k < L.length) => parts_edge hok hi hk)
  obtain ⟨mn, rfl⟩ := Int.eq_ofNat_of_zero_le h0
  have HFS := Lib.hid (fun (bs : List Bool) (hl : bs.length = L.length) (h : ∀ j : Nat, bs[j]? = some true ↔ j = ((mn : Int)).toNat) => Spr.first (L := L) (m := (mn : Int)) h0 hl h)
  obtain ⟨b, off, cap, rfl, -, hb, hc⟩ := h
  rw [hXl]
  have HC := Lib.hid hc
  clear hc hok hX
  have hmn : mn < L.length := by omega
  go_enter Try.func135, Try.ntmps135
  go_wp2_with (at_make; refine wpList_make_full _ rfl _ _ 132 rfl w.heap.size 4 i0 (.bool false) 1 Try.underlying132 hi hz0 hz1 _ _ _ _ L.length rfl rfl rfl rfl (by rw [hz2]; omega) (by unfold maxLen; omega) (Nat.le_refl _) ?_; intro w1 hown hgrow; have hx1 := grownBy_ext hgrow (fun k h => by cases h); have hr0 := row_falses hown; have hxc : ExtC w w1 := ⟨hx1⟩; have iw0 : InW w.heap.size w1 := ⟨hr0.len.2⟩; have e1 := hr0.cell mn (by simpa using hmn); obtain ⟨u0, hu0⟩ : ∃ u, (List.replicate L.length false)[mn]'(by simpa using hmn) = u := ⟨_, rfl⟩; rw [hu0] at e1; have e3 := hr0.frozen mn; have H00 := Lib.hid (hr0.store mn true); clear hr0 hu0 hown hgrow)
  go_loopw [6] (fun i wr => ∃ (r : Nat) (bs : List Bool), r ≤ L.length ∧ i = .int .i64 r ∧ Ext w wr ∧ Hid (RowB 4 w.heap.size wr (.slice (some ⟨w.heap.size, 0, none⟩) L.length L.length) bs) ∧ Hid (Spr L mn r 0 0 bs)) (fun i _ => L.length - (intOf i).toNat)
  case atStart =>
    refine ⟨0, _, Nat.zero_le _, rfl, ExtC.ext, H00, Lib.hid (HFS.out _ (by simp) fun j => ?_)⟩
    rw [List.getElem?_set, List.getElem?_replicate]
    split
    · rename_i e; subst e; simp [hmn]
    · rename_i e
      constructor
      · intro h; split at h <;> simp at h
      · intro h; simp at h; omega
  case round =>
    obtain ⟨r, bs, hr, rfl, hx, HR, HS⟩ := hrel
    clear H00 e1 e3 iw0 hxc hx1
    obtain ⟨g1, rfl⟩ := hx.grow; clear hx
    by_cases hlr : r < L.length
    · go_wp2_with fail
      go_loopw [7] (fun i wr => ∃ (j : Nat) (bs : List Bool), j ≤ L.length ∧ i = .int .i64 j ∧ Ext w wr ∧ Hid (RowB 4 w.heap.size wr (.slice (some ⟨w.heap.size, 0, none⟩) L.length L.length) bs) ∧ Hid (Spr L mn r j 0 bs)) (fun i _ => L.length - (intOf i).toNat)
      case atStart => exact ⟨0, bs, Nat.zero_le _, rfl, ExtC.ext, HR, HS⟩
      case round =>
        obtain ⟨i, bs, hi', rfl, hx, HR, HS⟩ := hrel
        obtain ⟨g2, rfl⟩ := hx.grow; clear hx
        by_cases hli : i < L.length
        · go_wp2_with fail
          go_loopw [8] (fun q wr => ∃ (k : Nat) (bs : List Bool), k ≤ L.length ∧ q = .int .i64 k ∧ Ext w wr ∧ Hid (RowB 4 w.heap.size wr (.slice (some ⟨w.heap.size, 0, none⟩) L.length L.length) bs) ∧ Hid (Spr L mn r i k bs)) (fun q _ => L.length - (intOf q).toNat)
          case atStart => exact ⟨0, bs, Nat.zero_le _, rfl, ExtC.ext, HR, HS⟩
          case round =>
            obtain ⟨k, bs, hk, rfl, hx, HR, HS⟩ := hrel
            obtain ⟨g3, rfl⟩ := hx.grow; clear hx
            by_cases hlk : k < L.length
            · obtain ⟨t, d2, d3⟩ := HC.out i (by omega)
              obtain ⟨tp, tc, rfl, -, hcx⟩ := RI.form d3
              have hxg := HXG.out i hli
              have hrl := rowA_length L[i] L.length L[i].length (Nat.le_refl _)
              have hxl : (X[i]'(by omega)).length = L.length := by rw [hxg]; exact hrl
              obtain ⟨tb, to, htp, itb, hcy⟩ := hcx (by omega)
              clear hcx
              subst htp
              have d := hcy k (by omega)
              have hed := HED.out i k hli hlk
              obtain ⟨y, hy⟩ : ∃ y, (X[i]'(by omega))[k]'(by omega) = y := ⟨_, rfl⟩
              have hy2 : (rowA L[i] L.length L[i].length)[k]'(by omega) = y := by
                rw [← hy]; congr 1; exact hxg.symm
              rw [hy] at d
              rw [hy2] at hed
              have hbl : bs.length = L.length := HS.out.len
              have c1 := HR.out.cell i (by omega)
              have c2 := HR.out.cell k (by omega)
              have c3 := HR.out.frozen k
              have iw : InW w.heap.size g3.fin := ⟨HR.out.len.2⟩
              obtain ⟨q, hq⟩ : ∃ q, bs[i]'(by omega) = q := ⟨_, rfl⟩
              rw [hq] at c1
              have HQ := Lib.hid (show bs[i]? = some q by rw [List.getElem?_eq_getElem (by omega), hq])
              have HEDG := Lib.hid hed
              obtain ⟨q2, hq2⟩ : ∃ q2, bs[k]'(by omega) = q2 := ⟨_, rfl⟩
              rw [hq2] at c2
              rw [hxl] at d2
              clear hq hq2 hed hy hy2 hxg hrl hcy d3 hxl
              cases q
              · have HST := Lib.hid (HS.out.stay (.inl (by rw [HQ.out]; simp)))
                go_wp2_with fail
                go_roundw
                case rel => exact ⟨k + 1, bs, by omega, by go_num, ExtC.ext, HR, HST⟩
                case measure => simp [intOf]; omega
              · by_cases y0 : 0 < y
                · have hd : decide (0 < y) = true := by simp [y0]
                  have HST := Lib.hid (HS.out.set (by omega) HQ.out (HEDG.out.1 y0))
                  go_wp2_with fail
                  go_roundw
                  case rel => exact ⟨k + 1, bs.set k true, by omega, by go_num, ExtC.ext, Lib.hid (HR.out.store k true), HST⟩
                  case measure => simp [intOf]; omega
                · have hd : decide (0 < y) = false := by simpa using y0
                  have HST := Lib.hid (HS.out.stay (.inr fun he => y0 (HEDG.out.2 he)))
                  go_wp2_with fail
                  go_roundw
                  case rel => exact ⟨k + 1, bs, by omega, by go_num, ExtC.ext, HR, HST⟩
                  case measure => simp [intOf]; omega
            · go_wp2_with fail
              go_roundw
              case rel => exact ⟨i + 1, bs, by omega, by go_num, ExtC.ext, HR, Lib.hid (HS.out.next HK.out (by omega))⟩
              case measure => simp [intOf]; omega
        · go_wp2_with fail
          go_roundw
          case rel => exact ⟨r + 1, bs, by omega, by go_num, ExtC.ext, HR, Lib.hid (HS.out.round (by omega))⟩
          case measure => simp [intOf]; omega
    · have e : r = L.length := by omega
      subst e
      go_wp2
      go_ret
      exact ⟨_, bs, rfl, HR.out, HS.out.len, HFI.out bs HS.out, ExtC.ext⟩

set_option maxHeartbeats 2000000 in
theorem spec_l03Set (g0 : Nat) (n c0 : Nat) (bs : List Bool) (lo : Nat) (w : World) (h : RowB 4 lo w (.slice (some ⟨g0, 0, none⟩) n c0) bs) (hn : n ≤ 1048576) (R : List Int) (hR : setB bs n = R) :
    Calls Try.prog 134 #[.slice (some ⟨g0, 0, none⟩) n c0] w fun e w' => ∃ g c, e = .returned (.slice (some ⟨g, 0, none⟩) R.length c) ∧ OwnI w.heap.size w'.heap.size w' (.slice (some ⟨g, 0, none⟩) R.length c) R ∧ Ext w w' := by
  have HN := Lib.hid hR.symm
  have hbl := h.eq
  have HBL := Lib.hid hbl
  have ib : InW g0 w := ⟨h.len.2⟩
  have HC := Lib.hid (fun i hi => h.cell i hi)
  clear hR h hbl
  go_enter Try.func134, Try.ntmps134
  go_wp2_with fail
  go_loopw [3, 4] (fun o i wr => ∃ (k og oc nn : Nat) (C : List Int), k ≤ n ∧ i = .int .i64 k ∧ o = .slice (some ⟨og, 0, none⟩) nn oc ∧ C.length ≤ k ∧ Ext w wr ∧ Hid (C = setB bs k) ∧ Hid (OwnI w.heap.size wr.heap.size wr (.slice (some ⟨og, 0, none⟩) nn oc) C)) (fun _ i _ => n - (intOf i).toNat)
  case atStart => exact ⟨0, _, _, _, [], Nat.zero_le _, rfl, rfl, Nat.le_refl _, ExtC.ext, Lib.hid rfl, Lib.hid ((own_empty w w.heap.size (Nat.le_refl _)).mono (Nat.le_refl _) (by simp))⟩
  case round =>
    obtain ⟨k, og, oc, nn, C, hk, rfl, rfl, hC, hx, HCk, HO⟩ := hrel
    obtain ⟨g1, rfl⟩ := hx.grow; clear hx
    by_cases hlt : k < n
    · have hkb : k < bs.length := by have := HBL.out; omega
      have d := HC.out k hkb
      have hs := setB_succ bs k
      rw [show bs.getD k false = bs[k]'hkb by simp [List.getD_eq_getElem?_getD, hkb]] at hs
      obtain ⟨q, hq⟩ : ∃ q, bs[k]'hkb = q := ⟨_, rfl⟩
      rw [hq] at d hs
      have HS := Lib.hid hs
      clear hs hq hkb
      cases q
      · go_wp2_with fail
        go_roundw
        case rel => exact ⟨k + 1, og, oc, nn, C, by omega, by go_num, rfl, by omega, ExtC.ext, Lib.hid (by rw [HS.out, HCk.out]; simp), HO⟩
        case measure => simp [intOf]; omega
      · go_wp2_with (at_builtin; refine app_int (w0 := w) (lo := w.heap.size) (hi := g1.fin.heap.size) _ _ (.slice (some ⟨og, 0, none⟩) nn oc) C ⟨g1.fin.heap.size, 0, none⟩ 1 [(k : Int)] rfl rfl rfl (HO.out.ext ExtC.ext) rfl (cells_one _ _ _) (by simp; omega) ExtC.ext (Nat.le_refl _) (by have := (ExtC.ext : Ext w g1.fin).size; simp; omega) (by simp) ?_; intro g' c' w' ho hx; obtain ⟨g3, rfl⟩ := hx.grow; clear hx; have HO2 := Lib.hid ho; clear ho)
        go_roundw
        case rel => exact ⟨k + 1, g', c', _, C ++ [(k : Int)], by omega, by go_num, by simp; rfl, by simp; omega, ExtC.ext, Lib.hid (by rw [HS.out, HCk.out]; simp), Lib.hid (by have := HO2.out; rw [List.length_append] at this; exact this)⟩
        case measure => simp [intOf]; omega
    · have e : k = n := by omega
      subst e
      go_wp2
      go_ret
      have hn2 := HO.out.len.1
      have ho := HO.out
      rw [hn2] at ho ⊢
      have e2 : C = R := by rw [HN.out, HCk.out]
      subst e2
      exact ⟨_, _, rfl, ho, ExtC.ext⟩

set_option maxHeartbeats 1000000 in
theorem spec_ReachedFrom' (v : Value) (m : Int) (L : List SD) (w : World) (h : RowsS shareKind w v L) (hs : ShortRows L) (hsm : ∀ i (h : i < L.length), L[i].length ≤ 1048576) (b : Bool) (hb : shB L m = b) (xs : List Int) (hxs : rchX L m = xs) :
    Calls Try.prog 64 #[v, .int .i64 m] w fun e w' => ∃ v', e = .returned (.tuple #[v', .bool b]) ∧ OwnI w.heap.size w'.heap.size w' v' xs ∧ Ext w w' := by
  have H1 := fun x (hx : Ext w x) => member_spec_l03Is v m L x (h.ext hx) hs hsm b hb
  cases b
  · have HN := Lib.hid (show xs = [] by rw [← hxs]; unfold rchX; rw [if_neg (by rw [← shB_iff hb]; simp)])
    clear hb hxs
    go_enter Try.func64, Try.ntmps64
    go_wp2_with (first | (go_at_call 115; (with_reducible refine (H1 _ ExtC.ext).mono ?_); rintro e w' ⟨rfl, hx⟩; obtain ⟨g, rfl⟩ := hx.grow; clear hx))
    refine bodyPost_ret (v := .tuple #[.slice none 0 0, .bool false]) (by simp [results, Try.results64, go_sem]) rfl ?_
    exact ⟨_, rfl, .inl ⟨rfl, HN.out⟩, ExtC.ext⟩
  have hok := (shB_iff hb).1 rfl
  obtain ⟨X, hX⟩ : ∃ X, partsTo L L.length = X := ⟨_, rfl⟩
  have hm : m < L.length := by have := hok.2.2; omega
  have hl := hok.1.2
  have HB := fun x (hx : Ext w x) => spec_l03Parts v L x (h.ext hx) hok.1 X hX
  have HB2 := fun v' x (hv : RowsS intKind x v' X) => spec_l03Reached v' m L X hX x hv hok.1 hok.2.1 hm
  have HN := Lib.hid (fun (bs : List Bool) (hg : ∀ j : Nat, bs[j]? = some true ↔ Gets L m j) => (by rw [← hxs]; unfold rchX; rw [if_pos hok]; exact setB_gets hg : setB bs L.length = xs))
  clear hb hxs hok
  go_enter Try.func64, Try.ntmps64
  go_wp2_with (first | (go_at_call 115; (with_reducible refine (H1 _ ExtC.ext).mono ?_); rintro e w' ⟨rfl, hx⟩; obtain ⟨g, rfl⟩ := hx.grow; clear hx))
  refine Calls.mono (HB _ ExtC.ext) ?_
  rintro e w' ⟨gp, cp, rfl, ho, hx⟩; obtain ⟨g3, rfl⟩ := hx.grow; clear hx
  have HO := Lib.hid (OwnR.s ho (by simp)); clear ho HB
  go_wp2_with fail
  refine Calls.mono (HB2 _ _ (HO.out.ext ExtC.ext)) ?_
  rintro e w' ⟨gb, bs, rfl, hrb, hbl, hg, hx⟩; obtain ⟨g4, rfl⟩ := hx.grow; clear hx
  have HRB := Lib.hid (And.intro hrb (HN.out bs hg)); clear hrb hg HB2
  go_wp2_with fail
  refine Calls.mono (spec_l03Set gb L.length _ bs _ _ (HRB.out.1.ext ExtC.ext) (by omega) xs HRB.out.2) ?_
  rintro e w' ⟨gr, cr, rfl, ho, hx⟩; obtain ⟨g5, rfl⟩ := hx.grow; clear hx
  have HO5 := Lib.hid ho; clear ho
  go_wp2_with fail
  refine bodyPost_ret (v := .tuple #[.slice (some ⟨gr, 0, none⟩) xs.length cr, .bool true]) (by simp [results, Try.results64, go_sem]) rfl ?_
  exact ⟨_, rfl, HO5.out.mono (ExtC.ext : Ext w _).size (Nat.le_refl _), ExtC.ext⟩
end Go.Proofs.Ytbbppkcdgcajjaa
