/- A list of voices read from its text: the reference's loop over the words. -/
import Derived.Test.YthcomgnokkndgaaDoorReadVS
namespace Go.Proofs.YthcomgnokkndgaaDoor
open Go.RowKit

theorem splitL_count (c : UInt8) : ∀ l, (splitL c l).length ≤ l.length + 1
  | [] => by simp [splitL]
  | x :: l => by
    have ih := splitL_count c l
    unfold splitL
    split
    · simp; omega
    · cases hs : splitL c l with
      | nil => exact absurd hs (splitL_ne c l)
      | cons u r => rw [hs] at ih; simp at ih ⊢; omega
theorem pv_len (l : List UInt8) : (pv l).2.length ≤ l.length + 1 := by
  unfold pv trustL
  dsimp only
  split
  · simp
  · refine Nat.le_trans (List.length_filterMap_le _ _) (Nat.le_trans (splitL_count _ _) ?_)
    rw [List.length_drop]; omega
theorem parse_told {l : List UInt8} {L : List VD} (hok : OkV L) (ht : vtexts L = l) : (splitL 32 l).map pv = L := by
  have hne : L ≠ [] := fun e => by have := hok.2.1; rw [e] at this; simp at this
  rw [← ht, voices_split hne, List.map_map]
  refine List.ext_getElem (by simp) fun k h1 h2 => ?_
  rw [List.getElem_map]
  exact pv_vtxt (hok.nums h2)

set_option maxHeartbeats 8000000 in
set_option maxRecDepth 100000 in
theorem spec_l02Parse (s : ByteArray) (w : World) (hs : s.size ≤ 1048576) (L : List VD) (b : Bool) (hv : VoicesIs s L b) :
    Calls Tryd.prog 39 #[.string s] w fun e w' => ∃ v', e = .returned (.tuple #[v', .bool b]) ∧ OwnV w.heap.size w'.heap.size w' v' L ∧ Ext w w' := by
  obtain ⟨X, hX⟩ : ∃ X, (splitL 32 s.data.toList).map pv = X := ⟨_, rfl⟩
  have HRET := Lib.hid (fun (P : b = true → False) => (by
    rcases hv with ⟨k0, -, -⟩ | ⟨k0, k1, -⟩
    · exact absurd k0 P
    · exact ⟨k0, k1⟩ : b = false ∧ L = []))
  have HT := Lib.hid (fun M (hok : OkV M) (ht : vtexts M = s.data.toList) => (by rw [← hX]; exact parse_told hok ht : X = M))
  have HX := Lib.hid hX
  have HV := Lib.hid hv
  have RV := fun t (ht : t.size ≤ 1048576) y => spec_l02Voice t y ht
  clear hv hX
  go_enter Tryd.func39, Tryd.ntmps39
  go_wp2_with fail
  go_loopw [4, 5, 6] (fun o f i wr => ∃ (k f0 og oc : Nat) (C : List VD), f0 ≤ k ∧ k ≤ s.size + 1 ∧ i = .int .i64 k ∧ f = .int .i64 f0 ∧ o = .slice (some ⟨og, 0, none⟩) C.length oc ∧ C.length ≤ 12 ∧ Ext w wr ∧ Hid (OwnV w.heap.size wr.heap.size wr (.slice (some ⟨og, 0, none⟩) C.length oc) C) ∧ Hid (∀ j (h : j < s.size), f0 ≤ j → j < k → s[j] ≠ 32) ∧ Hid (X = C ++ if k ≤ s.size then (splitL 32 (s.data.toList.drop f0)).map pv else []) ∧ Hid (∀ x ∈ C, x.2.length ≤ 1048577)) (fun _ _ i _ => s.size + 1 - (intOf i).toNat)
  case atStart =>
    refine ⟨0, 0, w.heap.size, 0, [], Nat.le_refl _, by omega, rfl, rfl, rfl, by simp, ExtC.ext, Lib.hid ?_, Lib.hid (fun j h a b => absurd b (by omega)), Lib.hid (by rw [if_pos (by omega), ← HX.out]; rfl), Lib.hid (by simp)⟩
    have := OwnV.made (World.ownsRow_made (e := 70) (size := 2) (base := w.heap.size) w #[] 0 (Nat.le_refl _) (by unfold maxLen; omega) (by rfl))
    exact (this.ext ExtC.ext).mono2 (Nat.le_refl _) (by simp)
  case round =>
    obtain ⟨k, f0, og, oc, C, hfk, hk, rfl, rfl, rfl, hC, hx, HO, HNO, HR, HSH⟩ := hrel
    obtain ⟨g0, rfl⟩ := hx.grow; clear hx
    by_cases hks : k ≤ s.size
    · have HR2 := Lib.hid (show X = C ++ (splitL 32 (s.data.toList.drop f0)).map pv by have := HR.out; rwa [if_pos hks] at this)
      by_cases hskip : ∃ h : k < s.size, s[k].toNat ≠ 32
      · obtain ⟨hlt, h44⟩ := hskip
        have h44' : ((s[k].toNat : Int) == 32) = false := by simp; omega
        have hne : ((k : Int) == (s.size : Int)) = false := by simp; omega
        have H44 := Lib.hid h44
        clear h44
        go_wp2_with fail
        go_roundw
        case rel =>
          refine ⟨k + 1, f0, og, oc, C, by omega, by omega, by go_num, rfl, rfl, hC, ExtC.ext, HO, Lib.hid (fun j h a b => ?_), Lib.hid (by rw [if_pos (by omega)]; exact HR2.out), HSH⟩
          by_cases e : j = k
          · subst e; intro e2; exact H44.out (by rw [e2]; rfl)
          · exact HNO.out j h a (by omega)
        case measure => simp [intOf]; omega
      · have HNX := Lib.hid (show (splitL 32 (s.data.toList.drop f0)).map pv = pv (s.extract f0 k).data.toList :: (if k + 1 ≤ s.size then (splitL 32 (s.data.toList.drop (k + 1))).map pv else []) by
          by_cases hlt : k < s.size
          · have h44 : s[k] = 32 := UInt8.toNat_inj.1 (Classical.byContradiction fun e => hskip ⟨hlt, e⟩)
            rw [piece_mid hfk hlt h44 (fun j h a b => HNO.out j h a b), if_pos (by omega)]; rfl
          · have e : k = s.size := by omega
            rw [piece_end (fun j h a => HNO.out j h a (by omega)), if_neg (by omega), e]; simp)
        have hsz : (s.extract f0 k).size ≤ 1048576 := Nat.le_trans (size_extract' _ _ _) hs
        have HPL := Lib.hid (show (pv (s.extract f0 k).data.toList).2.length ≤ 1048577 by
          have := pv_len (s.extract f0 k).data.toList
          rw [size_list] at this; omega)
        by_cases h12 : C.length = 12
        · have HF := Lib.hid (HRET.out fun e => by
            rcases HV.out with ⟨-, k1, k2⟩ | ⟨k0, -, -⟩
            · have e2 := HT.out L k1 k2
              have := congrArg List.length (e2.symm.trans (HR2.out.trans (by rw [HNX.out])))
              have := k1.2.2
              simp [h12] at *; omega
            · rw [e] at k0; cases k0)
          have h12' : ((C.length : Int) == 12) = true := by simp; omega
          by_cases hlt : k < s.size
          · have h44 : ((s[k].toNat : Int) == 32) = true := by
              have : s[k].toNat = 32 := Classical.byContradiction fun e => hskip ⟨hlt, e⟩
              simp [this]
            clear hskip RV
            go_wp2_with fail
            refine bodyPost_ret (v := .tuple #[.slice none 0 0, .bool false]) (by simp [results, Tryd.results39, go_sem]) rfl ?_
            exact ⟨_, by rw [HF.out.1], .inl ⟨rfl, HF.out.2⟩, ExtC.ext⟩
          · obtain rfl : k = s.size := by omega
            clear hskip RV
            go_wp2_with fail
            refine bodyPost_ret (v := .tuple #[.slice none 0 0, .bool false]) (by simp [results, Tryd.results39, go_sem]) rfl ?_
            exact ⟨_, by rw [HF.out.1], .inl ⟨rfl, HF.out.2⟩, ExtC.ext⟩
        · have h12' : ((C.length : Int) == 12) = false := by simp; omega
          have R := RV (s.extract f0 k) hsz
          obtain ⟨PV, hPV⟩ : ∃ x, pv (s.extract f0 k).data.toList = x := ⟨_, rfl⟩
          rw [hPV] at HNX HPL R
          obtain ⟨sp, ys⟩ := PV
          clear hPV RV
          by_cases hlt : k < s.size
          · have h44 : ((s[k].toNat : Int) == 32) = true := by
              have : s[k].toNat = 32 := Classical.byContradiction fun e => hskip ⟨hlt, e⟩
              simp [this]
            clear hskip
            go_wp2_with (first | (go_at_call 58; (with_reducible refine (R _).mono ?_); rintro e w' ⟨tg, tc, rfl, hv1, hx⟩; obtain ⟨g2, rfl⟩ := hx.grow; clear hx; have HT1 := Lib.hid hv1; clear hv1) | (at_builtin; refine app_voice2 (w0 := w) (lo := w.heap.size) (mid0 := g0.fin.heap.size) (mid := g0.fin.heap.size) (hi := g2.fin.heap.size) _ _ og oc C.length C ⟨g2.fin.heap.size, 0, none⟩ 1 sp (.slice (some ⟨tg, 0, none⟩) ys.length tc) ys rfl rfl rfl rfl (HO.out.ext ExtC.ext) rfl (cell_two0 _ _ _ _) (cell_two1 _ _ _ _) (HT1.out.ext ExtC.ext) (Nat.le_refl _) (by simp) (by have := (ExtC.ext : Ext g0.fin g2.fin).size; simp only [World.size_alloc]; omega) (by omega) ExtC.ext (Nat.le_refl _) ?_; intro g' c' w1 ho hr hg' hx; obtain ⟨g3, rfl⟩ := hx.grow; clear hx; have HO2 := Lib.hid (And.intro ho (And.intro hr hg')); clear ho hr hg'))
            go_roundw
            case rel =>
              obtain ⟨ho, hr, hg'⟩ := HO2.out
              exact ⟨k + 1, k + 1, g', c', C ++ [(sp, ys)], Nat.le_refl _, by omega, by go_num, by go_num, by simp, by simp; omega, ExtC.ext, Lib.hid ho, Lib.hid (fun j h a b => absurd a (by omega)), Lib.hid (by rw [HR2.out, HNX.out]; simp), Lib.hid (fun x hx => by
                rcases List.mem_append.1 hx with e | e
                · exact HSH.out x e
                · rw [List.mem_singleton.1 e]; exact HPL.out)⟩
            case measure => simp [intOf]; omega
          · obtain rfl : k = s.size := by omega
            clear hskip
            go_wp2_with (first | (go_at_call 58; (with_reducible refine (R _).mono ?_); rintro e w' ⟨tg, tc, rfl, hv1, hx⟩; obtain ⟨g2, rfl⟩ := hx.grow; clear hx; have HT1 := Lib.hid hv1; clear hv1) | (at_builtin; refine app_voice2 (w0 := w) (lo := w.heap.size) (mid0 := g0.fin.heap.size) (mid := g0.fin.heap.size) (hi := g2.fin.heap.size) _ _ og oc C.length C ⟨g2.fin.heap.size, 0, none⟩ 1 sp (.slice (some ⟨tg, 0, none⟩) ys.length tc) ys rfl rfl rfl rfl (HO.out.ext ExtC.ext) rfl (cell_two0 _ _ _ _) (cell_two1 _ _ _ _) (HT1.out.ext ExtC.ext) (Nat.le_refl _) (by simp) (by have := (ExtC.ext : Ext g0.fin g2.fin).size; simp only [World.size_alloc]; omega) (by omega) ExtC.ext (Nat.le_refl _) ?_; intro g' c' w1 ho hr hg' hx; obtain ⟨g3, rfl⟩ := hx.grow; clear hx; have HO2 := Lib.hid (And.intro ho (And.intro hr hg')); clear ho hr hg'))
            go_roundw
            case rel =>
              obtain ⟨ho, hr, hg'⟩ := HO2.out
              exact ⟨s.size + 1, s.size + 1, g', c', C ++ [(sp, ys)], Nat.le_refl _, by omega, by go_num, by go_num, by simp, by simp; omega, ExtC.ext, Lib.hid ho, Lib.hid (fun j h a b => absurd a (by omega)), Lib.hid (by rw [HR2.out, HNX.out]; simp), Lib.hid (fun x hx => by
                rcases List.mem_append.1 hx with e | e
                · exact HSH.out x e
                · rw [List.mem_singleton.1 e]; exact HPL.out)⟩
            case measure => simp [intOf]
    · have HF := Lib.hid (show X = C by have := HR.out; rw [if_neg hks] at this; simpa using this)
      have hvs := HO.out.vs (by simp)
      have hsh : Short C := ⟨by omega, fun i hi => by have := HSH.out C[i] (List.getElem_mem hi); omega⟩
      have H1 := fun bb (hbb : vokB C = bb) y (hy : Ext g0.fin y) => (spec_l02Ok _ C y (hvs.ext hy) hsh).mono fun e w' (h : RetB (OkV C) e ∧ Ext y w') => (⟨h.1.toldV (vokB_iff hbb), h.2⟩ : e = .returned (.bool bb) ∧ Ext y w')
      cases hb' : vokB C
      · have HE := Lib.hid (HRET.out fun e => by
          rcases HV.out with ⟨-, k1, k2⟩ | ⟨k0, -, -⟩
          · have := HT.out L k1 k2; rw [HF.out] at this; subst this
            have := (vokB_iff hb').2 k1; cases this
          · rw [e] at k0; cases k0)
        have R1 := H1 false hb'
        clear H1 hb' hsh hvs RV
        go_wp2_with (first | (go_at_call 59; (with_reducible refine (R1 _ ExtC.ext).mono ?_); rintro e w' ⟨rfl, hx⟩; obtain ⟨g, rfl⟩ := hx.grow; clear hx))
        refine bodyPost_ret (v := .tuple #[.slice none 0 0, .bool false]) (by simp [results, Tryd.results39, go_sem]) rfl ?_
        exact ⟨_, by rw [HE.out.1], .inl ⟨rfl, HE.out.2⟩, ExtC.ext⟩
      · have hok := (vokB_iff hb').1 rfl
        have R1 := H1 true hb'
        have R2 := fun y (hy : Ext g0.fin y) => spec_l02Text _ C y (hvs.ext hy) hok
        obtain ⟨t, ht⟩ : ∃ t : ByteArray, ⟨(vtexts C).toArray⟩ = t := ⟨_, rfl⟩
        have htl : vtexts C = t.data.toList := by rw [← ht]
        rw [ht] at R2
        by_cases hts : t = s
        · subst hts
          have HE := Lib.hid (show b = true ∧ L = C by
            rcases HV.out with ⟨k0, k1, k2⟩ | ⟨-, -, k3⟩
            · have := HT.out L k1 k2; rw [HF.out] at this; exact ⟨k0, this.symm⟩
            · exact absurd htl (k3 C hok))
          clear H1 hb' hsh hvs RV hok ht htl
          go_wp2_with (first | (go_at_call 59; (with_reducible refine (R1 _ ExtC.ext).mono ?_); rintro e w' ⟨rfl, hx⟩; obtain ⟨g, rfl⟩ := hx.grow; clear hx) | (go_at_call 60; (with_reducible refine (R2 _ ExtC.ext).mono ?_); rintro e w' ⟨rfl, hx⟩; obtain ⟨g, rfl⟩ := hx.grow; clear hx))
          refine bodyPost_ret (v := .tuple #[.slice (some ⟨og, 0, none⟩) C.length oc, .bool true]) (by simp [results, Tryd.results39, go_sem]) rfl ?_
          obtain ⟨h5, h6⟩ := HE.out
          exact ⟨_, by rw [h5], by rw [h6]; exact (HO.out.ext ExtC.ext).mono2 (Nat.le_refl _) (ExtC.ext : Ext g0.fin _).size, ExtC.ext⟩
        · have d1 := ne_list hts
          have d2 : (t.toList == s.toList) = false := by simp [d1]
          have HE := Lib.hid (HRET.out fun e => by
            rcases HV.out with ⟨-, k1, k2⟩ | ⟨k0, -, -⟩
            · have := HT.out L k1 k2; rw [HF.out] at this; subst this
              exact hts ((bytes_eq htl.symm).trans (bytes_eq k2.symm).symm)
            · rw [e] at k0; cases k0)
          clear H1 hb' hsh hvs RV hok ht htl hts
          go_wp2_with (first | (go_at_call 59; (with_reducible refine (R1 _ ExtC.ext).mono ?_); rintro e w' ⟨rfl, hx⟩; obtain ⟨g, rfl⟩ := hx.grow; clear hx) | (go_at_call 60; (with_reducible refine (R2 _ ExtC.ext).mono ?_); rintro e w' ⟨rfl, hx⟩; obtain ⟨g, rfl⟩ := hx.grow; clear hx))
          refine bodyPost_ret (v := .tuple #[.slice none 0 0, .bool false]) (by simp [results, Tryd.results39, go_sem]) rfl ?_
          exact ⟨_, by rw [HE.out.1], .inl ⟨rfl, HE.out.2⟩, ExtC.ext⟩

theorem spec_ReadVoices' (s : ByteArray) (w : World) (hs : s.size ≤ 1048576) (L : List VD) (b : Bool) (hv : VoicesIs s L b) :
    Calls Tryd.prog 16 #[.string s] w fun e w' => ∃ v', e = .returned (.tuple #[v', .bool b]) ∧ OwnV w.heap.size w'.heap.size w' v' L ∧ Ext w w' := by
  have R := fun y => spec_l02Parse s y hs L b hv
  clear hv
  go_enter Tryd.func16, Tryd.ntmps16
  go_wp2_with (first | (go_at_call 39; (with_reducible refine (R _).mono ?_); rintro e w' ⟨v1, rfl, hv1, hx⟩; obtain ⟨g2, rfl⟩ := hx.grow; clear hx; have HT1 := Lib.hid hv1; clear hv1))
  refine bodyPost_ret (v := .tuple #[v1, .bool b]) (by simp [results, Tryd.results16, go_sem]) rfl ?_
  exact ⟨_, rfl, HT1.out, ExtC.ext⟩
end Go.Proofs.YthcomgnokkndgaaDoor
