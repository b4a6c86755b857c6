/- The text of a list of voices, on both sides. -/
import Derived.Test.YthcomgnokkndgaaDoorStr
import Derived.Test.YthcomgnokkndgaaDoorVoice3
import Derived.Test.YthcomgnokkndgaaDoorPath
namespace Go.Proofs.YthcomgnokkndgaaDoor
open Go.RowKit

def vtxt (x : VD) : List UInt8 := (if x.1 then 43 else 45) :: decs 44 x.2
def vtexts (L : List VD) : List UInt8 := Lib.join (L.map vtxt) [32]
open Classical in
noncomputable def vokB (L : List VD) : Bool := decide (OkV L)
theorem vokB_iff {L : List VD} {b : Bool} (h : vokB L = b) : b = true ↔ OkV L := by subst h; simp [vokB]
theorem RetB.toldV {P : Prop} {e : Ending} {b : Bool} (h : RetB P e) (hb : b = true ↔ P) : e = .returned (.bool b) := by
  obtain ⟨c, rfl, hc⟩ := h
  have : c = b := by rw [Bool.eq_iff_iff, hc, hb]
  rw [this]
open Classical in
noncomputable def vtextX (L : List VD) : ByteArray := if OkV L then ⟨(vtexts L).toArray⟩ else ⟨#[]⟩
theorem OkV.i64 {L : List VD} (hok : OkV L) {k : Nat} (hk : k < L.length) : (∀ x ∈ L[k].2, I64' x) ∧ L[k].2.length ≤ 4 := by
  have hl := hok.2
  refine ⟨fun x hx => ?_, (hok.1 k hk).2⟩
  obtain ⟨j, hj, rfl⟩ := List.getElem_of_mem hx
  have := ((hok.1 k hk).1 j hj).1
  exact ⟨by omega, by omega⟩
theorem vtxt_len {L : List VD} (hok : OkV L) {k : Nat} (hk : k < L.length) : (decs 44 L[k].2).length ≤ 88 := by
  have h := hok.i64 hk
  have := decs_len 44 h.1
  omega
theorem vtexts_len {L : List VD} (hok : OkV L) : (vtexts L).length ≤ 1200 := by
  have hl := hok.2
  have := join_len (M := 89) 32 (L := L.map vtxt) (fun y hy => by
    obtain ⟨x, hx, rfl⟩ := List.mem_map.1 hy
    obtain ⟨k, hk, rfl⟩ := List.getElem_of_mem hx
    have := vtxt_len hok hk
    simp only [vtxt, List.length_cons]; omega)
  rw [List.length_map] at this
  unfold vtexts; omega
theorem vtake_succ {L : List VD} {k : Nat} (h : k < L.length) : (L.take (k + 1)).map vtxt = (L.take k).map vtxt ++ [vtxt L[k]] := by
  rw [List.take_succ_eq_append_getElem h, List.map_append]; rfl

set_option maxHeartbeats 8000000 in
set_option maxRecDepth 100000 in
theorem impl_VoicesText' (v : Value) (L : List VD) (w : World) (h : VS w v L) (hs : Short L) (b : Bool) (hb : vokB L = b) (s : ByteArray) (hsx : vtextX L = s) (hp : Pow w) :
    Calls Tryd.prog 40 #[v] w fun e w' => e = .returned (.tuple #[.string s, .bool b]) ∧ Ext w w' := by
  have H1 := fun x (hx : Ext w x) => (impl_ValidVoices v L x (h.ext hx) hs).mono fun e w' (h : RetB (OkV L) e ∧ Ext x w') => (⟨h.1.toldV (vokB_iff hb), h.2⟩ : e = .returned (.bool b) ∧ Ext x w')
  cases b
  · have HN := Lib.hid (show s = ⟨#[]⟩ by rw [← hsx]; unfold vtextX; rw [if_neg (by rw [← vokB_iff hb]; simp)])
    clear hb hsx hp
    go_enter Tryd.func40, Tryd.ntmps40
    go_wp2_with (first | (go_at_call 61; (with_reducible refine (H1 _ ExtC.ext).mono ?_); rintro e w' ⟨rfl, hx⟩; obtain ⟨g, rfl⟩ := hx.grow; clear hx))
    refine bodyPost_ret (v := .tuple #[.string ⟨#[]⟩, .bool false]) (by simp [results, Tryd.results40, go_sem]) rfl ?_
    exact ⟨by rw [HN.out], ExtC.ext⟩
  have hok := (vokB_iff hb).1 rfl
  have HN := Lib.hid (show s = ⟨(vtexts L).toArray⟩ by rw [← hsx]; unfold vtextX; rw [if_pos hok])
  have hl := hok.2
  have HK := Lib.hid hok
  have HLEN := Lib.hid (vtexts_len hok)
  have HD := fun (k : Nat) (hk : k < L.length) t x (hx : Ext w x) (ht : RI x t L[k].2) => impl_decimals t L[k].2 44 x ht (by have := (hok.i64 hk).2; omega) (hok.i64 hk).1 (hp.ext hx)
  obtain ⟨vb, vo, vc, rfl, ivb, hc⟩ := h
  have HC := Lib.hid hc
  clear hb hsx hok hc hp
  go_enter Tryd.func40, Tryd.ntmps40
  go_wp2_with (first | (go_at_call 61; (with_reducible refine (H1 _ ExtC.ext).mono ?_); rintro e w' ⟨rfl, hx⟩; obtain ⟨g, rfl⟩ := hx.grow; clear hx))
  clear H1
  go_loopw [4, 14] (fun o i wr => ∃ (k og oc : Nat) (C : List ByteArray), k ≤ L.length ∧ i = .int .i64 k ∧ o = .slice (some ⟨og, 0, none⟩) C.length oc ∧ C.length ≤ k ∧ Ext w wr ∧ Hid (C.map (·.data.toList) = (L.take k).map vtxt) ∧ Hid (OwnT w.heap.size wr og oc C)) (fun _ i _ => L.length - (intOf i).toNat)
  case atStart => exact ⟨0, g.fin.heap.size, 0, [], Nat.zero_le _, rfl, rfl, Nat.le_refl _, ExtC.ext, Lib.hid (by simp), Lib.hid (OwnT.empty g.fin w.heap.size (ExtC.ext : Ext w g.fin).size)⟩
  case round =>
    obtain ⟨k, og, oc, C, hk, rfl, rfl, hC, hx, HCk, HO⟩ := hrel
    obtain ⟨g0, rfl⟩ := hx.grow; clear hx
    by_cases hlt : k < L.length
    · obtain ⟨c1, t, c2, c3⟩ := HC.out k hlt
      have RR := HD k hlt t
      have HST := Lib.hid (vtake_succ hlt)
      have hdl := vtxt_len HK.out hlt
      obtain ⟨tp, tc, rfl, -⟩ := c3.form
      have HT3 := Lib.hid c3
      obtain ⟨⟨sp, T⟩, hy⟩ : ∃ y, L[k] = y := ⟨_, rfl⟩
      rw [hy] at c1 c2 HT3 RR HST hdl
      dsimp only at c1 c2 RR hdl
      have hT4 : T.length ≤ 4 := by have := (HK.out.i64 hlt).2; rw [hy] at this; exact this
      obtain ⟨D, hD⟩ : ∃ D : ByteArray, ⟨(decs 44 T).toArray⟩ = D := ⟨_, rfl⟩
      have hDs : D.size ≤ 88 := by rw [← hD]; exact hdl
      have HDL := Lib.hid (show D.data.toList = decs 44 T by rw [← hD])
      rw [hD] at RR
      clear c3 hy hdl hD
      cases sp
      · have HV := Lib.hid (show ((⟨#[45]⟩ : ByteArray) ++ D).data.toList = vtxt (false, T) by rw [cons_bytes, HDL.out]; rfl)
        go_wp2_with (first | (go_at_call 56; (with_reducible refine (RR _ ExtC.ext (HT3.out.ext ExtC.ext)).mono ?_); rintro e w' ⟨rfl, hx⟩; obtain ⟨g1, rfl⟩ := hx.grow; clear hx RR) | (at_builtin; refine app_str (w0 := w) (lo := w.heap.size) _ _ og oc C ⟨g1.fin.heap.size, 0, none⟩ 1 (⟨#[45]⟩ ++ D) rfl rfl rfl (HO.out.ext ExtC.ext) rfl (cell_new _ _ _) (by omega) ExtC.ext (Nat.le_refl _) ?_; intro g' c' w' ho hx; obtain ⟨g3, rfl⟩ := hx.grow; clear hx; have HO2 := Lib.hid ho; clear ho))
        go_roundw
        case rel => exact ⟨k + 1, g', c', C ++ [⟨#[45]⟩ ++ D], by omega, by go_num, by simp, by simp; omega, ExtC.ext, Lib.hid (by rw [List.map_append, HST.out, HCk.out, ← HV.out]; rfl), HO2⟩
        case measure => simp [intOf]; omega
      · have HV := Lib.hid (show ((⟨#[43]⟩ : ByteArray) ++ D).data.toList = vtxt (true, T) by rw [cons_bytes, HDL.out]; rfl)
        go_wp2_with (first | (go_at_call 56; (with_reducible refine (RR _ ExtC.ext (HT3.out.ext ExtC.ext)).mono ?_); rintro e w' ⟨rfl, hx⟩; obtain ⟨g1, rfl⟩ := hx.grow; clear hx RR) | (at_builtin; refine app_str (w0 := w) (lo := w.heap.size) _ _ og oc C ⟨g1.fin.heap.size, 0, none⟩ 1 (⟨#[43]⟩ ++ D) rfl rfl rfl (HO.out.ext ExtC.ext) rfl (cell_new _ _ _) (by omega) ExtC.ext (Nat.le_refl _) ?_; intro g' c' w' ho hx; obtain ⟨g3, rfl⟩ := hx.grow; clear hx; have HO2 := Lib.hid ho; clear ho))
        go_roundw
        case rel => exact ⟨k + 1, g', c', C ++ [⟨#[43]⟩ ++ D], by omega, by go_num, by simp, by simp; omega, ExtC.ext, Lib.hid (by rw [List.map_append, HST.out, HCk.out, ← HV.out]; rfl), HO2⟩
        case measure => simp [intOf]; omega
    · have e : k = L.length := by omega
      have HF := Lib.hid (show C.map (·.data.toList) = L.map vtxt by rw [HCk.out, e, List.take_length])
      have hol := HO.out.lt
      have hoc := HO.out.cap
      have R2 := fun y (hy : Ext g0.fin y) => Tryd.strings_Join og 0 oc C ⟨#[32]⟩ y (fun j x hj => by rw [Nat.zero_add]; exact (HO.out.ext hy).cell j x hj) (Nat.lt_of_lt_of_le hol.2 hy.size) (by omega) hoc (by rw [HF.out]; have := HLEN.out; unfold vtexts at this; have e2 : (⟨#[32]⟩ : ByteArray).data.toList = [32] := rfl; rw [e2]; omega)
      have R3 := fun y (hy : Ext g0.fin y) => (R2 y hy).mono fun e w' (h : e = .returned (.string ⟨(Lib.join (C.map (·.data.toList)) (⟨#[32]⟩ : ByteArray).data.toList).toArray⟩) ∧ Below y.heap.size y w') => (⟨by rw [h.1, HF.out, HN.out]; rfl, h.2⟩ : e = .returned (.string s) ∧ Ext y w')
      clear R2 hol hoc HD e
      go_wp2_with (first | (go_at_call 52; (with_reducible refine (R3 _ ExtC.ext).mono ?_); rintro e w' ⟨rfl, hx⟩; obtain ⟨g1, rfl⟩ := hx.grow; clear hx R3))
      refine bodyPost_ret (v := .tuple #[.string s, .bool true]) (by simp [results, Tryd.results40, go_sem]) rfl ?_
      exact ⟨rfl, ExtC.ext⟩

set_option maxHeartbeats 8000000 in
set_option maxRecDepth 100000 in
theorem spec_l02Text (v : Value) (L : List VD) (w : World) (h : VS w v L) (hok : OkV L) :
    Calls Tryd.prog 60 #[v] w fun e w' => e = .returned (.string ⟨(vtexts L).toArray⟩) ∧ Ext w w' := by
  have hl := hok.2
  have HK := Lib.hid hok
  have R := fun (x : Int) (hx : I64' x) y => spec_l01Dec x hx.1 hx.2 y
  obtain ⟨vb, vo, vc, rfl, ivb, hc⟩ := h
  have HC := Lib.hid hc
  clear hok hc
  go_enter Tryd.func60, Tryd.ntmps60
  go_wp2_with fail
  go_loopw [3, 4] (fun o i wr => ∃ (k : Nat) (s : ByteArray), k ≤ L.length ∧ i = .int .i64 k ∧ o = .string s ∧ s.size ≤ 100 * k ∧ Ext w wr ∧ Hid (s.data.toList = Lib.join ((L.take k).map vtxt) [32])) (fun _ i _ => L.length - (intOf i).toNat)
  case atStart => exact ⟨0, ⟨#[]⟩, Nat.zero_le _, rfl, rfl, by simp [ByteArray.size], ExtC.ext, Lib.hid (by simp [Lib.join_nil])⟩
  case round =>
    obtain ⟨k, s, hk, rfl, rfl, hss, hx, HS⟩ := hrel
    obtain ⟨g0, rfl⟩ := hx.grow; clear hx
    by_cases hlt : k < L.length
    · obtain ⟨c1, t, c2, c3⟩ := HC.out k hlt
      obtain ⟨tp, tc, rfl, -, hct⟩ := c3.form
      have HST := Lib.hid (vtake_succ hlt)
      have HI := Lib.hid (HK.out.i64 hlt)
      have hdl := vtxt_len HK.out hlt
      obtain ⟨⟨sp, T⟩, hy⟩ : ∃ y, L[k] = y := ⟨_, rfl⟩
      rw [hy] at c1 c2 HST HI hct hdl
      dsimp only at c1 c2 hct hdl
      have hT4 : T.length ≤ 4 := HI.out.2
      have HCT := Lib.hid hct
      have HDL := Lib.hid hdl
      clear c3 hct hy hdl
      by_cases hk0 : k = 0
      · have hz : ¬ 0 < k := by omega
        cases sp
        · have HP : Hid (∀ l : List UInt8, [] ++ (45 :: l) = [] ++ [45] ++ l) := Lib.hid (by simp)
          have HJ : Hid (Lib.join ((L.take (k + 1)).map vtxt) [32] = [] ++ vtxt (false, T)) := Lib.hid (by rw [HST.out]; rw [hk0]; simp [Lib.join_one])
          have hk0' := Lib.hid hk0
          clear hk0
          go_wp2_with fail
          go_loopw [3, 5] (fun o i wr => ∃ (j : Nat) (s' : ByteArray), j ≤ T.length ∧ i = .int .i64 j ∧ o = .string s' ∧ s'.size ≤ 100 * k + 2 + 22 * j ∧ Ext w wr ∧ Hid (s'.data.toList = [] ++ [45] ++ decs 44 (T.take j))) (fun _ i _ => T.length - (intOf i).toNat)
          case atStart => exact ⟨0, (s ++ ⟨#[45]⟩), Nat.zero_le _, rfl, rfl, by simp only [ByteArray.size_append', ByteArray.size_mk', List.size_toArray, List.length_cons, List.length_nil]; omega, ExtC.ext, Lib.hid (by simp only [ByteArray.data_append, Array.toList_append]; rw [HS.out]; rw [hk0'.out]; simp [Lib.join_nil, decs])⟩
          case round =>
            obtain ⟨j, s', hj, rfl, rfl, hs', hx, HS'⟩ := hrel
            obtain ⟨g1, rfl⟩ := hx.grow; clear hx
            by_cases hjl : j < T.length
            · obtain ⟨tb, to, hpp, itb, hcc⟩ := HCT.out (by omega)
              subst hpp
              have d5 := hcc j hjl
              have hi := HI.out.1 T[j] (List.getElem_mem hjl)
              have RR := R T[j] hi
              have hds := dec_size T[j] hi.1 hi.2
              have HTS := Lib.hid (show (T.take (j + 1)).map Lib.itoa = (T.take j).map Lib.itoa ++ [Lib.itoa T[j]] by rw [List.take_succ_eq_append_getElem hjl, List.map_append]; rfl)
              obtain ⟨y, hy⟩ : ∃ y, T[j] = y := ⟨_, rfl⟩
              rw [hy] at d5 RR hds HTS
              have HDY := Lib.hid (dec_list y)
              obtain ⟨dy, hdy⟩ : ∃ dy, dec y = dy := ⟨_, rfl⟩
              rw [hdy] at RR hds HDY
              clear hcc hy hi hdy
              by_cases hj0 : j = 0
              · have hjz : ¬ 0 < j := by omega
                have HJ0 := Lib.hid hj0
                clear hj0
                go_wp2_with (first | (go_at_call 45; (with_reducible refine (RR _).mono ?_); rintro e w' ⟨rfl, hx⟩; obtain ⟨g, rfl⟩ := hx.grow; clear hx))
                go_roundw
                case rel => exact ⟨j + 1, _, by omega, by go_num, rfl, by simp only [ByteArray.size_append']; omega, ExtC.ext, Lib.hid (by rw [ByteArray.data_append, Array.toList_append, HS'.out, HDY.out]; unfold decs; rw [HTS.out, HJ0.out]; simp [Lib.join_one, Lib.join_nil])⟩
                case measure => simp [intOf]; omega
              · have hjz : 0 < j := by omega
                have HJ0 := Lib.hid (show (T.take j).map Lib.itoa ≠ [] by intro e; have := congrArg List.length e; rw [List.length_map, List.length_take, List.length_nil] at this; omega)
                clear hj0
                go_wp2_with (first | (go_at_call 45; (with_reducible refine (RR _).mono ?_); rintro e w' ⟨rfl, hx⟩; obtain ⟨g, rfl⟩ := hx.grow; clear hx))
                go_roundw
                case rel => exact ⟨j + 1, _, by omega, by go_num, rfl, by simp only [ByteArray.size_append', ByteArray.size_mk', List.size_toArray, List.length_cons, List.length_nil]; omega, ExtC.ext, Lib.hid (by rw [ByteArray.data_append, Array.toList_append, ByteArray.data_append, Array.toList_append, HS'.out, HDY.out]; unfold decs; rw [HTS.out, join_snoc HJ0.out]; simp [List.append_assoc])⟩
                case measure => simp [intOf]; omega
            · have e : j = T.length := by omega
              have HF := Lib.hid (show s'.data.toList = Lib.join ((L.take (k + 1)).map vtxt) [32] by rw [HS'.out, HJ.out, e, List.take_length]; exact (HP.out _).symm)
              have hsl : s'.size ≤ 100 * (k + 1) := by omega
              go_wp2_with fail
              go_roundw
              case rel => exact ⟨k + 1, s', by omega, by go_num, rfl, hsl, ExtC.ext, HF⟩
              case measure => simp [intOf]; omega
        · have HP : Hid (∀ l : List UInt8, [] ++ (43 :: l) = [] ++ [43] ++ l) := Lib.hid (by simp)
          have HJ : Hid (Lib.join ((L.take (k + 1)).map vtxt) [32] = [] ++ vtxt (true, T)) := Lib.hid (by rw [HST.out]; rw [hk0]; simp [Lib.join_one])
          have hk0' := Lib.hid hk0
          clear hk0
          go_wp2_with fail
          go_loopw [3, 5] (fun o i wr => ∃ (j : Nat) (s' : ByteArray), j ≤ T.length ∧ i = .int .i64 j ∧ o = .string s' ∧ s'.size ≤ 100 * k + 2 + 22 * j ∧ Ext w wr ∧ Hid (s'.data.toList = [] ++ [43] ++ decs 44 (T.take j))) (fun _ i _ => T.length - (intOf i).toNat)
          case atStart => exact ⟨0, (s ++ ⟨#[43]⟩), Nat.zero_le _, rfl, rfl, by simp only [ByteArray.size_append', ByteArray.size_mk', List.size_toArray, List.length_cons, List.length_nil]; omega, ExtC.ext, Lib.hid (by simp only [ByteArray.data_append, Array.toList_append]; rw [HS.out]; rw [hk0'.out]; simp [Lib.join_nil, decs])⟩
          case round =>
            obtain ⟨j, s', hj, rfl, rfl, hs', hx, HS'⟩ := hrel
            obtain ⟨g1, rfl⟩ := hx.grow; clear hx
            by_cases hjl : j < T.length
            · obtain ⟨tb, to, hpp, itb, hcc⟩ := HCT.out (by omega)
              subst hpp
              have d5 := hcc j hjl
              have hi := HI.out.1 T[j] (List.getElem_mem hjl)
              have RR := R T[j] hi
              have hds := dec_size T[j] hi.1 hi.2
              have HTS := Lib.hid (show (T.take (j + 1)).map Lib.itoa = (T.take j).map Lib.itoa ++ [Lib.itoa T[j]] by rw [List.take_succ_eq_append_getElem hjl, List.map_append]; rfl)
              obtain ⟨y, hy⟩ : ∃ y, T[j] = y := ⟨_, rfl⟩
              rw [hy] at d5 RR hds HTS
              have HDY := Lib.hid (dec_list y)
              obtain ⟨dy, hdy⟩ : ∃ dy, dec y = dy := ⟨_, rfl⟩
              rw [hdy] at RR hds HDY
              clear hcc hy hi hdy
              by_cases hj0 : j = 0
              · have hjz : ¬ 0 < j := by omega
                have HJ0 := Lib.hid hj0
                clear hj0
                go_wp2_with (first | (go_at_call 45; (with_reducible refine (RR _).mono ?_); rintro e w' ⟨rfl, hx⟩; obtain ⟨g, rfl⟩ := hx.grow; clear hx))
                go_roundw
                case rel => exact ⟨j + 1, _, by omega, by go_num, rfl, by simp only [ByteArray.size_append']; omega, ExtC.ext, Lib.hid (by rw [ByteArray.data_append, Array.toList_append, HS'.out, HDY.out]; unfold decs; rw [HTS.out, HJ0.out]; simp [Lib.join_one, Lib.join_nil])⟩
                case measure => simp [intOf]; omega
              · have hjz : 0 < j := by omega
                have HJ0 := Lib.hid (show (T.take j).map Lib.itoa ≠ [] by intro e; have := congrArg List.length e; rw [List.length_map, List.length_take, List.length_nil] at this; omega)
                clear hj0
                go_wp2_with (first | (go_at_call 45; (with_reducible refine (RR _).mono ?_); rintro e w' ⟨rfl, hx⟩; obtain ⟨g, rfl⟩ := hx.grow; clear hx))
                go_roundw
                case rel => exact ⟨j + 1, _, by omega, by go_num, rfl, by simp only [ByteArray.size_append', ByteArray.size_mk', List.size_toArray, List.length_cons, List.length_nil]; omega, ExtC.ext, Lib.hid (by rw [ByteArray.data_append, Array.toList_append, ByteArray.data_append, Array.toList_append, HS'.out, HDY.out]; unfold decs; rw [HTS.out, join_snoc HJ0.out]; simp [List.append_assoc])⟩
                case measure => simp [intOf]; omega
            · have e : j = T.length := by omega
              have HF := Lib.hid (show s'.data.toList = Lib.join ((L.take (k + 1)).map vtxt) [32] by rw [HS'.out, HJ.out, e, List.take_length]; exact (HP.out _).symm)
              have hsl : s'.size ≤ 100 * (k + 1) := by omega
              go_wp2_with fail
              go_roundw
              case rel => exact ⟨k + 1, s', by omega, by go_num, rfl, hsl, ExtC.ext, HF⟩
              case measure => simp [intOf]; omega
      · have hz : 0 < k := by omega
        cases sp
        · have HP : Hid (∀ l : List UInt8, (Lib.join ((L.take k).map vtxt) [32] ++ [32]) ++ (45 :: l) = (Lib.join ((L.take k).map vtxt) [32] ++ [32]) ++ [45] ++ l) := Lib.hid (by simp)
          have HJ : Hid (Lib.join ((L.take (k + 1)).map vtxt) [32] = (Lib.join ((L.take k).map vtxt) [32] ++ [32]) ++ vtxt (false, T)) := Lib.hid (by rw [HST.out]; rw [join_snoc (by intro e; have := congrArg List.length e; rw [List.length_map, List.length_take, List.length_nil] at this; omega)])
          have hk0' := Lib.hid hk0
          clear hk0
          go_wp2_with fail
          go_loopw [3, 5] (fun o i wr => ∃ (j : Nat) (s' : ByteArray), j ≤ T.length ∧ i = .int .i64 j ∧ o = .string s' ∧ s'.size ≤ 100 * k + 2 + 22 * j ∧ Ext w wr ∧ Hid (s'.data.toList = (Lib.join ((L.take k).map vtxt) [32] ++ [32]) ++ [45] ++ decs 44 (T.take j))) (fun _ i _ => T.length - (intOf i).toNat)
          case atStart => exact ⟨0, (s ++ ⟨#[32]⟩ ++ ⟨#[45]⟩), Nat.zero_le _, rfl, rfl, by simp only [ByteArray.size_append', ByteArray.size_mk', List.size_toArray, List.length_cons, List.length_nil]; omega, ExtC.ext, Lib.hid (by simp only [ByteArray.data_append, Array.toList_append]; rw [HS.out]; simp [Lib.join_nil, decs])⟩
          case round =>
            obtain ⟨j, s', hj, rfl, rfl, hs', hx, HS'⟩ := hrel
            obtain ⟨g1, rfl⟩ := hx.grow; clear hx
            by_cases hjl : j < T.length
            · obtain ⟨tb, to, hpp, itb, hcc⟩ := HCT.out (by omega)
              subst hpp
              have d5 := hcc j hjl
              have hi := HI.out.1 T[j] (List.getElem_mem hjl)
              have RR := R T[j] hi
              have hds := dec_size T[j] hi.1 hi.2
              have HTS := Lib.hid (show (T.take (j + 1)).map Lib.itoa = (T.take j).map Lib.itoa ++ [Lib.itoa T[j]] by rw [List.take_succ_eq_append_getElem hjl, List.map_append]; rfl)
              obtain ⟨y, hy⟩ : ∃ y, T[j] = y := ⟨_, rfl⟩
              rw [hy] at d5 RR hds HTS
              have HDY := Lib.hid (dec_list y)
              obtain ⟨dy, hdy⟩ : ∃ dy, dec y = dy := ⟨_, rfl⟩
              rw [hdy] at RR hds HDY
              clear hcc hy hi hdy
              by_cases hj0 : j = 0
              · have hjz : ¬ 0 < j := by omega
                have HJ0 := Lib.hid hj0
                clear hj0
                go_wp2_with (first | (go_at_call 45; (with_reducible refine (RR _).mono ?_); rintro e w' ⟨rfl, hx⟩; obtain ⟨g, rfl⟩ := hx.grow; clear hx))
                go_roundw
                case rel => exact ⟨j + 1, _, by omega, by go_num, rfl, by simp only [ByteArray.size_append']; omega, ExtC.ext, Lib.hid (by rw [ByteArray.data_append, Array.toList_append, HS'.out, HDY.out]; unfold decs; rw [HTS.out, HJ0.out]; simp [Lib.join_one, Lib.join_nil])⟩
                case measure => simp [intOf]; omega
              · have hjz : 0 < j := by omega
                have HJ0 := Lib.hid (show (T.take j).map Lib.itoa ≠ [] by intro e; have := congrArg List.length e; rw [List.length_map, List.length_take, List.length_nil] at this; omega)
                clear hj0
                go_wp2_with (first | (go_at_call 45; (with_reducible refine (RR _).mono ?_); rintro e w' ⟨rfl, hx⟩; obtain ⟨g, rfl⟩ := hx.grow; clear hx))
                go_roundw
                case rel => exact ⟨j + 1, _, by omega, by go_num, rfl, by simp only [ByteArray.size_append', ByteArray.size_mk', List.size_toArray, List.length_cons, List.length_nil]; omega, ExtC.ext, Lib.hid (by rw [ByteArray.data_append, Array.toList_append, ByteArray.data_append, Array.toList_append, HS'.out, HDY.out]; unfold decs; rw [HTS.out, join_snoc HJ0.out]; simp [List.append_assoc])⟩
                case measure => simp [intOf]; omega
            · have e : j = T.length := by omega
              have HF := Lib.hid (show s'.data.toList = Lib.join ((L.take (k + 1)).map vtxt) [32] by rw [HS'.out, HJ.out, e, List.take_length]; exact (HP.out _).symm)
              have hsl : s'.size ≤ 100 * (k + 1) := by omega
              go_wp2_with fail
              go_roundw
              case rel => exact ⟨k + 1, s', by omega, by go_num, rfl, hsl, ExtC.ext, HF⟩
              case measure => simp [intOf]; omega
        · have HP : Hid (∀ l : List UInt8, (Lib.join ((L.take k).map vtxt) [32] ++ [32]) ++ (43 :: l) = (Lib.join ((L.take k).map vtxt) [32] ++ [32]) ++ [43] ++ l) := Lib.hid (by simp)
          have HJ : Hid (Lib.join ((L.take (k + 1)).map vtxt) [32] = (Lib.join ((L.take k).map vtxt) [32] ++ [32]) ++ vtxt (true, T)) := Lib.hid (by rw [HST.out]; rw [join_snoc (by intro e; have := congrArg List.length e; rw [List.length_map, List.length_take, List.length_nil] at this; omega)])
          have hk0' := Lib.hid hk0
          clear hk0
          go_wp2_with fail
          go_loopw [3, 5] (fun o i wr => ∃ (j : Nat) (s' : ByteArray), j ≤ T.length ∧ i = .int .i64 j ∧ o = .string s' ∧ s'.size ≤ 100 * k + 2 + 22 * j ∧ Ext w wr ∧ Hid (s'.data.toList = (Lib.join ((L.take k).map vtxt) [32] ++ [32]) ++ [43] ++ decs 44 (T.take j))) (fun _ i _ => T.length - (intOf i).toNat)
          case atStart => exact ⟨0, (s ++ ⟨#[32]⟩ ++ ⟨#[43]⟩), Nat.zero_le _, rfl, rfl, by simp only [ByteArray.size_append', ByteArray.size_mk', List.size_toArray, List.length_cons, List.length_nil]; omega, ExtC.ext, Lib.hid (by simp only [ByteArray.data_append, Array.toList_append]; rw [HS.out]; simp [Lib.join_nil, decs])⟩
          case round =>
            obtain ⟨j, s', hj, rfl, rfl, hs', hx, HS'⟩ := hrel
            obtain ⟨g1, rfl⟩ := hx.grow; clear hx
            by_cases hjl : j < T.length
            · obtain ⟨tb, to, hpp, itb, hcc⟩ := HCT.out (by omega)
              subst hpp
              have d5 := hcc j hjl
              have hi := HI.out.1 T[j] (List.getElem_mem hjl)
              have RR := R T[j] hi
              have hds := dec_size T[j] hi.1 hi.2
              have HTS := Lib.hid (show (T.take (j + 1)).map Lib.itoa = (T.take j).map Lib.itoa ++ [Lib.itoa T[j]] by rw [List.take_succ_eq_append_getElem hjl, List.map_append]; rfl)
              obtain ⟨y, hy⟩ : ∃ y, T[j] = y := ⟨_, rfl⟩
              rw [hy] at d5 RR hds HTS
              have HDY := Lib.hid (dec_list y)
              obtain ⟨dy, hdy⟩ : ∃ dy, dec y = dy := ⟨_, rfl⟩
              rw [hdy] at RR hds HDY
              clear hcc hy hi hdy
              by_cases hj0 : j = 0
              · have hjz : ¬ 0 < j := by omega
                have HJ0 := Lib.hid hj0
                clear hj0
                go_wp2_with (first | (go_at_call 45; (with_reducible refine (RR _).mono ?_); rintro e w' ⟨rfl, hx⟩; obtain ⟨g, rfl⟩ := hx.grow; clear hx))
                go_roundw
                case rel => exact ⟨j + 1, _, by omega, by go_num, rfl, by simp only [ByteArray.size_append']; omega, ExtC.ext, Lib.hid (by rw [ByteArray.data_append, Array.toList_append, HS'.out, HDY.out]; unfold decs; rw [HTS.out, HJ0.out]; simp [Lib.join_one, Lib.join_nil])⟩
                case measure => simp [intOf]; omega
              · have hjz : 0 < j := by omega
                have HJ0 := Lib.hid (show (T.take j).map Lib.itoa ≠ [] by intro e; have := congrArg List.length e; rw [List.length_map, List.length_take, List.length_nil] at this; omega)
                clear hj0
                go_wp2_with (first | (go_at_call 45; (with_reducible refine (RR _).mono ?_); rintro e w' ⟨rfl, hx⟩; obtain ⟨g, rfl⟩ := hx.grow; clear hx))
                go_roundw
                case rel => exact ⟨j + 1, _, by omega, by go_num, rfl, by simp only [ByteArray.size_append', ByteArray.size_mk', List.size_toArray, List.length_cons, List.length_nil]; omega, ExtC.ext, Lib.hid (by rw [ByteArray.data_append, Array.toList_append, ByteArray.data_append, Array.toList_append, HS'.out, HDY.out]; unfold decs; rw [HTS.out, join_snoc HJ0.out]; simp [List.append_assoc])⟩
                case measure => simp [intOf]; omega
            · have e : j = T.length := by omega
              have HF := Lib.hid (show s'.data.toList = Lib.join ((L.take (k + 1)).map vtxt) [32] by rw [HS'.out, HJ.out, e, List.take_length]; exact (HP.out _).symm)
              have hsl : s'.size ≤ 100 * (k + 1) := by omega
              go_wp2_with fail
              go_roundw
              case rel => exact ⟨k + 1, s', by omega, by go_num, rfl, hsl, ExtC.ext, HF⟩
              case measure => simp [intOf]; omega
    · have e : k = L.length := by omega
      have HF := Lib.hid (bytes_eq (show s.data.toList = vtexts L by rw [HS.out, e, List.take_length]; rfl))
      go_wp2_with fail
      go_ret
      exact ⟨congrArg (fun b => Ending.returned (.string b)) HF.out, ExtC.ext⟩

end Go.Proofs.YthcomgnokkndgaaDoor
