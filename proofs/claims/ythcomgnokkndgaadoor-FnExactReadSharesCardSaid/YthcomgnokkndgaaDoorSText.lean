/- The text of a list of shares, on both sides. -/
import Derived.Test.YthcomgnokkndgaaDoorStr
import Derived.Test.YthcomgnokkndgaaDoorShares
import Derived.Test.YthcomgnokkndgaaDoorVText
import Derived.Test.YthcomgnokkndgaaDoorMade
namespace Go.Proofs.YthcomgnokkndgaaDoor
open Go.RowKit

def ptxt (x : Int × Int) : List UInt8 := Lib.itoa x.1 ++ 58 :: Lib.itoa x.2
def stxt (xs : SD) : List UInt8 := Lib.join (xs.map ptxt) [44]
def stexts (L : List SD) : List UInt8 := Lib.join (L.map stxt) [59]
open Classical in
noncomputable def sokB (L : List SD) : Bool := decide (OkS L)
theorem sokB_iff {L : List SD} {b : Bool} (h : sokB L = b) : b = true ↔ OkS L := by subst h; simp [sokB]
open Classical in
noncomputable def stextX (L : List SD) : ByteArray := if OkS L then ⟨(stexts L).toArray⟩ else ⟨#[]⟩
theorem psum_ge : ∀ (xs : SD), (∀ x ∈ xs, 1 ≤ x.2) → (xs.length : Int) ≤ psum xs
  | [], _ => by simp [psum]
  | x :: xs, h => by
    have h1 := h x (List.mem_cons_self ..)
    have h2 := psum_ge xs fun y hy => h y (List.mem_cons_of_mem _ hy)
    have e : psum (x :: xs) = x.2 + psum xs := by simp [psum]
    rw [e]; simp only [List.length_cons]; omega
theorem OkS.row {L : List SD} (hok : OkS L) {k : Nat} (hk : k < L.length) : (∀ x ∈ L[k], I64' x.1 ∧ I64' x.2) ∧ L[k].length ≤ 12 := by
  have hl := hok.2
  have hp := hok.1 k hk
  refine ⟨fun x hx => ?_, ?_⟩
  · obtain ⟨j, hj, rfl⟩ := List.getElem_of_mem hx
    have h := hp.1 j hj
    exact ⟨⟨by have := h.1; omega, by have := h.1; omega⟩, by have := h.2.2.2; omega, by have := h.2.2.2; omega⟩
  · have := psum_ge L[k] fun x hx => by
      obtain ⟨j, hj, rfl⟩ := List.getElem_of_mem hx
      exact (hp.1 j hj).2.2.2.1
    have := hp.2
    omega
theorem ptxt_len {x : Int × Int} (h : I64' x.1 ∧ I64' x.2) : (ptxt x).length ≤ 43 := by
  have h1 := Lib.itoa_length_le x.1 h.1.1 h.1.2
  have h2 := Lib.itoa_length_le x.2 h.2.1 h.2.2
  unfold ptxt
  simp only [List.length_append, List.length_cons]; omega
theorem stxt_len {xs : SD} (h : (∀ x ∈ xs, I64' x.1 ∧ I64' x.2) ∧ xs.length ≤ 12) : (stxt xs).length ≤ 528 := by
  have := join_len (M := 43) 44 (L := xs.map ptxt) (fun y hy => by
    obtain ⟨x, hx, rfl⟩ := List.mem_map.1 hy
    exact ptxt_len (h.1 x hx))
  rw [List.length_map] at this
  unfold stxt; omega
theorem stexts_len {L : List SD} (hok : OkS L) : (stexts L).length ≤ 4000 := by
  have hl := hok.2
  have := join_len (M := 528) 59 (L := L.map stxt) (fun y hy => by
    obtain ⟨x, hx, rfl⟩ := List.mem_map.1 hy
    obtain ⟨k, hk, rfl⟩ := List.getElem_of_mem hx
    exact stxt_len (hok.row hk))
  rw [List.length_map] at this
  unfold stexts; omega
theorem ptake_succ {P : SD} {j : Nat} (h : j < P.length) : (P.take (j + 1)).map ptxt = (P.take j).map ptxt ++ [ptxt P[j]] := by
  rw [List.take_succ_eq_append_getElem h, List.map_append]; rfl
theorem stake_succ {L : List SD} {k : Nat} (h : k < L.length) : (L.take (k + 1)).map stxt = (L.take k).map stxt ++ [stxt L[k]] := by
  rw [List.take_succ_eq_append_getElem h, List.map_append]; rfl
theorem str_add (a b : ByteArray) (h : a.size + b.size ≤ 9223372036854775807) : ∀ x, (binOp .add 9 (.string a) (.string b)).run Tryd.prog x = .ok (.string (a ++ b)) x := by
  intro x
  simp [binOp, run_string_add_sum x a b h]
theorem cell_str {w : World} {s : ByteArray} {T : TypeId} (g : Grow (w.alloc (.cells #[.string s] T))) : g.fin.cell? ((⟨w.heap.size, 0, none⟩ : Addr).add 0) = some (.string s) := by
  rw [add_plain', Below.cell g.ext (by simp), World.cell?_alloc_at _ _ _ _ rfl]; rfl
theorem pair_bytes (a b : Int) : (dec a ++ ⟨#[58]⟩ ++ dec b).data.toList = ptxt (a, b) := by
  rw [ByteArray.data_append, Array.toList_append, ByteArray.data_append, Array.toList_append, dec_list, dec_list]
  simp [ptxt]
theorem join_of {w : World} (og oc : Nat) (C : List ByteArray) (c : UInt8) {lo : Nat} (h : OwnT lo w og oc C) (X : List (List UInt8)) (hC : C.map (·.data.toList) = X) (hl : (Lib.join X [c]).length ≤ 100000) (hn : C.length ≤ 100000) :
    Calls Tryd.prog 52 #[.slice (some ⟨og, 0, none⟩) C.length oc, .string ⟨#[c]⟩] w fun e w' => e = .returned (.string ⟨(Lib.join X [c]).toArray⟩) ∧ Ext w w' := by
  subst hC
  exact Tryd.strings_Join og 0 oc C ⟨#[c]⟩ w (fun j x hj => by rw [Nat.zero_add]; exact h.cell j x hj) h.lt.2 (by omega) h.cap (by have e2 : (⟨#[c]⟩ : ByteArray).data.toList = [c] := rfl; rw [e2]; omega)

set_option maxHeartbeats 8000000 in
set_option maxRecDepth 100000 in
theorem impl_SharesText' (v : Value) (L : List SD) (w : World) (h : RowsS shareKind w v L) (hs : ShortRows L) (hsm : ∀ i (h : i < L.length), L[i].length ≤ 1048576) (b : Bool) (hb : sokB L = b) (s : ByteArray) (hsx : stextX L = s) (hp : Pow w) :
    Calls Tryd.prog 27 #[v] w fun e w' => e = .returned (.tuple #[.string s, .bool b]) ∧ Ext w w' := by
  have H1 := fun x (hx : Ext w x) => (impl_ValidShares v L x (h.ext hx) hs hsm).mono fun e w' (h : RetB (OkS L) e ∧ Ext x w') => (⟨h.1.toldV (sokB_iff hb), h.2⟩ : e = .returned (.bool b) ∧ Ext x w')
  cases b
  · have HN := Lib.hid (show s = ⟨#[]⟩ by rw [← hsx]; unfold stextX; rw [if_neg (by rw [← sokB_iff hb]; simp)])
    clear hb hsx hp
    go_enter Tryd.func27, Tryd.ntmps27
    go_wp2_with (first | (go_at_call 51; (with_reducible refine (H1 _ ExtC.ext).mono ?_); rintro e w' ⟨rfl, hx⟩; obtain ⟨g, rfl⟩ := hx.grow; clear hx))
    refine bodyPost_ret (v := .tuple #[.string ⟨#[]⟩, .bool false]) (by simp [results, Tryd.results27, go_sem]) rfl ?_
    exact ⟨by rw [HN.out], ExtC.ext⟩
  have hok := (sokB_iff hb).1 rfl
  have HN := Lib.hid (show s = ⟨(stexts L).toArray⟩ by rw [← hsx]; unfold stextX; rw [if_pos hok])
  have hl := hok.2
  have HK := Lib.hid hok
  have HLEN := Lib.hid (stexts_len hok)
  have HD := fun (n : Int) (hn : I64' n) x (hx : Ext w x) => impl_Decimal n hn.1 hn.2 x (hp.ext hx)
  obtain ⟨vb, vo, vc, rfl, -, ivb, hc⟩ := h
  have HC := Lib.hid hc
  clear hb hsx hok hc hp
  go_enter Tryd.func27, Tryd.ntmps27
  go_wp2_with (first | (go_at_call 51; (with_reducible refine (H1 _ ExtC.ext).mono ?_); rintro e w' ⟨rfl, hx⟩; obtain ⟨g, rfl⟩ := hx.grow; clear hx))
  clear H1
  go_loopw [4, 16] (fun o i wr => ∃ (k og oc : Nat) (C : List ByteArray), k ≤ L.length ∧ i = .int .i64 k ∧ o = .slice (some ⟨og, 0, none⟩) C.length oc ∧ C.length ≤ k ∧ Ext w wr ∧ Hid (C.map (·.data.toList) = (L.take k).map stxt) ∧ Hid (OwnT w.heap.size wr og oc C)) (fun _ i _ => L.length - (intOf i).toNat)
  case atStart => exact ⟨0, g.fin.heap.size, 0, [], Nat.zero_le _, rfl, rfl, Nat.le_refl _, ExtC.ext, Lib.hid (by simp), Lib.hid (OwnT.empty g.fin w.heap.size (ExtC.ext : Ext w g.fin).size)⟩
  case round =>
    obtain ⟨k, og, oc, C, hk, rfl, rfl, hC, hx, HCk, HO⟩ := hrel
    obtain ⟨ga, rfl⟩ := hx.grow; clear hx
    by_cases hlt : k < L.length
    · obtain ⟨t, c2, c3⟩ := HC.out k hlt
      have HST := Lib.hid (stake_succ hlt)
      have HR := Lib.hid (HK.out.row hlt)
      have hp12 := (HK.out.row hlt).2
      have hsl := stxt_len (HK.out.row hlt)
      obtain ⟨P, hP⟩ : ∃ P, L[k] = P := ⟨_, rfl⟩
      rw [hP] at c3 HST HR hp12 hsl
      obtain ⟨p, tc, rfl, htc, d4⟩ := RP.form c3
      have D4 := Lib.hid d4
      clear c3 d4 hP
      go_wp2_with fail
      go_loopw [7, 23] (fun o i wr => ∃ (j tg tc : Nat) (E : List ByteArray), j ≤ P.length ∧ i = .int .i64 j ∧ o = .slice (some ⟨tg, 0, none⟩) E.length tc ∧ E.length ≤ j ∧ Ext ga.fin wr ∧ Hid (E.map (·.data.toList) = (P.take j).map ptxt) ∧ Hid (OwnT ga.fin.heap.size wr tg tc E)) (fun _ i _ => P.length - (intOf i).toNat)
      case atStart => exact ⟨0, ga.fin.heap.size, 0, [], Nat.zero_le _, rfl, rfl, Nat.le_refl _, ExtC.ext, Lib.hid (by simp), Lib.hid (OwnT.empty ga.fin ga.fin.heap.size (Nat.le_refl _))⟩
      case round =>
        obtain ⟨j, tg, tc', E, hj, rfl, rfl, hE, hx, HEj, HT⟩ := hrel
        obtain ⟨g1, rfl⟩ := hx.grow; clear hx
        by_cases hjl : j < P.length
        · obtain ⟨b', off', hpp, ib', c'⟩ := D4.out (by omega)
          subst hpp
          obtain ⟨d5, d6⟩ := c' j hjl
          have hi := HR.out.1 P[j] (List.getElem_mem hjl)
          have HTS := Lib.hid (ptake_succ hjl)
          obtain ⟨⟨n1, n2⟩, hy⟩ : ∃ y, P[j] = y := ⟨_, rfl⟩
          rw [hy] at d5 d6 hi HTS
          dsimp only at d5 d6 hi
          have R1 := HD n1 hi.1
          have R2 := HD n2 hi.2
          have s1 := dec_size n1 hi.1.1 hi.1.2
          have s2 := dec_size n2 hi.2.1 hi.2.2
          have HPB := Lib.hid (pair_bytes n1 n2)
          obtain ⟨a1, ha1⟩ : ∃ a, dec n1 = a := ⟨_, rfl⟩
          obtain ⟨a2, ha2⟩ : ∃ a, dec n2 = a := ⟨_, rfl⟩
          rw [ha1] at R1 s1 HPB
          rw [ha2] at R2 s2 HPB
          clear c' hy hi ha1 ha2
          have hb1 : ¬ 9223372036854775806 < a1.size := by omega
          have hb2 : ¬ 9223372036854775807 < a1.size + 1 := by omega
          have hb3 : ¬ 9223372036854775807 < a1.size + 1 + a2.size := by omega
          have hb4 : a1.size ≤ 9223372036854775806 := by omega
          have hb5 : a1.size + 1 + a2.size ≤ 9223372036854775807 := by omega
          go_wp2_with fail
          refine wp_region_made 9 [(.tmp 35, .string (a1 ++ ⟨#[58]⟩ ++ a2))] (.cells #[.string (a1 ++ ⟨#[58]⟩ ++ a2)] 9) (fun b => .slice (some ⟨b, 0, none⟩) 1 1) (by kernel_rfl) (by kernel_rfl) rfl rfl (by simp [Op.operands]) ?hmk ?_
          case hmk => intro ev x hx hs; have e0 := hs _ (List.mem_cons_self ..); simp [go_sem, e0]
          simp only [List.take_succ_cons, List.take_zero, List.drop_succ_cons, List.drop_zero]
          repeat (refine wpQuietE_step (fun K hK => ?_); go_simp; first | (refine hK _ ?_; clear hK K) | (apply Exists.intro; refine ⟨fun _ => ?_, hK _ ?_⟩; (first | (go_at_call 49; first | exact growE_of (R1 _ ExtC.ext) | exact growE_of (R2 _ ExtC.ext))); clear hK K))
          refine wpQuietE_nil ?_
          refine ⟨by first | (simp [Holds']; done) | (simp [Holds', Act.eval]; done) | (simp [Holds', go_sem]; done), ?_⟩; intro b g0 g hb; subst hb
          simp only [Act.put]
          (at_builtin; refine app_str (w0 := ga.fin) (lo := ga.fin.heap.size) _ _ tg tc' E ⟨g0.fin.heap.size, 0, none⟩ 1 (a1 ++ ⟨#[58]⟩ ++ a2) rfl rfl rfl (HT.out.ext ExtC.ext) rfl (cell_str g) (by omega) ExtC.ext (Nat.le_refl _) ?_; intro g' c' w' ho hx; obtain ⟨g3, rfl⟩ := hx.grow; clear hx; have HO2 := Lib.hid ho; clear ho)
          go_wp2_with fail
          go_roundw
          case rel => exact ⟨j + 1, g', c', E ++ [a1 ++ ⟨#[58]⟩ ++ a2], by omega, by go_num, by simp, by simp; omega, ExtC.ext, Lib.hid (by rw [List.map_append, HTS.out, HEj.out, ← HPB.out]; rfl), HO2⟩
          case measure => simp [intOf]; omega
        · have e : j = P.length := by omega
          have HF := Lib.hid (show E.map (·.data.toList) = P.map ptxt by rw [HEj.out, e, List.take_length])
          have RJ := fun y (hy : Ext g1.fin y) => join_of tg tc' E 44 (HT.out.ext hy) (P.map ptxt) HF.out (by have : (Lib.join (P.map ptxt) [44]).length ≤ 528 := hsl; omega) (by omega)
          have HSB := Lib.hid (show (⟨(Lib.join (P.map ptxt) [44]).toArray⟩ : ByteArray).data.toList = stxt P by simp [stxt])
          obtain ⟨S, hS⟩ : ∃ S : ByteArray, ⟨(Lib.join (P.map ptxt) [44]).toArray⟩ = S := ⟨_, rfl⟩
          rw [hS] at RJ HSB
          clear hS e
          go_wp2_with (first | (go_at_call 52; (with_reducible refine (RJ _ ExtC.ext).mono ?_); rintro e w' ⟨rfl, hx⟩; obtain ⟨g, rfl⟩ := hx.grow; clear hx) | (at_builtin; refine app_str (w0 := w) (lo := w.heap.size) _ _ og oc C ⟨g.fin.heap.size, 0, none⟩ 1 S rfl rfl rfl (HO.out.ext ExtC.ext) rfl (cell_new _ _ _) (by omega) ExtC.ext (Nat.le_refl _) ?_; intro g' c' w' ho hx; obtain ⟨g3, rfl⟩ := hx.grow; clear hx; have HO2 := Lib.hid ho; clear ho))
          go_roundw
          case rel => exact ⟨k + 1, g', c', C ++ [S], by omega, by go_num, by simp, by simp; omega, ExtC.ext, Lib.hid (by rw [List.map_append, HST.out, HCk.out, ← HSB.out]; rfl), HO2⟩
          case measure => simp [intOf]; omega
    · have e : k = L.length := by omega
      have HF := Lib.hid (show C.map (·.data.toList) = L.map stxt by rw [HCk.out, e, List.take_length])
      have RJ := fun y (hy : Ext ga.fin y) => (join_of og oc C 59 (HO.out.ext hy) (L.map stxt) HF.out (by have := HLEN.out; unfold stexts at this; omega) (by omega)).mono fun e w' (h : e = .returned (.string ⟨(Lib.join (L.map stxt) [59]).toArray⟩) ∧ Ext y w') => (⟨by rw [h.1, HN.out]; rfl, h.2⟩ : e = .returned (.string s) ∧ Ext y w')
      clear HD e
      go_wp2_with (first | (go_at_call 52; (with_reducible refine (RJ _ ExtC.ext).mono ?_); rintro e w' ⟨rfl, hx⟩; obtain ⟨g, rfl⟩ := hx.grow; clear hx))
      refine bodyPost_ret (v := .tuple #[.string s, .bool true]) (by simp [results, Tryd.results27, go_sem]) rfl ?_
      exact ⟨rfl, ExtC.ext⟩

set_option maxHeartbeats 8000000 in
set_option maxRecDepth 100000 in
theorem spec_l03Text (v : Value) (L : List SD) (w : World) (h : RowsS shareKind w v L) (hok : OkS L) :
    Calls Tryd.prog 23 #[v] w fun e w' => e = .returned (.string ⟨(stexts L).toArray⟩) ∧ Ext w w' := by
  have hl := hok.2
  have HK := Lib.hid hok
  have R := fun (x : Int) (hx : I64' x) y => spec_l01Dec x hx.1 hx.2 y
  obtain ⟨vb, vo, vc, rfl, -, ivb, hc⟩ := h
  have HC := Lib.hid hc
  clear hok hc
  go_enter Tryd.func23, Tryd.ntmps23
  go_wp2_with fail
  go_loopw [3, 4] (fun o i wr => ∃ (k : Nat) (s : ByteArray), k ≤ L.length ∧ i = .int .i64 k ∧ o = .string s ∧ s.size ≤ 600 * k ∧ Ext w wr ∧ Hid (s.data.toList = Lib.join ((L.take k).map stxt) [59])) (fun _ i _ => L.length - (intOf i).toNat)
  case atStart => exact ⟨0, ⟨#[]⟩, Nat.zero_le _, rfl, rfl, by simp [ByteArray.size], ExtC.ext, Lib.hid (by simp [Lib.join_nil])⟩
  case round =>
    obtain ⟨k, s, hk, rfl, rfl, hss, hx, HS⟩ := hrel
    obtain ⟨g0, rfl⟩ := hx.grow; clear hx
    by_cases hlt : k < L.length
    · obtain ⟨t, c2, c3⟩ := HC.out k hlt
      have HST := Lib.hid (stake_succ hlt)
      have HR := Lib.hid (HK.out.row hlt)
      have hp12 := (HK.out.row hlt).2
      obtain ⟨P, hP⟩ : ∃ P, L[k] = P := ⟨_, rfl⟩
      rw [hP] at c3 HST HR hp12
      obtain ⟨p, tc, rfl, htc, d4⟩ := RP.form c3
      have D4 := Lib.hid d4
      clear c3 d4 hP
      by_cases hk0 : k = 0
      · have hz : ¬ 0 < k := by omega
        have HJ : Hid (Lib.join ((L.take (k + 1)).map stxt) [59] = [] ++ stxt P) := Lib.hid (by rw [HST.out]; rw [hk0]; simp [Lib.join_one])
        have hk0' := Lib.hid hk0
        clear hk0
        go_wp2_with fail
        go_loopw [3, 5] (fun o i wr => ∃ (j : Nat) (s' : ByteArray), j ≤ P.length ∧ i = .int .i64 j ∧ o = .string s' ∧ s'.size ≤ 600 * k + 1 + 44 * j ∧ Ext w wr ∧ Hid (s'.data.toList = [] ++ Lib.join ((P.take j).map ptxt) [44])) (fun _ i _ => P.length - (intOf i).toNat)
        case atStart => exact ⟨0, s, Nat.zero_le _, rfl, rfl, by first | omega | (simp only [ByteArray.size_append', ByteArray.size_mk', List.size_toArray, List.length_cons, List.length_nil]; omega), ExtC.ext, Lib.hid (by rw [HS.out, hk0'.out]; simp [Lib.join_nil])⟩
        case round =>
          obtain ⟨j, s', hj, rfl, rfl, hs', hx, HS'⟩ := hrel
          obtain ⟨g1, rfl⟩ := hx.grow; clear hx
          by_cases hjl : j < P.length
          · obtain ⟨b', off', hpp, ib', c'⟩ := D4.out (by omega)
            subst hpp
            obtain ⟨d5, d6⟩ := c' j hjl
            have hi := HR.out.1 P[j] (List.getElem_mem hjl)
            have HTS := Lib.hid (ptake_succ hjl)
            obtain ⟨⟨n1, n2⟩, hy⟩ : ∃ y, P[j] = y := ⟨_, rfl⟩
            rw [hy] at d5 d6 hi HTS
            dsimp only at d5 d6 hi
            have R1 := R n1 hi.1
            have R2 := R n2 hi.2
            have s1 := dec_size n1 hi.1.1 hi.1.2
            have s2 := dec_size n2 hi.2.1 hi.2.2
            have HPB := Lib.hid (pair_bytes n1 n2)
            obtain ⟨a1, ha1⟩ : ∃ a, dec n1 = a := ⟨_, rfl⟩
            obtain ⟨a2, ha2⟩ : ∃ a, dec n2 = a := ⟨_, rfl⟩
            rw [ha1] at R1 s1 HPB
            rw [ha2] at R2 s2 HPB
            clear c' hy hi ha1 ha2
            by_cases hj0 : j = 0
            · have hjz : ¬ 0 < j := by omega
              have HJ0 := Lib.hid hj0
              clear hj0
              go_wp2_with fail
              refine wp_region_grow (by kernel_rfl) (by kernel_rfl) ?_
              repeat (go_big_quiet_step ((first | (go_at_call 45; first | with_reducible exact grow_of (R1 _) | with_reducible exact grow_of (R2 _)))))
              refine wpQuiet_nil ?_
              intro _ hw'
              obtain ⟨g, hw''⟩ := hw'
              subst hw''
              go_wp2_with fail
              go_roundw
              case rel => exact ⟨j + 1, s' ++ (a1 ++ ⟨#[58]⟩ ++ a2), by omega, by go_num, rfl, by simp only [ByteArray.size_append', ByteArray.size_mk', List.size_toArray, List.length_cons, List.length_nil]; omega, ExtC.ext, Lib.hid (by rw [ByteArray.data_append, Array.toList_append, HS'.out, HPB.out, HTS.out, HJ0.out]; simp [Lib.join_one, Lib.join_nil])⟩
              case measure => simp [intOf]; omega
            · have hjz : 0 < j := by omega
              have HJ0 := Lib.hid (show (P.take j).map ptxt ≠ [] by intro e; have := congrArg List.length e; rw [List.length_map, List.length_take, List.length_nil] at this; omega)
              clear hj0
              go_wp2_with fail
              refine wp_region_grow (by kernel_rfl) (by kernel_rfl) ?_
              repeat (go_big_quiet_step ((first | (go_at_call 45; first | with_reducible exact grow_of (R1 _) | with_reducible exact grow_of (R2 _)))))
              refine wpQuiet_nil ?_
              intro _ hw'
              obtain ⟨g, hw''⟩ := hw'
              subst hw''
              go_wp2_with fail
              go_roundw
              case rel => exact ⟨j + 1, s' ++ ⟨#[44]⟩ ++ (a1 ++ ⟨#[58]⟩ ++ a2), by omega, by go_num, rfl, by simp only [ByteArray.size_append', ByteArray.size_mk', List.size_toArray, List.length_cons, List.length_nil]; omega, ExtC.ext, Lib.hid (by rw [ByteArray.data_append, Array.toList_append, ByteArray.data_append, Array.toList_append, HS'.out, HPB.out, HTS.out, join_snoc HJ0.out]; simp [List.append_assoc])⟩
              case measure => simp [intOf]; omega
          · have e : j = P.length := by omega
            have HF := Lib.hid (show s'.data.toList = Lib.join ((L.take (k + 1)).map stxt) [59] by rw [HS'.out, HJ.out, e, List.take_length]; rfl)
            have hsl : s'.size ≤ 600 * (k + 1) := by omega
            go_wp2_with fail
            go_roundw
            case rel => exact ⟨k + 1, s', by omega, by go_num, rfl, hsl, ExtC.ext, HF⟩
            case measure => simp [intOf]; omega
      · have hz :  0 < k := by omega
        have HJ : Hid (Lib.join ((L.take (k + 1)).map stxt) [59] = (Lib.join ((L.take k).map stxt) [59] ++ [59]) ++ stxt P) := Lib.hid (by rw [HST.out]; rw [join_snoc (by intro e; have := congrArg List.length e; rw [List.length_map, List.length_take, List.length_nil] at this; omega)])
        have hk0' := Lib.hid hk0
        clear hk0
        go_wp2_with fail
        go_loopw [3, 5] (fun o i wr => ∃ (j : Nat) (s' : ByteArray), j ≤ P.length ∧ i = .int .i64 j ∧ o = .string s' ∧ s'.size ≤ 600 * k + 1 + 44 * j ∧ Ext w wr ∧ Hid (s'.data.toList = (Lib.join ((L.take k).map stxt) [59] ++ [59]) ++ Lib.join ((P.take j).map ptxt) [44])) (fun _ i _ => P.length - (intOf i).toNat)
        case atStart => exact ⟨0, (s ++ ⟨#[59]⟩), Nat.zero_le _, rfl, rfl, by first | omega | (simp only [ByteArray.size_append', ByteArray.size_mk', List.size_toArray, List.length_cons, List.length_nil]; omega), ExtC.ext, Lib.hid (by rw [ByteArray.data_append, Array.toList_append, HS.out]; simp [Lib.join_nil])⟩
        case round =>
          obtain ⟨j, s', hj, rfl, rfl, hs', hx, HS'⟩ := hrel
          obtain ⟨g1, rfl⟩ := hx.grow; clear hx
          by_cases hjl : j < P.length
          · obtain ⟨b', off', hpp, ib', c'⟩ := D4.out (by omega)
            subst hpp
            obtain ⟨d5, d6⟩ := c' j hjl
            have hi := HR.out.1 P[j] (List.getElem_mem hjl)
            have HTS := Lib.hid (ptake_succ hjl)
            obtain ⟨⟨n1, n2⟩, hy⟩ : ∃ y, P[j] = y := ⟨_, rfl⟩
            rw [hy] at d5 d6 hi HTS
            dsimp only at d5 d6 hi
            have R1 := R n1 hi.1
            have R2 := R n2 hi.2
            have s1 := dec_size n1 hi.1.1 hi.1.2
            have s2 := dec_size n2 hi.2.1 hi.2.2
            have HPB := Lib.hid (pair_bytes n1 n2)
            obtain ⟨a1, ha1⟩ : ∃ a, dec n1 = a := ⟨_, rfl⟩
            obtain ⟨a2, ha2⟩ : ∃ a, dec n2 = a := ⟨_, rfl⟩
            rw [ha1] at R1 s1 HPB
            rw [ha2] at R2 s2 HPB
            clear c' hy hi ha1 ha2
            by_cases hj0 : j = 0
            · have hjz : ¬ 0 < j := by omega
              have HJ0 := Lib.hid hj0
              clear hj0
              go_wp2_with fail
              refine wp_region_grow (by kernel_rfl) (by kernel_rfl) ?_
              repeat (go_big_quiet_step ((first | (go_at_call 45; first | with_reducible exact grow_of (R1 _) | with_reducible exact grow_of (R2 _)))))
              refine wpQuiet_nil ?_
              intro _ hw'
              obtain ⟨g, hw''⟩ := hw'
              subst hw''
              go_wp2_with fail
              go_roundw
              case rel => exact ⟨j + 1, s' ++ (a1 ++ ⟨#[58]⟩ ++ a2), by omega, by go_num, rfl, by simp only [ByteArray.size_append', ByteArray.size_mk', List.size_toArray, List.length_cons, List.length_nil]; omega, ExtC.ext, Lib.hid (by rw [ByteArray.data_append, Array.toList_append, HS'.out, HPB.out, HTS.out, HJ0.out]; simp [Lib.join_one, Lib.join_nil])⟩
              case measure => simp [intOf]; omega
            · have hjz : 0 < j := by omega
              have HJ0 := Lib.hid (show (P.take j).map ptxt ≠ [] by intro e; have := congrArg List.length e; rw [List.length_map, List.length_take, List.length_nil] at this; omega)
              clear hj0
              go_wp2_with fail
              refine wp_region_grow (by kernel_rfl) (by kernel_rfl) ?_
              repeat (go_big_quiet_step ((first | (go_at_call 45; first | with_reducible exact grow_of (R1 _) | with_reducible exact grow_of (R2 _)))))
              refine wpQuiet_nil ?_
              intro _ hw'
              obtain ⟨g, hw''⟩ := hw'
              subst hw''
              go_wp2_with fail
              go_roundw
              case rel => exact ⟨j + 1, s' ++ ⟨#[44]⟩ ++ (a1 ++ ⟨#[58]⟩ ++ a2), by omega, by go_num, rfl, by simp only [ByteArray.size_append', ByteArray.size_mk', List.size_toArray, List.length_cons, List.length_nil]; omega, ExtC.ext, Lib.hid (by rw [ByteArray.data_append, Array.toList_append, ByteArray.data_append, Array.toList_append, HS'.out, HPB.out, HTS.out, join_snoc HJ0.out]; simp [List.append_assoc])⟩
              case measure => simp [intOf]; omega
          · have e : j = P.length := by omega
            have HF := Lib.hid (show s'.data.toList = Lib.join ((L.take (k + 1)).map stxt) [59] by rw [HS'.out, HJ.out, e, List.take_length]; rfl)
            have hsl : s'.size ≤ 600 * (k + 1) := by omega
            go_wp2_with fail
            go_roundw
            case rel => exact ⟨k + 1, s', by omega, by go_num, rfl, hsl, ExtC.ext, HF⟩
            case measure => simp [intOf]; omega
    · have e : k = L.length := by omega
      have HF := Lib.hid (bytes_eq (show s.data.toList = stexts L by rw [HS.out, e, List.take_length]; rfl))
      go_wp2_with fail
      go_ret
      exact ⟨congrArg (fun b => Ending.returned (.string b)) HF.out, ExtC.ext⟩

end Go.Proofs.YthcomgnokkndgaaDoor
