/- A list of shares read from its text: the reference's side. -/
import Derived.Test.YthcomgnokkndgaaDoorReadSC
namespace Go.Proofs.YthcomgnokkndgaaDoor
open Go.RowKit

theorem drop_head {s : ByteArray} {k : Nat} (h : k < s.size) : (s.data.toList.drop k).head? = some s[k] := by
  rw [List.head?_drop, List.getElem?_eq_getElem (by rw [size_list]; exact h), get_list s k h]
theorem drop_headN {s : ByteArray} {k : Nat} (h : ¬ k < s.size) : (s.data.toList.drop k).head? = none := by
  rw [List.head?_drop, List.getElem?_eq_none (by rw [size_list]; omega)]

theorem cell_twoA (x : World) (u v : Value) (T : TypeId) : (x.alloc (.cells #[u, v] T)).cell? ((⟨x.heap.size, 0, none⟩ : Addr).add 0) = some u := by
  rw [add_plain', World.cell?_alloc_at _ _ _ _ rfl]; rfl
theorem cell_twoB (x : World) (u v : Value) (T : TypeId) : (x.alloc (.cells #[u, v] T)).cell? ((⟨x.heap.size, 0, none⟩ : Addr).add 1) = some v := by
  rw [add_plain', World.cell?_alloc_at _ _ _ _ rfl]; rfl
theorem OwnP.tight {lo a b : Nat} {w : World} {v : Value} {xs : SD} (h : OwnP a b w v xs) (hl : lo ≤ w.heap.size) (hla : lo ≤ a) :
    ∃ a2 b2, OwnP a2 b2 w v xs ∧ lo ≤ a2 ∧ a2 ≤ w.heap.size ∧ ∀ g, a2 ≤ g ∧ g < b2 → a ≤ g ∧ g < b := by
  rcases h with h | ⟨g, cap, cs, rfl, h1, h2, how, hc⟩
  · exact ⟨lo, lo, .inl h, Nat.le_refl _, hl, fun g hg => by omega⟩
  · have := (how.lt g rfl).2
    exact ⟨a, b, .inr ⟨g, cap, cs, rfl, h1, h2, how, hc⟩, hla, by omega, fun g hg => hg⟩
theorem set_last {C C0 : List SD} {D : SD} {ln : Nat} {x : SD} (e : C = C0 ++ [D]) (hl : C.length = ln + 1) (h : ln < C.length) : C.set ln (C[ln] ++ x) = C0 ++ [D ++ x] := by
  subst e
  have : ln = C0.length := by simp at hl; omega
  subst this
  simp
theorem set_small {C : List SD} {ln k q S : Nat} {x : Int × Int} (h : ∀ r ∈ C, r.length ≤ k ∧ r.length ≤ S) (hq : k + 1 ≤ q) (hkS : k < S) (hl : ln < C.length) : ∀ r ∈ C.set ln (C[ln] ++ [x]), r.length ≤ q ∧ r.length ≤ S := fun r hr => by
  rcases List.mem_or_eq_of_mem_set hr with e | e
  · have := h r e; omega
  · have := h C[ln] (List.getElem_mem hl)
    rw [e, List.length_append, List.length_singleton]; omega

set_option maxHeartbeats 16000000 in
set_option maxRecDepth 100000 in
theorem spec_ReadShares' (s : ByteArray) (w : World) (hs : s.size ≤ 1048576) (L : List SD) (b : Bool) (hv : SharesIs s L b) :
    Calls Tryd.prog 6 #[.string s] w fun e w' => ∃ v', e = .returned (.tuple #[v', .bool b]) ∧ OwnR shareKind 40 w.heap.size w'.heap.size w' v' L ∧ Ext w w' := by
  have HRET := Lib.hid (fun (P : b = true → False) => (by
    rcases hv with ⟨k0, -, -⟩ | ⟨k0, k1, -⟩
    · exact absurd k0 P
    · exact ⟨k0, k1⟩ : b = false ∧ L = []))
  have HV := Lib.hid hv
  have RC := fun (a n m : Nat) (ha : a ≤ 1048600) (hn : valD (dg2 (s.data.toList.drop a)) = n) (hm : a + (dg2 (s.data.toList.drop a)).length = m) y => spec_l03Count s a y hs ha n m hn hm
  clear hv
  go_enter Tryd.func6, Tryd.ntmps6
  go_wp2_with fail
  go_loopw [4, 5] (fun o i wr => ∃ (k ln og oc : Nat) (C : List SD), k ≤ s.size + 2 ∧ i = .int .i64 k ∧ o = .slice (some ⟨og, 0, none⟩) (ln + 1) oc ∧ ln ≤ 6 ∧ Ext w wr ∧ Hid (C.length = ln + 1) ∧ Hid (OwnR shareKind 40 w.heap.size wr.heap.size wr (.slice (some ⟨og, 0, none⟩) (ln + 1) oc) C) ∧ Hid (∀ M, OkS M → stexts M = s.data.toList → Rd s.data.toList M C k) ∧ Hid (∀ r ∈ C, r.length ≤ k ∧ r.length ≤ s.size)) (fun _ i _ => s.size + 2 - (intOf i).toNat)
  case atStart =>
    refine ⟨0, 0, w.heap.size + 1, 1, [[]], Nat.zero_le _, rfl, rfl, by omega, ExtC.ext, Lib.hid rfl, Lib.hid ?_, Lib.hid (fun M hM ht => Rd.start (fun e => by have := hM.2.1; rw [e] at this; simp at this) ht), Lib.hid (by simp)⟩
    have h0 : OwnP w.heap.size (w.heap.size + 1) (w.alloc (.cells #[] 44)) (.slice (some ⟨w.heap.size, 0, none⟩) 0 0) [] :=
      .inr ⟨_, _, [], rfl, Nat.le_refl _, by omega, World.ownsRow_made w _ 0 (Nat.le_refl _) (by unfold maxLen; omega) (by rfl), fun i h => absurd h (by simp)⟩
    have h1 := World.ownsRow_lit (size := 1) (e := 40) (w.alloc (.cells #[] 44)) #[.slice (some ⟨w.heap.size, 0, none⟩) 0 0] 1 (Nat.le_refl _) (by unfold maxLen; omega) (by rfl)
    simp only [World.size_alloc] at h1
    refine .inr ⟨w.heap.size + 1, 1, _, fun _ => w.heap.size, fun _ => w.heap.size + 1, rfl, by omega, by simp, ownsRow_mono h1 (by omega), fun i hi => ?_, fun i j hij hj => by simp at hj; omega⟩
    have : i = 0 := by simpa using hi
    subst this
    exact ⟨_, rfl, h0.ext ExtC.ext, Nat.le_refl _, by simp, .inr (Nat.le_refl _)⟩
  case round =>
    obtain ⟨k, ln, og, oc, C, hk, rfl, rfl, hln, hx, HCL, HO, HRD, HRL⟩ := hrel
    obtain ⟨g0, rfl⟩ := hx.grow; clear hx
    by_cases hcont : k < s.size ∧ ln < 6
    · obtain ⟨hks, hln6⟩ := hcont
      obtain ⟨c, hc⟩ : ∃ c, s[k].toNat = c := ⟨_, rfl⟩
      have HC := Lib.hid hc
      have HDH := Lib.hid (drop_head hks)
      by_cases h59 : c = 59
      · have hb : ((c : Int) == 59) = true := by simp [h59]
        have HS59 := Lib.hid (show s[k] = 59 from UInt8.toNat_inj.1 (hc.trans h59))
        clear h59
        go_wp2_with (first | (at_builtin; refine app_rowS2 (w0 := w) (lo := w.heap.size) (mid := g0.fin.heap.size) (hi := g0.fin.heap.size + 1) _ _ og oc (ln + 1) C ⟨g0.fin.heap.size + 1, 0, none⟩ 1 (.slice (some ⟨g0.fin.heap.size, 0, none⟩) 0 0) [] rfl rfl HCL.out rfl (HO.out.ext ExtC.ext) rfl (by rw [add_plain', World.cell?_alloc_at _ _ _ _ (by simp)]; rfl) rfl (OwnP.ext (.inr ⟨_, _, [], rfl, Nat.le_refl _, by omega, World.ownsRow_made g0.fin _ 0 (Nat.le_refl _) (by unfold maxLen; omega) (by rfl), fun i h => absurd h (by simp)⟩ : OwnP g0.fin.heap.size (g0.fin.heap.size + 1) (g0.fin.alloc (.cells #[] 44)) (.slice (some ⟨g0.fin.heap.size, 0, none⟩) 0 0) []) ExtC.ext) (ExtC.ext : Ext w g0.fin).size (by simp) (by simp; omega) (by have := HCL.out; omega) ExtC.ext (Nat.le_refl _) ?_; intro g' c' w1 ho hr hg' hx; obtain ⟨g9, rfl⟩ := hx.grow; clear hx; have HO2 := Lib.hid ho; clear ho hr hg'))
        go_roundw
        case rel => exact ⟨k + 1, ln + 1, g', c', C ++ [[]], by omega, by go_num, rfl, by omega, ExtC.ext, Lib.hid (by rw [List.length_append, HCL.out]; rfl), HO2, Lib.hid (fun M hM ht => (HRD.out M hM ht).semi hM.nice (by rw [HDH.out, HS59.out])), Lib.hid (fun r hr => by
          rcases List.mem_append.1 hr with e | e
          · have := HRL.out r e; omega
          · rw [List.mem_singleton.1 e]; simp)⟩
        case measure => simp [intOf]; omega
      · have hb : ((c : Int) == 59) = false := by simp; omega
        have HN59 := Lib.hid (show (s.data.toList.drop k).head? ≠ some 59 by
          rw [HDH.out]
          intro e
          have e := Option.some.inj e
          exact h59 (by rw [← hc, e]; rfl))
        clear h59
        obtain ⟨n1, hn1⟩ : ∃ n1, valD (dg2 (s.data.toList.drop k)) = n1 := ⟨_, rfl⟩
        obtain ⟨m1, hm1⟩ : ∃ m1, k + (dg2 (s.data.toList.drop k)).length = m1 := ⟨_, rfl⟩
        obtain ⟨n2, hn2⟩ : ∃ n2, valD (dg2 (s.data.toList.drop (m1 + 1))) = n2 := ⟨_, rfl⟩
        obtain ⟨m2, hm2⟩ : ∃ m2, m1 + 1 + (dg2 (s.data.toList.drop (m1 + 1))).length = m2 := ⟨_, rfl⟩
        have l1 := dg2_le (s.data.toList.drop k)
        have l2 := dg2_le (s.data.toList.drop (m1 + 1))
        rw [List.length_drop, size_list] at l1 l2
        have hm1k : k ≤ m1 ∧ m1 ≤ s.size := by omega
        have hm2k : m1 + 1 ≤ m2 ∧ m2 ≤ s.size + 1 := by omega
        have hn1b : n1 < 100 := by rw [← hn1]; have := valD_lt (dg2 (s.data.toList.drop k)); exact Nat.lt_of_lt_of_le this (Nat.le_trans (Nat.pow_le_pow_right (n := 10) (by decide) l1.1) (by decide))
        have hn2b : n2 < 100 := by rw [← hn2]; have := valD_lt (dg2 (s.data.toList.drop (m1 + 1))); exact Nat.lt_of_lt_of_le this (Nat.le_trans (Nat.pow_le_pow_right (n := 10) (by decide) l2.1) (by decide))
        have R1 := RC k n1 m1 (by omega) hn1 hm1
        have R2 : ∀ y, Calls Tryd.prog 21 #[.string s, .int .i64 ((m1 : Int) + 1)] y fun e w' => e = .returned (.tuple #[.int .i64 n2, .int .i64 m2]) ∧ Ext y w' := RC (m1 + 1) n2 m2 (by omega) hn2 hm2
        have HSHR := Lib.hid (fun M hM ht => (HRD.out M hM ht).share hM.nice (by rw [size_list]; exact hks) HN59.out)
        rw [hm1, hn1, hm2, hn2] at HSHR
        clear l1 l2 hn1 hn2 hm1 hm2 RC
        have hlnC : ln < C.length := by have := HCL.out; omega
        have neg : NewB w og := ⟨HO.out.at0.2.1⟩
        by_cases hlt : m2 < s.size
        · obtain ⟨c2, hc2⟩ : ∃ c2, s[m2].toNat = c2 := ⟨_, rfl⟩
          have HC2 := Lib.hid hc2
          by_cases h2 : c2 = 59
          · have hb2 : ((c2 : Int) == 59) = true := by simp [h2]
            have HR2 := Lib.hid (fun M hM ht => by
              obtain ⟨C0, D, e, hif⟩ := HSHR.out M hM ht
              rw [set_last e HCL.out hlnC]
              rwa [if_neg] at hif
              rintro ⟨-, q⟩
              rw [drop_head hlt, show s[m2] = 59 from UInt8.toNat_inj.1 (hc2.trans h2)] at q
              exact q rfl : ∀ M, OkS M → stexts M = s.data.toList → Rd s.data.toList M (C.set ln (C[ln] ++ [((n1 : Int), (n2 : Int))])) m2)
            clear h2 HSHR
            go_wp2_with (first | (go_at_call 21; (with_reducible refine (R1 _).mono ?_); rintro e w' ⟨rfl, hx⟩; obtain ⟨g1, rfl⟩ := hx.grow; clear hx) | (go_at_call 21; (with_reducible refine (R2 _).mono ?_); rintro e w' ⟨rfl, hx⟩; obtain ⟨g2, rfl⟩ := hx.grow; clear hx; obtain ⟨t, a, b', d1, dow, dla, dhb, dgh, dfr, dturn⟩ := (HO.out.ext (ExtC.ext : Ext g0.fin g2.fin)).turnRow ln hlnC (ExtC.ext : Ext g0.fin g2.fin).size; obtain ⟨a2, b2, dow2, dla2, dsz, dgi⟩ := dow.tight (ExtC.ext : Ext w g2.fin).size dla; have HTU := Lib.hid (And.intro dturn dgi); have HOW := Lib.hid (And.intro dow2 (And.intro dla2 dsz)); clear dturn dow dfr dow2 dla2 dsz dgi dla dhb; have iog : InW og g2.fin := ⟨by have := (ExtC.ext : Ext g0.fin g2.fin).size; omega⟩) | (at_builtin; refine app_pairR (w0 := w) (lo := a2) (hi := b2) _ _ t C[ln] ⟨g2.fin.heap.size, 0, none⟩ 1 (n1 : Int) (n2 : Int) rfl rfl rfl (HOW.out.1.ext ExtC.ext) rfl (cell_twoA _ _ _ _) (cell_twoB _ _ _ _) (by have := HRL.out C[ln] (List.getElem_mem hlnC); omega) ExtC.ext HOW.out.2.1 (Nat.le_trans HOW.out.2.2 (ExtC.ext : Ext g2.fin (g2.fin.alloc _)).size) ?_; intro gb g' c' w1 ho hr hgb hgg hlt hx; obtain ⟨g3, rfl⟩ := hx.grow; clear hx; have hz := (ExtC.ext : Ext g2.fin (g2.fin.alloc (.cells #[.int .i64 n1, .int .i64 n2] 44))).size; obtain ⟨e1, e2, e3, e4⟩ := HTU.out.1 g3.fin gb g' _ _ ((Rng.of_ext ExtC.ext).trans hr) (hgb.elim (fun q => .inl (HTU.out.2 gb q)) fun q => .inr (Nat.le_trans hz q)) ho (hgg.elim (fun q => .inl ⟨q.1, HTU.out.2 gb q.2⟩) fun q => .inr (Nat.le_trans hz q)) hlt; have HO2 := Lib.hid e4; clear e4 ho hr hgb hgg hz HTU HOW))
            go_roundw
            case rel => exact ⟨m2, ln, og, oc, C.set ln (C[ln] ++ [((n1 : Int), (n2 : Int))]), by omega, rfl, rfl, by omega, ExtC.ext, Lib.hid (by rw [List.length_set]; exact HCL.out), Lib.hid (by rw [World.size_setCell]; exact HO2.out), Lib.hid fun M hM ht => HR2.out M hM ht, Lib.hid (set_small HRL.out (by omega) hks hlnC)⟩
            case measure => simp [intOf]; omega
          · have hb2 : ((c2 : Int) == 59) = false := by simp; omega
            have HR2 := Lib.hid (fun M hM ht => by
              obtain ⟨C0, D, e, hif⟩ := HSHR.out M hM ht
              rw [set_last e HCL.out hlnC]
              rwa [if_pos] at hif
              refine ⟨by rw [size_list]; exact hlt, fun q => ?_⟩
              rw [drop_head hlt] at q
              have q := Option.some.inj q
              exact h2 (by rw [← hc2, q]; rfl) : ∀ M, OkS M → stexts M = s.data.toList → Rd s.data.toList M (C.set ln (C[ln] ++ [((n1 : Int), (n2 : Int))])) (m2 + 1))
            clear h2 HSHR
            go_wp2_with (first | (go_at_call 21; (with_reducible refine (R1 _).mono ?_); rintro e w' ⟨rfl, hx⟩; obtain ⟨g1, rfl⟩ := hx.grow; clear hx) | (go_at_call 21; (with_reducible refine (R2 _).mono ?_); rintro e w' ⟨rfl, hx⟩; obtain ⟨g2, rfl⟩ := hx.grow; clear hx; obtain ⟨t, a, b', d1, dow, dla, dhb, dgh, dfr, dturn⟩ := (HO.out.ext (ExtC.ext : Ext g0.fin g2.fin)).turnRow ln hlnC (ExtC.ext : Ext g0.fin g2.fin).size; obtain ⟨a2, b2, dow2, dla2, dsz, dgi⟩ := dow.tight (ExtC.ext : Ext w g2.fin).size dla; have HTU := Lib.hid (And.intro dturn dgi); have HOW := Lib.hid (And.intro dow2 (And.intro dla2 dsz)); clear dturn dow dfr dow2 dla2 dsz dgi dla dhb; have iog : InW og g2.fin := ⟨by have := (ExtC.ext : Ext g0.fin g2.fin).size; omega⟩) | (at_builtin; refine app_pairR (w0 := w) (lo := a2) (hi := b2) _ _ t C[ln] ⟨g2.fin.heap.size, 0, none⟩ 1 (n1 : Int) (n2 : Int) rfl rfl rfl (HOW.out.1.ext ExtC.ext) rfl (cell_twoA _ _ _ _) (cell_twoB _ _ _ _) (by have := HRL.out C[ln] (List.getElem_mem hlnC); omega) ExtC.ext HOW.out.2.1 (Nat.le_trans HOW.out.2.2 (ExtC.ext : Ext g2.fin (g2.fin.alloc _)).size) ?_; intro gb g' c' w1 ho hr hgb hgg hlt hx; obtain ⟨g3, rfl⟩ := hx.grow; clear hx; have hz := (ExtC.ext : Ext g2.fin (g2.fin.alloc (.cells #[.int .i64 n1, .int .i64 n2] 44))).size; obtain ⟨e1, e2, e3, e4⟩ := HTU.out.1 g3.fin gb g' _ _ ((Rng.of_ext ExtC.ext).trans hr) (hgb.elim (fun q => .inl (HTU.out.2 gb q)) fun q => .inr (Nat.le_trans hz q)) ho (hgg.elim (fun q => .inl ⟨q.1, HTU.out.2 gb q.2⟩) fun q => .inr (Nat.le_trans hz q)) hlt; have HO2 := Lib.hid e4; clear e4 ho hr hgb hgg hz HTU HOW))
            go_roundw
            case rel => exact ⟨m2 + 1, ln, og, oc, C.set ln (C[ln] ++ [((n1 : Int), (n2 : Int))]), by omega, by go_num, rfl, by omega, ExtC.ext, Lib.hid (by rw [List.length_set]; exact HCL.out), Lib.hid (by rw [World.size_setCell]; exact HO2.out), Lib.hid fun M hM ht => HR2.out M hM ht, Lib.hid (set_small HRL.out (by omega) hks hlnC)⟩
            case measure => simp [intOf]; omega
        · have HR2 := Lib.hid (fun M hM ht => by
            obtain ⟨C0, D, e, hif⟩ := HSHR.out M hM ht
            rw [set_last e HCL.out hlnC]
            rwa [if_neg] at hif
            rintro ⟨q, -⟩
            rw [size_list] at q
            exact hlt q : ∀ M, OkS M → stexts M = s.data.toList → Rd s.data.toList M (C.set ln (C[ln] ++ [((n1 : Int), (n2 : Int))])) m2)
          clear HSHR
          go_wp2_with (first | (go_at_call 21; (with_reducible refine (R1 _).mono ?_); rintro e w' ⟨rfl, hx⟩; obtain ⟨g1, rfl⟩ := hx.grow; clear hx) | (go_at_call 21; (with_reducible refine (R2 _).mono ?_); rintro e w' ⟨rfl, hx⟩; obtain ⟨g2, rfl⟩ := hx.grow; clear hx; obtain ⟨t, a, b', d1, dow, dla, dhb, dgh, dfr, dturn⟩ := (HO.out.ext (ExtC.ext : Ext g0.fin g2.fin)).turnRow ln hlnC (ExtC.ext : Ext g0.fin g2.fin).size; obtain ⟨a2, b2, dow2, dla2, dsz, dgi⟩ := dow.tight (ExtC.ext : Ext w g2.fin).size dla; have HTU := Lib.hid (And.intro dturn dgi); have HOW := Lib.hid (And.intro dow2 (And.intro dla2 dsz)); clear dturn dow dfr dow2 dla2 dsz dgi dla dhb; have iog : InW og g2.fin := ⟨by have := (ExtC.ext : Ext g0.fin g2.fin).size; omega⟩) | (at_builtin; refine app_pairR (w0 := w) (lo := a2) (hi := b2) _ _ t C[ln] ⟨g2.fin.heap.size, 0, none⟩ 1 (n1 : Int) (n2 : Int) rfl rfl rfl (HOW.out.1.ext ExtC.ext) rfl (cell_twoA _ _ _ _) (cell_twoB _ _ _ _) (by have := HRL.out C[ln] (List.getElem_mem hlnC); omega) ExtC.ext HOW.out.2.1 (Nat.le_trans HOW.out.2.2 (ExtC.ext : Ext g2.fin (g2.fin.alloc _)).size) ?_; intro gb g' c' w1 ho hr hgb hgg hlt hx; obtain ⟨g3, rfl⟩ := hx.grow; clear hx; have hz := (ExtC.ext : Ext g2.fin (g2.fin.alloc (.cells #[.int .i64 n1, .int .i64 n2] 44))).size; obtain ⟨e1, e2, e3, e4⟩ := HTU.out.1 g3.fin gb g' _ _ ((Rng.of_ext ExtC.ext).trans hr) (hgb.elim (fun q => .inl (HTU.out.2 gb q)) fun q => .inr (Nat.le_trans hz q)) ho (hgg.elim (fun q => .inl ⟨q.1, HTU.out.2 gb q.2⟩) fun q => .inr (Nat.le_trans hz q)) hlt; have HO2 := Lib.hid e4; clear e4 ho hr hgb hgg hz HTU HOW))
          go_roundw
          case rel => exact ⟨m2, ln, og, oc, C.set ln (C[ln] ++ [((n1 : Int), (n2 : Int))]), by omega, rfl, rfl, by omega, ExtC.ext, Lib.hid (by rw [List.length_set]; exact HCL.out), Lib.hid (by rw [World.size_setCell]; exact HO2.out), Lib.hid fun M hM ht => HR2.out M hM ht, Lib.hid (set_small HRL.out (by omega) hks hlnC)⟩
          case measure => simp [intOf]; omega
    · have HF := Lib.hid (show ∀ M, OkS M → stexts M = s.data.toList → M = C from fun M hM ht => by
        by_cases hks : s.size ≤ k
        · exact (HRD.out M hM ht).done hM.nice (by rw [size_list]; exact hks)
        · have h1 := (HRD.out M hM ht).le
          have h2 := hM.2.2
          have h3 := HCL.out
          omega)
      have hrs := HO.out.s (by simp)
      have hsh : ShortRows C := ⟨by have := HCL.out; omega, fun i hi => by have := HRL.out C[i] (List.getElem_mem hi); omega⟩
      have H1 := fun bb (hbb : sokB C = bb) y (hy : Ext g0.fin y) => (spec_l03Is _ C y (hrs.ext hy) hsh fun i hi => by have := HRL.out C[i] (List.getElem_mem hi); have := hs; omega).mono fun e w' (h : RetB (OkS C) e ∧ Ext y w') => (⟨h.1.toldV (sokB_iff hbb), h.2⟩ : e = .returned (.bool bb) ∧ Ext y w')
      cases hb' : sokB C
      · have HE := Lib.hid (HRET.out fun e => by
          rcases HV.out with ⟨-, k1, k2⟩ | ⟨k0, -, -⟩
          · have := HF.out L k1 k2; subst this
            have := (sokB_iff hb').2 k1; cases this
          · rw [e] at k0; cases k0)
        have R1 := H1 false hb'
        clear H1 hb' hsh hrs RC
        by_cases hks : k < s.size
        · have hln6 : ln = 6 := by omega
          subst hln6
          go_wp2_with (first | (go_at_call 22; (with_reducible refine (R1 _ ExtC.ext).mono ?_); rintro e w' ⟨rfl, hx⟩; obtain ⟨g, rfl⟩ := hx.grow; clear hx))
          refine bodyPost_ret (v := .tuple #[.slice none 0 0, .bool false]) (by simp [results, Tryd.results6, go_sem]) rfl ?_
          exact ⟨_, by rw [HE.out.1], .inl ⟨rfl, HE.out.2⟩, ExtC.ext⟩
        · go_wp2_with (first | (go_at_call 22; (with_reducible refine (R1 _ ExtC.ext).mono ?_); rintro e w' ⟨rfl, hx⟩; obtain ⟨g, rfl⟩ := hx.grow; clear hx))
          refine bodyPost_ret (v := .tuple #[.slice none 0 0, .bool false]) (by simp [results, Tryd.results6, go_sem]) rfl ?_
          exact ⟨_, by rw [HE.out.1], .inl ⟨rfl, HE.out.2⟩, ExtC.ext⟩
      · have hok := (sokB_iff hb').1 rfl
        have R1 := H1 true hb'
        have R2 := fun y (hy : Ext g0.fin y) => spec_l03Text _ C y (hrs.ext hy) hok
        have hks : ¬ k < s.size := fun e => hcont ⟨e, by have := hok.2.2; have := HCL.out; omega⟩
        obtain ⟨t, ht⟩ : ∃ t : ByteArray, ⟨(stexts C).toArray⟩ = t := ⟨_, rfl⟩
        have htl : stexts C = t.data.toList := by rw [← ht]
        rw [ht] at R2
        by_cases hts : t = s
        · subst hts
          have HE := Lib.hid (show b = true ∧ L = C by
            rcases HV.out with ⟨k0, k1, k2⟩ | ⟨-, -, k3⟩
            · exact ⟨k0, HF.out L k1 k2⟩
            · exact absurd htl (k3 C hok))
          clear H1 hb' hsh hrs RC hok ht htl
          go_wp2_with (first | (go_at_call 22; (with_reducible refine (R1 _ ExtC.ext).mono ?_); rintro e w' ⟨rfl, hx⟩; obtain ⟨g, rfl⟩ := hx.grow; clear hx) | (go_at_call 23; (with_reducible refine (R2 _ ExtC.ext).mono ?_); rintro e w' ⟨rfl, hx⟩; obtain ⟨g, rfl⟩ := hx.grow; clear hx))
          refine bodyPost_ret (v := .tuple #[.slice (some ⟨og, 0, none⟩) (ln + 1) oc, .bool true]) (by simp [results, Tryd.results6, go_sem]) rfl ?_
          obtain ⟨h5, h6⟩ := HE.out
          exact ⟨_, by rw [h5], by rw [h6]; exact (HO.out.ext ExtC.ext).mono (Nat.le_refl _) (ExtC.ext : Ext g0.fin _).size, ExtC.ext⟩
        · have d1 := ne_list hts
          have d2 : (t.toList == s.toList) = false := by simp [d1]
          have HE := Lib.hid (HRET.out fun e => by
            rcases HV.out with ⟨-, k1, k2⟩ | ⟨k0, -, -⟩
            · have := HF.out L k1 k2; subst this
              exact hts ((bytes_eq htl.symm).trans (bytes_eq k2.symm).symm)
            · rw [e] at k0; cases k0)
          clear H1 hb' hsh hrs RC hok ht htl hts
          go_wp2_with (first | (go_at_call 22; (with_reducible refine (R1 _ ExtC.ext).mono ?_); rintro e w' ⟨rfl, hx⟩; obtain ⟨g, rfl⟩ := hx.grow; clear hx) | (go_at_call 23; (with_reducible refine (R2 _ ExtC.ext).mono ?_); rintro e w' ⟨rfl, hx⟩; obtain ⟨g, rfl⟩ := hx.grow; clear hx))
          refine bodyPost_ret (v := .tuple #[.slice none 0 0, .bool false]) (by simp [results, Tryd.results6, go_sem]) rfl ?_
          exact ⟨_, by rw [HE.out.1], .inl ⟨rfl, HE.out.2⟩, ExtC.ext⟩
end Go.Proofs.YthcomgnokkndgaaDoor
