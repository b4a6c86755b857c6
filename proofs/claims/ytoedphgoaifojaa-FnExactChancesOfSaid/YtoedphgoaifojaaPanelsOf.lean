/- PanelsOf on both sides. -/
import Derived.Test.YtoedphgoaifojaaPanels
namespace Go.Proofs.Ytoedphgoaifojaa
open Go.RowKit

open Classical in
noncomputable def plX (pe sz : Int) (L : List QD) : List (List Int) := if OkP pe sz L then panelsL pe.toNat sz.toNat L else []
theorem plX_no {pe sz : Int} {L : List QD} (h : ¬ OkP pe sz L) : plX pe sz L = [] := if_neg h
theorem plX_yes {n k : Nat} {L : List QD} (h : OkP n k L) : plX n k L = panelsL n k L := if_pos h
theorem plX_few {pe sz : Int} {L : List QD} : (plX pe sz L).length ≤ 35 ∧ ∀ t ∈ plX pe sz L, t.length ≤ 7 := by
  by_cases h : OkP pe sz L
  · obtain ⟨n, k, rfl, rfl, h1, h2, h3⟩ := h.nat
    rw [plX_yes h]
    obtain ⟨a, b⟩ := panels_few (L := L) h1 h2 h3
    exact ⟨a, fun t ht => by have := (b t ht).1; omega⟩
  · rw [plX_no h]; simp
theorem cnt_few' (L : List (List Int)) (m : Nat) (h : ∀ x ∈ L, x.length ≤ m) : cntRows intKind L ≤ L.length * m := by
  induction L with
  | nil => simp [cntRows]
  | cons a l ih =>
    have h1 := h a (List.mem_cons_self ..)
    have h2 := ih fun x hx => h x (List.mem_cons_of_mem _ hx)
    simp only [cntRows, List.map_cons, List.sum_cons, List.length_cons, Nat.succ_mul] at *
    have : intKind.cnt a = a.length := rfl
    omega

set_option maxHeartbeats 4000000 in
theorem impl_PanelsOf' (pe sz : Int) (qv : Value) (L : List QD) (w : World) (hq : RQ w qv L) (hs : ShortQ L) (b : Bool) (hb : okPB pe sz L = b) (xs : List (List Int)) (hxs : plX pe sz L = xs) :
    Calls Try.prog 40 #[.agg #[.int .i64 pe, .int .i64 sz, qv]] w fun e w' => ∃ v, e = .returned (.tuple #[v, .bool b]) ∧ OwnR intKind 33 w.heap.size w'.heap.size w' v xs ∧ Ext w w' := by
  obtain ⟨p, c, rfl, -⟩ := hq.form
  have HV := fun x (hx : Ext w x) => (impl_ValidPool pe sz _ L x (hq.ext hx) hs).mono fun e w' (h : RetB _ e ∧ Ext x w') => (⟨h.1.toldP (okPB_iff hb), h.2⟩ : e = .returned (.bool b) ∧ Ext x w')
  cases b
  · have hno : ¬ OkP pe sz L := fun h => by have := (okPB_iff hb).2 h; cases this
    have e1 : xs = [] := by rw [← hxs]; exact plX_no hno
    subst e1
    clear hno hxs hq
    go_enter Try.func40, Try.ntmps40
    go_wp2_with (first | (go_at_call 17; (with_reducible refine (HV _ ExtC.ext).mono ?_); rintro e w' ⟨rfl, hx⟩; obtain ⟨g, rfl⟩ := hx.grow; clear hx))
    refine bodyPost_ret (v := .tuple #[.slice none 0 0, .bool false]) (by simp [results, Try.results40, go_sem]) rfl ⟨_, rfl, .inl ⟨rfl, rfl⟩, ExtC.ext⟩
  · have hok := (okPB_iff hb).1 rfl
    obtain ⟨n, k, rfl, rfl, h1, h2, h3⟩ := hok.nat
    have hpn := fun x (hx : Ext w x) => impl_panels n k (.slice p L.length c) L x (hq.ext hx) hok xs (by rw [← hxs]; exact (plX_yes hok).symm)
    clear hok hxs hq
    go_enter Try.func40, Try.ntmps40
    go_wp2_with (first | (go_at_call 17; (with_reducible refine (HV _ ExtC.ext).mono ?_); rintro e w' ⟨rfl, hx⟩; obtain ⟨g, rfl⟩ := hx.grow; clear hx) | (go_at_call 83; (with_reducible refine (hpn _ ExtC.ext).mono ?_); rintro e w' ⟨sg, sc, rfl, ho, hx⟩; obtain ⟨g1, rfl⟩ := hx.grow; clear hx; have HO := Lib.hid ho; clear ho))
    refine bodyPost_ret (v := .tuple #[.slice (some ⟨sg, 0, none⟩) xs.length sc, .bool true]) (by simp [results, Try.results40, go_sem]) rfl ⟨_, rfl, ?_, ExtC.ext⟩
    exact HO.out.mono (ExtC.ext : Ext w g.fin).size (Nat.le_refl _)

set_option maxHeartbeats 4000000 in
theorem spec_PanelsOf' (pe sz : Int) (qv : Value) (L : List QD) (w : World) (hq : RQ w qv L) (hs : ShortQ L) (b : Bool) (hb : okPB pe sz L = b) (xs : List (List Int)) (hxs : plX pe sz L = xs) :
    Calls Try.prog 39 #[.agg #[.int .i64 pe, .int .i64 sz, qv]] w fun e w' => ∃ v, e = .returned (.tuple #[v, .bool b]) ∧ SeenR w.heap.size w'.heap.size w' v xs ∧ Ext w w' := by
  obtain ⟨p, c, rfl, -⟩ := hq.form
  have HBX := Lib.hid (box_pool w pe sz (.slice p L.length c) 29)
  have HV := fun x (hy : Ext (w.alloc (.cells #[.int .i64 pe, .int .i64 sz, .slice p L.length c] 29)) x) (hx : Ext w x) => (spec_l04Is w.heap.size pe sz _ L x (HBX.out.ext hy) (hq.ext hx) hs).mono fun e w' (h : RetB _ e ∧ Ext x w') => (⟨h.1.toldP (okPB_iff hb), h.2⟩ : e = .returned (.bool b) ∧ Ext x w')
  cases b
  · have hno : ¬ OkP pe sz L := fun h => by have := (okPB_iff hb).2 h; cases this
    have e1 : xs = [] := by rw [← hxs]; exact plX_no hno
    subst e1
    clear hno hxs hq
    go_enter Try.func39, Try.ntmps39
    go_wp2_with (first | (go_at_call 54; (with_reducible refine (HV _ ExtC.ext ExtC.ext).mono ?_); rintro e w' ⟨rfl, hx⟩; obtain ⟨g, rfl⟩ := hx.grow; clear hx))
    refine bodyPost_ret (v := .tuple #[.slice none 0 0, .bool false]) (by simp [results, Try.results39, go_sem]) rfl ⟨_, rfl, .inl ⟨rfl, rfl⟩, ExtC.ext⟩
  · have hok := (okPB_iff hb).1 rfl
    obtain ⟨n, k, rfl, rfl, h1, h2, h3⟩ := hok.nat
    have hpn := fun x (hy : Ext (w.alloc (.cells #[.int .i64 (n : Int), .int .i64 (k : Int), .slice p L.length c] 29)) x) (hx : Ext w x) => spec_l04Panels w.heap.size n k (.slice p L.length c) L x (HBX.out.ext hy) (hq.ext hx) hok xs (by rw [← hxs]; exact (plX_yes hok).symm)
    clear hok hxs hq
    go_enter Try.func39, Try.ntmps39
    go_wp2_with (first | (go_at_call 54; (with_reducible refine (HV _ ExtC.ext ExtC.ext).mono ?_); rintro e w' ⟨rfl, hx⟩; obtain ⟨g, rfl⟩ := hx.grow; clear hx) | (go_at_call 82; (with_reducible refine (hpn _ ExtC.ext ExtC.ext).mono ?_); rintro e w' ⟨sg, sc, rfl, ho, hx⟩; obtain ⟨g1, rfl⟩ := hx.grow; clear hx; have HO := Lib.hid ho; clear ho))
    refine bodyPost_ret (v := .tuple #[.slice (some ⟨sg, 0, none⟩) xs.length sc, .bool true]) (by simp [results, Try.results39, go_sem]) rfl ⟨_, rfl, ?_, ExtC.ext⟩
    exact HO.out.mono (ExtC.ext : Ext w g.fin).size (Nat.le_refl _)
end Go.Proofs.Ytoedphgoaifojaa
