/- The greatest number of ballots that can be settled, the program's side: impl.mostSettled. -/
import Derived.Test.YthcomgnokkndgaaPlaceI
namespace Go.Proofs.Ythcomgnokkndgaa
open Go.RowKit

/-- The memory between two searches. -/
structure ImL (n eg ec b2 b3 b5 b7 wm rm B1 : Nat) (w0 : World) (room : Int → Int) (W : Int → List Int) (V : Int → Value) (w : World) : Prop where
  ext : Ext w0 w
  c2 : w.cell? ⟨b2, 0, none⟩ = some (.slice (some ⟨eg, 0, none⟩) n ec)
  c3 : w.cell? ⟨b3, 0, none⟩ = some (.map (some rm))
  c5 : w.cell? ⟨b5, 0, none⟩ = some (.map (some wm))
  c7 : w.cell? ⟨b7, 0, none⟩ = some (.func (.func 31) #[] #[ptr b2, ptr b5, ptr b3, ptr b7])
  lt : b2 < B1 ∧ b3 < B1 ∧ b5 < B1 ∧ b7 < B1
  le : B1 ≤ w.heap.size
  hw : w0.heap.size ≤ wm
  hB : w0.heap.size ≤ B1
  nr : rm < w0.heap.size
  mr : MapV w rm (.int .i64 0) (fun e => .int .i64 (room e))
  mw : MapV w wm (.slice none 0 0) V
  rows : ∀ e : Int, 0 ≤ e → e < (n : Int) → (V e = .slice none 0 0 ∧ W e = []) ∨ ∃ g c, V e = .slice (some ⟨g, 0, none⟩) (W e).length c ∧ RowI 3 B1 w (.slice (some ⟨g, 0, none⟩) (W e).length c) (W e)
  apart : ∀ e e' : Int, 0 ≤ e → e < (n : Int) → 0 ≤ e' → e' < (n : Int) → e ≠ e' → ∀ g l c g' l' c', V e = .slice (some ⟨g, 0, none⟩) l c → V e' = .slice (some ⟨g', 0, none⟩) l' c' → g ≠ g'
section
variable {n eg ec b2 b3 b5 b7 wm rm sb B1 : Nat} {w0 w w' : World} {room : Int → Int} {S : Int → Bool} {W : Int → List Int} {V : Int → Value}
theorem ImW.l (h : ImW n eg ec b2 b3 b5 b7 wm rm sb B1 w0 room S W V w) : ImL n eg ec b2 b3 b5 b7 wm rm B1 w0 room W V w :=
  ⟨h.ext, h.c2, h.c3, h.c5, h.c7, h.lt, h.le, h.hw, h.hB, h.nr, h.mr, h.mw, h.rows, h.apart⟩
theorem ImL.new (h : ImL n eg ec b2 b3 b5 b7 wm rm B1 w0 room W V w) : ImW n eg ec b2 b3 b5 b7 wm rm w.heap.size B1 w0 room noS W V (w.alloc (.map #[] 0)) := by
  have hx : Ext w (w.alloc (.map #[] 0)) := ExtC.ext
  have hl := h.lt
  have hle := h.le
  have hm := h.mw.lt
  have c : ∀ {b : Nat} {v : Value}, b < B1 → w.cell? ⟨b, 0, none⟩ = some v → (w.alloc (.map #[] 0)).cell? ⟨b, 0, none⟩ = some v := fun {b v} hb hc => by rw [Below.cell hx (show b < w.heap.size by omega)]; exact hc
  exact ⟨⟨h.ext.trans hx, c hl.1 h.c2, c hl.2.1 h.c3, c hl.2.2.1 h.c5, c hl.2.2.2 h.c7, h.lt, Nat.le_trans h.le hx.size, h.hw, h.ext.size, h.hB, by omega, h.nr⟩, h.mr.ext hx, h.mw.ext hx, (MapV.made w _).congr fun k => rfl, fun e h0 h1 => by
    rcases h.rows e h0 h1 with a | ⟨g, c, a, b⟩
    · exact .inl a
    · exact .inr ⟨g, c, a, b.ext hx⟩, h.apart⟩
end

set_option maxHeartbeats 16000000 in
set_option maxRecDepth 100000 in
theorem impl_mostSettled {n eg ec rm : Nat} {E : List (List Int)} {w : World} {room : Int → Int} (hn12 : n ≤ 12) (hel : E.length = n) (hel12 : ∀ i (h : i < E.length), E[i].length ≤ 12) (heok : EOk n n (fun i => E.getD i [])) (hroom : ∀ e : Int, 0 ≤ room e ∧ room e ≤ 12) (he : RowsR intKind w (.slice (some ⟨eg, 0, none⟩) n ec) E)
    (hm : MapV w rm (.int .i64 0) (fun e => .int .i64 (room e))) :
    Calls Try.prog 20 #[.slice (some ⟨eg, 0, none⟩) n ec, .map (some rm)] w fun e w' => ∃ v : Nat, e = .returned (.int .i64 v) ∧ v ≤ n ∧ IsMax n (fun i => E.getD i []) room v ∧ Ext w w' := by
  have RP := Lib.hid (fun b2 b3 b5 b7 wm sb B1 => impl_place (b2 := b2) (b3 := b3) (b5 := b5) (b7 := b7) (wm := wm) (rm := rm) (sb := sb) (B1 := B1) hn12 hel hel12 heok hroom he)
  have HEOK := Lib.hid heok
  have HM := Lib.hid hm
  have hmm := @run_makeMap Try.prog
  have hmf : ∀ (fn : Fn) (first cap : Array Value) (w : World), (Instr.makeFunc fn first cap).run Try.prog w = .ok (.func fn first cap) w := fun _ _ _ _ => rfl
  have hsf := fun (a : Addr) fn first cap m (x : World) => (run_store Try.prog x a (.func fn first cap) m rfl : (store a (.func fn first cap) m).run Try.prog x = stored Try.prog x a (.func fn first cap) m)
  have HROOM := Lib.hid hroom
  clear hel hel12 heok hroom he hm
  go_enter Try.func20, Try.ntmps20
  go_wp2_with fail
  go_loopw [6, 13] (fun cv iv wr => ∃ (i N : Nat) (f : Nat → Int) (R : Int → Bool) (W : Int → List Int) (V : Int → Value), i ≤ n ∧ iv = .int .i64 i ∧ cv = .int .i64 N ∧ N ≤ n ∧ Hid (ImL n eg ec w.heap.size (w.heap.size + 1) (w.heap.size + 3) (w.heap.size + 4) (w.heap.size + 2) rm (w.heap.size + 5) w room W V wr) ∧ Hid (Rep n f noS W) ∧ Hid (N = sz n f) ∧ Hid (Run n (fun i => E.getD i []) room f i R) ∧ Hid (∀ z, i ≤ z → z < n → f z = -1)) (fun _ i _ => n - (intOf i).toNat)
  case atStart =>
    refine ⟨0, 0, fun _ => -1, noS, fun _ => [], fun _ => .slice none 0 0, Nat.zero_le _, rfl, rfl, Nat.zero_le _, Lib.hid ?_, Lib.hid (Rep.empty fun _ _ => rfl), Lib.hid (ct_none fun _ _ => rfl).symm, Lib.hid ⟨⟨fun _ _ => .inl rfl, fun e he => ?_⟩, fun _ _ h => absurd h (by omega), ⟨fun _ _ h => (by cases h), fun _ _ h => (by cases h)⟩⟩, Lib.hid (fun _ _ _ => rfl)⟩
    · refine ⟨ExtC.ext, by simp [go_sem], by simp [go_sem], by simp [go_sem], by simp [go_sem], by omega, by simp, by omega, by omega, HM.out.lt, HM.out.ext ExtC.ext, ?_, fun _ _ _ => .inl ⟨rfl, rfl⟩, fun _ _ _ _ _ _ _ _ _ _ _ _ _ h => (by cases h)⟩
      have := MapV.made ((w.alloc (.cells #[.slice (some ⟨eg, 0, none⟩) n ec] 43)).alloc (.cells #[.map (some rm)] 45)) (.slice none 0 0)
      simp only [World.size_alloc] at this
      exact this.ext ExtC.ext
    · have : cnt n (fun _ => -1) e = 0 := ct_none fun _ _ => decide_eq_false (show ¬ (-1 : Int) = e by omega)
      rw [this]; exact (HROOM.out e).1
  case round =>
    obtain ⟨i, N, f, R, W, V, hi, rfl, rfl, hN, HL, HP, HNT, HRU, HFU⟩ := hrel
    have c2 := HL.out.c2
    have c7 := HL.out.c7
    by_cases hin : i < n
    · have HFI := Lib.hid (HFU.out i (Nat.le_refl _) hin)
      have i7 : InW (w.heap.size + 4) wr := InW.of_cell c7
      go_wp2_with fail
      refine Calls.mono (RP.out _ _ _ _ _ _ _ (leftS n noS) i f noS W V _ (Nat.le_refl _) hin HL.out.new HP.out (.inl HFI.out)) ?_
      rintro e w4 ⟨b, S', W', V', rfl, hw4, q0, q1⟩
      have HW4 := Lib.hid hw4.l
      clear hw4
      cases b
      · obtain ⟨rfl, rfl, hff⟩ := q0 rfl
        have HNX := Lib.hid (HRU.out.fail hff)
        clear q0 q1 hff
        go_wp2_with fail
        go_roundw
        case rel => exact ⟨i + 1, N, f, _, W', V', by omega, by go_num, rfl, hN, HW4, HP, HNT, HNX, Lib.hid fun z hz => HFU.out z (by omega)⟩
        case measure => simp [intOf]; omega
      · obtain ⟨f', ha, hrep, -⟩ := q1 rfl
        have HNX := Lib.hid (HRU.out.aug HEOK.out hin HFI.out ha)
        have HSZ := Lib.hid (show N + 1 = sz n f' by rw [ha.sz HEOK.out hin HFI.out, HNT.out])
        have hle : N + 1 ≤ n := by rw [HSZ.out]; exact ct_lt_or _ _
        have HRP := Lib.hid hrep
        have HFN := Lib.hid (fun z (hz : i + 1 ≤ z) (hzj : z < n) => (by
          have hf := HFU.out z (by omega) hzj
          rcases ha.ok z hzj (by omega) with e | ⟨e, -⟩
          · rw [e]; exact hf
          · exact absurd hf e : f' z = -1))
        clear q0 q1 ha hrep
        go_wp2_with fail
        go_roundw
        case rel => exact ⟨i + 1, N + 1, f', R, W', V', by omega, by go_num, by go_num, hle, HW4, HRP, HSZ, HNX, HFN⟩
        case measure => simp [intOf]; omega
    · obtain rfl : i = n := by omega
      have HMX := Lib.hid (HRU.out.max HEOK.out)
      go_wp2_with fail
      go_ret
      exact ⟨N, rfl, hN, by rw [HNT.out]; exact HMX.out, HL.out.ext⟩
end Go.Proofs.Ythcomgnokkndgaa
