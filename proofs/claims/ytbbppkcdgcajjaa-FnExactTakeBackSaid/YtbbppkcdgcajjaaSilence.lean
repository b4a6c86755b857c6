/- Members; a member silenced: SilenceMember on both sides. -/
import Derived.Test.YtbbppkcdgcajjaaAppV
import Derived.Test.YtbbppkcdgcajjaaPath
namespace Go.Proofs.Ytbbppkcdgcajjaa
open Go.RowKit

theorem RetB.told {P : Prop} {e : Ending} {b : Bool} (h : RetB P e) (hb : b = true ↔ P) : e = .returned (.bool b) := by
  obtain ⟨c, rfl, hc⟩ := h
  have : c = b := by rw [Bool.eq_iff_iff, hc, hb]
  rw [this]
theorem impl_ValidVoices_b (v : Value) (L : List VD) (w : World) (h : VS w v L) (hs : Short L) (b : Bool) (hb : b = true ↔ OkV L) :
    Calls Try.prog 88 #[v] w fun e w' => e = .returned (.bool b) ∧ Ext w w' :=
  Calls.mono (impl_ValidVoices v L w h hs) fun _ _ h => ⟨h.1.told hb, h.2⟩
theorem spec_l02Ok_b (v : Value) (L : List VD) (w : World) (h : VS w v L) (hs : Short L) (b : Bool) (hb : b = true ↔ OkV L) :
    Calls Try.prog 76 #[v] w fun e w' => e = .returned (.bool b) ∧ Ext w w' :=
  Calls.mono (spec_l02Ok v L w h hs) fun _ _ h => ⟨h.1.told hb, h.2⟩
theorem bool_of (P : Prop) : ∃ b : Bool, b = true ↔ P := by
  by_cases h : P
  · exact ⟨true, by simp [h]⟩
  · exact ⟨false, by simp [h]⟩

/-- A valid list with a member. -/
def MemP (L : List VD) (m : Int) : Prop := OkV L ∧ 0 ≤ m ∧ m ≤ (L.length : Int) - 1
theorem impl_isMember (v : Value) (m : Int) (L : List VD) (w : World) (h : VS w v L) (hs : Short L) (b : Bool) (hb : b = true ↔ MemP L m) :
    Calls Try.prog 81 #[v, .int .i64 m] w fun e w' => e = .returned (.bool b) ∧ Ext w w' := by
  have hln := hs.1
  obtain ⟨b1, hb1⟩ := bool_of (OkV L)
  have H1 := fun x (hx : Ext w x) => impl_ValidVoices_b v L x (h.ext hx) hs b1 hb1
  obtain ⟨vb, vo, vc, rfl, -⟩ := h
  cases b1
  · have HN := Lib.hid (show b = false by cases b; rfl; exact absurd (hb1.2 (hb.1 rfl).1) (by simp))
    clear hb hb1
    go_enter Try.func81, Try.ntmps81
    go_wp2_with (first | (go_at_call 88; (with_reducible refine (H1 _ ExtC.ext).mono ?_); rintro e w' ⟨rfl, hx⟩; obtain ⟨g, rfl⟩ := hx.grow; clear hx))
    go_ret
    exact ⟨ret_bool HN.out.symm, ExtC.ext⟩
  · cases q : inB m 0 ((L.length : Int) - 1)
    · have HN := Lib.hid (show b = false by cases b; rfl; exact absurd (hb.1 rfl).2 (inB_false.1 q))
      have R := fun x => impl_within m 0 ((L.length : Int) - 1) false q x
      clear hb hb1 q
      go_enter Try.func81, Try.ntmps81
      go_wp2_with (first | (go_at_call 88; (with_reducible refine (H1 _ ExtC.ext).mono ?_); rintro e w' ⟨rfl, hx⟩; obtain ⟨g, rfl⟩ := hx.grow; clear hx) | (go_at_call 105; (with_reducible refine (R _).mono ?_); rintro e w' ⟨rfl, hx⟩; obtain ⟨g, rfl⟩ := hx.grow; clear hx))
      go_ret
      exact ⟨ret_bool HN.out.symm, ExtC.ext⟩
    · have HN := Lib.hid (show b = true from hb.2 ⟨hb1.1 rfl, inB_true.1 q⟩)
      have R := fun x => impl_within m 0 ((L.length : Int) - 1) true q x
      clear hb hb1 q
      go_enter Try.func81, Try.ntmps81
      go_wp2_with (first | (go_at_call 88; (with_reducible refine (H1 _ ExtC.ext).mono ?_); rintro e w' ⟨rfl, hx⟩; obtain ⟨g, rfl⟩ := hx.grow; clear hx) | (go_at_call 105; (with_reducible refine (R _).mono ?_); rintro e w' ⟨rfl, hx⟩; obtain ⟨g, rfl⟩ := hx.grow; clear hx))
      go_ret
      exact ⟨ret_bool HN.out.symm, ExtC.ext⟩

theorem OkV.ranges {L : List VD} (h : OkV L) : L.length ≤ 12 ∧ ∀ i (h : i < L.length), L[i].2.length ≤ 4 := ⟨h.2.2, fun i hi => (h.1 i hi).2⟩

theorem OwnV.mono {lo hi lo' hi' : Nat} {w : World} {v : Value} {L : List VD} (h : OwnV lo hi w v L) (h1 : lo' ≤ lo) (h2 : hi ≤ hi') : OwnV lo' hi' w v L := by
  rcases h with h | ⟨g, cap, cs, ts, a, b, hv, h3, h4, how, hc, hd⟩
  · exact .inl h
  · refine .inr ⟨g, cap, cs, ts, a, b, hv, by omega, by omega, ownsRow_mono how h1, fun i hi => ?_, hd⟩
    obtain ⟨q0, q1, q2, q3, q4, q5⟩ := hc i hi
    exact ⟨q0, q1, q2, by omega, by omega, q5⟩
theorem OwnV.set {lo hi g c : Nat} {w : World} {L : List VD} (h : OwnV lo hi w (.slice (some ⟨g, 0, none⟩) L.length c) L) (m : Nat) (hm : m < L.length) (s : Bool) :
    OwnV lo hi ((w.setCell ⟨g, m * 2, none⟩ (.bool s)).setCell ⟨g, m * 2 + 1, none⟩ (.slice none 0 0)) (.slice (some ⟨g, 0, none⟩) L.length c) (L.set m (s, [])) := by
  rcases h with ⟨e, _⟩ | ⟨g0, cap, cs, ts, a, b, e, h3, h4, how, hc, hd⟩
  · simp at e
  simp only [Value.slice.injEq, Option.some.injEq, Addr.mk.injEq, and_true, true_and] at e
  obtain ⟨rfl, rfl⟩ := e
  have hl : cs.length = L.length * 2 := how.1
  obtain ⟨p1, p2, p3, p4⟩ := set_pair hl hm (.bool s) (.slice none 0 0)
  have s1 := (how.stored (m * 2) (.bool s)).1
  have s2 := (s1.stored (m * 2 + 1) (.slice none 0 0)).1
  refine .inr ⟨g, c, _, fun i => if i = m then .slice none 0 0 else ts i, a, b, by simp, h3, h4, by simpa using s2, fun i hi' => ?_, fun i j hij hj => hd i j hij (by simpa using hj)⟩
  have hi2 : i < L.length := by simpa using hi'
  obtain ⟨q0, q1, q2, q3, q4, q5⟩ := hc i hi2
  by_cases him : i = m
  · subst him
    simp only [if_true, List.getElem_set_self]
    exact ⟨p2, p3, .inl ⟨rfl, rfl⟩, q3, q4, q5⟩
  · simp only [him, if_false]
    rw [List.getElem_set_ne (Ne.symm him), (p4 i him).1, (p4 i him).2]
    exact ⟨q0, q1, OwnI.setCell (OwnI.setCell q2 (by omega)) (by omega), q3, q4, q5⟩
theorem OwnV.at {lo hi g c : Nat} {w : World} {L : List VD} (h : OwnV lo hi w (.slice (some ⟨g, 0, none⟩) L.length c) L) (m : Nat) (hm : m < L.length) :
    lo ≤ g ∧ InW g w ∧ (∃ u, w.cell? ⟨g, m * 2, none⟩ = some u) ∧ (∃ u, w.cell? ⟨g, m * 2 + 1, none⟩ = some u) ∧ w.frozen? ⟨g, m * 2, none⟩ = false ∧ w.frozen? ⟨g, m * 2 + 1, none⟩ = false := by
  rcases h with ⟨e, _⟩ | ⟨g0, cap, cs, ts, a, b, e, h3, h4, how, hc, hd⟩
  · simp at e
  simp only [Value.slice.injEq, Option.some.injEq, Addr.mk.injEq, and_true, true_and] at e
  obtain ⟨rfl, rfl⟩ := e
  have hl : cs.length = L.length * 2 := how.1
  exact ⟨h3, ⟨(how.lt g rfl).2⟩, ⟨cs[m * 2], by rw [how.cellAt _ (by omega)]; simp⟩, ⟨cs[m * 2 + 1], by rw [how.cellAt _ (by omega)]; simp⟩, how.frozenAt _, how.frozenAt _⟩

open Classical in
noncomputable def memB (L : List VD) (m : Int) : Bool := decide (MemP L m)
open Classical in
noncomputable def silX (L : List VD) (m : Int) : List VD := if MemP L m then L.set m.toNat (false, []) else []
theorem memB_iff {L : List VD} {m : Int} {b : Bool} (h : memB L m = b) : b = true ↔ MemP L m := by subst h; simp [memB]




theorem silX_small {L : List VD} {m : Int} : (silX L m).length ≤ 12 ∧ vsum (silX L m) ≤ 48 := by
  unfold silX
  split
  · rename_i h
    obtain ⟨hl, ht⟩ := h.1.ranges
    refine ⟨by simp; omega, ?_⟩
    have key : ∀ (M : List VD), (∀ i (h : i < M.length), M[i].2.length ≤ 4) → vsum M ≤ 4 * M.length := by
      intro M
      induction M with
      | nil => intro _; simp [vsum]
      | cons a M ih =>
        intro hM
        have h0 := hM 0 (by simp)
        have h1 := ih fun i hi => hM (i + 1) (by simpa using hi)
        simp only [vsum, List.map_cons, List.sum_cons, List.length_cons, List.getElem_cons_zero] at *
        omega
    have := key (L.set m.toNat (false, [])) fun i hi => by
      rw [List.getElem_set]; split
      · simp
      · exact ht i (by simpa using hi)
    rw [List.length_set] at this; omega
  · simp [vsum]
end Go.Proofs.Ytbbppkcdgcajjaa
