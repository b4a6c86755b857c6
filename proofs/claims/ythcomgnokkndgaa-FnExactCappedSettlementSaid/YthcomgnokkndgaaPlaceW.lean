/- The memory of the program's search for room: three maps, four boxes, a list for each end. -/
import Derived.Test.YthcomgnokkndgaaMapV
import Derived.Test.YthcomgnokkndgaaRepP
import Derived.Test.YthcomgnokkndgaaRoomS
namespace Go.Proofs.Ythcomgnokkndgaa
open Go.RowKit

theorem rng_cel {lo hi : Nat} {w w' : World} (h : Rng lo hi w w') {b o : Nat} {s : Option Nat} {v : Value} (hc : w.cell? ⟨b, o, s⟩ = some v) (hb : b < w.heap.size) (hd : b < lo ∨ hi ≤ b) : w'.cell? ⟨b, o, s⟩ = some v := by
  have e := h.block b hb hd
  unfold World.cell? at *
  simp only [e]
  exact hc
abbrev ptr (b : Nat) : Value := .pointer (some ⟨b, 0, none⟩)
theorem MapV.congr {w : World} {b : Nat} {z : Value} {m m' : Int → Value} (h : MapV w b z m) (hm : ∀ k, m k = m' k) : MapV w b z m' := by
  have : m = m' := funext hm
  exact this ▸ h
/-- What does not turn: the boxes and where the maps lie. -/
structure ImB (n : Nat) (eg ec b2 b3 b5 b7 wm rm sb B1 : Nat) (w0 w : World) : Prop where
  ext : Ext w0 w
  c2 : w.cell? ⟨b2, 0, none⟩ = some (.slice (some ⟨eg, 0, none⟩) n ec)
  c3 : w.cell? ⟨b3, 0, none⟩ = some (.map (some rm))
  c5 : w.cell? ⟨b5, 0, none⟩ = some (.map (some wm))
  c7 : w.cell? ⟨b7, 0, none⟩ = some (.func (.func 31) #[] #[ptr b2, ptr b5, ptr b3, ptr b7])
  lt : b2 < B1 ∧ b3 < B1 ∧ b5 < B1 ∧ b7 < B1
  le : B1 ≤ w.heap.size
  hw : w0.heap.size ≤ wm
  hs : w0.heap.size ≤ sb
  hB : w0.heap.size ≤ B1
  ne : wm ≠ sb
  nr : rm < w0.heap.size
structure ImW (n : Nat) (eg ec b2 b3 b5 b7 wm rm sb B1 : Nat) (w0 : World) (room : Int → Int) (S : Int → Bool) (W : Int → List Int) (V : Int → Value) (w : World) : Prop extends ImB n eg ec b2 b3 b5 b7 wm rm sb B1 w0 w where
  mr : MapV w rm (.int .i64 0) (fun e => .int .i64 (room e))
  mw : MapV w wm (.slice none 0 0) V
  ms : MapV w sb (.bool false) (fun e => .bool (S e))
  rows : ∀ e : Int, 0 ≤ e → e < (n : Int) → (V e = .slice none 0 0 ∧ W e = []) ∨ ∃ g c, V e = .slice (some ⟨g, 0, none⟩) (W e).length c ∧ RowI 3 B1 w (.slice (some ⟨g, 0, none⟩) (W e).length c) (W e)
  apart : ∀ e e' : Int, 0 ≤ e → e < (n : Int) → 0 ≤ e' → e' < (n : Int) → e ≠ e' → ∀ g l c g' l' c', V e = .slice (some ⟨g, 0, none⟩) l c → V e' = .slice (some ⟨g', 0, none⟩) l' c' → g ≠ g'
section
variable {n eg ec b2 b3 b5 b7 wm rm sb B1 : Nat} {w0 w w' : World} {room : Int → Int} {S : Int → Bool} {W : Int → List Int} {V : Int → Value}
theorem ImB.turn {b : Nat} (h : ImB n eg ec b2 b3 b5 b7 wm rm sb B1 w0 w) (hr : Rng b (b + 1) w w') (hb : w0.heap.size ≤ b) (h2 : b2 ≠ b) (h3 : b3 ≠ b) (h5 : b5 ≠ b) (h7 : b7 ≠ b) : ImB n eg ec b2 b3 b5 b7 wm rm sb B1 w0 w' := by
  have hl := h.lt
  have hle := h.le
  exact ⟨h.ext.rng hr hb, rng_cel hr h.c2 (by omega) (by omega), rng_cel hr h.c3 (by omega) (by omega), rng_cel hr h.c5 (by omega) (by omega), rng_cel hr h.c7 (by omega) (by omega), h.lt, Nat.le_trans h.le hr.size, h.hw, h.hs, h.hB, h.ne, h.nr⟩
theorem RowI.turn {T : TypeId} {lo g n c b : Nat} {bs : List Int} (h : RowI T lo w (.slice (some ⟨g, 0, none⟩) n c) bs) (hx : Rng b (b + 1) w w') (hr : g ≠ b) : RowI T lo w' (.slice (some ⟨g, 0, none⟩) n c) bs := by
  obtain rfl := h.eq
  exact ownsRow_rng h hx (by omega)
theorem MapV.turn {m : Int → Value} {z : Value} {b k : Nat} (h : MapV w k z m) (hx : Rng b (b + 1) w w') (hr : k ≠ b) : MapV w' k z m := h.kept (hx.block k h.lt (by omega))
theorem RowI.nomap {T : TypeId} {lo g n c : Nat} {bs : List Int} {m : Int → Value} {z : Value} {b : Nat} (h : RowI T lo w (.slice (some ⟨g, 0, none⟩) n c) bs) (hm : MapV w b z m) : g ≠ b := by
  obtain rfl := h.eq
  exact hm.norow h
theorem ImW.seen (h : ImW n eg ec b2 b3 b5 b7 wm rm sb B1 w0 room S W V w) {k : Nat} (hr : Rng sb (sb + 1) w w') (hm : MapV w' sb (.bool false) (fun j => if j = (k : Int) then .bool true else .bool (S j))) : ImW n eg ec b2 b3 b5 b7 wm rm sb B1 w0 room (ins S k) W V w' :=
  ⟨h.toImB.turn hr h.hs (h.ms.nocell h.c2) (h.ms.nocell h.c3) (h.ms.nocell h.c5) (h.ms.nocell h.c7), h.mr.turn hr (by have := h.nr; have := h.hs; omega), h.mw.turn hr h.ne, hm.congr fun j => by
    unfold ins
    by_cases e : j = (k : Int)
    · simp [e]
    · simp [e], fun e h0 h1 => by
    rcases h.rows e h0 h1 with a | ⟨g, c, a, b⟩
    · exact .inl a
    · exact .inr ⟨g, c, a, b.turn hr (b.nomap h.ms)⟩, h.apart⟩
/-- The list at an end has turned within its block, or lies in a new one. -/
theorem ImW.put (h : ImW n eg ec b2 b3 b5 b7 wm rm sb B1 w0 room S W V w) {x : Nat} (hx : x < n) {g c : Nat} {l : List Int} {w1 w2 : World} {gb : Nat} (hr1 : Rng gb (gb + 1) w w1) (hgb : B1 ≤ gb) (hgv : (∃ l' c', V x = .slice (some ⟨gb, 0, none⟩) l' c') ∨ w.heap.size ≤ gb)
    (hg : g = gb ∨ w.heap.size ≤ g) (hrow : RowI 3 B1 w1 (.slice (some ⟨g, 0, none⟩) l.length c) l) (hr2 : Rng wm (wm + 1) w1 w2) (hm : MapV w2 wm (.slice none 0 0) (fun j => if j = (x : Int) then .slice (some ⟨g, 0, none⟩) l.length c else V j)) :
    ImW n eg ec b2 b3 b5 b7 wm rm sb B1 w0 room S (updW W x l) (updW V x (.slice (some ⟨g, 0, none⟩) l.length c)) w2 := by
  have hl := h.lt
  have hgne : ∀ e : Int, 0 ≤ e → e < (n : Int) → e ≠ (x : Int) → ∀ g' l' c', V e = .slice (some ⟨g', 0, none⟩) l' c' → g' ≠ gb ∧ g' < w.heap.size := fun e h0 h1 hne g' l' c' hv => by
    have hlt : g' < w.heap.size := by
      rcases h.rows e h0 h1 with ⟨a, -⟩ | ⟨q, q2, a, b⟩
      · rw [a] at hv; cases hv
      · rw [a] at hv; cases hv; exact b.len.2
    rcases hgv with ⟨l2, c2, hx2⟩ | hx2
    · exact ⟨h.apart e x h0 h1 (by omega) (by omega) hne _ _ _ _ _ _ hv hx2, hlt⟩
    · exact ⟨by omega, hlt⟩
  have hmb : ∀ {k : Nat} {z : Value} {m : Int → Value}, MapV w k z m → k ≠ gb := fun {k z m} hk => by
    rcases hgv with ⟨l2, c2, hx2⟩ | hx2
    · rcases h.rows x (by omega) (by omega) with ⟨a, -⟩ | ⟨q, q2, a, b⟩
      · rw [a] at hx2; cases hx2
      · rw [a] at hx2; cases hx2; exact fun e => b.nomap hk e.symm
    · have := hk.lt; omega
  have hle := h.le
  have B := (h.toImB.turn hr1 (by have := h.hB; omega) (by omega) (by omega) (by omega) (by omega))
  have mr1 := h.mr.turn hr1 (hmb h.mr)
  have ms1 := h.ms.turn hr1 (hmb h.ms)
  have mw1 := h.mw.turn hr1 (hmb h.mw)
  have B2 := B.turn hr2 h.hw (mw1.nocell B.c2) (mw1.nocell B.c3) (mw1.nocell B.c5) (mw1.nocell B.c7)
  refine ⟨B2, mr1.turn hr2 (by have := h.nr; have := h.hw; omega), hm.congr fun j => rfl, ms1.turn hr2 h.ne.symm, fun e h0 h1 => ?_, fun e e' h0 h1 h0' h1' hne a1 a2 a3 a4 a5 a6 hv hv' => ?_⟩
  · by_cases hex : e = (x : Int)
    · subst hex
      rw [updW_same, updW_same]
      exact .inr ⟨g, c, rfl, hrow.turn hr2 (hrow.nomap mw1)⟩
    · rw [updW_other _ hex, updW_other _ hex]
      rcases h.rows e h0 h1 with a | ⟨q, q2, a, b⟩
      · exact .inl a
      · have b1 := b.turn hr1 (hgne e h0 h1 hex _ _ _ a).1
        exact .inr ⟨q, q2, a, b1.turn hr2 (b1.nomap mw1)⟩
  · by_cases hex : e = (x : Int)
    · subst hex
      rw [updW_same] at hv
      rw [updW_other _ (fun q => hne q.symm)] at hv'
      cases hv
      have := hgne e' h0' h1' (fun q => hne q.symm) _ _ _ hv'
      omega
    · rw [updW_other _ hex] at hv
      by_cases hex' : e' = (x : Int)
      · subst hex'
        rw [updW_same] at hv'
        cases hv'
        have := hgne e h0 h1 hex _ _ _ hv
        omega
      · rw [updW_other _ hex'] at hv'
        exact h.apart e e' h0 h1 h0' h1' hne _ _ _ _ _ _ hv hv'
/-- One cell of a list is written. -/
theorem ImW.store (h : ImW n eg ec b2 b3 b5 b7 wm rm sb B1 w0 room S W V w) {x g l c : Nat} (hx : x < n) (hv : V x = .slice (some ⟨g, 0, none⟩) l c) (k : Nat) (v : Int) :
    ImW n eg ec b2 b3 b5 b7 wm rm sb B1 w0 room S (updW W x ((W x).set k v)) V (w.setCell ⟨g, k, none⟩ (.int .i64 v)) := by
  have hl := h.lt
  have hrow : B1 ≤ g ∧ g < w.heap.size ∧ RowI 3 B1 w (.slice (some ⟨g, 0, none⟩) (W x).length c) (W x) ∧ l = (W x).length := by
    rcases h.rows x (by omega) (by omega) with ⟨a, -⟩ | ⟨q, q2, a, b⟩
    · rw [a] at hv; cases hv
    · rw [a] at hv; cases hv; exact ⟨b.len.1, b.len.2, b, rfl⟩
  obtain ⟨r1, r2, r3, rfl⟩ := hrow
  have hr : Rng g (g + 1) w (w.setCell ⟨g, k, none⟩ (.int .i64 v)) := (Rng.refl g (g + 1) w).setCell (p := ⟨g, k, none⟩) (Nat.le_refl g) (Nat.lt_succ_self g) _
  have B := h.toImB.turn hr (by have := h.hB; omega) (by omega) (by omega) (by omega) (by omega)
  refine ⟨B, h.mr.turn hr (fun e => r3.nomap h.mr e.symm), h.mw.turn hr (fun e => r3.nomap h.mw e.symm), h.ms.turn hr (fun e => r3.nomap h.ms e.symm), fun e h0 h1 => ?_, h.apart⟩
  by_cases hex : e = (x : Int)
  · subst hex
    rw [updW_same]
    have := r3.store k v
    exact .inr ⟨g, c, by rw [List.length_set]; exact hv, by rw [List.length_set]; exact this⟩
  · rw [updW_other _ hex]
    rcases h.rows e h0 h1 with a | ⟨q, q2, a, b⟩
    · exact .inl a
    · exact .inr ⟨q, q2, a, b.turn hr (h.apart e x h0 h1 (by omega) (by omega) hex _ _ _ _ _ _ a hv)⟩
end
end Go.Proofs.Ythcomgnokkndgaa
