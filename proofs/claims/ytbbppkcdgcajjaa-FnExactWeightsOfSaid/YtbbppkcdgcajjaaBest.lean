/- The best path, step by step. Plain. -/
import Derived.Test.YtbbppkcdgcajjaaCost
import Derived.Test.YtbbppkcdgcajjaaBfs
import Derived.Test.YtbbppkcdgcajjaaPathsOf
namespace Go.Proofs.Ytbbppkcdgcajjaa
open Go.RowKit

section
variable {L : List VD} {c : Nat → Nat}
/-- The good step by cost. -/
def GoodC (L : List VD) (c : Nat → Nat) (a : Int) (k : Nat) (t : Int) : Prop := ∃ x y, Lst L c [] a x ∧ Lst L c [] t y ∧ c k + y = x
theorem goodC_ex {a : Int} {x : Nat} (h : Lst L c [] a x) (hs : (At L a).1 = false) : ∃ k, ∃ hk : k < (At L a).2.length, GoodC L c a k (At L a).2[k] := by
  obtain ⟨k, hk, y, hy, e⟩ := h.step hs
  exact ⟨k, hk, x, y, h, hy, e⟩
/-- Between the steps by cost. -/
structure WayC (L : List VD) (c : Nat → Nat) (R : List Int) (p : List Int) (a : Int) (f : Nat) : Prop where
  last : p.getLast? = some a
  r0 : 0 ≤ a
  r1 : a < L.length
  lst : ∃ x, Lst L c [] a x ∧ x ≤ f
  fin : pathBy L (nextC L c) f p = R
theorem WayC.done {R p : List Int} {a : Int} {f : Nat} (h : WayC L c R p a f) (hs : (At L a).1 = true) : p = R := by rw [← h.fin, pathBy_end h.last hs]
theorem WayC.go (hok : OkV L) (hc : ∀ k, 1 ≤ c k) {R p : List Int} {a : Int} {f : Nat} (h : WayC L c R p a f) (hs : (At L a).1 = false) {k : Nat} (hk : k < (At L a).2.length) (hg : GoodC L c a k (At L a).2[k]) (hn : ∀ j (hj : j < (At L a).2.length), j < k → ¬ GoodC L c a j (At L a).2[j]) :
    ∃ f', f = f' + 1 ∧ WayC L c R (p ++ [(At L a).2[k]]) (At L a).2[k] f' := by
  obtain ⟨x, hx, hxf⟩ := h.lst
  obtain ⟨x', y, hx', hy, e⟩ := hg
  have := hx.uniq hx'
  have hck := hc k
  subst this
  obtain ⟨f', rfl⟩ : ∃ f', f = f' + 1 := ⟨f - 1, by omega⟩
  have hr := hok.range hk
  refine ⟨f', rfl, by simp, hr.1, hr.2, ⟨y, hy, by omega⟩, ?_⟩
  rw [← h.fin, pathBy_step h.last hs (show nextC L c p a = some (At L a).2[k] from firstK_at hk ⟨x, y, hx, hy, e⟩ hn)]
/-- The good step by depth. -/
structure WayD (L : List VD) (R : List Int) (p : List Int) (a : Int) (f : Nat) : Prop where
  last : p.getLast? = some a
  r0 : 0 ≤ a
  r1 : a < L.length
  walk : Walk L p
  rch : Rch L p.dropLast a
  fuel : p.length + f = 49
  fin : pathBy L (nextD L) f p = R
theorem WayD.done {R p : List Int} {a : Int} {f : Nat} (h : WayD L R p a f) (hs : (At L a).1 = true) : p = R := by rw [← h.fin, pathBy_end h.last hs]
theorem WayD.ex {R p : List Int} {a : Int} {f : Nat} (h : WayD L R p a f) (hs : (At L a).1 = false) : ∃ k, ∃ hk : k < (At L a).2.length, Rch L p (At L a).2[k] := by
  obtain ⟨k, hk, hr⟩ := h.rch.next hs
  refine ⟨k, hk, hr.mono fun b hb => ?_⟩
  obtain ⟨i, hi, e⟩ := List.getElem_of_mem hb
  obtain ⟨a', ha', _, _, hl, e2⟩ := h.walk.last
  rw [h.last] at ha'
  obtain rfl := Option.some.inj ha'
  by_cases hil : i = p.length - 1
  · subst hil; rw [← e, e2]; exact List.mem_cons_self ..
  · refine List.mem_cons_of_mem _ ?_
    rw [List.dropLast_eq_take, List.mem_take_iff_getElem]
    exact ⟨i, by omega, e⟩
theorem WayD.go (hok : OkV L) {R p : List Int} {a : Int} {f : Nat} (h : WayD L R p a f) (hs : (At L a).1 = false) {k : Nat} (hk : k < (At L a).2.length) (hg : Rch L p (At L a).2[k]) (hn : ∀ j (hj : j < (At L a).2.length), j < k → ¬ Rch L p (At L a).2[j]) :
    ∃ f', f = f' + 1 ∧ WayD L R (p ++ [(At L a).2[k]]) (At L a).2[k] f' := by
  have hr := hok.range hk
  have hl := hok.2
  have hw := h.walk.2.1
  have hf := h.fuel
  obtain ⟨f', rfl⟩ : ∃ f', f = f' + 1 := ⟨f - 1, by omega⟩
  have hni : (At L a).2[k] ∉ p := by obtain ⟨m, x, hx⟩ := hg; exact hx.notin
  refine ⟨f', rfl, by simp, hr.1, hr.2, h.walk.snoc hr.1 hr.2 hni, by rw [List.dropLast_concat]; exact hg, by simp; omega, ?_⟩
  rw [← h.fin, pathBy_step h.last hs (show nextD L p a = some (At L a).2[k] from firstK_at hk hg hn)]

theorem best_no {rule m : Int} (h : ¬ Rch L [] m) : best L rule m = [] := by unfold best; rw [if_neg h]
theorem wayC_start (hok : OkV L) {rule m : Int} (h0 : 0 ≤ m) (h1 : m < L.length) (h : Rch L [] m) (h2 : rule ≠ 2) : WayC L (costOf (decide (rule = 1))) (best L rule m) [m] m 48 := by
  obtain ⟨k, x, hw⟩ := h.wk (costOf (decide (rule = 1)))
  obtain ⟨m', x', _, _, e3, hw'⟩ := hw.small hok (costOf_pos _) (costOf_four _) h0 h1
  obtain ⟨y, hy, hl⟩ := Lst.of hw'
  exact ⟨rfl, h0, h1, ⟨y, hl, by omega⟩, by unfold best; rw [if_pos h, if_neg h2]⟩
theorem wayD_start (hok : OkV L) {m : Int} (h0 : 0 ≤ m) (h1 : m < L.length) (h : Rch L [] m) : WayD L (best L 2 m) [m] m 48 :=
  ⟨rfl, h0, h1, walk_one ⟨hok, h0, by omega⟩, h, rfl, by unfold best; rw [if_pos h, if_pos rfl]⟩
theorem pathBy_len {next : List Int → Int → Option Int} : ∀ (f : Nat) (p : List Int), p.length ≤ (pathBy L next f p).length ∧ (pathBy L next f p).length ≤ p.length + f := by
  intro f
  induction f with
  | zero => intro p; simp [pathBy]
  | succ f ih =>
    intro p
    rw [pathBy]
    split
    · omega
    · split
      · omega
      · rename_i t _
        have := ih (p ++ [t]); simp at this; omega
theorem best_len {rule m : Int} : (best L rule m).length ≤ 49 ∧ (0 < (best L rule m).length ↔ Rch L [] m) := by
  unfold best
  by_cases h : Rch L [] m
  · rw [if_pos h]
    split
    · have := pathBy_len (L := L) (next := nextD L) 48 [m]; simp at this; exact ⟨by omega, fun _ => h, fun _ => by omega⟩
    · have := pathBy_len (L := L) (next := nextC L (costOf (decide (rule = 1)))) 48 [m]; simp at this; exact ⟨by omega, fun _ => h, fun _ => by omega⟩
  · rw [if_neg h]; simp [h]
end
end Go.Proofs.Ytbbppkcdgcajjaa
