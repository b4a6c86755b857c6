/- Slices of shares (pairs of numbers): what reads, what a function owns, and the contracts of the laws' helpers. -/
import Derived.Test.YthcomgnokkndgaaDoorPairs
namespace Go.Proofs.YthcomgnokkndgaaDoor
open Go.RowKit

theorem Tryd.info_share : (Tryd.prog.info? 44).map (fun i => (i.zero, i.size, i.bytes)) = some (some (.agg #[.int .i64 0, .int .i64 0]), 2, 16) := by kernel_rfl

def OwnP (lo hi : Nat) (w : World) (v : Value) (xs : SD) : Prop :=
  (v = .slice none 0 0 ∧ xs = []) ∨ ∃ g cap cs, v = .slice (some ⟨g, 0, none⟩) xs.length cap ∧ lo ≤ g ∧ g < hi ∧ w.ownsRow lo 44 2 v xs.length cs ∧ ∀ i (h : i < xs.length), cs[i * 2]? = some (iv xs[i].1) ∧ cs[i * 2 + 1]? = some (iv xs[i].2)
theorem OwnP.rp {lo hi : Nat} {w : World} {v : Value} {xs : SD} (h : OwnP lo hi w v xs) : RP w v xs := by
  rcases h with ⟨rfl, rfl⟩ | ⟨g, cap, cs, rfl, _, _, how, hc⟩
  · exact .inr ⟨rfl, none, 0, rfl⟩
  · refine .inl ⟨g, 0, cap, rfl, own_le how, ⟨(how.lt g rfl).2⟩, fun i hi => ?_⟩
    simp only [Nat.zero_add]
    rw [how.cellAt _ (by omega), how.cellAt _ (by omega)]; exact hc i hi
theorem OwnP.ext {lo hi : Nat} {w w' : World} {v : Value} {xs : SD} (h : OwnP lo hi w v xs) (hx : Ext w w') : OwnP lo hi w' v xs := by
  rcases h with h | ⟨g, cap, cs, hv, a, b, how, hc⟩
  · exact .inl h
  · exact .inr ⟨g, cap, cs, hv, a, b, ownsRow_ext how hx, hc⟩
theorem OwnP.rng {lo hi lo' hi' : Nat} {w w' : World} {v : Value} {xs : SD} (h : OwnP lo hi w v xs) (hx : Rng lo' hi' w w') (hd : hi ≤ lo' ∨ hi' ≤ lo) : OwnP lo hi w' v xs := by
  rcases h with h | ⟨g, cap, cs, rfl, a, b, how, hc⟩
  · exact .inl h
  · exact .inr ⟨g, cap, cs, rfl, a, b, ownsRow_rng how hx (by omega), hc⟩
theorem OwnP.mono {lo hi lo' hi' : Nat} {w : World} {v : Value} {xs : SD} (h : OwnP lo hi w v xs) (h1 : lo' ≤ lo) (h2 : hi ≤ hi') : OwnP lo' hi' w v xs := by
  rcases h with h | ⟨g, cap, cs, hv, a, b, how, hc⟩
  · exact .inl h
  · exact .inr ⟨g, cap, cs, hv, by omega, by omega, ownsRow_mono how h1, hc⟩

/-- The rows of shares. -/
def shareKind : Kind SD where
  R := RP
  Own := OwnP
  cnt xs := 2 * xs.length
  mark k xs := pmarks k xs.length
  r_ext h hx := h.ext hx
  own_ext h hx := h.ext hx
  own_rng h hx hd := h.rng hx hd
  own_mono h h1 h2 := h.mono h1 h2
  own_r h := h.rp
  r_form h := by obtain ⟨p, c, rfl, _⟩ := h.form; exact ⟨_, _, _, rfl⟩



end Go.Proofs.YthcomgnokkndgaaDoor
