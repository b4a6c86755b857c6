/- A slice of fractions that comes in as an argument of a law. -/
import Derived.Test.YtoedphgoaifojaaPool
import Derived.Test.YtoedphgoaifojaaFracS
namespace Go.Proofs.Ytoedphgoaifojaa
open Go.ChangeShapes Go.WideShapes Go.ChangeAt Go.RowKit Go.Joins Go.Deep

theorem Try.cellsFraction : Try.prog.cellsOf 82 = 2 := by kernel_rfl
set_option maxRecDepth 100000 in
theorem open_fracS {H : Type} {enc : TypeId × Value → H} {w : World} {held : Bool} {base : Nat} {r : Reach} {b0 : Nat} {v : Value} {d : DataW H} {ps : List MemPlace} (hval : Value.okWide Try.prog w r b0 40 v)
    (h : DataW.Trod enc Try.prog w base (fun _ => true) held 40 v d ps) : ∃ xs : SD, RP w v xs ∧ xs.length ≤ 9223372036854775807 := by
  obtain ⟨a0, len0, cap0, rfl⟩ := okWide_slice Try.underlying40 hval
  obtain ⟨fuel, hf⟩ := h
  obtain ⟨p, len, cap, hcs, hlc, hle, hc⟩ := raw_pairs Try.underlying40 Try.underlying82 (by kernel_rfl) Try.cellsFraction hf
  simp only [Value.cells, List.cons.injEq, and_true, Value.slice.injEq] at hcs
  obtain ⟨rfl, rfl, rfl⟩ := hcs
  by_cases h0 : 0 < len0
  · obtain ⟨b, off, rfl, hb, hk⟩ := hc h0
    obtain ⟨L, hL, hR⟩ := choose_list' len0 (fun i (e : Int × Int) => w.cell? ⟨b, off + i * 2, none⟩ = some (iv e.1) ∧ w.cell? ⟨b, off + i * 2 + 1, none⟩ = some (iv e.2)) (by
      intro i hi
      obtain ⟨v0, v1, y0, y1, n, c0, c1, k0, k1⟩ := hk i hi
      obtain ⟨m0, e0, -⟩ := DataW.trod_int Try.underlying2 k0
      obtain ⟨m1, e1, -⟩ := DataW.trod_int Try.underlying2 k1
      simp only [List.cons.injEq, and_true] at e0 e1
      subst e0 e1
      exact ⟨(m0, m1), c0, c1⟩)
    subst hL
    exact ⟨L, .inl ⟨b, off, cap0, rfl, hlc, hb, hR⟩, hle⟩
  · have : len0 = 0 := by omega
    subst this
    exact ⟨[], .inr ⟨rfl, a0, cap0, rfl⟩, by simp⟩

end Go.Proofs.Ytoedphgoaifojaa
