/- A fraction read from its text, on both sides. -/
import Derived.Test.YthcomgnokkndgaaDoorFracP
import Derived.Test.YthcomgnokkndgaaDoorShC
namespace Go.Proofs.YthcomgnokkndgaaDoor
open Go.RowKit

/-- The library's bound of a search is some number. -/
def ML (w : World) : Prop := ∃ m, w.cell? ⟨0, 0, none⟩ = some (.int .i64 m)
theorem ML.ext {w w' : World} (h : ML w) (hx : Ext w w') : ML w' := by
  obtain ⟨m, hm⟩ := h
  exact ⟨m, by rw [Below.cell hx (InW.of_cell hm).lt]; exact hm⟩
theorem ml_of {w : World} (h : w.ShapedOpen Tryd.prog) : ML w := Tryd.laysM145.s1_3 w h
theorem cut_len (l : List UInt8) (c : UInt8) : (Lib.cut l [c]).1.length ≤ l.length ∧ (Lib.cut l [c]).2.1.length ≤ l.length := by
  unfold Lib.cut
  split
  · exact ⟨by rw [List.length_take]; omega, by rw [List.length_drop]; omega⟩
  · exact ⟨Nat.le_refl _, by simp⟩
theorem cut_call (s : ByteArray) (c : UInt8) (w : World) (hs : s.size ≤ 1048576) (hm : ML w) (A B : ByteArray) (has : Bool) (hA : ⟨(Lib.cut s.data.toList [c]).1.toArray⟩ = A) (hB : ⟨(Lib.cut s.data.toList [c]).2.1.toArray⟩ = B) (hh : (Lib.cut s.data.toList [c]).2.2 = has) :
    Calls Tryd.prog 25 #[.string s, .string ⟨#[c]⟩] w fun e w' => e = .returned (.tuple #[.string A, .string B, .bool has]) ∧ Ext w w' := by
  obtain ⟨m, hm⟩ := hm
  subst hA hB hh
  exact (Tryd.strings_Cut s ⟨#[c]⟩ m w (by omega) hm).mono fun e w' h => ⟨h.1, by obtain ⟨n, rfl⟩ := h.2; exact (Ext.refl _).drewN n⟩



/-- c is the first place of '/' from k on, or the end. -/
def CutFrom (s : ByteArray) (k c : Nat) : Prop := k ≤ c ∧ c ≤ s.size ∧ (∀ j (h : j < s.size), k ≤ j → j < c → s[j] ≠ 47) ∧ ∀ h : c < s.size, s[c] = 47
theorem size_extract' (s : ByteArray) (a b : Nat) : (s.extract a b).size ≤ s.size := by
  rw [← size_list, extract_list, List.length_take, List.length_drop, size_list]; omega

end Go.Proofs.YthcomgnokkndgaaDoor
