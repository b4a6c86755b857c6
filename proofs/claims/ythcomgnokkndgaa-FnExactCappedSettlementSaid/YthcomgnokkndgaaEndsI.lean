/- The ends of all members, on the program's side; whether a limit is one. -/
import Derived.Test.YthcomgnokkndgaaFnd
import Derived.Test.YthcomgnokkndgaaCells
import Derived.Test.YthcomgnokkndgaaEnds
namespace Go.Proofs.Ythcomgnokkndgaa
open Go.RowKit

set_option maxHeartbeats 4000000 in
set_option maxRecDepth 100000 in
theorem impl_allEnds (v : Value) (L : List VD) (w : World) (h : VS w v L) (hs : Short L) (hok : OkV L) (X : List (List Int)) (hX : allE L L.length = X) :
    Calls Try.prog 19 #[v] w fun e w' => ∃ g c, e = .returned (.slice (some ⟨g, 0, none⟩) X.length c) ∧ OwnR intKind 24 w.heap.size w'.heap.size w' (.slice (some ⟨g, 0, none⟩) X.length c) X ∧ Ext w w' := by
  have hln := hok.2
  have HN := Lib.hid hX
  have HE := fun (k : Nat) (hk : k < L.length) x (hx : Ext w x) => impl_endsFrom v (.slice none 0 0) (k : Int) L [] x (h.ext hx) hs hok (by omega) (by omega) (.inl ⟨rfl, rfl⟩) (by simp)
  have HEN := Lib.hid (fun k : Nat => endsL_length L (k : Int))
  obtain ⟨vb, vo, vc, rfl, -⟩ := h
  clear hX hok hs
  go_enter Try.func19, Try.ntmps19
  go_wp2_with fail
  go_loopw [3, 8] (fun o i wr => ∃ (k og oc : Nat) (C : List (List Int)), k ≤ L.length ∧ i = .int .i64 k ∧ o = .slice (some ⟨og, 0, none⟩) C.length oc ∧ C.length ≤ k ∧ Ext w wr ∧ Hid (C = allE L k) ∧ Hid (OwnR intKind 24 w.heap.size wr.heap.size wr (.slice (some ⟨og, 0, none⟩) C.length oc) C)) (fun _ i _ => L.length - (intOf i).toNat)
  case atStart => exact ⟨0, _, _, [], Nat.zero_le _, rfl, rfl, Nat.le_refl _, ExtC.ext, Lib.hid rfl, Lib.hid ((own_rows_empty w w.heap.size (Nat.le_refl _)).mono (Nat.le_refl _) (by simp))⟩
  case round =>
    obtain ⟨k, og, oc, C, hk, rfl, rfl, hC, hx, HCk, HO⟩ := hrel
    obtain ⟨g0, rfl⟩ := hx.grow; clear hx
    by_cases hlt : k < L.length
    · have R := HE k hlt
      have HL := Lib.hid (allE_succ L k)
      obtain ⟨E, hE⟩ : ∃ E, endsL L [] (k : Int) = E := ⟨_, rfl⟩
      have hen := HEN.out k
      have HLE := Lib.hid hE
      rw [hE] at hen
      simp only [hE] at R
      clear hE
      go_wp2_with (first | (go_at_call 30; (with_reducible refine (R _ ExtC.ext).mono ?_); rintro e w' ⟨eg, ec, rfl, ho, hx⟩; obtain ⟨g1, rfl⟩ := hx.grow; clear hx; have HS := Lib.hid ho; clear ho R) | (at_builtin; refine app_row (w0 := w) (lo := w.heap.size) (mid := g0.fin.heap.size) (hi := g1.fin.heap.size) _ _ og oc C ⟨g1.fin.heap.size, 0, none⟩ 1 (.slice (some ⟨eg, 0, none⟩) E.length ec) E rfl rfl rfl (HO.out.ext ExtC.ext) rfl (cell_new _ _ _) rfl (HS.out.ext ExtC.ext) (ExtC.ext : Ext w g0.fin).size (by simp) (by have := (ExtC.ext : Ext g0.fin g1.fin).size; simp; omega) (by omega) ExtC.ext (by simp) ?_; intro g' c' w' ho hx; obtain ⟨g3, rfl⟩ := hx.grow; clear hx; have HO2 := Lib.hid ho; clear ho))
      exact ⟨⟨k + 1, g', c', C ++ [E], by omega, by go_num, by simp, by simp; omega, ExtC.ext, Lib.hid (by rw [HL.out, HCk.out, HLE.out]), HO2⟩, by simp [intOf]; omega⟩
    · have e : k = L.length := by omega
      have e2 : C = X := by rw [HCk.out, e]; exact HN.out
      subst e2
      go_wp2_with fail
      refine bodyPost_ret (v := .slice (some ⟨og, 0, none⟩) C.length oc) (by simp [results, Try.results19, go_sem]) rfl ?_
      exact ⟨_, _, rfl, HO.out, ExtC.ext⟩
end Go.Proofs.Ythcomgnokkndgaa
