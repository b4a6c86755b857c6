/- Appends of fractions that read to fractions that a function owns; slices.Clone at fractions. -/
import Derived.Test.YtoedphgoaifojaaFracMark
namespace Go.Proofs.Ytoedphgoaifojaa
open Go.RowKit

def pcsF (ys : SD) : List Value := (List.range (ys.length * 2)).map fun j => if j % 2 = 0 then iv (ys.getD (j / 2) (0, 0)).1 else iv (ys.getD (j / 2) (0, 0)).2
theorem pcsF_length (ys : SD) : (pcsF ys).length = ys.length * 2 := by simp [pcsF]
theorem pcsF_get (ys : SD) (j : Nat) (h : j < ys.length * 2) : (pcsF ys)[j]? = some (if j % 2 = 0 then iv (ys.getD (j / 2) (0, 0)).1 else iv (ys.getD (j / 2) (0, 0)).2) := by simp [pcsF, h]
theorem pcsF_pair (ys : SD) (i : Nat) (h : i < ys.length) : (pcsF ys)[i * 2]? = some (iv ys[i].1) ∧ (pcsF ys)[i * 2 + 1]? = some (iv ys[i].2) := by
  rw [pcsF_get ys _ (by omega), pcsF_get ys _ (by omega)]
  have e1 : i * 2 % 2 = 0 := by omega
  have e2 : i * 2 / 2 = i := by omega
  have e3 : (i * 2 + 1) % 2 = 1 := by omega
  have e4 : (i * 2 + 1) / 2 = i := by omega
  have e5 : ys.getD i (0, 0) = ys[i] := by simp [h]
  rw [e1, e2, e3, e4, e5]
  exact ⟨rfl, rfl⟩

theorem app_rf {ops : Array Oper} {rest : List Oper} {o : Oper} {a : Act} {Q : Exit → Act → World → Prop} {w0 w : World} {lo hi : Nat} (s x : Operand) (g cap n m : Nat) (sv : Value) (L ys : SD)
    (hgd : o.guard = none) (ho : o.op = .call { callee := .builtin .append, args := #[s, x], argTypes := #[43, 43] })
    (hn : L.length = n) (hm' : ys.length = m) (hs : a.eval s = .slice (some ⟨g, 0, none⟩) n cap) (hown : OwnF lo hi w (.slice (some ⟨g, 0, none⟩) n cap) L) (hx : a.eval x = sv) (hR : RP w sv ys) (hbn : n ≤ 1048576) (hb : ys.length ≤ 1048576) (h0 : Ext w0 w) (hlo : w0.heap.size ≤ lo) (hl : lo ≤ w.heap.size)
    (h : ∀ g' c' w', OwnF lo w'.heap.size w' (.slice (some ⟨g', 0, none⟩) (n + m) c') (L ++ ys) → Ext w0 w' → wpList Try.prog ops Q rest (a.put o.dst (.slice (some ⟨g', 0, none⟩) (n + m) c')) w') : wpList Try.prog ops Q (o :: rest) a w := by
  subst hn
  subst hm'
  obtain ⟨i0, hi0, hz0, hz1, hz2⟩ := info_parts Try.info_fracS
  rcases hown with ⟨e, _⟩ | ⟨g', cap', cs, e, h1, h2, how, hcs⟩
  · cases e
  simp only [Value.slice.injEq, Option.some.injEq, Addr.mk.injEq, and_true, true_and] at e
  obtain ⟨rfl, rfl⟩ := e
  have hcl : cs.length = L.length * 2 := how.1
  obtain ⟨p, c, rfl, -, hq⟩ := hR.form
  by_cases hm : 0 < ys.length
  · obtain ⟨b, off, rfl, ib, hc⟩ := hq hm
    refine wpList_append_own2 w hgd s x _ ho lo 60 i0 (.agg #[.int .i64 0, .int .i64 0]) 2 16 Try.underlying43 hi0 hz0 hz1 hz2 rfl (by decide) _ L.length cs hs how ⟨b, off, none⟩ ys.length c (pcsF ys) hx (pcsF_length ys) (fun j u hj => ?_) (fun u hu => ?_) (by unfold maxLen; omega) (by omega) hl (fun v' w' h2' h3 h4 h5 => ?_)
    · have hj' : j < ys.length * 2 := by have := (List.getElem?_eq_some_iff.1 hj).1; rwa [pcsF_length] at this
      obtain ⟨d1, d2⟩ := hc (j / 2) (by omega)
      obtain ⟨p1, p2⟩ := pcsF_pair ys (j / 2) (by omega)
      rw [add_plain']
      by_cases e : j % 2 = 0
      · have e2 : j / 2 * 2 = j := by omega
        rw [e2] at p1 d1
        rw [← hj, p1, d1]
      · have e2 : j / 2 * 2 + 1 = j := by omega
        rw [e2] at p2
        rw [Nat.add_assoc, e2] at d2
        rw [← hj, p2, d2]
    · obtain ⟨j, hj, rfl⟩ := List.mem_map.1 hu
      split <;> rfl
    · obtain ⟨g', c', rfl, -⟩ := h5 hm
      refine h g' c' w' (.inr ⟨g', c', cs ++ pcsF ys, by simp, (h2'.lt g' rfl).1, (h2'.lt g' rfl).2, by simpa using h2', fun i hi => ?_⟩) (h0.grown h3 fun k hk => by simp [Value.ownBlock] at hk; omega)
      rw [List.length_append] at hi
      by_cases hil : i < L.length
      · rw [List.getElem?_append_left (by omega), List.getElem?_append_left (by omega), List.getElem_append_left hil]
        exact hcs i hil
      · rw [List.getElem?_append_right (by omega), List.getElem?_append_right (by omega), List.getElem_append_right (by omega), hcl]
        have := pcsF_pair ys (i - L.length) (by omega)
        rw [show i * 2 - L.length * 2 = (i - L.length) * 2 by omega, show i * 2 + 1 - L.length * 2 = (i - L.length) * 2 + 1 by omega]
        exact this
  · have : ys = [] := List.length_eq_zero_iff.1 (by omega)
    subst this
    refine wpList_plain hgd fun K hK => ?_
    have hr := run_append_zero (P := Try.prog) (w := w) lo 43 o.type 60 i0 2 Try.underlying43 hi0 (.slice (some ⟨g, 0, none⟩) L.length cap) L.length cs how p c
    unfold Oper.wp execOp
    simp only [List.length_nil] at hx
    simp only [ho, resolve, invoke, builtin, Sem.run_bind, Sem.run_pure, Result.andThen_ok, List.map_toArray, List.map_cons, List.map_nil, hs, hx, hr]
    exact hK _ _ (h g cap w (.inr ⟨g, cap, cs, by simp, h1, (how.lt g rfl).2, by simpa using how, fun i hi => by simpa using hcs i (by simpa using hi)⟩) h0)

theorem own_frac_nil (w : World) (lo : Nat) (hl : lo ≤ w.heap.size) : OwnF lo (w.heap.size + 1) (w.alloc (.cells #[] 60)) (.slice (some ⟨w.heap.size, 0, none⟩) 0 0) [] := by
  have h := World.ownsRow_made (e := 60) (size := 2) (base := lo) w #[] 0 hl (by unfold maxLen; omega) (by rfl)
  have := OwnF.made h
  simpa using this
theorem slices_CloneF (v : Value) (xs : SD) (w : World) (h : PS w v xs) (hn : xs.length ≤ 1048576) :
    Calls Try.prog 68 #[v] w fun e w' => ∃ g c, e = .returned (.slice (some ⟨g, 0, none⟩) xs.length c) ∧ OwnF w.heap.size w'.heap.size w' (.slice (some ⟨g, 0, none⟩) xs.length c) xs ∧ Ext w w' := by
  have H := Lib.hid (show RP w v xs from .inl h)
  obtain ⟨b, off, cap, rfl, hc, hb, hx⟩ := h
  clear hx
  have q22 : ∀ (w : World) (a : Option Addr) (n c n' c' : Nat), (binOp .eql 43 (.slice a n c) (.slice none n' c')).run Try.prog w = .ok (.bool a.isNone) w := fun w a n c n' c' => Lib.run_eql_slice_nil w _ _ a n c n' c' Try.underlying43
  go_enter Try.func68, Try.ntmps68
  go_wp2_with (at_builtin; refine app_rf (w0 := w) (lo := w.heap.size) (hi := w.heap.size + 1) _ _ w.heap.size 0 0 xs.length _ [] xs rfl rfl rfl rfl rfl (own_frac_nil w _ (Nat.le_refl _)) rfl (H.out.ext ExtC.ext) (by omega) hn ExtC.ext (Nat.le_refl _) (by simp) ?_; intro g c w' ho hx)
  go_wp2
  go_ret
  exact ⟨g, c, rfl, by simpa using ho, hx⟩
end Go.Proofs.Ytoedphgoaifojaa
