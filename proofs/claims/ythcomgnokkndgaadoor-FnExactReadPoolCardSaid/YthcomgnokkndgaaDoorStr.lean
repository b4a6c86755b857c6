/- Lists of strings that a function makes; numbers joined: impl.decimals. -/
import Derived.Test.YthcomgnokkndgaaDoorDec
import Derived.Test.YthcomgnokkndgaaDoorShJ
import Derived.Test.YthcomgnokkndgaaDoorFrText
import Derived.Test.YthcomgnokkndgaaDoorApp
import Derived.Test.YthcomgnokkndgaaDoorCells
import Derived.Test.YthcomgnokkndgaaDoorLib
namespace Go.Proofs.YthcomgnokkndgaaDoor
open Go.RowKit

/-- A list of strings in a block of its own, from lo on. -/
def OwnT (lo : Nat) (w : World) (g c : Nat) (xs : List ByteArray) : Prop := w.ownsRow lo 9 1 (.slice (some ⟨g, 0, none⟩) xs.length c) xs.length (xs.map Value.string)
theorem OwnT.ext {lo g c : Nat} {w w' : World} {xs : List ByteArray} (h : OwnT lo w g c xs) (hx : Ext w w') : OwnT lo w' g c xs := ownsRow_ext h hx
theorem OwnT.lt {lo g c : Nat} {w : World} {xs : List ByteArray} (h : OwnT lo w g c xs) : lo ≤ g ∧ g < w.heap.size := World.ownsRow.lt h g rfl
theorem OwnT.cap {lo g c : Nat} {w : World} {xs : List ByteArray} (h : OwnT lo w g c xs) : xs.length ≤ c := by
  rcases h.2 with ⟨h1, _⟩ | ⟨g', cap', cur, h1, _, _, h2, _⟩
  · cases h1
  · simp only [Value.slice.injEq, true_and] at h1; omega
theorem OwnT.cell {lo g c : Nat} {w : World} {xs : List ByteArray} (h : OwnT lo w g c xs) (i : Nat) (x : ByteArray) (hi : xs[i]? = some x) : w.cell? ⟨g, i, none⟩ = some (.string x) := by
  obtain ⟨hl, rfl⟩ := List.getElem?_eq_some_iff.1 hi
  rw [World.ownsRow.cellAt h i (by omega)]
  simp [hl]
theorem OwnT.empty (w : World) (lo : Nat) (hl : lo ≤ w.heap.size) : OwnT lo (w.alloc (.cells #[] 9)) w.heap.size 0 [] := by
  have h := World.ownsRow_made (e := 9) (size := 1) (base := lo) w #[] 0 hl (by unfold maxLen; omega) (by rfl)
  simpa [OwnT] using h
theorem Tryd.info_str : (Tryd.prog.info? 9).map (fun i => (i.zero, i.size, i.bytes)) = some (some (.string ByteArray.empty), 1, 16) := by kernel_rfl
/-- A string appended to a list of strings that a function owns. -/
theorem app_str {ops : Array Oper} {rest : List Oper} {o : Oper} {a : Act} {Q : Exit → Act → World → Prop} {w0 w : World} {lo : Nat} (s x : Operand) (g cap : Nat) (xs : List ByteArray) (ad : Addr) (c : Nat) (y : ByteArray)
    (hgd : o.guard = none) (ho : o.op = .call { callee := .builtin .append, args := #[s, x], argTypes := #[47, 47] })
    (hs : a.eval s = .slice (some ⟨g, 0, none⟩) xs.length cap) (hown : OwnT lo w g cap xs) (hx : a.eval x = .slice (some ad) 1 c)
    (hy : w.cell? (ad.add 0) = some (.string y)) (hb : xs.length ≤ 1048576) (h0 : Ext w0 w) (hlo : w0.heap.size ≤ lo)
    (h : ∀ g' c' w', OwnT lo w' g' c' (xs ++ [y]) → Ext w0 w' → wpList Tryd.prog ops Q rest (a.put o.dst (.slice (some ⟨g', 0, none⟩) (xs.length + 1) c')) w') : wpList Tryd.prog ops Q (o :: rest) a w := by
  obtain ⟨i0, hi0, hz0, hz1, hz2⟩ := info_parts Tryd.info_str
  have hgl := hown.lt
  refine wpList_append_own2 w hgd s x _ ho lo 9 i0 (.string ByteArray.empty) 1 16 Tryd.underlying47 hi0 hz0 hz1 hz2 rfl (by decide) _ xs.length (xs.map Value.string) hs hown ad 1 c [.string y] hx (by simp) (fun j u hj => ?_) (fun u hu => ?_) (by unfold maxLen; omega) (by omega) (by omega) (fun v' w' h2 h3 h4 h5 => ?_)
  · have : j = 0 := by have := (List.getElem?_eq_some_iff.1 hj).1; simpa using this
    subst this
    simp at hj; subst hj; exact hy
  · simp at hu; subst hu; rfl
  · obtain ⟨g', c', rfl, -⟩ := h5 (by omega)
    refine h g' c' w' ?_ (h0.grown h3 fun k hk => by simp [Value.ownBlock] at hk; omega)
    unfold OwnT
    rw [List.length_append, List.map_append]
    exact h2

theorem joinTail_snoc (sep : List UInt8) (r : List (List UInt8)) (x : List UInt8) : Lib.joinTail sep (r ++ [x]) = Lib.joinTail sep r ++ sep ++ x := by simp [Lib.joinTail, List.append_assoc]
theorem join_snoc {L : List (List UInt8)} (h : L ≠ []) (x sep : List UInt8) : Lib.join (L ++ [x]) sep = Lib.join L sep ++ sep ++ x := by
  cases L with
  | nil => exact absurd rfl h
  | cons y r => rw [List.cons_append, Lib.join_cons, Lib.join_cons, joinTail_snoc]; simp [List.append_assoc]
theorem lens_le {M : Nat} : ∀ {L : List (List UInt8)}, (∀ x ∈ L, x.length ≤ M) → Lib.lens L ≤ L.length * M
  | [], _ => by simp [Lib.lens]
  | y :: r, h => by
    have h1 := h y (List.mem_cons_self ..)
    have h2 := lens_le (L := r) fun x hx => h x (List.mem_cons_of_mem _ hx)
    have e : Lib.lens (y :: r) = y.length + Lib.lens r := by simp [Lib.lens]
    rw [e, List.length_cons, Nat.succ_mul]; omega
theorem join_len {M : Nat} (c : UInt8) {L : List (List UInt8)} (h : ∀ x ∈ L, x.length ≤ M) : (Lib.join L [c]).length ≤ L.length * (M + 1) := by
  cases L with
  | nil => simp [Lib.join_nil]
  | cons y r =>
    have h1 := h y (List.mem_cons_self ..)
    have h2 := lens_le (L := r) fun x hx => h x (List.mem_cons_of_mem _ hx)
    have e : (r.length + 1) * (M + 1) = r.length * M + r.length + M + 1 := by rw [Nat.succ_mul, Nat.mul_succ]; omega
    rw [Lib.join_cons, List.length_append, Lib.joinTail_length]
    simp only [List.length_cons, List.length_nil, Nat.zero_add, Nat.one_mul]
    rw [e]
    omega

def I64' (x : Int) : Prop := -9223372036854775808 ≤ x ∧ x ≤ 9223372036854775807
/-- Numbers in decimal with a byte between two of them. -/
def decs (c : UInt8) (xs : List Int) : List UInt8 := Lib.join (xs.map Lib.itoa) [c]
theorem decs_len (c : UInt8) {xs : List Int} (h : ∀ x ∈ xs, I64' x) : (decs c xs).length ≤ xs.length * 22 := by
  have := join_len (M := 21) c (L := xs.map Lib.itoa) (fun y hy => by
    obtain ⟨x, hx, rfl⟩ := List.mem_map.1 hy
    exact Lib.itoa_length_le x (h x hx).1 (h x hx).2)
  simpa [decs] using this
theorem dec_list (n : Int) : (dec n).data.toList = Lib.itoa n := by simp [dec]

set_option maxHeartbeats 4000000 in
set_option maxRecDepth 100000 in
theorem impl_decimals (v : Value) (xs : List Int) (ch : UInt8) (w : World) (h : RI w v xs) (hn : xs.length ≤ 1000) (hr : ∀ x ∈ xs, I64' x) (hp : Pow w) :
    Calls Tryd.prog 56 #[v, .string ⟨#[ch]⟩] w fun e w' => e = .returned (.string ⟨(decs ch xs).toArray⟩) ∧ Ext w w' := by
  have R := fun (x : Int) (hx : I64' x) y (hy : Ext w y) => impl_Decimal x hx.1 hx.2 y (hp.ext hy)
  have HD := Lib.hid (decs_len ch hr)
  have HR := Lib.hid hr
  obtain ⟨p, c, rfl, -, hq⟩ := h.form
  have HQ := Lib.hid hq
  clear hq h hp hr
  go_enter Tryd.func56, Tryd.ntmps56
  go_wp2_with fail
  go_loopw [5, 11] (fun o i wr => ∃ (k og oc : Nat) (C : List ByteArray), k ≤ xs.length ∧ i = .int .i64 k ∧ o = .slice (some ⟨og, 0, none⟩) C.length oc ∧ C.length ≤ k ∧ Ext w wr ∧ Hid (C = (xs.take k).map dec) ∧ Hid (OwnT w.heap.size wr og oc C)) (fun _ i _ => xs.length - (intOf i).toNat)
  case atStart => exact ⟨0, w.heap.size, 0, [], Nat.zero_le _, rfl, rfl, Nat.le_refl _, ExtC.ext, Lib.hid (by simp), Lib.hid (OwnT.empty w w.heap.size (Nat.le_refl _))⟩
  case round =>
    obtain ⟨k, og, oc, C, hk, rfl, rfl, hC, hx, HCk, HO⟩ := hrel
    obtain ⟨g0, rfl⟩ := hx.grow; clear hx
    by_cases hlt : k < xs.length
    · obtain ⟨b, off, hpp, ib, hc⟩ := HQ.out (by omega)
      subst hpp
      have d := hc k hlt
      have HQ2 := Lib.hid hc
      have RR := R _ (HR.out xs[k] (List.getElem_mem hlt))
      have HST := Lib.hid (show (xs.take (k + 1)).map dec = (xs.take k).map dec ++ [dec xs[k]] by rw [List.take_succ_eq_append_getElem hlt, List.map_append]; rfl)
      obtain ⟨y, hy⟩ : ∃ y, xs[k] = y := ⟨_, rfl⟩
      rw [hy] at d RR HST
      clear hc hy
      go_wp2_with (first | (go_at_call 49; (with_reducible refine (RR _ ExtC.ext).mono ?_); rintro e w' ⟨rfl, hx⟩; obtain ⟨g1, rfl⟩ := hx.grow; clear hx RR) | (at_builtin; refine app_str (w0 := w) (lo := w.heap.size) _ _ og oc C ⟨g1.fin.heap.size, 0, none⟩ 1 (dec y) rfl rfl rfl (HO.out.ext ExtC.ext) rfl (cell_new _ _ _) (by omega) ExtC.ext (Nat.le_refl _) ?_; intro g' c' w' ho hx; obtain ⟨g3, rfl⟩ := hx.grow; clear hx; have HO2 := Lib.hid ho; clear ho))
      go_roundw
      case rel => exact ⟨k + 1, g', c', C ++ [dec y], by omega, by go_num, by simp, by simp; omega, ExtC.ext, Lib.hid (by rw [HST.out, HCk.out]), HO2⟩
      case measure => simp [intOf]; omega
    · have e : k = xs.length := by omega
      have HF := Lib.hid (show C.map (·.data.toList) = xs.map Lib.itoa by rw [HCk.out, e, List.take_length, List.map_map]; exact List.map_congr_left fun x _ => dec_list x)
      have hol := HO.out.lt
      have hoc := HO.out.cap
      have R2 := fun y (hy : Ext g0.fin y) => Tryd.strings_Join og 0 oc C ⟨#[ch]⟩ y (fun j x hj => by rw [Nat.zero_add]; exact (HO.out.ext hy).cell j x hj) (Nat.lt_of_lt_of_le hol.2 hy.size) (by omega) hoc (by rw [HF.out]; have := HD.out; unfold decs at this; have e2 : (⟨#[ch]⟩ : ByteArray).data.toList = [ch] := rfl; rw [e2]; omega)
      have R3 := fun y (hy : Ext g0.fin y) => (R2 y hy).mono fun e w' (h : e = .returned (.string ⟨(Lib.join (C.map (·.data.toList)) (⟨#[ch]⟩ : ByteArray).data.toList).toArray⟩) ∧ Below y.heap.size y w') => (⟨by rw [h.1, HF.out]; rfl, h.2⟩ : e = .returned (.string ⟨(decs ch xs).toArray⟩) ∧ Ext y w')
      clear R2 hol hoc R e
      go_wp2_with (first | (go_at_call 52; (with_reducible refine (R3 _ ExtC.ext).mono ?_); rintro e w' ⟨rfl, hx⟩; obtain ⟨g1, rfl⟩ := hx.grow; clear hx R3))
      go_ret
      exact ⟨rfl, ExtC.ext⟩
end Go.Proofs.YthcomgnokkndgaaDoor
