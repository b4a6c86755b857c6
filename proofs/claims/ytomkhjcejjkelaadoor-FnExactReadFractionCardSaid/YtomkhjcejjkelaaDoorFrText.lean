/- The text of a fraction, on both sides. -/
import Derived.Test.YtomkhjcejjkelaaDoorDec
import Derived.Test.YtomkhjcejjkelaaDoorFrac
import Derived.Test.YtomkhjcejjkelaaDoorTail
namespace Go.Proofs.YtomkhjcejjkelaaDoor
open Go.RowKit

/-- The text of a fraction. -/
def txt (n d : Int) : ByteArray := if d = 1 then dec n else dec n ++ ⟨#[47]⟩ ++ dec d
theorem dec_size (n : Int) (h0 : -9223372036854775808 ≤ n) (h1 : n ≤ 9223372036854775807) : (dec n).size ≤ 21 := by
  have := Lib.itoa_length_le n h0 h1
  have e : (dec n).size = (Lib.itoa n).length := rfl
  omega
theorem txt_one (n : Int) : txt n 1 = dec n := by simp [txt]
theorem txt_two {n d : Int} (h : d ≠ 1) : txt n d = dec n ++ ⟨#[47]⟩ ++ dec d := by simp [txt, h]

set_option maxHeartbeats 1000000 in
set_option maxRecDepth 100000 in
theorem impl_fractionText (n d : Int) (hn : -9223372036854775808 ≤ n ∧ n ≤ 9223372036854775807) (hd : -9223372036854775808 ≤ d ∧ d ≤ 9223372036854775807) (w : World) (hp : Pow w) :
    Calls Tryd.prog 75 #[.agg #[.int .i64 n, .int .i64 d]] w fun e w' => e = .returned (.string (txt n d)) ∧ Ext w w' := by
  have RN := fun x (hx : Ext w x) => impl_Decimal n hn.1 hn.2 x (hp.ext hx)
  have RD := fun x (hx : Ext w x) => impl_Decimal d hd.1 hd.2 x (hp.ext hx)
  have sn := dec_size n hn.1 hn.2
  have sd := dec_size d hd.1 hd.2
  clear hp
  by_cases h1 : d = 1
  · subst h1
    have HT := Lib.hid (txt_one n)
    go_enter Tryd.func75, Tryd.ntmps75
    go_wp2_with (first | (go_at_call 29; (with_reducible refine (RN _ ExtC.ext).mono ?_); rintro e w' ⟨rfl, hx⟩; obtain ⟨g, rfl⟩ := hx.grow; clear hx))
    go_ret
    exact ⟨by rw [HT.out]; rfl, ExtC.ext⟩
  · have HT := Lib.hid (txt_two (n := n) h1)
    have h2 : (d == 1) = false := by simpa using h1
    have H1 := Lib.hid h1; clear h1
    obtain ⟨a, ha⟩ : ∃ a, dec n = a := ⟨_, rfl⟩
    obtain ⟨b, hb⟩ : ∃ b, dec d = b := ⟨_, rfl⟩
    rw [ha] at RN sn HT
    rw [hb] at RD sd HT
    clear ha hb
    go_enter Tryd.func75, Tryd.ntmps75
    go_wp2
    refine wp_region_grow (by kernel_rfl) (by kernel_rfl) ?_
    repeat (go_big_quiet_step ((first | (go_at_call 29; first | with_reducible exact grow_of (RN _ ExtC.ext) | with_reducible exact grow_of (RD _ ExtC.ext)))))
    refine wpQuiet_nil ?_
    intro _ hw'
    obtain ⟨g, hw''⟩ := hw'
    subst hw''
    go_wp2
    go_ret
    exact ⟨by rw [HT.out]; rfl, ExtC.ext⟩
set_option maxHeartbeats 1000000 in
set_option maxRecDepth 100000 in
theorem spec_l01Text (n d : Int) (hn : -9223372036854775808 ≤ n ∧ n ≤ 9223372036854775807) (hd : -9223372036854775808 ≤ d ∧ d ≤ 9223372036854775807) (w : World)  :
    Calls Tryd.prog 73 #[.agg #[.int .i64 n, .int .i64 d]] w fun e w' => e = .returned (.string (txt n d)) ∧ Ext w w' := by
  have RN := fun x (hx : Ext w x) => spec_l01Dec n hn.1 hn.2 x 
  have RD := fun x (hx : Ext w x) => spec_l01Dec d hd.1 hd.2 x 
  have sn := dec_size n hn.1 hn.2
  have sd := dec_size d hd.1 hd.2
  skip
  by_cases h1 : d = 1
  · subst h1
    have HT := Lib.hid (txt_one n)
    go_enter Tryd.func73, Tryd.ntmps73
    go_wp2_with (first | (go_at_call 70; (with_reducible refine (RN _ ExtC.ext).mono ?_); rintro e w' ⟨rfl, hx⟩; obtain ⟨g, rfl⟩ := hx.grow; clear hx))
    go_ret
    exact ⟨by rw [HT.out]; rfl, ExtC.ext⟩
  · have HT := Lib.hid (txt_two (n := n) h1)
    have h2 : (d == 1) = false := by simpa using h1
    have H1 := Lib.hid h1; clear h1
    obtain ⟨a, ha⟩ : ∃ a, dec n = a := ⟨_, rfl⟩
    obtain ⟨b, hb⟩ : ∃ b, dec d = b := ⟨_, rfl⟩
    rw [ha] at RN sn HT
    rw [hb] at RD sd HT
    clear ha hb
    go_enter Tryd.func73, Tryd.ntmps73
    go_wp2
    refine wp_region_grow (by kernel_rfl) (by kernel_rfl) ?_
    repeat (go_big_quiet_step ((first | (go_at_call 70; first | with_reducible exact grow_of (RN _ ExtC.ext) | with_reducible exact grow_of (RD _ ExtC.ext)))))
    refine wpQuiet_nil ?_
    intro _ hw'
    obtain ⟨g, hw''⟩ := hw'
    subst hw''
    go_wp2
    go_ret
    exact ⟨by rw [HT.out]; rfl, ExtC.ext⟩

set_option maxHeartbeats 1000000 in
set_option maxRecDepth 100000 in
theorem impl_FractionText (n d : Int) (hn : -9223372036854775808 ≤ n ∧ n ≤ 9223372036854775807) (hd : -9223372036854775808 ≤ d ∧ d ≤ 9223372036854775807) (b : Bool) (hb : okF n d = b) (w : World) (hp : Pow w) :
    Calls Tryd.prog 32 #[.agg #[.int .i64 n, .int .i64 d]] w fun e w' => e = .returned (.tuple #[.string (if b then txt n d else ⟨#[]⟩), .bool b]) ∧ Ext w w' := by
  have RO := fun x => impl_ValidFraction n d b hb x
  have RT := fun x (hx : Ext w x) => impl_fractionText n d hn hd x (hp.ext hx)
  clear hp
  clear hb
  cases b
  · go_enter Tryd.func32, Tryd.ntmps32
    go_wp2_with (first | (go_at_call 74; (with_reducible refine (RO _).mono ?_); rintro e w' ⟨rfl, hx⟩; obtain ⟨g, rfl⟩ := hx.grow; clear hx))
    refine bodyPost_ret (v := .tuple #[.string ⟨#[]⟩, .bool false]) (by simp [results, Tryd.results32, go_sem]) rfl ⟨rfl, ?_⟩
    exact ExtC.ext
  · obtain ⟨a, ha⟩ : ∃ a, txt n d = a := ⟨_, rfl⟩
    rw [ha] at RT ⊢
    clear ha
    go_enter Tryd.func32, Tryd.ntmps32
    go_wp2_with (first | (go_at_call 74; (with_reducible refine (RO _).mono ?_); rintro e w' ⟨rfl, hx⟩; obtain ⟨g, rfl⟩ := hx.grow; clear hx) | (go_at_call 75; (with_reducible refine (RT _ ExtC.ext).mono ?_); rintro e w' ⟨rfl, hx⟩; obtain ⟨g, rfl⟩ := hx.grow; clear hx))
    refine bodyPost_ret (v := .tuple #[.string a, .bool true]) (by simp [results, Tryd.results32, go_sem]) rfl ⟨rfl, ?_⟩
    exact ExtC.ext
set_option maxHeartbeats 1000000 in
set_option maxRecDepth 100000 in
theorem spec_FractionText (n d : Int) (hn : -9223372036854775808 ≤ n ∧ n ≤ 9223372036854775807) (hd : -9223372036854775808 ≤ d ∧ d ≤ 9223372036854775807) (b : Bool) (hb : okF n d = b) (w : World)  :
    Calls Tryd.prog 30 #[.agg #[.int .i64 n, .int .i64 d]] w fun e w' => e = .returned (.tuple #[.string (if b then txt n d else ⟨#[]⟩), .bool b]) ∧ Ext w w' := by
  have RO := fun x => spec_l01Ok n d b hb x
  have RT := fun x (hx : Ext w x) => spec_l01Text n d hn hd x 
  skip
  clear hb
  cases b
  · go_enter Tryd.func30, Tryd.ntmps30
    go_wp2_with (first | (go_at_call 72; (with_reducible refine (RO _).mono ?_); rintro e w' ⟨rfl, hx⟩; obtain ⟨g, rfl⟩ := hx.grow; clear hx))
    refine bodyPost_ret (v := .tuple #[.string ⟨#[]⟩, .bool false]) (by simp [results, Tryd.results30, go_sem]) rfl ⟨rfl, ?_⟩
    exact ExtC.ext
  · obtain ⟨a, ha⟩ : ∃ a, txt n d = a := ⟨_, rfl⟩
    rw [ha] at RT ⊢
    clear ha
    go_enter Tryd.func30, Tryd.ntmps30
    go_wp2_with (first | (go_at_call 72; (with_reducible refine (RO _).mono ?_); rintro e w' ⟨rfl, hx⟩; obtain ⟨g, rfl⟩ := hx.grow; clear hx) | (go_at_call 73; (with_reducible refine (RT _ ExtC.ext).mono ?_); rintro e w' ⟨rfl, hx⟩; obtain ⟨g, rfl⟩ := hx.grow; clear hx))
    refine bodyPost_ret (v := .tuple #[.string a, .bool true]) (by simp [results, Tryd.results30, go_sem]) rfl ⟨rfl, ?_⟩
    exact ExtC.ext
end Go.Proofs.YtomkhjcejjkelaaDoor
