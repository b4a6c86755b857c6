/- The text of a pool, on both sides. -/
import Derived.Test.YthcomgnokkndgaaDoorStr
import Derived.Test.YthcomgnokkndgaaDoorPoolOk
namespace Go.Proofs.YthcomgnokkndgaaDoor
open Go.RowKit

def qtxt (q : QD) : List UInt8 := 59 :: (decs 44 q.1 ++ 61 :: (Lib.itoa q.2.1 ++ 46 :: 46 :: Lib.itoa q.2.2))
def ptexts (pe sz : Int) (L : List QD) : List UInt8 := Lib.itoa pe ++ 47 :: (Lib.itoa sz ++ (L.map qtxt).flatten)
open Classical in
noncomputable def ptextX (pe sz : Int) (L : List QD) : ByteArray := if OkP pe sz L then ⟨(ptexts pe sz L).toArray⟩ else ⟨#[]⟩
theorem OkQ.i64 {m : Int} {q : QD} (hm : m ≤ 7) (h : OkQ m q) : (∀ x ∈ q.1, I64' x) ∧ I64' q.2.1 ∧ I64' q.2.2 ∧ q.1.length ≤ 8 ∧ 0 < q.1.length := by
  obtain ⟨h0, h1, h2, h3, h4⟩ := h
  have hr : ∀ k (hk : k < q.1.length), 0 ≤ q.1[k] ∧ q.1[k] ≤ m ∧ (k : Int) ≤ q.1[k] := by
    intro k
    induction k with
    | zero => intro hk; have := (h1 0 hk).1; omega
    | succ k ih =>
      intro hk
      have a := (h1 (k + 1) hk).1
      have b := (h1 (k + 1) hk).2 (by omega)
      have c := ih (by omega)
      simp only [Nat.add_sub_cancel] at b
      omega
  refine ⟨fun x hx => ?_, ⟨by omega, by omega⟩, ⟨by omega, by omega⟩, ?_, h0⟩
  · obtain ⟨k, hk, rfl⟩ := List.getElem_of_mem hx
    have := hr k hk
    exact ⟨by omega, by omega⟩
  · have := hr (q.1.length - 1) (by omega)
    omega
theorem qtake_succ {L : List QD} {k : Nat} (h : k < L.length) : ((L.take (k + 1)).map qtxt).flatten = ((L.take k).map qtxt).flatten ++ qtxt L[k] := by
  rw [List.take_succ_eq_append_getElem h, List.map_append, List.flatten_append]; simp
theorem app_list (a b : ByteArray) : (a ++ b).data.toList = a.data.toList ++ b.data.toList := by rw [ByteArray.data_append, Array.toList_append]

set_option maxHeartbeats 8000000 in
set_option maxRecDepth 100000 in
theorem impl_PoolText' (pe sz : Int) (qv : Value) (L : List QD) (w : World) (hq : RQ w qv L) (hs : ShortQ L) (b : Bool) (hb : okPB pe sz L = b) (s : ByteArray) (hsx : ptextX pe sz L = s) (hp : Pow w) :
    Calls Tryd.prog 35 #[.agg #[.int .i64 pe, .int .i64 sz, qv]] w fun e w' => e = .returned (.tuple #[.string s, .bool b]) ∧ Ext w w' := by
  have H1 := fun x (hx : Ext w x) => (impl_ValidPool pe sz qv L x (hq.ext hx) hs).mono fun e w' (h : RetB (OkP pe sz L) e ∧ Ext x w') => (⟨h.1.toldP (okPB_iff hb), h.2⟩ : e = .returned (.bool b) ∧ Ext x w')
  obtain ⟨p, c, rfl, hqq⟩ := hq.form
  have HQ := Lib.hid hqq
  clear hqq hq hs
  cases b
  · have HN := Lib.hid (show s = ⟨#[]⟩ by rw [← hsx]; unfold ptextX; rw [if_neg (by rw [← okPB_iff hb]; simp)])
    clear hb hsx hp
    go_enter Tryd.func35, Tryd.ntmps35
    go_wp2_with (first | (go_at_call 55; (with_reducible refine (H1 _ ExtC.ext).mono ?_); rintro e w' ⟨rfl, hx⟩; obtain ⟨g, rfl⟩ := hx.grow; clear hx))
    refine bodyPost_ret (v := .tuple #[.string ⟨#[]⟩, .bool false]) (by simp [results, Tryd.results35, go_sem]) rfl ?_
    exact ⟨by rw [HN.out], ExtC.ext⟩
  have hok := (okPB_iff hb).1 rfl
  have HN := Lib.hid (show s = ⟨(ptexts pe sz L).toArray⟩ by rw [← hsx]; unfold ptextX; rw [if_pos hok])
  have HK := Lib.hid hok
  have hl := hok.2.2.1
  have hpe := hok.1
  have hsz := hok.2.1
  have HD := fun (n : Int) (hn : I64' n) x (hx : Ext w x) => impl_Decimal n hn.1 hn.2 x (hp.ext hx)
  have HDS := fun t xs x (hx : Ext w x) (ht : RI x t xs) (h1 : xs.length ≤ 1000) (h2 : ∀ y ∈ xs, I64' y) => impl_decimals t xs 44 x ht h1 h2 (hp.ext hx)
  have R1 := HD pe ⟨by omega, by omega⟩
  have R2 := HD sz ⟨by omega, by omega⟩
  have s1 := dec_size pe (by omega) (by omega)
  have s2 := dec_size sz (by omega) (by omega)
  have HB0 := Lib.hid (show (dec pe ++ ⟨#[47]⟩ ++ dec sz).data.toList = Lib.itoa pe ++ 47 :: Lib.itoa sz by rw [app_list, app_list, dec_list, dec_list]; simp)
  obtain ⟨a1, ha1⟩ : ∃ a, dec pe = a := ⟨_, rfl⟩
  obtain ⟨a2, ha2⟩ : ∃ a, dec sz = a := ⟨_, rfl⟩
  rw [ha1] at R1 s1 HB0
  rw [ha2] at R2 s2 HB0
  have HBX := Lib.hid (box_pool w pe sz (.slice p L.length c) 30)
  clear hb hsx hok hp ha1 ha2
  go_enter Tryd.func35, Tryd.ntmps35
  go_wp2_with (first | (go_at_call 55; (with_reducible refine (H1 _ ExtC.ext).mono ?_); rintro e w' ⟨rfl, hx⟩; obtain ⟨g, rfl⟩ := hx.grow; clear hx))
  obtain ⟨ib, b0, b1, b2⟩ := HBX.out.ext (ExtC.ext : Ext _ g.fin)
  clear H1
  refine wp_region_grow (by kernel_rfl) (by kernel_rfl) ?_
  repeat (go_big_quiet_step ((first | (go_at_call 49; first | with_reducible exact grow_of (R1 _ ExtC.ext) | with_reducible exact grow_of (R2 _ ExtC.ext)))))
  refine wpQuiet_nil ?_
  intro _ hw'
  obtain ⟨g, hw''⟩ := hw'
  subst hw''
  go_wp2_with fail
  go_loopw [4, 21] (fun o i wr => ∃ (k : Nat) (s : ByteArray), k ≤ L.length ∧ i = .int .i64 k ∧ o = .string s ∧ s.size ≤ 50 + 300 * k ∧ Ext w wr ∧ Hid (s.data.toList = (Lib.itoa pe ++ 47 :: Lib.itoa sz) ++ ((L.take k).map qtxt).flatten)) (fun _ i _ => L.length - (intOf i).toNat)
  case atStart => exact ⟨0, a1 ++ ⟨#[47]⟩ ++ a2, Nat.zero_le _, rfl, rfl, by simp only [ByteArray.size_append', ByteArray.size_mk', List.size_toArray, List.length_cons, List.length_nil]; omega, ExtC.ext, Lib.hid (by rw [HB0.out]; simp)⟩
  case round =>
    obtain ⟨k, s', hk, rfl, rfl, hss, hx, HS⟩ := hrel
    obtain ⟨g0, rfl⟩ := hx.grow; clear hx
    by_cases hlt : k < L.length
    · obtain ⟨b, off, hpp, ibq, hc⟩ := HQ.out (by omega)
      subst hpp
      obtain ⟨⟨t, d1, d2⟩, d3, d4⟩ := hc k hlt
      have HT := Lib.hid d2
      obtain ⟨tp, tc, rfl, -, -⟩ := d2.form
      have HI := Lib.hid ((HK.out.2.2.2 k hlt).i64 (by omega))
      have HST := Lib.hid (qtake_succ hlt)
      clear hc d2
      obtain ⟨⟨mem, lst, mst⟩, hy⟩ : ∃ y, L[k] = y := ⟨_, rfl⟩
      rw [hy] at d1 d3 d4 HT HI HST
      dsimp only at d1 d3 d4
      have hm8 : mem.length ≤ 8 := HI.out.2.2.2.1
      have RS := fun x (hx : Ext w x) => HDS _ mem x hx (HT.out.ext hx) (by omega) HI.out.1
      have R1 := HD lst HI.out.2.1
      have R2 := HD mst HI.out.2.2.1
      have hd1 : (decs 44 mem).length ≤ mem.length * 22 := decs_len 44 HI.out.1
      have s1 := dec_size lst HI.out.2.1.1 HI.out.2.1.2
      have s2 := dec_size mst HI.out.2.2.1.1 HI.out.2.2.1.2
      have HL1 := Lib.hid (dec_list lst)
      have HL2 := Lib.hid (dec_list mst)
      obtain ⟨D, hD⟩ : ∃ D : ByteArray, ⟨(decs 44 mem).toArray⟩ = D := ⟨_, rfl⟩
      obtain ⟨e1, he1⟩ : ∃ a, dec lst = a := ⟨_, rfl⟩
      obtain ⟨e2, he2⟩ : ∃ a, dec mst = a := ⟨_, rfl⟩
      have hDs : D.size ≤ 176 := by rw [← hD]; have : (⟨(decs 44 mem).toArray⟩ : ByteArray).size = (decs 44 mem).length := rfl; omega
      have HDL := Lib.hid (show D.data.toList = decs 44 mem by rw [← hD])
      rw [hD] at RS
      rw [he1] at R1 s1 HL1
      rw [he2] at R2 s2 HL2
      have HQT : Hid ((s' ++ (⟨#[59]⟩ ++ D ++ ⟨#[61]⟩ ++ e1 ++ ⟨#[46, 46]⟩ ++ e2)).data.toList = s'.data.toList ++ qtxt (mem, lst, mst)) := Lib.hid (by
        simp only [app_list, HDL.out, HL1.out, HL2.out, qtxt]; simp)
      clear hy hd1 hD he1 he2
      go_wp2_with fail
      refine wp_region_grow (by kernel_rfl) (by kernel_rfl) ?_
      repeat (go_big_quiet_step ((first | (go_at_call 56; with_reducible exact grow_of (RS _ ExtC.ext)) | (go_at_call 49; first | with_reducible exact grow_of (R1 _ ExtC.ext) | with_reducible exact grow_of (R2 _ ExtC.ext)))))
      refine wpQuiet_nil ?_
      intro _ hw'
      obtain ⟨g, hw''⟩ := hw'
      subst hw''
      go_wp2_with fail
      go_roundw
      case rel => exact ⟨k + 1, s' ++ (⟨#[59]⟩ ++ D ++ ⟨#[61]⟩ ++ e1 ++ ⟨#[46, 46]⟩ ++ e2), by omega, by go_num, rfl, by simp only [ByteArray.size_append', ByteArray.size_mk', List.size_toArray, List.length_cons, List.length_nil]; omega, ExtC.ext, Lib.hid (by rw [HQT.out, HS.out, HST.out]; simp [List.append_assoc])⟩
      case measure => simp [intOf]; omega
    · have e : k = L.length := by omega
      have HF := Lib.hid (show s' = s by rw [HN.out]; refine bytes_eq ?_; rw [HS.out, e, List.take_length]; simp [ptexts])
      go_wp2_with fail
      refine bodyPost_ret (v := .tuple #[.string s', .bool true]) (by simp [results, Tryd.results35, go_sem]) rfl ?_
      exact ⟨by rw [HF.out], ExtC.ext⟩

set_option maxHeartbeats 8000000 in
set_option maxRecDepth 100000 in
theorem spec_l04Text (bx : Nat) (pe sz : Int) (qv : Value) (L : List QD) (w : World) (hb : BxP bx pe sz qv w) (hq : RQ w qv L) (hok : OkP pe sz L) :
    Calls Tryd.prog 33 #[.pointer (some ⟨bx, 0, none⟩)] w fun e w' => e = .returned (.string ⟨(ptexts pe sz L).toArray⟩) ∧ Ext w w' := by
  obtain ⟨p, c, rfl, hqq⟩ := hq.form
  have HQ := Lib.hid hqq
  obtain ⟨ib, b0, b1, b2⟩ := hb
  have HK := Lib.hid hok
  have hl := hok.2.2.1
  have hpe := hok.1
  have hsz := hok.2.1
  have HD := fun (n : Int) (hn : I64' n) x => spec_l01Dec n hn.1 hn.2 x
  have R1 := HD pe ⟨by omega, by omega⟩
  have R2 := HD sz ⟨by omega, by omega⟩
  have s1 := dec_size pe (by omega) (by omega)
  have s2 := dec_size sz (by omega) (by omega)
  have HB0 := Lib.hid (show (dec pe ++ ⟨#[47]⟩ ++ dec sz).data.toList = Lib.itoa pe ++ 47 :: Lib.itoa sz by rw [app_list, app_list, dec_list, dec_list]; simp)
  obtain ⟨a1, ha1⟩ : ∃ a, dec pe = a := ⟨_, rfl⟩
  obtain ⟨a2, ha2⟩ : ∃ a, dec sz = a := ⟨_, rfl⟩
  rw [ha1] at R1 s1 HB0
  rw [ha2] at R2 s2 HB0
  clear hqq hq hok ha1 ha2
  go_enter Tryd.func33, Tryd.ntmps33
  go_wp2_with fail
  refine wp_region_grow (by kernel_rfl) (by kernel_rfl) ?_
  repeat (go_big_quiet_step ((first | (go_at_call 45; first | with_reducible exact grow_of (R1 _) | with_reducible exact grow_of (R2 _)))))
  refine wpQuiet_nil ?_
  intro _ hw'
  obtain ⟨g, hw''⟩ := hw'
  subst hw''
  go_wp2_with fail
  go_loopw [3, 4] (fun o i wr => ∃ (k : Nat) (s : ByteArray), k ≤ L.length ∧ i = .int .i64 k ∧ o = .string s ∧ s.size ≤ 50 + 300 * k ∧ Ext w wr ∧ Hid (s.data.toList = (Lib.itoa pe ++ 47 :: Lib.itoa sz) ++ ((L.take k).map qtxt).flatten)) (fun _ i _ => L.length - (intOf i).toNat)
  case atStart => exact ⟨0, a1 ++ ⟨#[47]⟩ ++ a2, Nat.zero_le _, rfl, rfl, by simp only [ByteArray.size_append', ByteArray.size_mk', List.size_toArray, List.length_cons, List.length_nil]; omega, ExtC.ext, Lib.hid (by rw [HB0.out]; simp)⟩
  case round =>
    obtain ⟨k, s, hk, rfl, rfl, hss, hx, HS⟩ := hrel
    obtain ⟨g0, rfl⟩ := hx.grow; clear hx
    by_cases hlt : k < L.length
    · obtain ⟨b, off, hpp, ibq, hc⟩ := HQ.out (by omega)
      subst hpp
      obtain ⟨⟨t, d1, d2⟩, d3, d4⟩ := hc k hlt
      obtain ⟨tp, tc, rfl, -, hct⟩ := d2.form
      have HI := Lib.hid ((HK.out.2.2.2 k hlt).i64 (by omega))
      have HST := Lib.hid (qtake_succ hlt)
      clear hc d2
      obtain ⟨⟨mem, lst, mst⟩, hy⟩ : ∃ y, L[k] = y := ⟨_, rfl⟩
      rw [hy] at d1 d3 d4 HI HST hct
      dsimp only at d1 d3 d4 hct
      have HCT := Lib.hid hct
      have hm8 : mem.length ≤ 8 := HI.out.2.2.2.1
      have hm0 : 0 < mem.length := HI.out.2.2.2.2
      have R1 := HD lst HI.out.2.1
      have R2 := HD mst HI.out.2.2.1
      have s1 := dec_size lst HI.out.2.1.1 HI.out.2.1.2
      have s2 := dec_size mst HI.out.2.2.1.1 HI.out.2.2.1.2
      have HL1 := Lib.hid (dec_list lst)
      have HL2 := Lib.hid (dec_list mst)
      obtain ⟨e1, he1⟩ : ∃ a, dec lst = a := ⟨_, rfl⟩
      obtain ⟨e2, he2⟩ : ∃ a, dec mst = a := ⟨_, rfl⟩
      rw [he1] at R1 s1 HL1
      rw [he2] at R2 s2 HL2
      clear hct hy he1 he2
      go_wp2_with fail
      go_loopw [3, 6, 7] (fun o m i wr => ∃ (j : Nat) (s' mk : ByteArray), j ≤ mem.length ∧ i = .int .i64 j ∧ m = .string mk ∧ o = .string s' ∧ s'.size ≤ 50 + 300 * k + 22 * j ∧ mk.size = 1 ∧ Ext w wr ∧ Hid (mk.data.toList = if j = 0 then [59] else [44]) ∧ Hid (s'.data.toList = s.data.toList ++ if j = 0 then [] else 59 :: decs 44 (mem.take j))) (fun _ _ i _ => mem.length - (intOf i).toNat)
      case atStart => exact ⟨0, s, ⟨#[59]⟩, Nat.zero_le _, rfl, rfl, rfl, by omega, rfl, ExtC.ext, Lib.hid rfl, Lib.hid (by simp)⟩
      case round =>
        obtain ⟨j, s', mk, hj, rfl, rfl, rfl, hs', hmk, hx, HM, HS'⟩ := hrel
        obtain ⟨g1, rfl⟩ := hx.grow; clear hx
        by_cases hjl : j < mem.length
        · obtain ⟨tb, to, hpp, itb, hcc⟩ := HCT.out (by omega)
          subst hpp
          have d5 := hcc j hjl
          have hi := HI.out.1 mem[j] (List.getElem_mem hjl)
          have RR := HD mem[j] hi
          have hds := dec_size mem[j] hi.1 hi.2
          have HTS := Lib.hid (show (mem.take (j + 1)).map Lib.itoa = (mem.take j).map Lib.itoa ++ [Lib.itoa mem[j]] by rw [List.take_succ_eq_append_getElem hjl, List.map_append]; rfl)
          obtain ⟨y, hy⟩ : ∃ y, mem[j] = y := ⟨_, rfl⟩
          rw [hy] at d5 RR hds HTS
          have HDY := Lib.hid (dec_list y)
          obtain ⟨dy, hdy⟩ : ∃ dy, dec y = dy := ⟨_, rfl⟩
          rw [hdy] at RR hds HDY
          have hmk1 : mk.size ≤ 1 := by omega
          have HMK := Lib.hid hmk
          clear hcc hy hi hdy hmk
          go_wp2_with (first | (go_at_call 45; (with_reducible refine (RR _).mono ?_); rintro e w' ⟨rfl, hx⟩; obtain ⟨g, rfl⟩ := hx.grow; clear hx))
          go_roundw
          case rel =>
            refine ⟨j + 1, s' ++ (mk ++ dy), ⟨#[44]⟩, by omega, by go_num, rfl, rfl, by simp only [ByteArray.size_append']; have := HMK.out; omega, rfl, ExtC.ext, Lib.hid (by rw [if_neg (by omega)]), Lib.hid ?_⟩
            rw [app_list, app_list, HS'.out, HM.out, HDY.out, if_neg (show ¬ j + 1 = 0 by omega)]
            unfold decs
            rw [HTS.out]
            by_cases j0 : j = 0
            · subst j0; simp [Lib.join_one]
            · rw [if_neg j0, if_neg j0, join_snoc (by intro e; have := congrArg List.length e; rw [List.length_map, List.length_take, List.length_nil] at this; omega)]
              simp [List.append_assoc]
          case measure => simp [intOf]; omega
        · have e : j = mem.length := by omega
          have HF := Lib.hid (show s'.data.toList = s.data.toList ++ 59 :: decs 44 mem by rw [HS'.out, if_neg (by omega), e, List.take_length])
          have hsl : s'.size ≤ 250 + 300 * k := by omega
          have HMK := Lib.hid hmk
          have HQT : Hid ((s' ++ (⟨#[61]⟩ ++ e1 ++ ⟨#[46, 46]⟩ ++ e2)).data.toList = s.data.toList ++ qtxt (mem, lst, mst)) := Lib.hid (by
            simp only [app_list, HF.out, HL1.out, HL2.out, qtxt]; simp)
          clear hmk e
          go_wp2_with fail
          refine wp_region_grow (by kernel_rfl) (by kernel_rfl) ?_
          repeat (go_big_quiet_step ((first | (go_at_call 45; first | with_reducible exact grow_of (R1 _) | with_reducible exact grow_of (R2 _)))))
          refine wpQuiet_nil ?_
          intro _ hw'
          obtain ⟨g, hw''⟩ := hw'
          subst hw''
          go_wp2_with fail
          go_roundw
          case rel => exact ⟨k + 1, s' ++ (⟨#[61]⟩ ++ e1 ++ ⟨#[46, 46]⟩ ++ e2), by omega, by go_num, rfl, by simp only [ByteArray.size_append', ByteArray.size_mk', List.size_toArray, List.length_cons, List.length_nil]; omega, ExtC.ext, Lib.hid (by rw [HQT.out, HS.out, HST.out]; simp [List.append_assoc])⟩
          case measure => simp [intOf]; omega
    · have e : k = L.length := by omega
      have HF := Lib.hid (bytes_eq (show s.data.toList = ptexts pe sz L by rw [HS.out, e, List.take_length]; simp [ptexts]))
      go_wp2_with fail
      go_ret
      exact ⟨congrArg (fun b => Ending.returned (.string b)) HF.out, ExtC.ext⟩

end Go.Proofs.YthcomgnokkndgaaDoor
