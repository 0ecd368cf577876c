/- bulletinlaw28.OverviewParse: the walk, given that 'known' answers true. -/
import Derived.Test.YtdjaphcelpchaaaGreatDoorLawCheck
namespace Go.Proofs.YtdjaphcelpchaaaGreatDoor
open Go Go.RowKit Go.Proofs

attribute [local go_sem ↓] ex_load_id ex_store_id ex_load_line ex_store_line ex_load_rline ex_store_rline ex_alloc_line ex_build_line ex_alloc_rline ex_build_rline
attribute [local go_sem] ld_id st_id ld_line st_line ld_rline st_rline guard_id okCells_drew rdCells_drew okCells_drewN rdCells_drewN rowOk_drew rowOk_cells okCells_cells rdCells_cells setRow_drew setRow_new setRow_past

theorem ParsedIs.same {s : ByteArray} {G1 G2 : GLine} {i1 i2 : List Id32} (h1 : ParsedIs s G1 i1) (h2 : ParsedIs s G2 i2) : G2 = { G1 with refs := G2.refs } ∧ i2 = i1 := by
  by_cases h : (parseOut s).1 = 0
  · obtain ⟨v1, e1, j1⟩ := h1.yes h
    obtain ⟨v2, e2, j2⟩ := h2.yes h
    refine ⟨?_, j2.trans j1.symm⟩
    rw [e1, e2]; rfl
  · obtain ⟨e1, j1⟩ := h1.no h
    obtain ⟨e2, j2⟩ := h2.no h
    refine ⟨?_, j2.trans j1.symm⟩
    rw [e1, e2]
theorem ParsedIs.len {s : ByteArray} {G : GLine} {is : List Id32} (h : ParsedIs s G is) (hs : s.size ≤ 2500) : is.length ≤ 1000000 ∧ G.name.size ≤ 1000000 ∧ G.subject.size ≤ 1000000 := by
  have hpart : ∀ k, (nth (splitS 9 s) k).size ≤ s.size := fun k => by
    by_cases hk : k < (splitS 9 s).length
    · have h1 : nth (splitS 9 s) k ∈ splitS 9 s := List.mem_of_getElem? (nth_at _ k hk)
      generalize nth (splitS 9 s) k = y at h1 ⊢
      obtain ⟨x, hx, rfl⟩ := List.mem_map.1 (show y ∈ (splitL 9 s.data.toList).map str from h1)
      have := splitL_part 9 s.data.toList x hx
      rw [size_list] at this
      rw [str_size]; exact this
    · have : nth (splitS 9 s) k = ⟨#[]⟩ := by unfold nth; rw [List.getD_eq_getElem?_getD, List.getElem?_eq_none (by omega)]; rfl
      rw [this]; exact Nat.zero_le _
  by_cases h0 : (parseOut s).1 = 0
  · obtain ⟨v, e, j⟩ := h.yes h0
    have p2 := hpart 2
    have p4 := hpart 4
    have p5 := hpart 5
    rw [e, j]
    refine ⟨?_, ?_, ?_⟩
    · unfold refIds refTexts
      rw [List.length_map]
      split
      · simp
      · have := (splitS_len 44 (nth (splitS 9 s) 5)).2
        unfold splitS at this p5
        rw [List.length_map] at this
        unfold splitS
        omega
    · show (nth (splitS 9 s) 2).size ≤ _; omega
    · show (nth (splitS 9 s) 4).size ≤ _; omega
  · obtain ⟨e, j⟩ := h.no h0
    rw [e, j]
    decide

set_option maxRecDepth 100000 in
set_option maxHeartbeats 2000000 in
theorem law_parse (hK : Knows) (s : ByteArray) (w : World) (hG : Gl w) (hm : s.size ≤ maxLen) :
    Calls Tryz.prog 4 #[.string s] w fun r w' => r = .returned (.bool true) ∧ Below w.heap.size w w' := by
  unfold maxLen at hm
  have HK := Lib.hid hK
  clear hK
  by_cases hbig : 2500 < s.size
  · have hbz : 2500 < (s.size : Int) := by omega
    go_enter Tryz.func4, Tryz.ntmps4
    go_wp2_with fail
    refine (HK.out _ hG).mono ?_
    rintro r w1 ⟨rfl, hb1⟩
    have HB1 := Lib.hid hb1
    clear hb1
    go_wp2_with fail
    refine (HK.out _ (hG.later HB1.out)).mono ?_
    rintro r w2 ⟨rfl, hb2⟩
    have HB2 := Lib.hid (HB1.out.trans (hb2.mono HB1.out.size))
    clear hb2
    go_wp2
    go_ret
    exact ⟨rfl, HB2.out⟩
  · have hbz : ¬ 2500 < (s.size : Int) := by omega
    go_enter Tryz.func4, Tryz.ntmps4
    go_wp2_with fail
    refine (HK.out _ hG).mono ?_
    rintro r w1 ⟨rfl, hb1⟩
    have HB1 := Lib.hid hb1
    clear hb1
    go_wp2_with fail
    refine (parse_any s w1 (hG.later HB1.out) (by omega)).mono ?_
    rintro r w2 ⟨G1, is, rfl, hP1, hI2, hone1, hb2⟩
    have hB2 : Below w.heap.size w w2 := HB1.out.trans (hb2.mono HB1.out.size)
    obtain ⟨e, he⟩ : ∃ e, e = (parseOut s).1 := ⟨_, rfl⟩
    obtain ⟨o, ho⟩ : ∃ o, o = (parseOut s).2 := ⟨_, rfl⟩
    rw [← he, ← ho]
    have hft1 := fits_line hone1
    have hzs : ((lineCells zeroLine).size == 38) = true := by rw [lineCells_size]; rfl
    have hrzs : ((rlineCells ⟨#[]⟩ zeroLine).size == 39) = true := by rw [rlineCells_size]; rfl
    have hb3 : Below w2.heap.size w2 (w2.alloc (.cells (lineCells G1) 34)) := (Below.refl _ _).alloc (Nat.le_refl _) _
    have hB3 : Below w.heap.size w (w2.alloc (.cells (lineCells G1) 34)) := hB2.trans (hb3.mono hB2.size)
    have hV3 : LineVar (w2.alloc (.cells (lineCells G1) 34)) w2.heap.size G1 := heap_alloc_new _ _
    have hI3 := hI2.below hb3
    have hs3 : w2.heap.size < (w2.alloc (.cells (lineCells G1) 34)).heap.size := by simp
    have HB3 := Lib.hid hB3
    have HV3 := Lib.hid hV3
    have HI3 := Lib.hid hI3
    have HS3 := Lib.hid hs3
    have HE := Lib.hid he
    have HO := Lib.hid ho
    clear hb2 hb3 hB2 hB3 hV3 hI3 hs3 hI2 he ho HB1
    go_wp2_with fail
    generalize w2.alloc (.cells (lineCells G1) 34) = w3 at HB3 HV3 HI3 HS3 ⊢
    refine (rparse_any s w3 (by omega)).mono ?_
    rintro r w4 ⟨G2, is2, rfl, hP2, hI4, hone2, hb4⟩
    rw [← HE.out, ← HO.out]
    obtain ⟨hGe, rfl⟩ := hP1.same hP2
    obtain ⟨v2, hv2⟩ : ∃ v2, v2 = G2.refs := ⟨_, rfl⟩
    rw [← hv2] at hGe hI4
    subst hGe
    have hft2 := fits_rline (s := ⟨#[]⟩) hone2
    have hlenP := Lib.hid (hP1.len (by omega))
    have HP1 := Lib.hid hP1
    have hB4 : Below w.heap.size w w4 := HB3.out.trans (hb4.mono HB3.out.size)
    have hV4 : LineVar w4 w2.heap.size G1 := HV3.out.below hb4 HS3.out
    have hI4a := HI3.out.below hb4
    have hs4 : w2.heap.size < w4.heap.size := by have := hb4.size; have := HS3.out; omega
    have hb5 : Below w4.heap.size w4 (w4.alloc (.cells (rlineCells ⟨#[]⟩ { G1 with refs := v2 }) 26)) := (Below.refl _ _).alloc (Nat.le_refl _) _
    have hB5 := hB4.trans (hb5.mono hB4.size)
    have hV5 := hV4.below hb5 hs4
    have hR5 : RVar (w4.alloc (.cells (rlineCells ⟨#[]⟩ { G1 with refs := v2 }) 26)) w4.heap.size ⟨#[]⟩ { G1 with refs := v2 } := heap_alloc_new _ _
    have hI5a := hI4a.below hb5
    have hI5b := hI4.below hb5
    have hs5a : w2.heap.size < (w4.alloc (.cells (rlineCells ⟨#[]⟩ { G1 with refs := v2 }) 26)).heap.size := by simp; omega
    have hs5b : w4.heap.size < (w4.alloc (.cells (rlineCells ⟨#[]⟩ { G1 with refs := v2 }) 26)).heap.size := by simp
    clear hb4 hb5 hV4 hI4 hI4a hB4 HB3 HV3 HI3 HS3 hP1 hP2 hv2
    go_wp2_with fail
    generalize w4.alloc (.cells (rlineCells ⟨#[]⟩ { G1 with refs := v2 }) 26) = W at hB5 hV5 hR5 hI5a hI5b hs5a hs5b ⊢
    have p1 : ∀ z : Later W, okCells z.1 ⟨w4.heap.size, 0, none⟩ 39 = true := fun z => (hR5.below z.2 hs5b).rd.1
    have p2 : ∀ z : Later W, rdCells z.1 ⟨w4.heap.size, 0, none⟩ 39 = rlineCells ⟨#[]⟩ { G1 with refs := v2 } := fun z => (hR5.below z.2 hs5b).rd.2
    have p3 : ∀ z : Later W, okCells z.1 ⟨w2.heap.size, 0, none⟩ 38 = true := fun z => (hV5.below z.2 hs5a).rd.1
    have p4 : ∀ z : Later W, rdCells z.1 ⟨w2.heap.size, 0, none⟩ 38 = lineCells G1 := fun z => (hV5.below z.2 hs5a).rd.2
    have hrv : G1.refs.cells = #[G1.refs] := by obtain ⟨a', c', e', _⟩ := hI5a; rw [e']; rfl
    have c2 : ∀ z : Later W, Calls Tryz.prog 22 #[.string ⟨#[]⟩, .agg (lineCells G1)] z.1 fun e w'' => e = .returned (.agg (rlineCells ⟨#[]⟩ G1)) ∧ ∃ z' : Later W, w'' = z'.1 := fun z => Later.call (back_any ⟨#[]⟩ G1 z.1 hrv hone1)
    have c3 : ∀ z : Later W, Calls Tryz.prog 21 #[.agg (rlineCells ⟨#[]⟩ G1), .agg (rlineCells ⟨#[]⟩ { G1 with refs := v2 })] z.1 fun e w'' => e = .returned (.bool true) ∧ ∃ z' : Later W, w'' = z'.1 := fun z => Later.call (same_true ⟨#[]⟩ G1 G1.refs v2 is2 z.1 (hI5a.below z.2) (hI5b.below z.2) hlenP.out.1)
    have C2 := Lib.hid c2
    have C3 := Lib.hid c3
    have HB5 := Lib.hid hB5
    have HV5 := Lib.hid hV5
    have HI5 := Lib.hid hI5a
    clear c2 c3 hV5 hR5 hI5a hI5b hrv hft1 hft2 hone1 hone2 hB5
    refine wp_region_ht 14 (fun w' => ∃ z : Later W, w' = z.1) (by kernel_rfl) (by kernel_rfl) ⟨⟨_, (Below.refl _ _).drew⟩, rfl⟩ ?_
    simp only [List.take_succ_cons, List.take_zero, List.drop_succ_cons, List.drop_zero]
    repeat (go_big_quiet_step (first | (go_at_call 22; exact C2.out _) | (go_at_call 21; exact C3.out _)))
    refine wpQuiet_nil ?_
    rintro _ ⟨z, rfl⟩
    have hz := z.2
    generalize z.1 = wz at hz ⊢
    clear p1 p2 p3 p4
    have hVz := HV5.out.below hz hs5a
    obtain ⟨oz, dz⟩ := hVz.rd
    have hBz := Lib.hid (HB5.out.trans (hz.mono HB5.out.size))
    have hIz := Lib.hid (HI5.out.below hz)
    clear hVz hz
    go_wp2_with fail
    refine (print_any G1 is2 wz (hG.later hBz.out) ⟨hIz.out, by have := hlenP.out.1; unfold maxLen; omega, by have := hlenP.out.2.1; unfold maxLen; omega, by have := hlenP.out.2.2; unfold maxLen; omega⟩).mono ?_
    rintro r w6 ⟨rfl, hb6⟩
    have HB6 := Lib.hid (hBz.out.trans (hb6.mono hBz.out.size))
    clear hb6 oz dz
    by_cases he0 : e = 0
    · subst he0
      obtain ⟨q1, q2⟩ := print_parse (HE.out.symm) HP1.out
      rw [q1, if_pos rfl]
      have Q2 := Lib.hid q2
      clear q1 q2 HE HO
      go_wp2
      go_ret
      refine ⟨?_, HB6.out⟩
      show Ending.returned (.bool ((str (lineTxt G1.number.toNat G1.id G1.name G1.date.toNat G1.subject is2 G1.bytes.toNat)).toList == s.toList)) = _
      rw [Q2.out]; simp
    · have hez : (e == 0) = false := by rw [beq_eq_false_iff_ne]; exact he0
      have hez2 : (e != 0) = true := by simp [he0]
      generalize (if lineErr G1 is2 = 0 then str (lineTxt G1.number.toNat G1.id G1.name G1.date.toNat G1.subject is2 G1.bytes.toNat) else ⟨#[]⟩) = tx
      generalize lineErr G1 is2 = e2
      go_wp2
      go_ret
      exact ⟨rfl, HB6.out⟩

end Go.Proofs.YtdjaphcelpchaaaGreatDoor
