/- bulletinlaw28.OverviewCheck: the walk, given that 'known' answers true. -/
import Derived.Test.YtdjaphcelpchaaaGreatDoorInv
namespace Go.Proofs.YtdjaphcelpchaaaGreatDoor
open Go Go.RowKit Go.Proofs

attribute [local go_sem ↓] ex_load_id ex_store_id ex_load_line ex_store_line ex_load_rline ex_store_rline ex_alloc_line ex_build_line ex_alloc_rline ex_build_rline
attribute [local go_sem] ld_id st_id ld_line st_line ld_rline st_rline guard_id okCells_drew rdCells_drew okCells_drewN rdCells_drewN rowOk_drew rowOk_cells okCells_cells rdCells_cells setRow_drew setRow_new setRow_past

/-- 'known' answers true in every world that holds the program's tables. -/
def Knows : Prop := ∀ w : World, Gl w → Calls Tryz.prog 13 #[] w fun r w' => r = .returned (.bool true) ∧ Below w.heap.size w w'

theorem RVar.below {w w' : World} {lb B : Nat} {s : ByteArray} {g : GLine} (h : RVar w lb s g) (hb : Below B w w') (hlt : lb < B) : RVar w' lb s g := (hb.block lb hlt).trans h
theorem LineVar.below {w w' : World} {lb B : Nat} {g : GLine} (h : LineVar w lb g) (hb : Below B w w') (hlt : lb < B) : LineVar w' lb g := (hb.block lb hlt).trans h

set_option maxRecDepth 100000 in
set_option maxHeartbeats 2000000 in
theorem law_check (hK : Knows) (s : ByteArray) (g : GLine) (ids : List Id32) (w : World) (hG : Gl w) (hI : IdsAt w g.refs ids) (hn : ids.length ≤ maxLen) (h1 : s.size ≤ maxLen / 4) (h2 : g.name.size ≤ maxLen / 4) (h3 : g.subject.size ≤ maxLen / 4) :
    Calls Tryz.prog 3 #[.agg (rlineCells s g)] w fun r w' => r = .returned (.bool true) ∧ Below w.heap.size w w' := by
  have HK := Lib.hid hK
  clear hK
  have hbA : Below w.heap.size w (w.alloc (.cells (rlineCells s g) 26)) := (Below.refl _ _).alloc (Nat.le_refl _) _
  have hRA : RVar (w.alloc (.cells (rlineCells s g) 26)) w.heap.size s g := heap_alloc_new _ _
  have HBA := Lib.hid hbA
  have HRA := Lib.hid hRA
  clear hbA hRA
  go_enter Tryz.func3, Tryz.ntmps3
  go_wp2_with fail
  refine (HK.out _ (hG.later HBA.out)).mono ?_
  rintro r w1 ⟨rfl, hb1⟩
  have hR1 : RVar w1 w.heap.size s g := HRA.out.below hb1 (by simp)
  have hB1 : Below w.heap.size w w1 := HBA.out.trans (hb1.mono (by simp))
  have hs1 : w.heap.size < w1.heap.size := by have := hb1.size; simp at this; omega
  obtain ⟨o1, d1⟩ := hR1.rd
  have HR1 := Lib.hid hR1
  have HB1 := Lib.hid hB1
  clear hb1 hR1 hB1 HBA HRA
  go_wp2_with fail
  obtain ⟨ra, rc, hrefs, hrc, hrow⟩ := hI
  have hIw : IdsAt w g.refs ids := ⟨ra, rc, hrefs, hrc, hrow⟩
  refine (small_any s g w1 ra ids.length rc hrefs hn h1 h2 h3).mono ?_
  rintro r w2 ⟨rfl, hb2⟩
  have hR2 : RVar w2 w.heap.size s g := HR1.out.below hb2 hs1
  have hB2 : Below w.heap.size w w2 := HB1.out.trans (hb2.mono (by omega))
  have hs2 : w.heap.size < w2.heap.size := by have := hb2.size; omega
  clear hb2 HR1 HB1 o1 d1 hrow
  by_cases hsm : (decide (ids.length ≤ 30) && decide (s.size + g.name.size + g.subject.size ≤ 600)) = true
  · rw [hsm]
    simp only [Bool.and_eq_true, decide_eq_true_eq] at hsm
    have hc2 := (hR2.cell 0).trans (rc0 s g)
    have hf2 := hR2.free 0
    have hR3 : RVar (w2.setCell ⟨w.heap.size, 0, none⟩ (.string ⟨#[]⟩)) w.heap.size ⟨#[]⟩ g := by
      unfold RVar at hR2 ⊢
      rw [heap_setCell_same w2 w.heap.size 0 _ _ _ hR2, set_rname]
    have hB3 : Below w.heap.size w (w2.setCell ⟨w.heap.size, 0, none⟩ (.string ⟨#[]⟩)) := below_grown hB2 (grown_set _ _ _ _) hB2.size (Nat.le_refl _)
    have hs3 : w.heap.size < (w2.setCell ⟨w.heap.size, 0, none⟩ (.string ⟨#[]⟩)).heap.size := by simp [World.setCell]; omega
    obtain ⟨o3, d3⟩ := hR3.rd
    have HR3 := Lib.hid hR3
    have HB3 := Lib.hid hB3
    have HS3 := Lib.hid hs3
    clear hR2 hB2 hs2 hR3 hB3 hs3
    go_wp2_with fail
    generalize w2.setCell ⟨w.heap.size, 0, none⟩ (.string ⟨#[]⟩) = w3 at HR3 HB3 HS3 o3 d3 ⊢
    clear hc2 hf2 w2
    have hok : ∀ w', Below w.heap.size w w' → LineOk w' g ids := fun w' hb => ⟨hIw.below hb, hn, by unfold maxLen at *; omega, by unfold maxLen at *; omega⟩
    have HOK := Lib.hid hok
    clear hok
    refine (refCheck_any ⟨#[]⟩ g ids w3 (HOK.out w3 HB3.out)).mono ?_
    rintro r w4 ⟨rfl, hb4⟩
    have hR4 : RVar w4 w.heap.size ⟨#[]⟩ g := HR3.out.below hb4 HS3.out
    have hB4 : Below w.heap.size w w4 := HB3.out.trans (hb4.mono HB3.out.size)
    have hs4 : w.heap.size < w4.heap.size := by have := hb4.size; have := HS3.out; omega
    obtain ⟨o4, d4⟩ := hR4.rd
    have HR4 := Lib.hid hR4
    have HB4 := Lib.hid hB4
    clear hb4 hR4 hB4 o3 d3 HR3 HB3 HS3
    go_wp2_with fail
    refine (own_any ⟨#[]⟩ g ids w4 (hIw.below HB4.out) (by omega)).mono ?_
    rintro r w5 ⟨b5, cap5, rfl, hI5, hb5⟩
    have hR5 : RVar w5 w.heap.size ⟨#[]⟩ g := HR4.out.below hb5 hs4
    have hB5 : Below w.heap.size w w5 := HB4.out.trans (hb5.mono HB4.out.size)
    have hs5 : w.heap.size < w5.heap.size := by have := hb5.size; omega
    have HR5 := Lib.hid hR5
    have HB5 := Lib.hid hB5
    clear hb5 hR5 hB5 o4 d4 HR4 HB4 hs4
    go_wp2_with fail
    refine (print_any { g with refs := .slice (some ⟨b5, 0, none⟩) ids.length cap5 } ids w5 (hG.later HB5.out) ⟨hI5, hn, by show g.name.size ≤ _; unfold maxLen at *; omega, by show g.subject.size ≤ _; unfold maxLen at *; omega⟩).mono ?_
    rintro r w6 ⟨rfl, hb6⟩
    have hR6 : RVar w6 w.heap.size ⟨#[]⟩ g := HR5.out.below hb6 hs5
    have hB6 : Below w.heap.size w w6 := HB5.out.trans (hb6.mono HB5.out.size)
    have hs6 : w.heap.size < w6.heap.size := by have := hb6.size; omega
    obtain ⟨o6, d6⟩ := hR6.rd
    have HR6 := Lib.hid hR6
    have HB6 := Lib.hid hB6
    clear hb6 hR6 hB6 HR5 HB5 hs5 hI5
    have hle : lineErr { g with refs := .slice (some ⟨b5, 0, none⟩) ids.length cap5 } ids = lineErr g ids := rfl
    rw [hle]
    clear hle
    obtain ⟨e, he⟩ : ∃ e, e = lineErr g ids := ⟨_, rfl⟩
    obtain ⟨tx, htx⟩ : ∃ tx, tx = if lineErr g ids = 0 then str (lineTxt g.number.toNat g.id g.name g.date.toNat g.subject ids g.bytes.toNat) else ⟨#[]⟩ := ⟨_, rfl⟩
    have htx' : (if lineErr g ids = 0 then str (lineTxt ({ g with refs := .slice (some ⟨b5, 0, none⟩) ids.length cap5 } : GLine).number.toNat ({ g with refs := .slice (some ⟨b5, 0, none⟩) ids.length cap5 } : GLine).id ({ g with refs := .slice (some ⟨b5, 0, none⟩) ids.length cap5 } : GLine).name ({ g with refs := .slice (some ⟨b5, 0, none⟩) ids.length cap5 } : GLine).date.toNat ({ g with refs := .slice (some ⟨b5, 0, none⟩) ids.length cap5 } : GLine).subject ids ({ g with refs := .slice (some ⟨b5, 0, none⟩) ids.length cap5 } : GLine).bytes.toNat) else ⟨#[]⟩) = tx := htx.symm
    rw [htx', ← he]
    have HE := Lib.hid he
    have HTX := Lib.hid htx
    clear he htx htx'
    go_wp2_with fail
    refine (own_any ⟨#[]⟩ g ids w6 (hIw.below HB6.out) (by omega)).mono ?_
    rintro r w7 ⟨b7, cap7, rfl, hI7, hb7⟩
    have hR7 : RVar w7 w.heap.size ⟨#[]⟩ g := HR6.out.below hb7 hs6
    have hB7 : Below w.heap.size w w7 := HB6.out.trans (hb7.mono HB6.out.size)
    have hs7 : w.heap.size < w7.heap.size := by have := hb7.size; omega
    have HR7 := Lib.hid hR7
    have HB7 := Lib.hid hB7
    clear hb7 hR7 hB7 o6 d6 HR6 HB6 hs6
    go_wp2_with fail
    refine (lineCheck_any { g with refs := .slice (some ⟨b7, 0, none⟩) ids.length cap7 } ids w7 ⟨hI7, hn, by show g.name.size ≤ _; unfold maxLen at *; omega, by show g.subject.size ≤ _; unfold maxLen at *; omega⟩).mono ?_
    rintro r w8 ⟨rfl, hb8⟩
    have hle : lineErr { g with refs := .slice (some ⟨b7, 0, none⟩) ids.length cap7 } ids = e := HE.out.symm
    rw [hle]
    have hR8 : RVar w8 w.heap.size ⟨#[]⟩ g := HR7.out.below hb8 hs7
    have hB8 : Below w.heap.size w w8 := HB7.out.trans (hb8.mono HB7.out.size)
    have hs8 : w.heap.size < w8.heap.size := by have := hb8.size; omega
    have HR8 := Lib.hid hR8
    have HB8 := Lib.hid hB8
    clear hb8 hR8 hB8 HR7 HB7 hs7 hI7 hle
    by_cases he0 : e = 0
    · subst he0
      have he := HE.out.symm
      obtain ⟨f1, f2, f3, f4, f5, f6⟩ := lineErr_zero he
      have htx : tx = str (lineTxt g.number.toNat g.id g.name g.date.toNat g.subject ids g.bytes.toNat) := by rw [HTX.out, if_pos he]
      have htl := lineTxt_le g.number.toNat g.id g.name g.date.toNat g.subject ids g.bytes.toNat (by omega) (by omega) (by omega) (by omega) (by omega) f5
      have hsz : tx.size < 4294967281 := by rw [htx, str_size]; omega
      obtain ⟨hpo, hpp⟩ := parse_print he
      rw [← htx] at hpo hpp
      have HPP := Lib.hid hpp
      have HPO := Lib.hid hpo
      have HTX2 := Lib.hid htx
      clear htl hpp hpo htx HTX HE
      go_wp2_with fail
      refine (parse_any tx w8 (hG.later HB8.out) hsz).mono ?_
      rintro r w9 ⟨G, is, rfl, hP, hI9, hone, hb9⟩
      obtain ⟨hGe, rfl⟩ := HPP.out G is hP
      obtain ⟨v, hv⟩ : ∃ v, v = G.refs := ⟨_, rfl⟩
      rw [← hv] at hGe hI9
      rw [HPO.out]
      subst hGe
      have hR9 : RVar w9 w.heap.size ⟨#[]⟩ g := HR8.out.below hb9 hs8
      have hB9 : Below w.heap.size w w9 := HB8.out.trans (hb9.mono HB8.out.size)
      have hs9 : w.heap.size < w9.heap.size := by have := hb9.size; omega
      have hft := fits_line hone
      have hzs : ((lineCells zeroLine).size == 38) = true := by rw [lineCells_size]; rfl
      clear hP hb9 HR8 HB8 hs8 hv
      have hbW : Below w9.heap.size w9 (w9.alloc (.cells (lineCells { g with refs := v }) 34)) := (Below.refl _ _).alloc (Nat.le_refl _) _
      have hVW : LineVar (w9.alloc (.cells (lineCells { g with refs := v }) 34)) w9.heap.size { g with refs := v } := heap_alloc_new _ _
      have hRW : RVar (w9.alloc (.cells (lineCells { g with refs := v }) 34)) w.heap.size ⟨#[]⟩ g := hR9.below hbW hs9
      have hIW := hI9.below hbW
      have hBW : Below w.heap.size w (w9.alloc (.cells (lineCells { g with refs := v }) 34)) := hB9.trans (hbW.mono hB9.size)
      have hsW : w.heap.size < (w9.alloc (.cells (lineCells { g with refs := v }) 34)).heap.size := by simp; omega
      have hsV : w9.heap.size < (w9.alloc (.cells (lineCells { g with refs := v }) 34)).heap.size := by simp
      go_wp2_with fail
      generalize w9.alloc (.cells (lineCells { g with refs := v }) 34) = W at hVW hRW hIW hBW hsW hsV ⊢
      clear hbW hB9 hR9 hI9
      have p1 : ∀ z : Later W, okCells z.1 ⟨w.heap.size, 0, none⟩ 39 = true := fun z => (hRW.below z.2 hsW).rd.1
      have p2 : ∀ z : Later W, rdCells z.1 ⟨w.heap.size, 0, none⟩ 39 = rlineCells ⟨#[]⟩ g := fun z => (hRW.below z.2 hsW).rd.2
      have p3 : ∀ z : Later W, okCells z.1 ⟨w9.heap.size, 0, none⟩ 38 = true := fun z => (hVW.below z.2 hsV).rd.1
      have p4 : ∀ z : Later W, rdCells z.1 ⟨w9.heap.size, 0, none⟩ 38 = lineCells { g with refs := v } := fun z => (hVW.below z.2 hsV).rd.2
      have c1 : ∀ z : Later W, Calls Tryz.prog 20 #[.agg (rlineCells ⟨#[]⟩ g)] z.1 fun e w'' => e = .returned (.string tx) ∧ ∃ z' : Later W, w'' = z'.1 := fun z => Later.call (by
        have := refPrint_any ⟨#[]⟩ g is g.number.toNat g.date.toNat g.bytes.toNat z.1 (HOK.out z.1 (hBW.trans (z.2.mono hBW.size))) (by omega) (by omega) (by omega) (by omega) (by omega) (by omega) (by omega) (by omega) f5
        rw [← HTX2.out] at this
        exact this)
      have hrv : v.cells = #[v] := by obtain ⟨a', c', e', _⟩ := hIW; rw [e']; rfl
      have c2 : ∀ z : Later W, Calls Tryz.prog 22 #[.string ⟨#[]⟩, .agg (lineCells { g with refs := v })] z.1 fun e w'' => e = .returned (.agg (rlineCells ⟨#[]⟩ { g with refs := v })) ∧ ∃ z' : Later W, w'' = z'.1 := fun z => Later.call (back_any ⟨#[]⟩ { g with refs := v } z.1 hrv hone)
      have c3 : ∀ z : Later W, Calls Tryz.prog 21 #[.agg (rlineCells ⟨#[]⟩ { g with refs := v }), .agg (rlineCells ⟨#[]⟩ g)] z.1 fun e w'' => e = .returned (.bool true) ∧ ∃ z' : Later W, w'' = z'.1 := fun z => Later.call (same_true ⟨#[]⟩ g v g.refs is z.1 (hIW.below z.2) (hIw.below (hBW.trans (z.2.mono hBW.size))) (by omega))
      have C1 := Lib.hid c1
      have C2 := Lib.hid c2
      have C3 := Lib.hid c3
      have HBW := Lib.hid hBW
      clear c1 c2 c3 hVW hRW hIW hBW hrv hft hone HOK HPO HPP HTX2 hIw hrefs
      refine wp_region_ht 18 (fun w' => ∃ z : Later W, w' = z.1) (by kernel_rfl) (by kernel_rfl) ⟨⟨_, (Below.refl _ _).drew⟩, rfl⟩ ?_
      simp only [List.take_succ_cons, List.take_zero, List.drop_succ_cons, List.drop_zero]
      repeat (go_big_quiet_step (first | (go_at_call 20; exact C1.out _) | (go_at_call 22; exact C2.out _) | (go_at_call 21; exact C3.out _)))
      refine wpQuiet_nil ?_
      rintro _ ⟨z, rfl⟩
      have hz := z.2
      generalize z.1 = wz at hz ⊢
      clear p1 p2 p3 p4
      go_wp2
      go_ret
      exact ⟨rfl, HBW.out.trans (hz.mono HBW.out.size)⟩
    · have hez : (e == 0) = false := by rw [beq_eq_false_iff_ne]; exact he0
      obtain rfl : tx = ⟨#[]⟩ := by rw [HTX.out, if_neg (by rw [← HE.out]; exact he0)]
      clear he0
      go_wp2
      go_ret
      exact ⟨rfl, HB8.out⟩
  · have hsm' : (decide (ids.length ≤ 30) && decide (s.size + g.name.size + g.subject.size ≤ 600)) = false := by simpa using hsm
    rw [hsm']
    have HB2 := Lib.hid hB2
    clear hsm hsm' hR2 hB2
    go_wp2_with fail
    refine (HK.out _ (hG.later HB2.out)).mono ?_
    rintro r w3 ⟨rfl, hb3⟩
    go_wp2
    go_ret
    exact ⟨rfl, HB2.out.trans (hb3.mono (by omega))⟩

end Go.Proofs.YtdjaphcelpchaaaGreatDoor
