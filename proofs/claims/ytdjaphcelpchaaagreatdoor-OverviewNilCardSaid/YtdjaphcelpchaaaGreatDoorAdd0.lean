/- (*overview.Index).Add on a fresh index: the one call that 'known' makes. -/
import Derived.Test.YtdjaphcelpchaaaGreatDoorInsert
import Derived.Deep.QuietTactic
import Derived.WalkSpells
import Derived.Outline
import Derived.Carry
import Derived.WideMake
import Derived.RangeFuncRecord
import Derived.Deep.CutBlock
namespace Go.Proofs.YtdjaphcelpchaaaGreatDoor
open Go Go.RowKit Go.Proofs

attribute [local go_sem ↓] ex_load_id ex_store_id ex_load_line ex_store_line ex_alloc_line ex_build_line
attribute [local go_sem] ld_id st_id ld_line st_line guard_id okCells_drew rdCells_drew okCells_drewN rdCells_drewN rowOk_drew rowOk_cells okCells_cells rdCells_cells setRow_drew setRow_new setRow_past

/-- The line that 'known' adds. -/
def three : GLine := { zeroLine with number := 3 }
theorem three_ok : lineErr three [] = 0 := by decide +kernel
theorem ab_ok : nameErr ⟨#[97, 46, 98]⟩ = 0 := by decide +kernel

theorem quiet_call {f : FuncId} {args : Array Value} {w : World} {n : Nat} {v : Value} (h : Calls Tryz.prog f args (w.drewN n) fun e w' => e = .returned v ∧ w.drewN n = w') : Calls Tryz.prog f args (w.drewN n) fun e w'' => e = .returned v ∧ ∃ m, w'' = w.drewN m :=
  Calls.quiet_of_same (h.mono fun _ _ ⟨a, b⟩ => ⟨a, b.symm⟩)
theorem LineVar.idAt {w : World} {lb : Nat} {g : GLine} (h : LineVar w lb g) : okCells w ⟨lb, 1, none⟩ 32 = true ∧ rdCells w ⟨lb, 1, none⟩ 32 = (encId g.id).toArray := by
  have := rd_of_cells (w := w) (a := ⟨lb, 1, none⟩) (cs := encId g.id) (fun j v hj => by
    have hj32 : j < 32 := by have := (List.getElem?_eq_some_iff.1 hj).1; rwa [encId_length] at this
    rw [Addr.add_lit, h.cell, ← hj]
    simp only [lineCells, lineList, List.getElem?_toArray]
    rw [show 1 + j = j + 1 by omega, List.getElem?_cons_succ, List.getElem?_append_left (by rw [encId_length]; exact hj32)])
  rwa [encId_length] at this

set_option maxRecDepth 100000 in
set_option maxHeartbeats 2000000 in
theorem add_fresh (IB M B : Nat) (w : World) (hG : Gl w) (hI : w.heap[IB]? = some (.cells #[.map (some M), .int .i64 0] 104 (0, 0))) (hM : w.heap[M]? = some (.map #[] 0)) (hB : B ≤ IB) (hBM : B ≤ M) :
    Calls Tryz.prog 32 #[.pointer (some ⟨IB, 0, none⟩), .string ⟨#[97, 46, 98]⟩, .agg (lineCells three)] w fun r w' => r = .returned (.int .i64 0) ∧ Below B w w' ∧
      ∃ gb a c, w'.cell? ⟨IB, 0, none⟩ = some (.map (some M)) ∧ w'.heap[M]? = some (.map #[{ key := .string ⟨#[97, 46, 98]⟩, val := .pointer (some ⟨gb, 0, none⟩), born := 0 }] 1) ∧ w'.cell? ⟨gb, 0, none⟩ = some (.slice a 1 c) := by
  have hIB : IB < w.heap.size := (Array.getElem?_eq_some_iff.1 hI).1
  have hMB : M < w.heap.size := (Array.getElem?_eq_some_iff.1 hM).1
  have hne : IB ≠ M := by rintro rfl; rw [hI] at hM; cases hM
  have hb0 : Below w.heap.size w (w.alloc (.cells (lineCells three) 34)) := (Below.refl _ _).alloc (Nat.le_refl _) _
  have hL0 : LineVar (w.alloc (.cells (lineCells three) 34)) w.heap.size three := heap_alloc_new _ _
  have HL0 := Lib.hid hL0
  have HB0 := Lib.hid hb0
  have HI := Lib.hid hI
  have HM := Lib.hid hM
  clear hL0 hb0 hI hM
  go_enter Tryz.func32, Tryz.ntmps32
  go_wp2_with fail
  refine (nameCheck_any ⟨#[97, 46, 98]⟩ _ (hG.later HB0.out) (by decide +kernel)).mono ?_
  rintro r w1 ⟨rfl, hb1⟩
  rw [ab_ok]
  have hL1 : LineVar w1 w.heap.size three := HL0.out.below hb1 (by simp)
  have hB1 : Below w.heap.size w w1 := HB0.out.trans (hb1.mono (by simp))
  have hs1 : w.heap.size < w1.heap.size := hL1.lt
  obtain ⟨o1, d1⟩ := hL1.rd
  have HL1 := Lib.hid hL1
  have HB1 := Lib.hid hB1
  clear hb1 hL1 hB1 HL0 HB0
  go_wp2_with fail
  refine (lineCheck_any three [] w1 ⟨idsAt_nil _, by decide +kernel, by decide +kernel, by decide +kernel⟩).mono ?_
  rintro r w2 ⟨rfl, hb2⟩
  rw [three_ok]
  have hL2 : LineVar w2 w.heap.size three := HL1.out.below hb2 hs1
  have hB2 : Below w.heap.size w w2 := HB1.out.trans (hb2.mono HB1.out.size)
  have hs2 : w.heap.size < w2.heap.size := hL2.lt
  clear o1 d1 hb2 HL1 HB1 hs1
  have hI2 := (hB2.block IB hIB).trans HI.out
  have hM2 := (hB2.block M hMB).trans HM.out
  have n2 := (hL2.cell 0).trans (lc0 three)
  have HL2 := Lib.hid hL2
  have HB2 := Lib.hid hB2
  have HI2 := Lib.hid hI2
  have HM2 := Lib.hid hM2
  clear hL2 hB2 hI2 hM2
  have hcI2 : w2.cell? ⟨IB, 0, none⟩ = some (.map (some M)) := cell_of_row w2 IB 0 _ _ _ HI2.out
  have c1 : ∀ n, Calls Tryz.prog 68 #[.pointer (some ⟨IB, 0, none⟩), .string ⟨#[97, 46, 98]⟩] (w2.drewN n) fun r w' => r = .returned (.slice none 0 0) ∧ ∃ m, w' = w2.drewN m := fun n => quiet_call (linesOf_none IB M _ _ (by rw [World.cell?_drewN]; exact hcI2) (by rw [World.heap_drewN]; exact HM2.out))
  have c2 : ∀ n, Calls Tryz.prog 69 #[.slice none 0 0, .int .i64 three.number] (w2.drewN n) fun r w' => r = .returned (.tuple #[.int .i64 0, .bool false]) ∧ ∃ m, w' = w2.drewN m := fun n => quiet_call (search_none _ _)
  have C1 := Lib.hid c1
  have C2 := Lib.hid c2
  clear c1 c2 hcI2
  go_wp2_with fail
  go_quiet (first | (go_at_call 68; exact C1.out _) | (go_at_call 69; exact C2.out _))
  have hL3 : LineVar (w2.drewN nq) w.heap.size three := HL2.out
  have hB3 : Below w.heap.size w (w2.drewN nq) := below_drewN' HB2.out nq
  have hI3 : (w2.drewN nq).heap[IB]? = some (.cells #[.map (some M), .int .i64 0] 104 (0, 0)) := HI2.out
  have hM3 : (w2.drewN nq).heap[M]? = some (.map #[] 0) := HM2.out
  have hs3 : w.heap.size < (w2.drewN nq).heap.size := hs2
  generalize w2.drewN nq = w3 at hL3 hB3 hI3 hM3 hs3 ⊢
  clear C1 C2 HL2 HB2 HI2 HM2 n2 hs2
  obtain ⟨o3, d3⟩ := hL3.idAt
  have hcI3 : w3.cell? ⟨IB, 0, none⟩ = some (.map (some M)) := cell_of_row w3 IB 0 _ _ _ hI3
  have HF := Lib.hid (find_none IB M ⟨#[97, 46, 98]⟩ three.id w3 hcI3 hM3)
  have HL3 := Lib.hid hL3
  have HB3 := Lib.hid hB3
  have HI3 := Lib.hid hI3
  have HM3 := Lib.hid hM3
  have hft : fitsRow 38 (lineCells zeroLine) = true := fits_line rfl
  have hzs : ((lineCells zeroLine).size == 38) = true := by rw [lineCells_size]; rfl
  clear hL3 hB3 hI3 hM3 hcI3
  go_wp2_with fail
  refine HF.out.mono ?_
  rintro r w4 ⟨rfl, hb4⟩
  have hL4 : LineVar w4 w.heap.size three := HL3.out.below hb4 hs3
  have hB4 : Below w.heap.size w w4 := HB3.out.trans (hb4.mono HB3.out.size)
  have hs4 : w.heap.size < w4.heap.size := hL4.lt
  clear o3 d3 HF HL3 HB3 HI3 HM3 hb4 hs3
  have hb5 : Below w4.heap.size w4 (w4.alloc (.cells (lineCells zeroLine) 34)) := (Below.refl _ _).alloc (Nat.le_refl _) _
  have hL5 : LineVar (w4.alloc (.cells (lineCells zeroLine) 34)) w.heap.size three := hL4.below hb5 hs4
  have hB5 : Below w.heap.size w (w4.alloc (.cells (lineCells zeroLine) 34)) := hB4.trans (hb5.mono hB4.size)
  have hs5 : w.heap.size < (w4.alloc (.cells (lineCells zeroLine) 34)).heap.size := hL5.lt
  have hI5 := (hB5.block IB hIB).trans HI.out
  have hM5 := (hB5.block M hMB).trans HM.out
  have HL5 := Lib.hid hL5
  have HB5 := Lib.hid hB5
  have HI5 := Lib.hid hI5
  have HM5 := Lib.hid hM5
  clear hb5 hL5 hB5 hI5 hM5 hL4 hB4 hs4
  go_upto_region 11 with (fail)
  generalize w4.alloc (.cells (lineCells zeroLine) 34) = w5 at HL5 HB5 HI5 HM5 hs5 ⊢
  have hc0 : w5.cell? ⟨IB, 0, none⟩ = some (.map (some M)) := cell_of_row _ IB 0 _ _ _ HI5.out
  have hc1 : w5.cell? ⟨IB, 1, none⟩ = some (.int .i64 0) := cell_of_row _ IB 1 _ _ _ HI5.out
  have hlk := look_empty _ M ⟨#[97, 46, 98]⟩ HM5.out
  have hmn := fun (u : World) => run_eql_map_nil (P := Tryz.prog) u 102 9 112 (some M) Tryz.underlying102
  have hmm := @run_makeMap Tryz.prog
  have hup : ∀ v, (Instr.mapUpdate 102 (.map (some M)) (.string ⟨#[97, 46, 98]⟩) v).run Tryz.prog ((w5.alloc (.map #[] 0)).alloc (.cells #[.slice none 0 0, .map (some w5.heap.size)] 115)) = .ok () (((w5.alloc (.map #[] 0)).alloc (.cells #[.slice none 0 0, .map (some w5.heap.size)] 115)).putObj M (.map #[{ key := .string ⟨#[97, 46, 98]⟩, val := v, born := 0 }] 1)) := fun v =>
    run_mapUpdate_first _ 102 9 112 M 0 ⟨#[97, 46, 98]⟩ v Tryz.underlying102 Tryz.underlying9 (by
      rw [heap_alloc_old _ _ (by have := (Array.getElem?_eq_some_iff.1 HM5.out).1; simp; omega), heap_alloc_old _ _ (Array.getElem?_eq_some_iff.1 HM5.out).1]; exact HM5.out)
  have hc6 : ((w5.alloc (.map #[] 0)).alloc (.cells #[.slice none 0 0, .map (some w5.heap.size)] 115)).cell? ⟨IB, 0, none⟩ = some (.map (some M)) := Lib.cell?_alloc_some _ (Lib.cell?_alloc_some _ hc0)
  go_upto_region 21 with (fail)
  obtain ⟨gb, hgb⟩ : ∃ gb, gb = w5.heap.size + 1 := ⟨_, rfl⟩
  obtain ⟨nb, hnb⟩ : ∃ nb, nb = w5.heap.size := ⟨_, rfl⟩
  obtain ⟨w6, hw6⟩ : ∃ w6, w6 = ((w5.alloc (.map #[] 0)).alloc (.cells #[.slice none 0 0, .map (some w5.heap.size)] 115)).putObj M (.map #[{ key := .string ⟨#[97, 46, 98]⟩, val := .pointer (some ⟨w5.heap.size + 1, 0, none⟩), born := 0 }] 1) := ⟨_, rfl⟩
  have hM5lt : M < w5.heap.size := (Array.getElem?_eq_some_iff.1 HM5.out).1
  have hI5lt : IB < w5.heap.size := (Array.getElem?_eq_some_iff.1 HI5.out).1
  have hs6 : w6.heap.size = w5.heap.size + 2 := by rw [hw6]; simp [World.putObj]
  have blk6 : ∀ k, k < w5.heap.size → k ≠ M → w6.heap[k]? = w5.heap[k]? := fun k hk hkM => by
    rw [hw6, World.putObj_heap_other hkM, heap_alloc_old _ _ (by simp; omega), heap_alloc_old _ _ hk]
  have hM6 : w6.heap[M]? = some (.map #[{ key := .string ⟨#[97, 46, 98]⟩, val := .pointer (some ⟨gb, 0, none⟩), born := 0 }] 1) := by
    rw [hw6, World.putObj_heap_same (by simp; omega), hgb]
  have hg6 : w6.heap[gb]? = some (.cells #[.slice none 0 0, .map (some nb)] 115 (0, 0)) := by
    rw [hw6, World.putObj_heap_other (by omega), hgb, hnb]
    have := heap_alloc_new (w5.alloc (.map #[] 0)) (.cells #[.slice none 0 0, .map (some w5.heap.size)] 115)
    simpa using this
  have hn6 : w6.heap[nb]? = some (.map #[] 0) := by
    rw [hw6, World.putObj_heap_other (by omega), heap_alloc_old _ _ (by simp; omega), hnb, heap_alloc_new]
  have hL6 : LineVar w6 w.heap.size three := (blk6 _ hs5 (by omega)).trans HL5.out
  have hI6 := (blk6 IB hI5lt hne).trans HI5.out
  have hB6 : Below B w w6 := by
    have h1 : Below B w w5 := HB5.out.mono (by omega)
    refine ⟨?_, ?_, ?_, by have := h1.size; omega, fun k hk => (blk6 k (by omega) (by omega)).trans (h1.block k hk)⟩
    · rw [hw6]; exact h1.os
    · rw [hw6]; exact h1.tape
    · rw [hw6]; exact h1.output
  rw [← hw6, ← hgb, ← hnb]
  have hgbs : gb < w6.heap.size := by omega
  have hnbs : nb < w6.heap.size := by omega
  have hLs : w.heap.size < w6.heap.size := by omega
  have hIs : IB < w6.heap.size := by omega
  have hMs : M < w6.heap.size := by omega
  have hgL : gb ≠ w.heap.size := by omega
  have hgI : gb ≠ IB := by omega
  have hgM : gb ≠ M := by omega
  have hgN : gb ≠ nb := by omega
  have hnL : nb ≠ w.heap.size := by omega
  have hnI : nb ≠ IB := by omega
  have hnM : nb ≠ M := by omega
  have hBg : B ≤ gb := by omega
  have hBn : B ≤ nb := by omega
  clear hw6 hgb hnb hs6 blk6 hc6 hc0 hc1 hlk hmn hmm hup HL5 HB5 HI5 HM5 hM5lt hI5lt hs5
  have q1 : ∀ z : Later w6, z.1.cell? ⟨gb, 0, none⟩ = some (.slice none 0 0) := fun z => z.cell (cell_of_row w6 gb 0 _ _ _ hg6)
  have q2 : ∀ z : Later w6, okCells z.1 ⟨w.heap.size, 0, none⟩ 38 = true := fun z => (hL6.below z.2 hLs).rd.1
  have q3 : ∀ z : Later w6, rdCells z.1 ⟨w.heap.size, 0, none⟩ 38 = lineCells three := fun z => (hL6.below z.2 hLs).rd.2
  have HM6 := Lib.hid hM6
  have HG6 := Lib.hid hg6
  have HN6 := Lib.hid hn6
  have HL6 := Lib.hid hL6
  have HI6 := Lib.hid hI6
  have HB6 := Lib.hid hB6
  clear hM6 hg6 hn6 hL6 hI6 hB6
  refine wp_region_mix0 [0, 1, 2, 3, 4, 5, 6] [7, 8, 9, 10, 11, 12] (fun w' => ∃ z : Later w6, w' = z.1) (by kernel_rfl) (by kernel_rfl) (by kernel_rfl) ⟨⟨_, (Below.refl _ _).drew⟩, rfl⟩ ?_
  simp only [opsAt, List.map_cons, List.map_nil, Array.getD_eq_getD_getElem?, List.getElem?_toArray, List.getElem?_cons_zero, List.getElem?_cons_succ, Option.getD_some]
  repeat (go_big_quiet_step (fail))
  refine wpQuiet_nil ?_
  clear q1 q2 q3
  have hbd : Below w6.heap.size w6 w6.drew := (Below.refl _ _).drew
  generalize w6.drew = w7 at hbd ⊢
  refine wpR_cons true rfl (by kernel_rfl) ?_
  go_wp2_with fail
  refine (clone_any 0 three [] w7 (World.ownsRow_nil _ _ _ _) (by simp)).mono ?_
  rintro r w8 ⟨v, rfl, hI8, hb8⟩
  have hone := hI8.one
  have hb8' : Below w6.heap.size w6 w8 := hbd.trans (hb8.mono hbd.size)
  obtain ⟨g8, hg8⟩ : ∃ g8 : GLine, g8 = { three with refs := v } := ⟨_, rfl⟩
  have hone8 : refsOne g8 := by rw [hg8]; exact hone
  rw [← hg8]
  have HG8 := Lib.hid hg8
  clear hg8
  obtain ⟨i0, hi, hz0, hz1, hz2⟩ := info_parts Tryz.info_line
  go_wp2_with fail
  refine ⟨fun _ => ⟨⟨_, hb8'⟩, rfl⟩, wpR_cons true rfl (by kernel_rfl) ?_⟩
  refine wpList_buildSlice rfl 107 34 1 _ rfl (lineCells g8) i0 _ Tryz.underlying107 hi hz0 (by rw [hz1]; decide) (by rw [hz1]; decide) (by rw [hz1]; simp only [List.map_toArray, List.map_cons, List.map_nil]; refine fill_one _ _ 38 (lineCells_size _) ?_; rw [Array.size_map, Array.size_range]) ?_
  have hb9 : Below w6.heap.size w6 (w8.alloc (.cells (lineCells g8) 34)) := hb8'.alloc hb8'.size _
  have hIns := insert_end 0 (.slice none 0 0) 0 w8.heap.size [] g8 (w8.alloc (.cells (lineCells g8) 34)) hone8 (World.ownsRow_nil _ _ _ _) (Nat.zero_le _) (by omega) (fun j u hj => by rw [Addr.add_lit, Nat.zero_add, cells_new]; simpa [lineCells] using hj)
  have HIns := Lib.hid hIns
  have HB9 := Lib.hid hb9
  clear hIns hb9
  go_wp2_with fail
  generalize w8.alloc (.cells (lineCells g8) 34) = w9 at HIns HB9 ⊢
  refine ⟨fun _ => ⟨⟨_, HB9.out⟩, rfl⟩, wpR_cons true rfl (by kernel_rfl) ?_⟩
  go_wp2_with fail
  refine HIns.out.mono ?_
  rintro r w10 ⟨v', rfl, hown, hgrow⟩
  have hb10 : Below w6.heap.size w6 w10 := ⟨hgrow.os.trans HB9.out.os, hgrow.tape.trans HB9.out.tape, hgrow.output.trans HB9.out.output, Nat.le_trans HB9.out.size hgrow.size, fun k hk => (hgrow.block k (by have := HB9.out.size; omega) (by simp [Value.ownBlock])).trans (HB9.out.block k hk)⟩
  obtain ⟨va, vc, hv'⟩ : ∃ va vc, v' = .slice (some ⟨va, 0, none⟩) 1 vc := by
    rcases hown.2 with ⟨_, h0⟩ | ⟨g', cap', _, e, _⟩
    · omega
    · exact ⟨g', cap', e⟩
  subst hv'
  go_wp2_with fail
  refine ⟨fun _ => ⟨⟨_, hb10⟩, rfl⟩, wpR_list [10, 11, 12] _ _ (by kernel_rfl) ?_⟩
  simp only [opsAt, List.map_cons, List.map_nil, Array.getD_eq_getD_getElem?, List.getElem?_toArray, List.getElem?_cons_zero, List.getElem?_cons_succ, Option.getD_some]
  have hg10 := (hb10.block gb hgbs).trans HG6.out
  have hcg := cell_of_row w10 gb 0 _ _ _ hg10
  have hfg := frozen_of_row w10 gb 0 _ _ hg10
  have hg11 := heap_setCell_same w10 gb 0 _ _ (.slice (some ⟨va, 0, none⟩) 1 vc) hg10
  have blk11 : ∀ k, k ≠ gb → (w10.setCell ⟨gb, 0, none⟩ (.slice (some ⟨va, 0, none⟩) 1 vc)).heap[k]? = w10.heap[k]? := fun k hk => heap_setCell_other w10 ⟨gb, 0, none⟩ k _ hk
  have hL11 : LineVar (w10.setCell ⟨gb, 0, none⟩ (.slice (some ⟨va, 0, none⟩) 1 vc)) w.heap.size three := (blk11 _ hgL.symm).trans ((hb10.block _ hLs).trans HL6.out)
  have hI11 := (blk11 _ hgI.symm).trans ((hb10.block _ hIs).trans HI6.out)
  have hM11 := (blk11 _ hgM.symm).trans ((hb10.block _ hMs).trans HM6.out)
  have hN11 := (blk11 _ hgN.symm).trans ((hb10.block _ hnbs).trans HN6.out)
  have hB11 : Below B w (w10.setCell ⟨gb, 0, none⟩ (.slice (some ⟨va, 0, none⟩) 1 vc)) := (HB6.out.trans (hb10.mono (by omega))).setCell hBg _
  have HG11 := Lib.hid hg11
  have HL11 := Lib.hid hL11
  have HI11 := Lib.hid hI11
  have HM11 := Lib.hid hM11
  have HN11 := Lib.hid hN11
  have HB11 := Lib.hid hB11
  clear hg11 blk11 hL11 hI11 hM11 hN11 hB11 hg10 hown hgrow hb10 HB9 HIns
  go_wp2
  refine NoPanic.normal ?_
  go_upto_region 22 with (fail)
  generalize w10.setCell ⟨gb, 0, none⟩ (.slice (some ⟨va, 0, none⟩) 1 vc) = w11 at HG11 HL11 HI11 HM11 HN11 HB11 ⊢
  have hg11s : gb < w11.heap.size := (Array.getElem?_eq_some_iff.1 HG11.out).1
  have hn11s : nb < w11.heap.size := (Array.getElem?_eq_some_iff.1 HN11.out).1
  have hL11s : w.heap.size < w11.heap.size := HL11.out.lt
  have q1 : ∀ z : Later w11, z.1.cell? ⟨gb, 1, none⟩ = some (.map (some nb)) := fun z => z.cell (cell_of_row w11 gb 1 _ _ _ HG11.out)
  have q2 : ∀ z : Later w11, okCells z.1 ⟨w.heap.size, 1, none⟩ 32 = true := fun z => (HL11.out.below z.2 hL11s).idAt.1
  have q3 : ∀ z : Later w11, rdCells z.1 ⟨w.heap.size, 1, none⟩ 32 = (encId three.id).toArray := fun z => (HL11.out.below z.2 hL11s).idAt.2
  have q4 : ∀ z : Later w11, z.1.cell? ⟨w.heap.size, 0, none⟩ = some (.int .i64 three.number) := fun z => ((HL11.out.below z.2 hL11s).cell 0).trans (lc0 three)
  clear hcg hfg
  refine wp_region_mix0 [0, 1, 2, 3, 4, 5, 6, 7] [8] (fun w' => ∃ z : Later w11, w' = z.1) (by kernel_rfl) (by kernel_rfl) (by kernel_rfl) ⟨⟨_, (Below.refl _ _).drew⟩, rfl⟩ ?_
  simp only [opsAt, List.map_cons, List.map_nil, Array.getD_eq_getD_getElem?, List.getElem?_toArray, List.getElem?_cons_zero, List.getElem?_cons_succ, Option.getD_some]
  repeat (go_big_quiet_step (fail))
  refine wpQuiet_nil ?_
  clear q1 q2 q3 q4
  have hup : (Instr.mapUpdate 113 (.map (some nb)) (.agg (encId three.id).toArray) (.int .i64 three.number)).run Tryz.prog w11.drew = .ok () (w11.drew.putObj nb (.map #[{ key := .agg (encId zeroId).toArray, val := .int .i64 three.number, born := 0 }] 1)) := by
    have h1 := put_id_empty w11.drew nb (.int .i64 three.number) HN11.out
    have h2 := MapKept.run_setObj_map (P := Tryz.prog) (w := w11.drew) (r := nb) (.map #[{ key := .agg (encId zeroId).toArray, val := .int .i64 three.number, born := 0 }] 1) HN11.out
    exact h1.trans h2
  have hsd : w11.drew.heap.size = w11.heap.size := rfl
  obtain ⟨w12, hw12⟩ : ∃ w12, w12 = w11.drew.putObj nb (.map #[{ key := .agg (encId zeroId).toArray, val := .int .i64 three.number, born := 0 }] 1) := ⟨_, rfl⟩
  have blk12 : ∀ k, k ≠ nb → w12.heap[k]? = w11.heap[k]? := fun k hk => by rw [hw12, World.putObj_heap_other hk]; rfl
  have hs12 : w12.heap.size = w11.heap.size := by rw [hw12]; simp only [World.putObj, Array.size_setIfInBounds]; rfl
  have hg12 := (blk12 gb hgN).trans HG11.out
  have hI12 := (blk12 IB hnI.symm).trans HI11.out
  have hM12 := (blk12 M hnM.symm).trans HM11.out
  have hB12 : Below B w w12 := by
    have h1 := HB11.out
    refine ⟨?_, ?_, ?_, by have := h1.size; omega, fun k hk => (blk12 k (by omega)).trans (h1.block k hk)⟩
    · rw [hw12]; exact h1.os
    · rw [hw12]; exact h1.tape
    · rw [hw12]; exact h1.output
  rw [← hw12] at hup
  have HG12 := Lib.hid hg12
  have HI12 := Lib.hid hI12
  have HM12 := Lib.hid hM12
  have HB12 := Lib.hid hB12
  clear hw12 blk12 hg12 hI12 hM12 hB12 hs12 hsd
  refine wpR_list [8] _ _ (by kernel_rfl) ?_
  simp only [opsAt, List.map_cons, List.map_nil, Array.getD_eq_getD_getElem?, List.getElem?_toArray, List.getElem?_cons_zero, List.getElem?_cons_succ, Option.getD_some]
  go_wp2
  refine NoPanic.normal ?_
  have hci := cell_of_row w12 IB 1 _ _ _ HI12.out
  have hfi := frozen_of_row w12 IB 1 _ _ HI12.out
  clear hup
  have hI13 := heap_setCell_same w12 IB 1 _ _ (.int .i64 1) HI12.out
  have hM13 := (heap_setCell_other w12 ⟨IB, 1, none⟩ M (.int .i64 1) (by simpa using hne.symm)).trans HM12.out
  have hG13 := (heap_setCell_other w12 ⟨IB, 1, none⟩ gb (.int .i64 1) (by simpa using hgI)).trans HG12.out
  have HI13 := Lib.hid hI13
  have HM13 := Lib.hid hM13
  have HG13 := Lib.hid hG13
  clear hI13 hM13 hG13
  go_wp2
  go_ret
  refine ⟨rfl, HB12.out.setCell hB _, gb, some ⟨va, 0, none⟩, vc, ?_, HM13.out, ?_⟩
  · exact cell_of_row _ IB 0 _ _ _ HI13.out
  · exact cell_of_row _ gb 0 _ _ _ HG13.out

end Go.Proofs.YtdjaphcelpchaaaGreatDoor
