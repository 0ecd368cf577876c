/- bulletinlaw28.Own. -/
import Derived.Test.YtdjaphcelpchaaaGreatDoorBack
namespace Go.Proofs.YtdjaphcelpchaaaGreatDoor
open Go Go.RowKit Go.Proofs

attribute [local go_sem ↓] ex_load_id ex_store_id ex_load_line ex_store_line ex_load_rline ex_store_rline ex_alloc_line ex_build_line ex_alloc_rline ex_build_rline ex_build_line7 ex_build_rline8
attribute [local go_sem] ld_id st_id ld_line st_line ld_rline st_rline guard_id okCells_drew rdCells_drew okCells_drewN rdCells_drewN rowOk_drew rowOk_cells okCells_cells rdCells_cells setRow_drew setRow_new setRow_past
attribute [local go_sem] lc0 lc33 lc34 lc35 lc36 lc37 rc0 rc1 rc34 rc35 rc36 rc37 rc38 okArr_lid rdArr_lid okArr_rid rdArr_rid

theorem ex_bs_zero (ρ : Operand → Value) (d : Option Tmp) (ty : TypeId) (pos : String) (af : Array Edge) (g : Option (Nat × Bool)) (w : World) :
    Sem.run Tryz.prog (execOp ρ ⟨d, .buildSlice 24 0 #[], ty, pos, af, g⟩) w = .ok (.value (.slice (some ⟨w.heap.size, 0, none⟩) 0 0)) (w.alloc (.cells #[] 23)) := by kernel_rfl
attribute [local go_sem ↓] ex_bs_zero

theorem flat_row {w : World} {b off : Nat} {ids : List Id32} (h : IdRow w b off ids) : ∀ j u, (flatIds ids)[j]? = some u → w.cell? ((⟨b, off, none⟩ : Addr).add j) = some u := by
  intro j u hj
  have hlt : j < ids.length * 32 := by have := (List.getElem?_eq_some_iff.1 hj).1; rwa [flat_length] at this
  rw [Addr.add_lit]
  have h1 := flat_get ids (j / 32) (j % 32) (by omega) (by omega)
  rw [show j / 32 * 32 + j % 32 = j by omega, hj] at h1
  have := h (j / 32) (by omega) (j % 32) u h1.symm
  rwa [show off + j / 32 * 32 + j % 32 = off + j by omega] at this
theorem flat_one (ids : List Id32) : ∀ u ∈ flatIds ids, u.oneCell' = true := by
  intro u hu
  unfold flatIds at hu
  rw [List.mem_flatMap] at hu
  obtain ⟨x, _, hx⟩ := hu
  exact encId_oneCell x u hx

set_option maxRecDepth 100000 in
set_option maxHeartbeats 2000000 in
theorem own_any (s : ByteArray) (g : GLine) (ids : List Id32) (w : World) (hI : IdsAt w g.refs ids) (hn : ids.length ≤ 1000000) :
    Calls Tryz.prog 17 #[.agg (rlineCells s g)] w fun r w' => ∃ b cap, r = .returned (.agg (lineCells { g with refs := .slice (some ⟨b, 0, none⟩) ids.length cap })) ∧ IdsAt w' (.slice (some ⟨b, 0, none⟩) ids.length cap) ids ∧ Below w.heap.size w w' := by
  obtain ⟨i0, hi, hz0, hz1, hz2⟩ := info_parts Tryz.info_id
  obtain ⟨ra, rc, hrefs, hrc, hrow⟩ := hI
  obtain ⟨W0, hW0⟩ : ∃ W0, W0 = (w.alloc (.cells (rlineCells s g) 26)).alloc (.cells (lineCells zeroLine) 34) := ⟨_, rfl⟩
  have hs0 : W0.heap.size = w.heap.size + 2 := by rw [hW0]; simp
  have hb0 : Below w.heap.size w W0 := by rw [hW0]; exact ((Below.refl _ _).alloc (Nat.le_refl _) _).alloc (by simp) _
  have hR : RVar W0 w.heap.size s g := by
    unfold RVar
    rw [hW0, heap_alloc_old _ _ (by simp), heap_alloc_new]
  have hV : LineVar W0 (w.heap.size + 1) zeroLine := by
    unfold LineVar
    have := heap_alloc_new (w.alloc (.cells (rlineCells s g) 26)) (.cells (lineCells zeroLine) 34)
    rw [hW0]
    simpa using this
  have hzR : ∀ z : Later W0, RVar z.1 w.heap.size s g := fun z => (z.2.block w.heap.size (by omega)).trans hR
  have q1 : ∀ z : Later W0, z.1.cell? ⟨w.heap.size, 1, none⟩ = some (.int .i64 g.number) := fun z => ((hzR z).cell 1).trans (rc1 s g)
  have q2 : ∀ z : Later W0, z.1.cell? ⟨w.heap.size, 34, none⟩ = some (.string g.name) := fun z => ((hzR z).cell 34).trans (rc34 s g)
  have q3 : ∀ z : Later W0, z.1.cell? ⟨w.heap.size, 35, none⟩ = some (.int .i64 g.date) := fun z => ((hzR z).cell 35).trans (rc35 s g)
  have q4 : ∀ z : Later W0, z.1.cell? ⟨w.heap.size, 36, none⟩ = some (.string g.subject) := fun z => ((hzR z).cell 36).trans (rc36 s g)
  have q5 : ∀ z : Later W0, z.1.cell? ⟨w.heap.size, 37, none⟩ = some (.slice ra ids.length rc) := fun z => ((hzR z).cell 37).trans ((rc37 s g).trans (by rw [hrefs]))
  have q6 : ∀ z : Later W0, z.1.cell? ⟨w.heap.size, 38, none⟩ = some (.int .i64 g.bytes) := fun z => ((hzR z).cell 38).trans (rc38 s g)
  have hid : ∀ z : Later W0, okCells z.1 ⟨w.heap.size, 2, none⟩ 32 = true ∧ rdCells z.1 ⟨w.heap.size, 2, none⟩ 32 = (encId g.id).toArray := fun z => by
    have := rd_of_cells (w := z.1) (a := ⟨w.heap.size, 2, none⟩) (cs := encId g.id) (fun j v hj => by
      have hj32 : j < 32 := by have := (List.getElem?_eq_some_iff.1 hj).1; rwa [encId_length] at this
      rw [Addr.add_lit, (hzR z).cell, show 2 + j = (1 + j) + 1 by omega, rc_succ, ← hj]
      simp only [lineCells, lineList, List.getElem?_toArray]
      rw [show 1 + j = j + 1 by omega, List.getElem?_cons_succ, List.getElem?_append_left (by rw [encId_length]; exact hj32)])
    rwa [encId_length] at this
  have q7 := fun z => (hid z).1
  have q8 := fun z => (hid z).2
  have HR := Lib.hid (show IdsAt W0 (.slice ra ids.length rc) ids from IdsAt.below (w := w) ⟨ra, rc, rfl, hrc, hrow⟩ hb0)
  clear hid hzR hR hrow hrc
  go_enter Tryz.func17, Tryz.ntmps17
  go_wp2
  rw [← hW0]
  clear hW0
  refine wp_region_mix0 [0, 1, 2, 3, 4, 5, 6, 7, 8, 9, 11, 12, 14, 15] [10, 13, 16, 17] (fun w' => ∃ z : Later W0, w' = z.1) (by kernel_rfl) (by kernel_rfl) (by kernel_rfl) ⟨⟨_, (Below.refl _ _).drew⟩, rfl⟩ ?_
  simp only [opsAt, List.map_cons, List.map_nil, Array.getD_eq_getD_getElem?, List.getElem?_toArray, List.getElem?_cons_zero, List.getElem?_cons_succ, Option.getD_some]
  repeat (go_big_quiet_step (fail))
  refine wpQuiet_nil ?_
  clear q1 q2 q3 q4 q5 q6 q7 q8
  generalize hWd : W0.drew = Wd
  have hbd : Below W0.heap.size W0 Wd := by rw [← hWd]; exact (Below.refl _ _).drew
  have hsd : Wd.heap.size = W0.heap.size := by rw [← hWd]; rfl
  have hVd : LineVar Wd (w.heap.size + 1) zeroLine := by rw [← hWd]; exact hV
  clear hWd
  refine wpR_cons true rfl (by kernel_rfl) ?_
  go_wp2_with fail
  refine ⟨fun _ => ⟨⟨_, hbd.alloc (by omega) _⟩, rfl⟩, wpR_cons true rfl (by kernel_rfl) ?_⟩
  have hsd2 : Wd.heap.size = w.heap.size + 2 := by omega
  by_cases hids : ids = []
  · subst hids
    refine wpList_append_zero rfl (.tmp 13) (.tmp 15) rfl (w.heap.size + 2) rc ra rfl rfl ?_
    have hI3 : IdsAt (Wd.alloc (.cells #[] 23)) (.slice (some ⟨(w.heap.size + 2), 0, none⟩) 0 0) [] := ⟨_, 0, rfl, Nat.le_refl _, fun h => absurd rfl h⟩
    have hb3 : Below W0.heap.size W0 (Wd.alloc (.cells #[] 23)) := hbd.alloc (by omega) _
    generalize Wd.alloc (.cells #[] 23) = w3 at hI3 hb3 ⊢
    have hbl : ∀ u, blRes Tryz.prog 34 u #[(0, .int .i64 g.number), (1, .agg (encId g.id).toArray), (2, .string g.name), (3, .int .i64 g.date), (4, .string g.subject), (5, .slice (some ⟨(w.heap.size + 2), 0, none⟩) 0 0), (6, .int .i64 g.bytes)] = .ok (.value (.agg (lineCells { g with refs := .slice (some ⟨(w.heap.size + 2), 0, none⟩) 0 0 }))) u := fun u => blRes_of (built_line { g with refs := .slice (some ⟨(w.heap.size + 2), 0, none⟩) 0 0 } rfl)
    have hft : fitsRow 38 (lineCells { g with refs := .slice (some ⟨(w.heap.size + 2), 0, none⟩) 0 0 }) = true := fits_line rfl
    have hV3 : LineVar w3 (w.heap.size + 1) zeroLine := (hb3.block (w.heap.size + 1) (by omega)).trans hV
    have hro := hV3.row
    have HV3 := Lib.hid hV3
    have HI3 := Lib.hid hI3
    have HB3 := Lib.hid hb3
    clear hV3 hI3 hb3 hV hVd hbd
    go_wp2_with fail
    refine ⟨fun _ => ⟨⟨_, HB3.out⟩, rfl⟩, wpR_list [16, 17] _ _ (by kernel_rfl) ?_⟩
    simp only [opsAt, List.map_cons, List.map_nil, Array.getD_eq_getD_getElem?, List.getElem?_toArray, List.getElem?_cons_zero, List.getElem?_cons_succ, Option.getD_some]
    go_wp2
    refine NoPanic.normal ?_
    go_wp2
    have hbf : Below w.heap.size w w3 := hb0.trans (HB3.out.mono hb0.size)
    refine bodyPost_ret (v := .agg (lineCells { g with refs := .slice (some ⟨(w.heap.size + 2), 0, none⟩) 0 0 })) ?_ rfl ⟨(w.heap.size + 2), 0, rfl, HI3.out.grown (grown_row _ _ _) (fun e => by have e' := Option.some.inj e; simp only at e'; omega), below_grown hbf (grown_row _ _ _) hbf.size (by omega)⟩
    exact results_agg1 rfl Tryz.isAgg34 Tryz.sizeOf34 _ _ ⟨w.heap.size + 1, 0, none⟩ _ rfl (HV3.out.blk.setRow.rd.1) (HV3.out.blk.setRow.rd.2)
  · obtain ⟨ra', rc', e1, hrc, hrow⟩ := HR.out
    obtain ⟨rb, ro, e2, hrw⟩ := hrow hids
    cases e1
    subst e2
    have hown : (Wd.alloc (.cells #[] 23)).ownsRow (w.heap.size + 2) 23 32 (.slice (some ⟨(w.heap.size + 2), 0, none⟩) 0 0) 0 [] :=
      ⟨rfl, .inr ⟨w.heap.size + 2, 0, #[], rfl, Nat.le_refl _, by rw [← hsd2]; exact heap_alloc_new _ _, Nat.le_refl _, by unfold maxLen; omega, rfl, rfl⟩⟩
    have hrw' : IdRow (Wd.alloc (.cells #[] 23)) rb ro ids := hrw.below (hbd.alloc (by omega) (.cells #[] 23)) (hrw.lt hids)
    have hpos : 0 < ids.length := List.length_pos_iff.2 hids
    refine wpList_append_own _ rfl (.tmp 13) (.tmp 15) 24 rfl (w.heap.size + 2) 23 i0 (.agg (encId zeroId).toArray) 32 32 Tryz.underlying24 hi hz0 hz1 hz2 (encId_size zeroId) (by decide) _ _ _ rfl hown ⟨rb, ro, none⟩ ids.length rc (flatIds ids) rfl (flat_length ids) (flat_row hrw') (flat_one ids) (by unfold maxLen; omega) (by omega) (by simp; omega) ?_
    intro v' w3 hown' hgrow _
    obtain ⟨gb, cap, hv', hgb⟩ : ∃ gb cap, v' = .slice (some ⟨gb, 0, none⟩) ids.length cap ∧ (w.heap.size + 2) ≤ gb := by
      rcases hown'.2 with ⟨_, h0⟩ | ⟨g', cap', _, e, hge, _⟩
      · omega
      · exact ⟨g', cap', by rw [e, Nat.zero_add], hge⟩
    subst hv'
    have hI3 : IdsAt w3 (.slice (some ⟨gb, 0, none⟩) ids.length cap) ids := by
      rw [Nat.zero_add, List.nil_append] at hown'
      exact idsAt_own hown'
    have hb3 : Below W0.heap.size W0 w3 := (hbd.alloc (by omega) (.cells #[] 23)).grown hgrow (by simp; omega) (fun k e => by have e' : w.heap.size + 2 = k := Option.some.inj e; omega)
    clear hown hown' hgrow hrw hrw' hrow HR hids
    have hbl : ∀ u, blRes Tryz.prog 34 u #[(0, .int .i64 g.number), (1, .agg (encId g.id).toArray), (2, .string g.name), (3, .int .i64 g.date), (4, .string g.subject), (5, .slice (some ⟨gb, 0, none⟩) ids.length cap), (6, .int .i64 g.bytes)] = .ok (.value (.agg (lineCells { g with refs := .slice (some ⟨gb, 0, none⟩) ids.length cap }))) u := fun u => blRes_of (built_line { g with refs := .slice (some ⟨gb, 0, none⟩) ids.length cap } rfl)
    have hft : fitsRow 38 (lineCells { g with refs := .slice (some ⟨gb, 0, none⟩) ids.length cap }) = true := fits_line rfl
    have hV3 : LineVar w3 (w.heap.size + 1) zeroLine := (hb3.block (w.heap.size + 1) (by omega)).trans hV
    have hro := hV3.row
    have HV3 := Lib.hid hV3
    have HI3 := Lib.hid hI3
    have HB3 := Lib.hid hb3
    clear hV3 hI3 hb3 hV hVd hbd
    go_wp2_with fail
    refine ⟨fun _ => ⟨⟨_, HB3.out⟩, rfl⟩, wpR_list [16, 17] _ _ (by kernel_rfl) ?_⟩
    simp only [opsAt, List.map_cons, List.map_nil, Array.getD_eq_getD_getElem?, List.getElem?_toArray, List.getElem?_cons_zero, List.getElem?_cons_succ, Option.getD_some]
    go_wp2
    refine NoPanic.normal ?_
    go_wp2
    have hbf : Below w.heap.size w w3 := hb0.trans (HB3.out.mono hb0.size)
    refine bodyPost_ret (v := .agg (lineCells { g with refs := .slice (some ⟨gb, 0, none⟩) ids.length cap })) ?_ rfl ⟨gb, cap, rfl, HI3.out.grown (grown_row _ _ _) (fun e => by have e' := Option.some.inj e; simp only at e'; omega), below_grown hbf (grown_row _ _ _) hbf.size (by omega)⟩
    exact results_agg1 rfl Tryz.isAgg34 Tryz.sizeOf34 _ _ ⟨w.heap.size + 1, 0, none⟩ _ rfl (HV3.out.blk.setRow.rd.1) (HV3.out.blk.setRow.rd.2)

end Go.Proofs.YtdjaphcelpchaaaGreatDoor
