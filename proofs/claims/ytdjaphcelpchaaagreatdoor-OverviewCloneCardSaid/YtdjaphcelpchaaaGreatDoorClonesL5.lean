/- Parts of the proofs about bulletinlaw28: Own2, Do, InOps, Range, LawSame, LawOps, OpenOps. -/
import Derived.Test.YtdjaphcelpchaaaGreatDoorShelf
import Derived.Test.YtdjaphcelpchaaaGreatDoorK1
import Derived.Test.YtdjaphcelpchaaaGreatDoorK2
import Derived.Test.YtdjaphcelpchaaaGreatDoorShelf2
import Derived.Test.YtdjaphcelpchaaaGreatDoorClonesL1
import Derived.Test.YtdjaphcelpchaaaGreatDoorClonesL2
import Derived.Test.YtdjaphcelpchaaaGreatDoorClonesL3
import Derived.Test.YtdjaphcelpchaaaGreatDoorClonesL4

namespace Go.Proofs.YtdjaphcelpchaaaGreatDoor
open Go Go.RowKit Go.Proofs

attribute [local go_sem ↓] ex_load_id ex_store_id ex_load_line ex_store_line ex_load_rline ex_store_rline ex_alloc_line ex_build_line ex_alloc_rline ex_build_rline ex_build_line7 ex_build_rline8

attribute [local go_sem] ld_id st_id ld_line st_line ld_rline st_rline guard_id okCells_drew rdCells_drew okCells_drewN rdCells_drewN rowOk_drew rowOk_cells okCells_cells rdCells_cells setRow_drew setRow_new setRow_past

attribute [local go_sem] lc0 lc33 lc34 lc35 lc36 lc37 rc0 rc1 rc34 rc35 rc36 rc37 rc38 okArr_lid rdArr_lid okArr_rid rdArr_rid

attribute [local go_sem ↓] ex_bs_zero

set_option maxRecDepth 100000 in
set_option maxHeartbeats 2000000 in
theorem own_own (s : ByteArray) (g : GLine) (ids : List Id32) (w : World) (hI : IdsAt w g.refs ids) (hn : ids.length ≤ 1000000) :
    Calls Tryz.prog 17 #[.agg (rlineCells s g)] w fun r w' => ∃ v, r = .returned (.agg (lineCells { g with refs := v })) ∧ IdsOwn w.heap.size w' v ids ∧ Below w.heap.size w w' := by
  obtain ⟨i0, hi, hz0, hz1, hz2⟩ := info_parts Tryz.info_id
  obtain ⟨ra, rc, hrefs, hrc, hrow⟩ := hI
  obtain ⟨W0, hW0⟩ : ∃ W0, W0 = (w.alloc (.cells (rlineCells s g) 26)).alloc (.cells (lineCells zeroLine) 34) := ⟨_, rfl⟩
  have hs0 : W0.heap.size = w.heap.size + 2 := by rw [hW0]; simp
  have hb0 : Below w.heap.size w W0 := by rw [hW0]; exact ((Below.refl _ _).alloc (Nat.le_refl _) _).alloc (by simp) _
  have hR : RVar W0 w.heap.size s g := by
    unfold RVar
    rw [hW0, heap_alloc_old _ _ (by simp), heap_alloc_new]
  have hV : LineVar W0 (w.heap.size + 1) zeroLine := by
    unfold LineVar
    have := heap_alloc_new (w.alloc (.cells (rlineCells s g) 26)) (.cells (lineCells zeroLine) 34)
    rw [hW0]
    simpa using this
  have hzR : ∀ z : Later W0, RVar z.1 w.heap.size s g := fun z => (z.2.block w.heap.size (by omega)).trans hR
  have q1 : ∀ z : Later W0, z.1.cell? ⟨w.heap.size, 1, none⟩ = some (.int .i64 g.number) := fun z => ((hzR z).cell 1).trans (rc1 s g)
  have q2 : ∀ z : Later W0, z.1.cell? ⟨w.heap.size, 34, none⟩ = some (.string g.name) := fun z => ((hzR z).cell 34).trans (rc34 s g)
  have q3 : ∀ z : Later W0, z.1.cell? ⟨w.heap.size, 35, none⟩ = some (.int .i64 g.date) := fun z => ((hzR z).cell 35).trans (rc35 s g)
  have q4 : ∀ z : Later W0, z.1.cell? ⟨w.heap.size, 36, none⟩ = some (.string g.subject) := fun z => ((hzR z).cell 36).trans (rc36 s g)
  have q5 : ∀ z : Later W0, z.1.cell? ⟨w.heap.size, 37, none⟩ = some (.slice ra ids.length rc) := fun z => ((hzR z).cell 37).trans ((rc37 s g).trans (by rw [hrefs]))
  have q6 : ∀ z : Later W0, z.1.cell? ⟨w.heap.size, 38, none⟩ = some (.int .i64 g.bytes) := fun z => ((hzR z).cell 38).trans (rc38 s g)
  have hid : ∀ z : Later W0, okCells z.1 ⟨w.heap.size, 2, none⟩ 32 = true ∧ rdCells z.1 ⟨w.heap.size, 2, none⟩ 32 = (encId g.id).toArray := fun z => by
    have := rd_of_cells (w := z.1) (a := ⟨w.heap.size, 2, none⟩) (cs := encId g.id) (fun j v hj => by
      have hj32 : j < 32 := by have := (List.getElem?_eq_some_iff.1 hj).1; rwa [encId_length] at this
      rw [Addr.add_lit, (hzR z).cell, show 2 + j = (1 + j) + 1 by omega, rc_succ, ← hj]
      simp only [lineCells, lineList, List.getElem?_toArray]
      rw [show 1 + j = j + 1 by omega, List.getElem?_cons_succ, List.getElem?_append_left (by rw [encId_length]; exact hj32)])
    rwa [encId_length] at this
  have q7 := fun z => (hid z).1
  have q8 := fun z => (hid z).2
  have HR := Lib.hid (show IdsAt W0 (.slice ra ids.length rc) ids from IdsAt.below (w := w) ⟨ra, rc, rfl, hrc, hrow⟩ hb0)
  clear hid hzR hR hrow hrc
  go_enter Tryz.func17, Tryz.ntmps17
  go_wp2
  rw [← hW0]
  clear hW0
  refine wp_region_mix0 [0, 1, 2, 3, 4, 5, 6, 7, 8, 9, 11, 12, 14, 15] [10, 13, 16, 17] (fun w' => ∃ z : Later W0, w' = z.1) (by kernel_rfl) (by kernel_rfl) (by kernel_rfl) ⟨⟨_, (Below.refl _ _).drew⟩, rfl⟩ ?_
  simp only [opsAt, List.map_cons, List.map_nil, Array.getD_eq_getD_getElem?, List.getElem?_toArray, List.getElem?_cons_zero, List.getElem?_cons_succ, Option.getD_some]
  repeat (go_big_quiet_step (fail))
  refine wpQuiet_nil ?_
  clear q1 q2 q3 q4 q5 q6 q7 q8
  generalize hWd : W0.drew = Wd
  have hbd : Below W0.heap.size W0 Wd := by rw [← hWd]; exact (Below.refl _ _).drew
  have hsd : Wd.heap.size = W0.heap.size := by rw [← hWd]; rfl
  have hVd : LineVar Wd (w.heap.size + 1) zeroLine := by rw [← hWd]; exact hV
  clear hWd
  refine wpR_cons true rfl (by kernel_rfl) ?_
  go_wp2_with fail
  refine ⟨fun _ => ⟨⟨_, hbd.alloc (by omega) _⟩, rfl⟩, wpR_cons true rfl (by kernel_rfl) ?_⟩
  have hsd2 : Wd.heap.size = w.heap.size + 2 := by omega
  by_cases hids : ids = []
  · subst hids
    refine wpList_append_zero rfl (.tmp 13) (.tmp 15) rfl (w.heap.size + 2) rc ra rfl rfl ?_
    have hI3 : IdsOwn (w.heap.size + 2) (Wd.alloc (.cells #[] 23)) (.slice (some ⟨(w.heap.size + 2), 0, none⟩) 0 0) [] := ⟨rfl, .inr ⟨w.heap.size + 2, 0, #[], rfl, Nat.le_refl _, by rw [← hsd2]; exact heap_alloc_new _ _, Nat.le_refl _, by unfold maxLen; omega, rfl, rfl⟩⟩
    have hb3 : Below W0.heap.size W0 (Wd.alloc (.cells #[] 23)) := hbd.alloc (by omega) _
    generalize Wd.alloc (.cells #[] 23) = w3 at hI3 hb3 ⊢
    have hbl : ∀ u, blRes Tryz.prog 34 u #[(0, .int .i64 g.number), (1, .agg (encId g.id).toArray), (2, .string g.name), (3, .int .i64 g.date), (4, .string g.subject), (5, .slice (some ⟨(w.heap.size + 2), 0, none⟩) 0 0), (6, .int .i64 g.bytes)] = .ok (.value (.agg (lineCells { g with refs := .slice (some ⟨(w.heap.size + 2), 0, none⟩) 0 0 }))) u := fun u => blRes_of (built_line { g with refs := .slice (some ⟨(w.heap.size + 2), 0, none⟩) 0 0 } rfl)
    have hft : fitsRow 38 (lineCells { g with refs := .slice (some ⟨(w.heap.size + 2), 0, none⟩) 0 0 }) = true := fits_line rfl
    have hV3 : LineVar w3 (w.heap.size + 1) zeroLine := (hb3.block (w.heap.size + 1) (by omega)).trans hV
    have hro := hV3.row
    have HV3 := Lib.hid hV3
    have HI3 := Lib.hid hI3
    have HB3 := Lib.hid hb3
    clear hV3 hI3 hb3 hV hVd hbd
    go_wp2_with fail
    refine ⟨fun _ => ⟨⟨_, HB3.out⟩, rfl⟩, wpR_list [16, 17] _ _ (by kernel_rfl) ?_⟩
    simp only [opsAt, List.map_cons, List.map_nil, Array.getD_eq_getD_getElem?, List.getElem?_toArray, List.getElem?_cons_zero, List.getElem?_cons_succ, Option.getD_some]
    go_wp2
    refine NoPanic.normal ?_
    go_wp2
    have hbf : Below w.heap.size w w3 := hb0.trans (HB3.out.mono hb0.size)
    refine bodyPost_ret (v := .agg (lineCells { g with refs := .slice (some ⟨(w.heap.size + 2), 0, none⟩) 0 0 })) ?_ rfl ⟨_, rfl, (HI3.out.mono (by omega)).block fun k hk => (grown_row _ (w.heap.size + 1) _).block k (HI3.out.lt hk).2 (by intro e; have := (HI3.out.lt hk).1; cases e; omega), below_grown hbf (grown_row _ _ _) hbf.size (by omega)⟩
    exact results_agg1 rfl Tryz.isAgg34 Tryz.sizeOf34 _ _ ⟨w.heap.size + 1, 0, none⟩ _ rfl (HV3.out.blk.setRow.rd.1) (HV3.out.blk.setRow.rd.2)
  · obtain ⟨ra', rc', e1, hrc, hrow⟩ := HR.out
    obtain ⟨rb, ro, e2, hrw⟩ := hrow hids
    cases e1
    subst e2
    have hown : (Wd.alloc (.cells #[] 23)).ownsRow (w.heap.size + 2) 23 32 (.slice (some ⟨(w.heap.size + 2), 0, none⟩) 0 0) 0 [] :=
      ⟨rfl, .inr ⟨w.heap.size + 2, 0, #[], rfl, Nat.le_refl _, by rw [← hsd2]; exact heap_alloc_new _ _, Nat.le_refl _, by unfold maxLen; omega, rfl, rfl⟩⟩
    have hrw' : IdRow (Wd.alloc (.cells #[] 23)) rb ro ids := hrw.below (hbd.alloc (by omega) (.cells #[] 23)) (hrw.lt hids)
    have hpos : 0 < ids.length := List.length_pos_iff.2 hids
    refine wpList_append_own _ rfl (.tmp 13) (.tmp 15) 24 rfl (w.heap.size + 2) 23 i0 (.agg (encId zeroId).toArray) 32 32 Tryz.underlying24 hi hz0 hz1 hz2 (encId_size zeroId) (by decide) _ _ _ rfl hown ⟨rb, ro, none⟩ ids.length rc (flatIds ids) rfl (flat_length ids) (flat_row hrw') (flat_one ids) (by unfold maxLen; omega) (by omega) (by simp; omega) ?_
    intro v' w3 hown' hgrow _
    obtain ⟨gb, cap, hv', hgb⟩ : ∃ gb cap, v' = .slice (some ⟨gb, 0, none⟩) ids.length cap ∧ (w.heap.size + 2) ≤ gb := by
      rcases hown'.2 with ⟨_, h0⟩ | ⟨g', cap', _, e, hge, _⟩
      · omega
      · exact ⟨g', cap', by rw [e, Nat.zero_add], hge⟩
    subst hv'
    have hI3 : IdsOwn (w.heap.size + 2) w3 (.slice (some ⟨gb, 0, none⟩) ids.length cap) ids := by
      rw [Nat.zero_add, List.nil_append] at hown'
      exact hown'
    have hb3 : Below W0.heap.size W0 w3 := (hbd.alloc (by omega) (.cells #[] 23)).grown hgrow (by simp; omega) (fun k e => by have e' : w.heap.size + 2 = k := Option.some.inj e; omega)
    clear hown hown' hgrow hrw hrw' hrow HR hids
    have hbl : ∀ u, blRes Tryz.prog 34 u #[(0, .int .i64 g.number), (1, .agg (encId g.id).toArray), (2, .string g.name), (3, .int .i64 g.date), (4, .string g.subject), (5, .slice (some ⟨gb, 0, none⟩) ids.length cap), (6, .int .i64 g.bytes)] = .ok (.value (.agg (lineCells { g with refs := .slice (some ⟨gb, 0, none⟩) ids.length cap }))) u := fun u => blRes_of (built_line { g with refs := .slice (some ⟨gb, 0, none⟩) ids.length cap } rfl)
    have hft : fitsRow 38 (lineCells { g with refs := .slice (some ⟨gb, 0, none⟩) ids.length cap }) = true := fits_line rfl
    have hV3 : LineVar w3 (w.heap.size + 1) zeroLine := (hb3.block (w.heap.size + 1) (by omega)).trans hV
    have hro := hV3.row
    have HV3 := Lib.hid hV3
    have HI3 := Lib.hid hI3
    have HB3 := Lib.hid hb3
    clear hV3 hI3 hb3 hV hVd hbd
    go_wp2_with fail
    refine ⟨fun _ => ⟨⟨_, HB3.out⟩, rfl⟩, wpR_list [16, 17] _ _ (by kernel_rfl) ?_⟩
    simp only [opsAt, List.map_cons, List.map_nil, Array.getD_eq_getD_getElem?, List.getElem?_toArray, List.getElem?_cons_zero, List.getElem?_cons_succ, Option.getD_some]
    go_wp2
    refine NoPanic.normal ?_
    go_wp2
    have hbf : Below w.heap.size w w3 := hb0.trans (HB3.out.mono hb0.size)
    refine bodyPost_ret (v := .agg (lineCells { g with refs := .slice (some ⟨gb, 0, none⟩) ids.length cap })) ?_ rfl ⟨_, rfl, (HI3.out.mono (by omega)).block fun k hk => (grown_row _ (w.heap.size + 1) _).block k (HI3.out.lt hk).2 (by intro e; have := (HI3.out.lt hk).1; cases e; omega), below_grown hbf (grown_row _ _ _) hbf.size (by omega)⟩
    exact results_agg1 rfl Tryz.isAgg34 Tryz.sizeOf34 _ _ ⟨w.heap.size + 1, 0, none⟩ _ rfl (HV3.out.blk.setRow.rd.1) (HV3.out.blk.setRow.rd.2)

end Go.Proofs.YtdjaphcelpchaaaGreatDoor

namespace Go.Proofs.YtdjaphcelpchaaaGreatDoor
open Go Go.RowKit Go.Proofs

attribute [local go_sem ↓] ex_load_id ex_store_id ex_load_line ex_store_line ex_load_rline ex_store_rline ex_alloc_line ex_build_line ex_alloc_rline ex_build_rline

attribute [local go_sem] ld_id st_id ld_line st_line ld_rline st_rline guard_id okCells_drew rdCells_drew okCells_drewN rdCells_drewN rowOk_drew rowOk_cells okCells_cells rdCells_cells setRow_drew setRow_new setRow_past run_eql_id run_neq_id eqIn_id

/-- An operation in memory: its kind; the line. -/
def opCells (k : Nat) (s : ByteArray) (g : GLine) : Array Value := (.int .u8 k :: .string s :: lineList g).toArray
theorem oc0 (k : Nat) (s : ByteArray) (g : GLine) : (opCells k s g)[0]? = some (.int .u8 k) := rfl
theorem oc_succ (k : Nat) (s : ByteArray) (g : GLine) (j : Nat) : (opCells k s g)[j + 1]? = (rlineCells s g)[j]? := by
  unfold opCells rlineCells
  rw [List.getElem?_toArray, List.getElem?_toArray, List.getElem?_cons_succ]
def OVar (w : World) (ob : Nat) (k : Nat) (s : ByteArray) (g : GLine) : Prop := w.heap[ob]? = some (.cells (opCells k s g) 53 (0, 0))
theorem OVar.lt {w : World} {ob k : Nat} {s : ByteArray} {g : GLine} (h : OVar w ob k s g) : ob < w.heap.size := (Array.getElem?_eq_some_iff.1 h).1
theorem OVar.cell {w : World} {ob k : Nat} {s : ByteArray} {g : GLine} (h : OVar w ob k s g) (j : Nat) : w.cell? ⟨ob, j, none⟩ = (opCells k s g)[j]? := cell_of_row w ob j _ _ _ h
theorem OVar.c0 {w : World} {ob k : Nat} {s : ByteArray} {g : GLine} (h : OVar w ob k s g) : w.cell? ⟨ob, 0, none⟩ = some (.int .u8 k) := (h.cell 0).trans (oc0 k s g)
theorem OVar.c1 {w : World} {ob k : Nat} {s : ByteArray} {g : GLine} (h : OVar w ob k s g) : w.cell? ⟨ob, 1, none⟩ = some (.string s) := (h.cell 1).trans ((oc_succ k s g 0).trans (rc0 s g))
theorem OVar.c2 {w : World} {ob k : Nat} {s : ByteArray} {g : GLine} (h : OVar w ob k s g) : w.cell? ⟨ob, 2, none⟩ = some (.int .i64 g.number) := (h.cell 2).trans ((oc_succ k s g 1).trans (rc1 s g))
theorem OVar.rd {w : World} {ob k : Nat} {s : ByteArray} {g : GLine} (h : OVar w ob k s g) : okCells w ⟨ob, 1, none⟩ 39 = true ∧ rdCells w ⟨ob, 1, none⟩ 39 = rlineCells s g := by
  have := rd_of_cells (w := w) (a := ⟨ob, 1, none⟩) (cs := .string s :: lineList g) (fun j v hj => by
    rw [Addr.add_lit, h.cell, show 1 + j = j + 1 by omega, oc_succ]
    unfold rlineCells
    rw [List.getElem?_toArray]
    exact hj)
  rw [List.length_cons, lineList_length] at this
  exact this
theorem OVar.idAt {w : World} {ob k : Nat} {s : ByteArray} {g : GLine} (h : OVar w ob k s g) : okCells w ⟨ob, 3, none⟩ 32 = true ∧ rdCells w ⟨ob, 3, none⟩ 32 = (encId g.id).toArray := by
  have := rd_of_cells (w := w) (a := ⟨ob, 3, none⟩) (cs := encId g.id) (fun j v hj => by
    have hj32 : j < 32 := by have := (List.getElem?_eq_some_iff.1 hj).1; rwa [encId_length] at this
    rw [Addr.add_lit, h.cell, show 3 + j = (j + 1) + 1 + 1 by omega, oc_succ, rc_succ, ← hj]
    simp only [lineCells, lineList, List.getElem?_toArray]
    rw [List.getElem?_cons_succ, List.getElem?_append_left (by rw [encId_length]; exact hj32)])
  rwa [encId_length] at this
theorem OVar.below {w w' : World} {ob k : Nat} {s : ByteArray} {g : GLine} (h : OVar w ob k s g) (hb : Below w.heap.size w w') : OVar w' ob k s g := (hb.block ob h.lt).trans h
theorem IdxAt.not_op {B : Nat} {w : World} {ib M mc : Nat} {gs : List MG} (h : IdxAt B w ib M gs mc) {ob : Nat} {cur : Array Value} {t : TypeId} (ht : t ≠ 104 ∧ t ≠ 115 ∧ t ≠ 34) (hk : w.heap[ob]? = some (.cells cur t (0, 0))) : ob ∉ foot ib M gs := by
  intro hf
  unfold foot at hf
  simp only [List.mem_cons, List.mem_flatMap] at hf
  rcases hf with rfl | rfl | ⟨G, hG, hf⟩
  · rw [h.blk] at hk; exact ht.1 (cells_ty hk).symm
  · have := h.map; unfold MapAt at this; rw [this] at hk; cases hk
  · have hg := h.grps G hG
    unfold MG.foot at hf
    simp only [List.mem_append, List.mem_cons, List.mem_nil_iff, or_false, Option.mem_toList] at hf
    rcases hf with (rfl | rfl) | hf
    · rw [hg.blk] at hk; exact ht.2.1 (cells_ty hk).symm
    · have := hg.nums; unfold MapAt at this; rw [this] at hk; cases hk
    · obtain ⟨c2, h2⟩ := ownsRow_typed hg.lines.row hf
      rw [h2] at hk; exact ht.2.2 (cells_ty hk).symm
theorem OVar.kept {B : Nat} {w w' : World} {ib M mc : Nat} {gs : List MG} {ob k : Nat} {s : ByteArray} {g : GLine} (h : OVar w ob k s g) (hx : IdxAt B w ib M gs mc) (hk : Kept (foot ib M gs) w w') : OVar w' ob k s g :=
  (hk.block ob h.lt (hx.not_op (by decide) h)).trans h
theorem RefsAt.kept {B B' : Nat} {w w' : World} {v : Value} {rs : List MR} (h : RefsAt B w v rs) {ib M mc : Nat} {gs : List MG} (hx : IdxAt B' w ib M gs mc) (hk : Kept (foot ib M gs) w w') : RefsAt B w' v rs := by
  refine ⟨⟨h.row.1, ?_⟩, h.one, h.names, h.few⟩
  rcases h.row.2 with h0 | ⟨g, cap, cur, e, hg, hcur, rest⟩
  · exact .inl h0
  · exact .inr ⟨g, cap, cur, e, hg, (hk.block g (Array.getElem?_eq_some_iff.1 hcur).1 (hx.not_op (by decide) hcur)).trans hcur, rest⟩
theorem RefsAt.below {B : Nat} {w w' : World} {v : Value} {rs : List MR} (h : RefsAt B w v rs) (hb : Below w.heap.size w w') : RefsAt B w' v rs := ⟨ownsRow_below h.row hb, h.one, h.names, h.few⟩
theorem RefsAt.mono {B B' : Nat} {w : World} {v : Value} {rs : List MR} (h : RefsAt B w v rs) (hb : B' ≤ B) : RefsAt B' w v rs := ⟨ownsRow_base h.row hb, h.one, h.names, h.few⟩

/-- What do answers and leaves. -/
structure DoPost (B B2 ib M : Nat) (gs : List MG) (rs : List MR) (s : ByteArray) (p : PLine) (v0 : Value) (w : World) (r : Ending) (w' : World) (gs' : List MG) (mc' : Nat) (v' : Value) (rs' : List MR) : Prop where
  ret : r = .returned (.tuple #[v', .bool true])
  idx : IdxAt B w' ib M gs' mc'
  kept : Kept (foot ib M gs) w w'
  foot : FootOk (Go.Proofs.YtdjaphcelpchaaaGreatDoor.foot ib M gs) (Go.Proofs.YtdjaphcelpchaaaGreatDoor.foot ib M gs') w
  refs : RefsAt B2 w' v' rs'
  rel : RelR gs' rs'
  ord : ordR rs'
  tot : total gs' ≤ total gs + 1
  len : rs'.length ≤ rs.length + 1
  mem : ∀ r ∈ rs', r ∈ rs ∨ (r = ⟨s, ⟨p, v0⟩⟩ ∧ pErr p = 0 ∧ nameErr s = 0)

theorem filter_count (rs : List MR) (x : Id32) : rs.length = (rs.filter fun r => decide (r.m.p.id = x)).length + (outR rs x).length := by
  unfold outR
  induction rs with
  | nil => rfl
  | cons r rs ih =>
    by_cases h : r.m.p.id = x
    · rw [List.filter_cons_of_pos (by simpa using h), List.filter_cons_of_neg (by simpa using h)]
      simp only [List.length_cons]; omega
    · rw [List.filter_cons_of_neg (by simpa using h), List.filter_cons_of_pos (by simpa using h)]
      simp only [List.length_cons]; omega
theorem outR_cons (r : MR) (rs : List MR) (x : Id32) : outR (r :: rs) x = if r.m.p.id = x then outR rs x else r :: outR rs x := by
  unfold outR
  by_cases h : r.m.p.id = x
  · rw [List.filter_cons_of_neg (by simpa using h), if_pos h]
  · rw [List.filter_cons_of_pos (by simpa using h), if_neg h]
theorem outR_mem {rs : List MR} {x : Id32} {r : MR} (h : r ∈ outR rs x) : r ∈ rs := (List.mem_filter.1 h).1
/-- A step of the removal from behind. -/
theorem out_step {rs : List MR} {j : Nat} (hj : j < rs.length) (x : Id32) : ∃ r, (rs.take (j + 1) ++ outR (rs.drop (j + 1)) x)[j]? = some r ∧ r = rs[j] ∧
    (r.m.p.id = x → (rs.take (j + 1) ++ outR (rs.drop (j + 1)) x).eraseIdx j = rs.take j ++ outR (rs.drop j) x) ∧ (r.m.p.id ≠ x → rs.take (j + 1) ++ outR (rs.drop (j + 1)) x = rs.take j ++ outR (rs.drop j) x) := by
  have e1 : rs.take (j + 1) = rs.take j ++ [rs[j]] := List.take_succ_eq_append_getElem hj
  have e2 : rs.drop j = rs[j] :: rs.drop (j + 1) := List.drop_eq_getElem_cons hj
  have e3 : (rs.take j).length = j := by rw [List.length_take]; omega
  refine ⟨rs[j], ?_, rfl, fun h => ?_, fun h => ?_⟩
  · rw [List.getElem?_append_left (by rw [List.length_take]; omega), List.getElem?_take_of_lt (by omega), List.getElem?_eq_getElem hj]
  · rw [e2, outR_cons, if_pos h, e1, List.append_assoc, List.eraseIdx_append_of_length_le (by omega), e3, Nat.sub_self]
    rfl
  · rw [e2, outR_cons, if_neg h, e1, List.append_assoc]
    rfl
theorem drewOVar {w : World} {ob k : Nat} {s : ByteArray} {g : GLine} (h : OVar w ob k s g) : OVar w.drew ob k s g := h
/-- The worlds in which an operation lies at its place. -/
def InOp (ob k : Nat) (s : ByteArray) (g : GLine) : Type := { z : World // OVar z ob k s g }

set_option maxRecDepth 100000 in
set_option maxHeartbeats 8000000 in
theorem do_any (B B2 ib M mc : Nat) (gs : List MG) (v : Value) (rs : List MR) (k : Nat) (s : ByteArray) (p : PLine) (v0 : Value) (w : World) (hk : k < 256) (hG : Gl w) (h : IdxAt B w ib M gs mc) (hv : RefsAt B2 w v rs) (hB2 : B2 ≤ w.heap.size) (hr : RelR gs rs) (ho : ordR rs) (hs : s.size ≤ 100000)
    (hO : LineOk w (ML.g ⟨p, v0⟩) p.ids) (hfew : total gs < 65536) (hlen : rs.length < 65536) (hids : p.ids.length ≤ 100000) :
    Calls Tryz.prog 26 #[.pointer (some ⟨ib, 0, none⟩), v, .agg (opCells k s (ML.g ⟨p, v0⟩))] w fun r w' => ∃ gs' mc' v' rs', DoPost B B2 ib M gs rs s p v0 w r w' gs' mc' v' rs' := by
  obtain ⟨g, hg⟩ : ∃ g, g = ML.g ⟨p, v0⟩ := ⟨_, rfl⟩
  rw [← hg]
  have HG := Lib.hid hg
  obtain ⟨W, hW⟩ : ∃ W, W = w.alloc (.cells (opCells k s g) 53) := ⟨_, rfl⟩
  have hb0 : Below w.heap.size w W := by rw [hW]; exact (Below.refl _ _).alloc (Nat.le_refl _) _
  have hV0 : OVar W w.heap.size k s g := by rw [hW]; exact heap_alloc_new _ _
  have c0 := hV0.c0
  obtain ⟨c1, c2⟩ := hV0.rd
  rw [hW] at c0 c1 c2
  obtain ⟨va, vn, vc, hve⟩ : ∃ a n c, v = .slice a n c := own_slice hv.row
  subst hve
  clear hg
  have HV0 := Lib.hid hV0
  have HB0 := Lib.hid hb0
  have HGl := Lib.hid hG
  have HX := Lib.hid h
  have HV := Lib.hid hv
  have HR := Lib.hid hr
  have HORD := Lib.hid ho
  have HO := Lib.hid hO
  have HXW := Lib.hid (h.below hb0)
  have HVW := Lib.hid (hv.below hb0)
  clear hV0 hb0 hG h hv hr ho hO
  by_cases k0 : k % 3 = 0
  · have HAR := Lib.hid (addRef_any B2 (.slice va vn vc) rs s p v0 W HVW.out HORD.out hs (HO.out.below HB0.out) (by omega))
    rw [← HG.out] at HAR
    go_enter Tryz.func26, Tryz.ntmps26
    go_wp2_with fail
    rw [← hW]
    clear hW c0 c1 c2
    refine HAR.out.mono ?_
    rintro r w1 ⟨hb1, hcase⟩
    have hcase2 : ∃ v1 rs1, r = .returned (.tuple #[v1, .int .i64 (addErrR rs s p)]) ∧ RefsAt B2 w1 v1 rs1 ∧ ((addErrR rs s p ≠ 0 ∧ rs1 = rs) ∨ (addErrR rs s p = 0 ∧ rs1 = addR rs ⟨s, ⟨p, v0⟩⟩)) := by
      rcases hcase with ⟨h1, h2⟩ | ⟨h1, v', h2, h3⟩
      · exact ⟨_, rs, h2, HVW.out.below hb1, .inl ⟨h1, rfl⟩⟩
      · exact ⟨v', _, by rw [h1]; exact h2, h3.mono (Nat.le_trans hB2 HB0.out.size), .inr ⟨h1, rfl⟩⟩
    obtain ⟨v1, rs1, rfl, hv1, hrs1⟩ := hcase2
    clear hcase HAR
    have HE : Hid (addErr (linesIn gs s) s p = addErrR rs s p) := Lib.hid (rel_err HR.out s p)
    have HCL : Hid (addErrR rs s p = 0 → clashR rs s p = false ∧ pErr p = 0 ∧ nameErr s = 0) := Lib.hid (by
      unfold addErrR
      intro h0
      split at h0
      · rename_i h1; exact absurd h0 h1
      · rename_i h1
        split at h0
        · rename_i h2; exact absurd h0 h2
        · rename_i h2
          split at h0
          · cases h0
          · rename_i h3; exact ⟨by simpa using h3, by simpa using h2, by simpa using h1⟩)
    generalize addErrR rs s p = e at hrs1 HE HCL
    obtain ⟨v1a, v1n, v1c, hv1e⟩ : ∃ a n c, v1 = .slice a n c := own_slice hv1.row
    subst hv1e
    have hV1 : OVar w1 w.heap.size k s g := HV0.out.below hb1
    have hB1 : Below w.heap.size w w1 := HB0.out.trans (hb1.mono HB0.out.size)
    have HB1 := Lib.hid hB1
    have HV1 := Lib.hid hV1
    have HR1 := Lib.hid hv1
    have HRS1 := Lib.hid hrs1
    clear hV1 hB1 hv1 hrs1 hb1 HV0 HB0
    have z1 : ∀ z : InOp w.heap.size k s g, z.1.cell? ⟨w.heap.size, 1, none⟩ = some (.string s) := fun z => z.2.c1
    have z2 : ∀ z : InOp w.heap.size k s g, okCells z.1 ⟨w.heap.size, 1, none⟩ 39 = true := fun z => z.2.rd.1
    have z3 : ∀ z : InOp w.heap.size k s g, rdCells z.1 ⟨w.heap.size, 1, none⟩ 39 = rlineCells s g := fun z => z.2.rd.2
    haveI : Nonempty (InOp w.heap.size k s g) := ⟨⟨w1, HV1.out⟩⟩
    go_wp2_with fail
    refine wp_region_fork [0, 1, 2, 3, 4, 5, 6, 9] [7, 8, 10, 11, 12] 5 (fun w' => ∃ z : InOp w.heap.size k s g, w' = z.1) (by kernel_rfl) (by kernel_rfl) rfl ⟨⟨_, drewOVar HV1.out⟩, rfl⟩ ?_
    simp only [opsAt, List.map_cons, List.map_nil, Array.getD_eq_getD_getElem?, List.getElem?_toArray, List.getElem?_cons_zero, List.getElem?_cons_succ, Option.getD_some]
    repeat (go_big_quiet_step (fail))
    refine wpQuiet_nil ?_
    clear z1 z2 z3
    generalize hWd : w1.drew = Wd
    have HBd : Hid (Below w.heap.size w Wd) := Lib.hid (by rw [← hWd]; exact HB1.out.drew)
    have HVd : Hid (OVar Wd w.heap.size k s g) := Lib.hid (by rw [← hWd]; exact HV1.out)
    have HRd : Hid (RefsAt B2 Wd (.slice v1a v1n v1c) rs1) := Lib.hid (by rw [← hWd]; exact HR1.out.below (Below.refl _ _).drew)
    clear hWd HB1 HV1 HR1
    refine wpF_one (r := 7) (by kernel_rfl) (wpF_at true (by kernel_rfl) (by kernel_rfl) (rest := [8, 10, 11, 12]) rfl ?_)
    simp only [opsAt, List.map_cons, List.map_nil, Array.getD_eq_getD_getElem?, List.getElem?_toArray, List.getElem?_cons_zero, List.getElem?_cons_succ, Option.getD_some]
    have HOW := Lib.hid (own_own s g p.ids Wd (by rw [HG.out]; exact (HO.out.below HBd.out).refs) (by omega))
    go_wp2_with fail
    refine HOW.out.mono ?_
    rintro r w2 ⟨v2, rfl, hI2, hb2⟩
    have HB2' := Lib.hid (HBd.out.trans (hb2.mono HBd.out.size) : Below w.heap.size w w2)
    have HV2 := Lib.hid (HVd.out.below hb2)
    have HR2 := Lib.hid (HRd.out.below hb2)
    have HI2 := Lib.hid hI2
    clear hI2 hb2 HOW HBd HVd HRd
    go_wp2_with fail
    refine ⟨fun _ => ⟨⟨_, HV2.out⟩, rfl⟩, wpF_one (r := 8) (by kernel_rfl) (wpF_at true (by kernel_rfl) (by kernel_rfl) (rest := [10, 11, 12]) rfl ?_)⟩
    simp only [opsAt, List.map_cons, List.map_nil, Array.getD_eq_getD_getElem?, List.getElem?_toArray, List.getElem?_cons_zero, List.getElem?_cons_succ, Option.getD_some]
    have hge : lineCells { g with refs := v2 } = lineCells (ML.g ⟨p, v2⟩) := by rw [HG.out]; rfl
    have HAD := Lib.hid (add_any B ib M mc gs s p v2 w2 (HGl.out.later HB2'.out) (HX.out.below HB2'.out) (by unfold maxLen; omega) ⟨HI2.out.at, HO.out.len, HO.out.name, HO.out.subject⟩ (HI2.out.mono (Nat.zero_le _)) hfew)
    rw [← hge] at HAD
    clear hge
    go_wp2_with fail
    refine HAD.out.mono ?_
    rintro r w3 ⟨hret, hpost⟩
    rw [HE.out] at hret hpost
    subst hret
    have hfin : ∃ gs' mc', IdxAt B w3 ib M gs' mc' ∧ Kept (foot ib M gs) w w3 ∧ FootOk (foot ib M gs) (foot ib M gs') w ∧ RefsAt B2 w3 (.slice v1a v1n v1c) rs1 ∧ RelR gs' rs1 ∧ ordR rs1 ∧ total gs' ≤ total gs + 1 ∧ rs1.length ≤ rs.length + 1 ∧ (∀ r ∈ rs1, r ∈ rs ∨ (r = ⟨s, ⟨p, v0⟩⟩ ∧ pErr p = 0 ∧ nameErr s = 0)) ∧ OVar w3 w.heap.size k s g := by
      have hk2 : Kept (foot ib M gs) w w2 := Kept.of_below HB2'.out
      have hX2 := HX.out.below HB2'.out
      rcases hpost with ⟨h1, h2⟩ | ⟨h1, gs', mc', h2⟩
      · have hrs : rs1 = rs := by
          rcases HRS1.out with ⟨_, h⟩ | ⟨h, _⟩
          · exact h
          · exact absurd h h1
        subst hrs
        exact ⟨gs, mc, hX2.below h2, hk2.trans (Kept.of_below (F := []) h2) (fun _ hk => by cases hk), fun k hk => .inl hk, HR2.out.below h2, HR.out, HORD.out, by omega, by omega, fun r hr => .inl hr, HV2.out.below h2⟩
      · have hrs : rs1 = addR rs ⟨s, ⟨p, v0⟩⟩ := by
          rcases HRS1.out with ⟨h, _⟩ | ⟨_, h⟩
          · exact absurd h1 h
          · exact h
        subst hrs
        obtain ⟨hcl, hp0, hn0⟩ := HCL.out h1
        obtain ⟨vv, _, hlines⟩ := h2.lines
        refine ⟨gs', mc', h2.idx, hk2.trans h2.kept (fun k hk => .inl hk), fun k hk => ?_, HR2.out.kept hX2 h2.kept, rel_add HR.out hlines, addR_ord HORD.out fun a ha hh => ?_, by have := h2.tot; omega, by rw [addR_length]; omega, fun r hr => ?_, HV2.out.kept hX2 h2.kept⟩
        · rcases h2.foot k hk with h3 | h3
          · exact .inl h3
          · exact .inr (Nat.le_trans HB2'.out.size h3)
        · have : clashR rs s p = true := by
            unfold clashR
            rw [List.any_eq_true]
            exact ⟨a, ha, by simp [hh.1, hh.2]⟩
          rw [hcl] at this
          cases this
        · rcases addR_mem.1 hr with h3 | h3
          · exact .inr ⟨h3, hp0, hn0⟩
          · exact .inl h3
    clear hpost HAD
    obtain ⟨gs', mc', f1, f2, f3, f4, f5, f6, f7, f8, f9, f10⟩ := hfin
    have HF := Lib.hid (And.intro f1 (And.intro f2 (And.intro f3 (And.intro f4 (And.intro f5 (And.intro f6 (And.intro f7 (And.intro f8 f9))))))))
    have HV3 := Lib.hid f10
    clear f1 f2 f3 f4 f5 f6 f7 f8 f9 f10
    go_wp2_with fail
    refine ⟨fun _ => ⟨⟨_, HV3.out⟩, rfl⟩, wpF_two (r := 10) (s := 11) (by kernel_rfl) ?_ ?_⟩
    · refine wpF_at true (by kernel_rfl) (by kernel_rfl) (rest := [11, 12]) rfl ?_
      simp only [opsAt, List.map_cons, List.map_nil, Array.getD_eq_getD_getElem?, List.getElem?_toArray, List.getElem?_cons_zero, List.getElem?_cons_succ, Option.getD_some]
      go_wp2_with fail
      refine ⟨fun _ => ⟨⟨_, HV3.out⟩, rfl⟩, wpF_end [11, 12] rfl rfl (by kernel_rfl) (by kernel_rfl) (wpR_at true (by kernel_rfl) (by kernel_rfl) ?_)⟩
      simp only [opsAt, List.map_cons, List.map_nil, Array.getD_eq_getD_getElem?, List.getElem?_toArray, List.getElem?_cons_zero, List.getElem?_cons_succ, Option.getD_some]
      go_wp2_with fail
      refine ⟨fun _ => ⟨⟨_, HV3.out⟩, rfl⟩, wpR_list [12] _ _ (by kernel_rfl) ?_⟩
      simp only [opsAt, List.map_cons, List.map_nil, Array.getD_eq_getD_getElem?, List.getElem?_toArray, List.getElem?_cons_zero, List.getElem?_cons_succ, Option.getD_some]
      go_wp2
      refine NoPanic.normal ?_
      go_wp2
      go_ret2
      obtain ⟨f1, f2, f3, f4, f5, f6, f7, f8, f9⟩ := HF.out
      exact ⟨gs', mc', _, rs1, rfl, f1, f2, f3, f4, f5, f6, f7, f8, f9⟩
    · refine wpF_at true (by kernel_rfl) (by kernel_rfl) (rest := [10, 12]) rfl ?_
      simp only [opsAt, List.map_cons, List.map_nil, Array.getD_eq_getD_getElem?, List.getElem?_toArray, List.getElem?_cons_zero, List.getElem?_cons_succ, Option.getD_some]
      go_wp2_with fail
      refine ⟨fun _ => ⟨⟨_, HV3.out⟩, rfl⟩, wpF_end [10, 12] rfl rfl (by kernel_rfl) (by kernel_rfl) (wpR_at true (by kernel_rfl) (by kernel_rfl) ?_)⟩
      simp only [opsAt, List.map_cons, List.map_nil, Array.getD_eq_getD_getElem?, List.getElem?_toArray, List.getElem?_cons_zero, List.getElem?_cons_succ, Option.getD_some]
      go_wp2_with fail
      refine ⟨fun _ => ⟨⟨_, HV3.out⟩, rfl⟩, wpR_list [12] _ _ (by kernel_rfl) ?_⟩
      simp only [opsAt, List.map_cons, List.map_nil, Array.getD_eq_getD_getElem?, List.getElem?_toArray, List.getElem?_cons_zero, List.getElem?_cons_succ, Option.getD_some]
      go_wp2
      refine NoPanic.normal ?_
      go_wp2
      go_ret2
      obtain ⟨f1, f2, f3, f4, f5, f6, f7, f8, f9⟩ := HF.out
      exact ⟨gs', mc', _, rs1, rfl, f1, f2, f3, f4, f5, f6, f7, f8, f9⟩
  · by_cases k1 : k % 3 = 1
    · have hkz : ¬ ((k : Int) % 3 = 0) := by omega
      have HFI := Lib.hid (find_ref B2 (.slice va vn vc) rs s g.number W HVW.out)
      have c3 := HV0.out.c1
      have c4 := HV0.out.c2
      rw [hW] at c3 c4
      go_enter Tryz.func26, Tryz.ntmps26
      go_wp2_with fail
      rw [← hW]
      clear c0 c1 c2 c3 c4
      refine HFI.out.mono ?_
      rintro r w1 ⟨rfl, rfl⟩
      have c3 := HV0.out.c1
      have c4 := HV0.out.c2
      have HRM := Lib.hid (remove_any B ib M mc gs s g.number W HXW.out)
      clear hW HFI
      go_wp2_with fail
      refine HRM.out.mono ?_
      intro r w2 hp
      clear c3 c4 HRM
      rcases hp with ⟨hno, rfl, hb2⟩ | ⟨i, m, hi, hn, rfl, gs', mc', hrem⟩
      · have hfn : findN rs s g.number = -1 := by
          unfold findN
          cases hf : findR rs s g.number with
          | none => rfl
          | some j =>
            exfalso
            obtain ⟨r0, h1, h2, h3⟩ := find_some_at hf
            rw [rel_has HR.out (List.mem_of_getElem? h1) h2 h3] at hno
            cases hno
        rw [hfn]
        have HB2' := Lib.hid (HB0.out.trans (hb2.mono HB0.out.size) : Below w.heap.size w w2)
        clear hno hb2 hfn
        go_wp2
        go_ret2
        exact ⟨gs, mc, _, rs, rfl, HX.out.below HB2'.out, Kept.of_below HB2'.out, fun k hk => .inl hk, HV.out.below HB2'.out, HR.out, HORD.out, by omega, by omega, fun r hr => .inl hr⟩
      · obtain ⟨j, hfj⟩ : ∃ j, findR rs s g.number = some j := by
          cases hf : findR rs s g.number with
          | some j => exact ⟨j, rfl⟩
          | none =>
            exfalso
            have h1 := rel_find_none HR.out hf
            rw [hasNum_of hi hn] at h1
            cases h1
        obtain ⟨r0, h1, h2, h3⟩ := find_some_at hfj
        have hfn : findN rs s g.number = j := by unfold findN; rw [hfj]
        have hj : j < rs.length := (List.getElem?_eq_some_iff.1 h1).1
        rw [hfn]
        have HWO := Lib.hid (without_any B2 (.slice va vn vc) rs j w2 (HVW.out.kept HXW.out hrem.kept) hj)
        have HREL := Lib.hid (rel_remove HX.out HR.out HORD.out hi hn h1 h2 h3 hrem.lines)
        have HREM := Lib.hid hrem
        clear hrem h1 h2 h3 hfn hfj hi hn
        go_wp2_with fail
        refine HWO.out.mono ?_
        rintro r w3 ⟨v', rfl, hR3, hb3⟩
        obtain ⟨v1a, v1n, v1c, hv1e⟩ : ∃ a n c, v' = .slice a n c := own_slice hR3.row
        subst hv1e
        have HR3 := Lib.hid hR3
        have HB3 := Lib.hid hb3
        clear hR3 hb3 HWO
        go_wp2
        go_ret2
        have hk2 : Kept (foot ib M gs) w w2 := (Kept.of_below (F := foot ib M gs) HB0.out).trans HREM.out.kept (fun k hk => .inl hk)
        have hk3 : Kept (foot ib M gs) w w3 := hk2.trans (Kept.of_below (F := []) HB3.out) (fun _ hk => by cases hk)
        refine ⟨gs', mc', _, rs.eraseIdx j, rfl, HREM.out.idx.below HB3.out, hk3, fun k hk => ?_, HR3.out.mono (Nat.le_trans hB2 hk2.size), HREL.out, erase_ord HORD.out j, by have := HREM.out.tot; omega, by rw [List.length_eraseIdx_of_lt hj]; omega, fun r hr => .inl (List.mem_of_mem_eraseIdx hr)⟩
        rcases HREM.out.foot k hk with h3 | h3
        · exact .inl h3
        · exact .inr (Nat.le_trans HB0.out.size h3)
    · have hkz0 : ¬ ((k : Int) % 3 = 0) := by omega
      have hkz1 : ¬ ((k : Int) % 3 = 1) := by omega
      have hvn : vn = rs.length := by
        rcases HV.out.head with ⟨e, h0⟩ | ⟨_, _, _, e, _⟩
        · cases e; rw [h0]; rfl
        · cases e; rfl
      subst hvn
      go_enter Tryz.func26, Tryz.ntmps26
      go_wp2
      rw [← hW]
      clear hW c0 c1 c2
      have e0 : ((k : Int) % 3 == 0) = false := by rw [beq_eq_false_iff_ne]; exact hkz0
      have e1 : ((k : Int) % 3 == 1) = false := by rw [beq_eq_false_iff_ne]; exact hkz1
      simp only [e0, e1]
      clear e0 e1 hkz0 hkz1 k0 k1
      go_loopw [1, 12, 13] (fun vv n i wr => ∃ (j c : Nat) (rsj : List MR), j ≤ rs.length ∧ c ≤ rs.length ∧ i = .int .i64 ((j : Int) - 1) ∧ n = .int .i64 c ∧ Hid (rsj = rs.take j ++ outR (rs.drop j) g.id) ∧ Hid (c + rsj.length = rs.length) ∧ Hid (RefsAt B2 wr vv rsj) ∧ Hid (Below W.heap.size W wr)) (fun _ _ i _ => (intOf i + 1).toNat)
      case atStart => exact ⟨rs.length, 0, rs, Nat.le_refl _, Nat.zero_le _, rfl, rfl, Lib.hid (by rw [List.take_length, List.drop_length]; simp [outR]), Lib.hid (by omega), HVW, Lib.hid (Below.refl _ _)⟩
      case round =>
        obtain ⟨j, c, rsj, hj, hc, rfl, rfl, HJ, HC, HRj, HBj⟩ := hrel
        have HVr := Lib.hid (HV0.out.below HBj.out)
        cases j with
        | zero =>
          have hrsj : rsj = outR rs g.id := by rw [HJ.out]; rfl
          have HRS := Lib.hid hrsj
          clear hrsj HJ
          obtain ⟨va', vn', vc', hve⟩ : ∃ a n c, u1 = .slice a n c := own_slice HRj.out.row
          subst hve
          have HBw := Lib.hid (HB0.out.trans (HBj.out.mono HB0.out.size) : Below w.heap.size w wr)
          have HRI := Lib.hid (removeId_any B ib M mc gs g.id wr (HGl.out.later HBw.out) (HX.out.below HBw.out))
          obtain ⟨d1, d2⟩ := HVr.out.idAt
          go_wp2_with fail
          refine HRI.out.mono ?_
          rintro r w3 ⟨ns, gs', mc', hn1, hn2, rfl, h1, h2, h3, h4, h5⟩
          have hns := rel_names HX.out HR.out HORD.out hn1 hn2
          have hlen2 : (whereAt gs ns g.id).length = c := by
            rw [hns, rel_where HX.out HR.out HORD.out, List.length_map]
            have := filter_count rs g.id
            have h6 := HC.out
            rw [HRS.out] at h6
            omega
          rw [hlen2]
          have HP := Lib.hid (And.intro h1 (And.intro h2 (And.intro h3 (And.intro h4 h5))))
          clear h1 h2 h3 h4 h5 hn1 hn2 hns hlen2 HRI d1 d2
          go_wp2
          go_ret2
          obtain ⟨h1, h2, h3, h4, h5⟩ := HP.out
          refine ⟨gs', mc', _, rsj, rfl, h1, (Kept.of_below (F := foot ib M gs) HBw.out).trans h2 (fun k hk => .inl hk), fun k hk => ?_, HRj.out.kept (HX.out.below HBw.out) h2, by rw [HRS.out]; exact rel_removeId HR.out h4, by rw [HRS.out]; exact outR_ord HORD.out _, by omega, by have := HC.out; omega, fun r hr => .inl (outR_mem (HRS.out ▸ hr))⟩
          rcases h3 k hk with h6 | h6
          · exact .inl h6
          · exact .inr (Nat.le_trans HBw.out.size h6)
        | succ j =>
          have hji : (((j + 1 : Nat) : Int) - 1) = (j : Int) := by omega
          rw [hji]
          obtain ⟨r0, hg0, -, hst1, hst2⟩ := out_step (by omega : j < rs.length) g.id
          rw [← HJ.out] at hg0 hst1 hst2
          obtain ⟨hjl, hgj⟩ := List.getElem?_eq_some_iff.1 hg0
          rcases HRj.out.head with ⟨_, e0⟩ | ⟨gb, cap, cur, hve, hBg, hgb, hle, hmx, _, hcell⟩
          · rw [e0] at hjl; cases hjl
          subst hve
          obtain ⟨i1, i2⟩ := rAt_id hcell hjl
          rw [hgj] at i2
          obtain ⟨d1, d2⟩ := HVr.out.idAt
          have hjz : (j : Int) < (rsj.length : Int) := by omega
          have hfw := HRj.out.few
          have q1 : ∀ n, okCells (wr.drewN n) ⟨gb, j * 39 + 2, none⟩ 32 = true := fun n => by rw [okCells_drewN]; exact i1
          have q2 : ∀ n, rdCells (wr.drewN n) ⟨gb, j * 39 + 2, none⟩ 32 = (encId r0.m.p.id).toArray := fun n => by rw [rdCells_drewN]; exact i2
          have q3 : ∀ n, okCells (wr.drewN n) ⟨w.heap.size, 3, none⟩ 32 = true := fun n => by rw [okCells_drewN]; exact d1
          have q4 : ∀ n, rdCells (wr.drewN n) ⟨w.heap.size, 3, none⟩ 32 = (encId g.id).toArray := fun n => by rw [rdCells_drewN]; exact d2
          have HGJ := Lib.hid hgj
          have HS1 := Lib.hid hst1
          have HS2 := Lib.hid hst2
          clear hcell i1 i2 d1 d2 hst1 hst2 hg0 hji hgj
          by_cases hx : r0.m.p.id = g.id
          · have hxd : decide (r0.m.p.id = g.id) = true := decide_eq_true hx
            have HE := Lib.hid (HS1.out hx)
            clear hx HS1 HS2
            go_wp2_with fail
            go_quiet (fail)
            clear q1 q2 q3 q4
            have HWO := Lib.hid (without_any B2 (.slice (some ⟨gb, 0, none⟩) rsj.length cap) rsj j (wr.drewN nq) (HRj.out.below (below_drewN' (Below.refl _ _) nq)) hjl)
            have HBn : Hid (Below W.heap.size W (wr.drewN nq)) := Lib.hid (below_drewN' HBj.out nq)
            generalize wr.drewN nq = W2 at HWO HBn ⊢
            go_wp2_with fail
            refine HWO.out.mono ?_
            rintro r w3 ⟨v', rfl, hR3, hb3⟩
            have hBW : B2 ≤ W2.heap.size := Nat.le_trans hB2 (Nat.le_trans HB0.out.size HBn.out.size)
            have HR3 : Hid (RefsAt B2 w3 v' (rsj.eraseIdx j)) := Lib.hid (hR3.mono hBW)
            have HB3 := Lib.hid (HBn.out.trans (hb3.mono HBn.out.size) : Below W.heap.size W w3)
            have HC3 : Hid (c + 1 + (rsj.eraseIdx j).length = rs.length) := Lib.hid (by rw [List.length_eraseIdx_of_lt hjl]; have := HC.out; omega)
            clear hR3 hb3 HWO hBW
            have hc1 : c + 1 ≤ rs.length := by have := HC.out; omega
            go_wp2
            go_roundw
            case rel => exact ⟨j, c + 1, rsj.eraseIdx j, by omega, hc1, by go_num, by go_num, HE, HC3, HR3, HB3⟩
            case measure => simp [intOf] <;> omega
          · have hxd : decide (r0.m.p.id = g.id) = false := decide_eq_false hx
            have HE := Lib.hid (HS2.out hx)
            clear hx HS1 HS2
            go_wp2_with fail
            go_quiet (fail)
            clear q1 q2 q3 q4
            go_wp2
            go_roundw
            case rel => exact ⟨j, c, rsj, by omega, hc, by go_num, rfl, Lib.hid (HE.out ▸ HJ.out ▸ rfl), HC, Lib.hid (HRj.out.below (below_drewN' (Below.refl _ _) _)), Lib.hid (below_drewN' HBj.out _)⟩
            case measure => simp [intOf] <;> omega

end Go.Proofs.YtdjaphcelpchaaaGreatDoor

namespace Go.Proofs.YtdjaphcelpchaaaGreatDoor
open Go Go.RowKit Go.Proofs

theorem exI_load_id (ro : Option Nat) (ρ : Operand → Value) (d : Option Tmp) (x : Operand) (ty : TypeId) (pos : String) (af : Array Edge) (g : Option (Nat × Bool)) (w : World) :
    Sem.run Tryz.prog (Oper.semAt ro ρ ⟨d, .load 23 x, ty, pos, af, g⟩) w = ldRes Tryz.prog 23 w (ρ x) := by
  rw [Oper.semAt_eq _ _ _ (by intro c h; cases h)]
  exact ex_load_id ..
theorem exI_store_id (ro : Option Nat) (ρ : Operand → Value) (d : Option Tmp) (x y : Operand) (ty : TypeId) (pos : String) (af : Array Edge) (g : Option (Nat × Bool)) (w : World) :
    Sem.run Tryz.prog (Oper.semAt ro ρ ⟨d, .store 23 x y, ty, pos, af, g⟩) w = stRes Tryz.prog 23 w (ρ x) (ρ y) := by
  rw [Oper.semAt_eq _ _ _ (by intro c h; cases h)]
  exact ex_store_id ..
theorem exI_load_line (ro : Option Nat) (ρ : Operand → Value) (d : Option Tmp) (x : Operand) (ty : TypeId) (pos : String) (af : Array Edge) (g : Option (Nat × Bool)) (w : World) :
    Sem.run Tryz.prog (Oper.semAt ro ρ ⟨d, .load 34 x, ty, pos, af, g⟩) w = ldRes Tryz.prog 34 w (ρ x) := by
  rw [Oper.semAt_eq _ _ _ (by intro c h; cases h)]
  exact ex_load_line ..
theorem exI_store_line (ro : Option Nat) (ρ : Operand → Value) (d : Option Tmp) (x y : Operand) (ty : TypeId) (pos : String) (af : Array Edge) (g : Option (Nat × Bool)) (w : World) :
    Sem.run Tryz.prog (Oper.semAt ro ρ ⟨d, .store 34 x y, ty, pos, af, g⟩) w = stRes Tryz.prog 34 w (ρ x) (ρ y) := by
  rw [Oper.semAt_eq _ _ _ (by intro c h; cases h)]
  exact ex_store_line ..
theorem exI_alloc_line (ro : Option Nat) (ρ : Operand → Value) (d : Option Tmp) (ty : TypeId) (pos : String) (af : Array Edge) (g : Option (Nat × Bool)) (w : World) :
    Sem.run Tryz.prog (Oper.semAt ro ρ ⟨d, .alloc 34, ty, pos, af, g⟩) w = .ok (.value (.pointer (some ⟨w.heap.size, 0, none⟩))) (w.alloc (.cells (lineCells zeroLine) 34)) := by
  rw [Oper.semAt_eq _ _ _ (by intro c h; cases h)]
  exact ex_alloc_line ..
theorem exI_load_rline (ro : Option Nat) (ρ : Operand → Value) (d : Option Tmp) (x : Operand) (ty : TypeId) (pos : String) (af : Array Edge) (g : Option (Nat × Bool)) (w : World) :
    Sem.run Tryz.prog (Oper.semAt ro ρ ⟨d, .load 26 x, ty, pos, af, g⟩) w = ldRes Tryz.prog 26 w (ρ x) := by
  rw [Oper.semAt_eq _ _ _ (by intro c h; cases h)]
  exact ex_load_rline ..
theorem exI_store_rline (ro : Option Nat) (ρ : Operand → Value) (d : Option Tmp) (x y : Operand) (ty : TypeId) (pos : String) (af : Array Edge) (g : Option (Nat × Bool)) (w : World) :
    Sem.run Tryz.prog (Oper.semAt ro ρ ⟨d, .store 26 x y, ty, pos, af, g⟩) w = stRes Tryz.prog 26 w (ρ x) (ρ y) := by
  rw [Oper.semAt_eq _ _ _ (by intro c h; cases h)]
  exact ex_store_rline ..
end Go.Proofs.YtdjaphcelpchaaaGreatDoor

namespace Go.Proofs.YtdjaphcelpchaaaGreatDoor
open Go Go.RowKit Go.Proofs

attribute [local go_sem ↓] ex_load_id ex_store_id ex_load_line ex_store_line ex_alloc_line ex_build_line

attribute [local go_sem] ld_id st_id ld_line st_line guard_id okCells_drew rdCells_drew okCells_drewN rdCells_drewN rowOk_drew rowOk_cells okCells_cells rdCells_cells setRow_drew setRow_new setRow_past

theorem ex_bs_line (ρ : Operand → Value) (d : Option Tmp) (x : Operand) (ty : TypeId) (pos : String) (af : Array Edge) (g : Option (Nat × Bool)) (w : World) :
    Sem.run Tryz.prog (execOp ρ ⟨d, .buildSlice 107 1 #[(0, x)], ty, pos, af, g⟩) w = bsRes Tryz.prog 107 w (ρ x) := by kernel_rfl
theorem bs_line (w : World) (g : GLine) : bsRes Tryz.prog 107 w (.agg (lineCells g)) = .ok (.value (.slice (some ⟨w.heap.size, 0, none⟩) 1 1)) (w.alloc (.cells (lineCells g) 34)) := by
  obtain ⟨i0, hi, hz0, hz1, hz2⟩ := info_parts Tryz.info_line
  unfold bsRes
  rw [Sem.run_bind, run_buildSlice w 107 34 1 _ (lineCells g) i0 _ Tryz.underlying107 hi hz0 (by rw [hz1]; decide) (by rw [hz1]; decide) (by
    rw [hz1]
    exact fill_one _ _ 38 (lineCells_size g) (by simp))]
  rfl
attribute [local go_sem ↓] ex_bs_line exI_load_line exI_store_line exI_alloc_line exI_load_id exI_store_id

attribute [local go_sem] bs_line

set_option maxHeartbeats 1000000 in
theorem range_call (p : Option Addr) (s : ByteArray) (lo hi : Int) (w : World) : Calls Tryz.prog 30 #[.pointer p, .string s, .int .i64 lo, .int .i64 hi] w fun r w' =>
    r = .returned (.func (.func 67) #[] #[.pointer (some ⟨w.heap.size, 0, none⟩), .pointer (some ⟨w.heap.size + 1, 0, none⟩), .pointer (some ⟨w.heap.size + 1 + 1, 0, none⟩), .pointer (some ⟨w.heap.size + 1 + 1 + 1, 0, none⟩)]) ∧
    (((w.alloc (.cells #[.pointer p] 47)).alloc (.cells #[.string s] 9)).alloc (.cells #[.int .i64 lo] 3)).alloc (.cells #[.int .i64 hi] 3) = w' := by
  go_enter Tryz.func30, Tryz.ntmps30
  go_wp2
  go_ret
  exact ⟨rfl, rfl⟩

/-- The lines between two numbers. -/
def rangeP (ms : List ML) (lo hi : Int) : List PLine := (ms.map (·.p)).filter fun p => decide (lo ≤ p.number ∧ p.number ≤ hi)
/-- What a loop's body may know of what is yielded. -/
structure GdL (T : List PLine) (A B : Nat) (pre : List ML) (x : ML) (X : World) : Prop where
  here : T[pre.length]? = some x.p
  past : pre.map (·.p) = T.take pre.length
  refs : IdsOwn A X x.v x.p.ids
  lt : ∀ k, x.v.ownBlock = some k → k < B
theorem GdL.below {T : List PLine} {A B : Nat} {pre : List ML} {x : ML} {X Y : World} (h : GdL T A B pre x X) (hb : Below X.heap.size X Y) : GdL T A B pre x Y := ⟨h.here, h.past, h.refs.below hb, h.lt⟩
/-- What it must keep. -/
def KpL (A B : Nat) (x : ML) (X Y : World) : Prop := X.heap.size ≤ Y.heap.size ∧ ∀ k, A ≤ k → k < B → x.v.ownBlock ≠ some k → Y.heap[k]? = X.heap[k]?

/-- The copied lines: a row of their own, each with references of its own. -/
structure RowAt (A : Nat) (w : World) (v : Value) (ls : List ML) : Prop where
  lin : LinesAt A w v ls
  apart : (ls.filterMap fun m => m.v.ownBlock).Nodup
theorem RowAt.nil (A : Nat) (w : World) : RowAt A w (.slice none 0 0) [] := ⟨⟨World.ownsRow_nil _ _ _ _, fun _ h => by cases h⟩, .nil⟩
/-- What the rounds have kept so far. -/
def IterKeep (A : Nat) (w0 : World) (pre : List ML) (w : World) : Prop := w0.heap.size ≤ w.heap.size ∧ ∀ k, A ≤ k → k < w0.heap.size → (∀ m ∈ pre, m.v.ownBlock ≠ some k) → w.heap[k]? = w0.heap[k]?
theorem iter_row {A : Nat} {w0 w : World} {v : Value} {ls : List ML} (h : RowAt A w0 v ls) {j : Nat} (hk : IterKeep A w0 (ls.take j) w) (k rb : Nat) (hv : v.ownBlock = some rb) (i : Nat) : w.cell? ⟨rb, k * 38 + i, none⟩ = w0.cell? ⟨rb, k * 38 + i, none⟩ := by
  obtain ⟨c, hc⟩ := ownsRow_typed h.lin.row hv
  have hlt := World.ownsRow.lt h.lin.row rb hv
  refine cell_of_same (a := ⟨rb, k * 38 + i, none⟩) (hk.2 rb hlt.1 hlt.2 fun m hm he => ?_)
  obtain ⟨c2, hc2⟩ := ownsRow_typed (h.lin.refs m (List.mem_of_mem_take hm)) he
  rw [hc] at hc2
  exact absurd (cells_ty hc2) (by decide)
theorem iter_gd {A : Nat} {w0 w : World} {v : Value} {ls : List ML} {T : List PLine} (h : RowAt A w0 v ls) (hT : ls.map (·.p) = T) {k : Nat} (hk : IterKeep A w0 (ls.take k) w) (hlt : k < ls.length) : GdL T A w0.heap.size (ls.take k) ls[k] w := by
  have hl : (ls.take k).length = k := by rw [List.length_take]; omega
  have hr := h.lin.refs ls[k] (List.getElem_mem hlt)
  refine ⟨?_, ?_, hr.block fun j hj => ?_, fun j hj => (hr.lt hj).2⟩
  · rw [hl, ← hT, List.getElem?_map, List.getElem?_eq_getElem hlt]; rfl
  · rw [hl, ← hT, List.map_take]
  · refine hk.2 j (hr.lt hj).1 (hr.lt hj).2 fun m hm he => ?_
    have hn := h.apart
    have e : ls = ls.take k ++ ls[k] :: ls.drop (k + 1) := by
      rw [← List.drop_eq_getElem_cons hlt, List.take_append_drop]
    rw [e, List.filterMap_append, List.filterMap_cons_some (f := fun m : ML => m.v.ownBlock) hj, List.nodup_append] at hn
    exact hn.2.2 j (List.mem_filterMap.2 ⟨m, hm, he⟩) j (by simp) rfl
theorem iter_next {A : Nat} {w0 w : World} {ls : List ML} {k : Nat} (hk : IterKeep A w0 (ls.take k) w) (hlt : k < ls.length) {X' : World} (h : KpL A w0.heap.size ls[k] (w.alloc (.cells (lineCells ls[k].g) 34)) X') : IterKeep A w0 (ls.take k ++ [ls[k]]) X' := by
  have hs : (w.alloc (.cells (lineCells ls[k].g) 34)).heap.size = w.heap.size + 1 := by simp
  refine ⟨by have := hk.1; have := h.1; omega, fun j hA hB hm => ?_⟩
  have h1 := hk.1
  rw [h.2 j hA hB (hm _ (List.mem_append_right _ (List.mem_singleton.2 rfl))), heap_alloc_old _ _ (by omega), hk.2 j hA hB fun m hm' => hm m (List.mem_append_left _ hm')]
/-- One line more. -/
theorem RowAt.snoc {A : Nat} {w w' : World} {v v' : Value} {ls : List ML} {x : ML} (h : RowAt A w v ls) (hrow : w'.ownsRow A 34 38 v' (ls.length + 1) (flatLines ls ++ lineList x.g)) (hr : ∀ m ∈ ls, IdsOwn A w' m.v m.p.ids) (hx : IdsOwn A w' x.v x.p.ids) (hn : ∀ k, x.v.ownBlock = some k → w.heap.size ≤ k) : RowAt A w' v' (ls ++ [x]) := by
  refine ⟨⟨?_, fun m hm => ?_⟩, ?_⟩
  · rw [List.length_append, List.length_singleton, flat_append]
    have : flatLines [x] = lineList x.g := by simp [flatLines]
    rw [this]
    exact hrow
  · rcases List.mem_append.1 hm with hm | hm
    · exact hr m hm
    · rw [List.mem_singleton.1 hm]; exact hx
  · rw [List.filterMap_append, List.nodup_append]
    refine ⟨h.apart, ?_, fun a ha b hb => ?_⟩
    · cases hv : x.v.ownBlock with
      | none => rw [List.filterMap_cons_none (f := fun m : ML => m.v.ownBlock) hv]; exact .nil
      | some k => rw [List.filterMap_cons_some (f := fun m : ML => m.v.ownBlock) hv]; simp
    · obtain ⟨m, hm, he⟩ := List.mem_filterMap.1 ha
      obtain ⟨y, hy, he2⟩ := List.mem_filterMap.1 hb
      rw [List.mem_singleton.1 hy] at he2
      have h1 := ((h.lin.refs m hm).lt he).2
      have h2 := hn b he2
      omega

theorem ids_grown {A : Nat} {w w' : World} {v : Value} {ids : List Id32} {row : Option Nat} (h : IdsOwn A w v ids) (hg : w.grownBy w' row) (hr : ∀ k, row = some k → ∃ c, w.heap[k]? = some (.cells c 34 (0, 0))) : IdsOwn A w' v ids := by
  refine h.block fun k hk => hg.block k (h.lt hk).2 fun e => ?_
  obtain ⟨c, hc⟩ := hr k e.symm
  obtain ⟨c2, hc2⟩ := ownsRow_typed h hk
  rw [hc] at hc2
  exact absurd (cells_ty hc2) (by decide)
/-- The lines from a place on, up to a number. -/
theorem range_split {ms : List ML} {lo hi : Int} {i j : Nat} (hb : Between (nums ms) lo i i) (hs : (nums ms).Pairwise (· < ·)) (hj : j ≤ ms.length - i) (h1 : ∀ m ∈ (ms.drop i).take j, m.p.number ≤ hi) (h2 : ∀ (hx : i + j < ms.length), hi < ms[i + j].p.number) : ((ms.drop i).take j).map (·.p) = rangeP ms lo hi := by
  obtain ⟨_, hi2, hlow, hhigh⟩ := hb
  have hln : (nums ms).length = ms.length := by unfold nums; rw [List.length_map]
  have hget : ∀ k (h : k < ms.length), (nums ms)[k]'(by rw [hln]; exact h) = ms[k].p.number := fun k h => by unfold nums; rw [List.getElem_map]
  have hps := hs
  rw [List.pairwise_iff_getElem] at hps
  unfold rangeP
  have e : ms = ms.take i ++ ((ms.drop i).take j ++ (ms.drop i).drop j) := by rw [List.take_append_drop, List.take_append_drop]
  conv => rhs; rw [e]
  rw [List.map_append, List.filter_append, List.map_append, List.filter_append]
  have f1 : ((ms.take i).map (·.p)).filter (fun p => decide (lo ≤ p.number ∧ p.number ≤ hi)) = [] := by
    rw [List.filter_eq_nil_iff]
    intro p hp
    obtain ⟨m, hm, rfl⟩ := List.mem_map.1 hp
    obtain ⟨k, hk, rfl⟩ := List.getElem_of_mem hm
    rw [List.length_take] at hk
    have h3 := hlow k (by omega) (by omega)
    rw [hget k (by omega)] at h3
    rw [List.getElem_take]
    simp only [decide_eq_true_eq, not_and]
    intro h4
    omega
  have f2 : (((ms.drop i).take j).map (·.p)).filter (fun p => decide (lo ≤ p.number ∧ p.number ≤ hi)) = ((ms.drop i).take j).map (·.p) := by
    rw [List.filter_eq_self]
    intro p hp
    obtain ⟨m, hm, rfl⟩ := List.mem_map.1 hp
    rw [decide_eq_true_eq]
    refine ⟨?_, h1 m hm⟩
    obtain ⟨k, hk, rfl⟩ := List.getElem_of_mem hm
    rw [List.length_take, List.length_drop] at hk
    have h3 := hhigh (i + k) (by omega) (by omega)
    rw [hget (i + k) (by omega)] at h3
    rw [List.getElem_take, List.getElem_drop]
    exact h3
  have f3 : (((ms.drop i).drop j).map (·.p)).filter (fun p => decide (lo ≤ p.number ∧ p.number ≤ hi)) = [] := by
    rw [List.filter_eq_nil_iff]
    intro p hp
    obtain ⟨m, hm, rfl⟩ := List.mem_map.1 hp
    rw [List.drop_drop] at hm
    obtain ⟨k, hk, rfl⟩ := List.getElem_of_mem hm
    rw [List.length_drop] at hk
    have hx : i + j < ms.length := by omega
    have h3 := h2 hx
    rw [List.getElem_drop]
    simp only [decide_eq_true_eq, not_and]
    intro _ h5
    by_cases hk0 : k = 0
    · subst hk0
      simp only [Nat.add_zero] at h5
      omega
    · have h6 := hps (i + j) (i + j + k) (by omega) (by omega) (by omega)
      rw [hget _ hx, hget _ (by omega)] at h6
      omega
  rw [f1, f2, f3, List.append_nil, List.nil_append]

/-- How the iterator may end. -/
def SeqEnd (W : World) (S : List ML → Prop) (J Jx : Nat → List ML → World → Prop) (e : Ending) (W' : World) : Prop := (∃ v, e = .returned v) ∧ ((∃ B xs, W.heap.size ≤ B ∧ B ≤ W'.heap.size ∧ S xs ∧ J B xs W') ∨ (∃ B pre, W.heap.size ≤ B ∧ Jx B pre W'))

set_option maxRecDepth 100000 in
set_option maxHeartbeats 8000000 in
/-- The iterator. -/
theorem rangeSeq_any (n : Nat) (b0 b1 b2 b3 B ib M mc : Nat) (gs : List MG) (s : ByteArray) (lo hi : Int) (W : World) (h0 : W.cell? ⟨b0, 0, none⟩ = some (.pointer (some ⟨ib, 0, none⟩))) (h1 : W.cell? ⟨b1, 0, none⟩ = some (.string s)) (h2 : W.cell? ⟨b2, 0, none⟩ = some (.int .i64 lo)) (h3 : W.cell? ⟨b3, 0, none⟩ = some (.int .i64 hi)) (h : IdxAt B W ib M gs mc) :
    SeqG Fence.wide n Tryz.prog 67 #[.pointer (some ⟨b0, 0, none⟩), .pointer (some ⟨b1, 0, none⟩), .pointer (some ⟨b2, 0, none⟩), .pointer (some ⟨b3, 0, none⟩)]
      (fun x : ML => #[.agg (lineCells x.g)]) (GdL (rangeP (linesIn gs s) lo hi)) KpL (fun xs => xs.map (·.p) = rangeP (linesIn gs s) lo hi) W := fun l J Jx hJ hJx hJ0 hY => by
  show CallsIn _ _ _ _ _ _ (SeqEnd W (fun xs => xs.map (·.p) = rangeP (linesIn gs s) lo hi) J Jx)
  have HJs := Lib.hid hJ
  have HJ0 := Lib.hid hJ0
  have HY := Lib.hid hY
  clear hJ hJx hJ0 hY
  have hso := h.sorted s
  have HL := Lib.hid (linesOf_any B ib M mc gs s W h)
  have HS := Lib.hid (search_any B (valueOf gs s) (linesIn gs s) lo W (h.lines s) (h.len s) hso)
  have hlen := h.len s
  have HLI := Lib.hid (h.lines s)
  have HSO := Lib.hid hso
  have HGOOD : Hid (∀ m ∈ linesIn gs s, pErr m.p = 0) := Lib.hid fun m hm => by
    have hne : linesIn gs s ≠ [] := fun e => by rw [e] at hm; cases hm
    obtain ⟨G, hG, hms, _⟩ := linesIn_ne hne
    exact (h.grps G (groupOf_mem hG).1).good m (hms ▸ hm)
  clear h hso
  generalize linesIn gs s = ms at HS hlen HLI HSO HGOOD HY ⊢
  generalize valueOf gs s = v at HL HS HLI
  refine callsIn_wide.2 ?_
  rcases HLI.out.head with ⟨rfl, rfl⟩ | ⟨gb, cap, rfl, hgB, hgl, hle, hmx, hcell⟩
  · have HT : Hid ((([] : List ML).map (·.p)) = rangeP [] lo hi) := Lib.hid rfl
    go_enter Tryz.func67, Tryz.ntmps67
    go_wp2_with fail
    refine HL.out.mono ?_
    rintro r w' ⟨rfl, rfl⟩
    go_wp2_with fail
    refine HS.out.mono ?_
    rintro r w1 ⟨i, hbt, rfl, hb1⟩
    obtain rfl : i = 0 := Nat.le_zero.1 hbt.2.1
    have HB1 := Lib.hid hb1
    clear hb1 HS HL hbt
    go_wp2
    go_loop [6, 27] (fun p a => p = .slice none 0 0 ∧ a = .int .i64 0) (fun _ _ => 0)
    case atStart => exact ⟨rfl, rfl⟩
    case round =>
      obtain ⟨rfl, rfl⟩ := hrel
      go_wp2
      go_loop [43] (fun a => a = .int .i64 0) (fun _ => 0)
      case atStart => exact rfl
      case round =>
        obtain rfl := hrel
        go_wp2
        go_end0
        exact ⟨⟨_, rfl⟩, .inl ⟨w1.heap.size, [], HB1.out.size, Nat.le_refl _, HT.out, HJ0.out w1 HB1.out⟩⟩
  · have HC := Lib.hid hcell
    clear hcell
    obtain ⟨i0, hi0, hz0, hz1, hz2⟩ := info_parts Tryz.info_line
    go_enter Tryz.func67, Tryz.ntmps67
    go_wp2_with fail
    refine HL.out.mono ?_
    rintro r w' ⟨rfl, rfl⟩
    go_wp2_with fail
    refine HS.out.mono ?_
    rintro r w1 ⟨i, hbt, rfl, hb1⟩
    have hil : i ≤ ms.length := by have := hbt.2.1; unfold nums at this; rw [List.length_map] at this; exact this
    have hiz : (i : Int) ≤ (ms.length : Int) := by omega
    have HB1 := Lib.hid hb1
    have HBT := Lib.hid hbt
    have hb3l : b3 < W.heap.size := block_lt_of_cell h3
    have h3' := h3
    obtain ⟨gx, ox, had, hxl, hcx⟩ : ∃ gx ox : Nat, (if cap = i then some (⟨gb, 0, none⟩ : Addr) else some ⟨gb, i * 38, none⟩) = some ⟨gx, ox, none⟩ ∧ gx < W.heap.size ∧ ∀ j (hj : i + j < ms.length) k u, (lineList ms[i + j].g)[k]? = some u → W.cell? ⟨gx, ox + j * 38 + k, none⟩ = some u := by
      by_cases hc : cap = i
      · exact ⟨gb, 0, if_pos hc, hgl, fun j hj => by omega⟩
      · refine ⟨gb, i * 38, if_neg hc, hgl, fun j hj k u hu => ?_⟩
        have := HC.out (i + j) hj k u hu
        rwa [show (i + j) * 38 + k = i * 38 + j * 38 + k by omega] at this
    have HCX := Lib.hid hcx
    have HH3 := Lib.hid h3'
    clear hb1 hbt HS HL hcx HC h0 h1 h2 h3 h3'
    go_wp2
    try rw [had]
    clear had
    go_loopw [6, 27] (fun lv a wr => ∃ (k : Nat) (ls : List ML), k ≤ ms.length - i ∧ a = .int .i64 k ∧ Hid (ls.map (·.p) = ((ms.drop i).take k).map (·.p)) ∧ Hid (∀ m ∈ (ms.drop i).take k, m.p.number ≤ hi) ∧ Hid (RowAt W.heap.size wr lv ls) ∧ Hid (Below W.heap.size W wr)) (fun _ a _ => ms.length - (intOf a).toNat)
    case atStart => exact ⟨0, [], by omega, rfl, Lib.hid rfl, Lib.hid (fun m hm => by simp at hm), Lib.hid (RowAt.nil _ _), HB1⟩
    case round =>
      obtain ⟨k, ls, hk, rfl, HP, HLE, HROW, HBr⟩ := hrel
      have hlsk : ls.length = k := by
        have := congrArg List.length HP.out
        rw [List.length_map, List.length_map, List.length_take, List.length_drop] at this
        omega
      have HLL : Hid (ls.length ≤ 65536) := Lib.hid (by omega)
      have HLK := Lib.hid hlsk
      clear hlsk
      obtain ⟨la, ln, lc, hle'⟩ : ∃ a n c, u6 = .slice a n c := own_slice HROW.out.lin.row
      subst hle'
      by_cases hltk : k < ms.length - i
      · have hltz : (k : Int) < (ms.length : Int) - (i : Int) := by omega
        have hik : i + k < ms.length := by omega
        obtain ⟨o1, d1⟩ := lineAt_rd (w := wr) (g := gx) (off := ox + k * 38) (l := ms[i + k].g) (fun j u hu => (HBr.out.cell (p := ⟨gx, ox + k * 38 + j, none⟩) hxl).trans (HCX.out k hik j u hu))
        have hv3 : wr.cell? ⟨b3, 0, none⟩ = some (.int .i64 hi) := (HBr.out.cell (p := ⟨b3, 0, none⟩) hb3l).trans HH3.out
        have hmem : ms[i + k] ∈ ms := List.getElem_mem hik
        have hrl := refs_len (HGOOD.out _ hmem)
        have HTK : Hid ((ms.drop i).take (k + 1) = (ms.drop i).take k ++ [ms[i + k]]) := Lib.hid (by
          rw [List.take_succ_eq_append_getElem (by rw [List.length_drop]; omega), List.getElem_drop])
        have HRF := Lib.hid (HLI.out.refs _ hmem)
        obtain ⟨m, hmE⟩ : ∃ m, m = ms[i + k] := ⟨_, rfl⟩
        rw [← hmE] at d1 hrl HTK HRF hmem
        have HEQ := Lib.hid hmE
        clear hmE
        obtain ⟨W1, hW1⟩ : ∃ W1, W1 = wr.alloc (.cells (lineCells m.g) 34) := ⟨_, rfl⟩
        have hb1' : Below wr.heap.size wr W1 := by rw [hW1]; exact (Below.refl _ _).alloc (Nat.le_refl _) _
        have hLV : LineVar W1 wr.heap.size m.g := by rw [hW1]; exact heap_alloc_new _ _
        have hn0 := (hLV.cell 0).trans (lc0 m.g)
        have hv31 : W1.cell? ⟨b3, 0, none⟩ = some (.int .i64 hi) := (hb1'.cell (block_lt_of_cell hv3)).trans hv3
        obtain ⟨o2, d2⟩ := hLV.rd
        have hzs : ((lineCells zeroLine).size == 38) = true := by rw [lineCells_size]; rfl
        have hone := HRF.out.one
        have hft := fits_line (g := m.g) hone
        have HBW1 := Lib.hid (HBr.out.trans (hb1'.mono HBr.out.size) : Below W.heap.size W W1)
        have HROW1 : Hid (RowAt W.heap.size W1 (.slice la ln lc) ls) := Lib.hid ⟨HROW.out.lin.below hb1', HROW.out.apart⟩
        have hmn : (ML.g m).number = m.p.number := rfl
        rw [hmn] at hn0
        rw [hW1] at hn0 hv31 o2 d2
        by_cases hgt : hi < m.p.number
        · have HT : Hid (ls.map (·.p) = rangeP ms lo hi) := Lib.hid (HP.out.trans (range_split HBT.out HSO.out (by omega) HLE.out (fun hx => by rw [← HEQ.out]; exact hgt)))
          clear HP HLE HROW HBr
          have HROW := HROW1
          have HBr := HBW1
          clear HROW1 HBW1
          rcases HROW.out.lin.head with ⟨hln, hls⟩ | ⟨rb, rcap, hlv, hrA, hrl, hrle, hrm, hrc⟩
          · cases hln
            have HLS := Lib.hid hls
            clear hls
            go_wp2
            rw [← hW1]
            clear hW1 hn0 hv31 o1 d1 o2 d2
            go_loop [43] (fun i => i = .int .i64 0) (fun _ => 0)
            case atStart => exact rfl
            case round =>
              obtain rfl := hrel
              go_wp2
              go_end0
              exact ⟨⟨_, rfl⟩, .inl ⟨W1.heap.size, ls, HBr.out.size, Nat.le_refl _, HT.out, by rw [HLS.out]; exact HJ0.out W1 HBr.out⟩⟩
          · cases hlv
            have hll : ls.length ≤ 65536 := HLL.out
            have HRC := Lib.hid hrc
            have hrbB : rb < W1.heap.size := hrl
            clear hrc
            go_wp2
            rw [← hW1]
            clear hW1 hn0 hv31 o1 d1 o2 d2
            refine (wpIn_wide (n := n)).1 ?_
            obtain ⟨wr0, hwr0⟩ : ∃ x, x = W1 := ⟨_, rfl⟩
            rw [← hwr0] at HROW HBr HRC hrbB ⊢
            clear hwr0
            gi_loopw [43] (fun i wy => ∃ k : Nat, k ≤ ls.length ∧ i = .int .i64 k ∧ Hid (J wr0.heap.size (ls.take k) wy) ∧ Hid (IterKeep W.heap.size wr0 (ls.take k) wy)) (fun i _ => ls.length - (intOf i).toNat)
            case atStart => exact ⟨0, by omega, rfl, Lib.hid (HJ0.out wr0 HBr.out), Lib.hid ⟨Nat.le_refl _, fun _ _ _ _ => rfl⟩⟩
            case round =>
              obtain ⟨k, hk, rfl, HJk, HKk⟩ := hrel
              by_cases hltk : k < ls.length
              · have hltz : (k : Int) < (ls.length : Int) := by omega
                obtain ⟨o1, d1⟩ := lineAt_rd (w := wr) (g := rb) (off := k * 38) (l := ls[k].g) (fun i u hu => (iter_row HROW.out HKk.out k rb rfl i).trans (HRC.out k hltk i u hu))
                have HGD := Lib.hid (iter_gd HROW.out HT.out HKk.out hltk)
                have HTK := Lib.hid (List.take_succ_eq_append_getElem hltk)
                have HNX := Lib.hid (fun X' => iter_next HKk.out hltk (X' := X'))
                have hone := (HROW.out.lin.refs ls[k] (List.getElem_mem hltk)).one
                have hft := fits_line (g := ls[k].g) hone
                have o2 := ok_new_line wr ls[k].g 34
                have d2 := rd_new_line wr ls[k].g 34
                have hY2 := HY.out wr0.heap.size (ls.take k) ls[k] (wr.alloc (.cells (lineCells ls[k].g) 34)) (HJs.out _ _ _ _ HJk.out HBr.out.size HKk.out.1 (Beside.of_below ((Below.refl _ _).alloc (Nat.le_refl _) _))) HBr.out.size (by have := HKk.out.1; simp; omega) (HGD.out.below ((Below.refl _ _).alloc (Nat.le_refl _) _))
                obtain ⟨fn, tmps, assign, body, hy, hR⟩ := hY2
                try dsimp only at hy
                have hzs : ((lineCells zeroLine).size == 38) = true := by rw [lineCells_size]; rfl
                have HRR := Lib.hid hR
                clear hR HGD
                generalize ls[k] = x at o1 d1 o2 d2 HTK HNX hft hone hy HRR
                gi_wp2
                refine ⟨fun hd => (by cases hd), HRR.out.mono ?_⟩
                rintro e W3 (⟨rfl, hJ3, hk3⟩ | ⟨rfl, hJx3⟩)
                · have HJ3 := Lib.hid hJ3
                  have HK3 := Lib.hid (HNX.out W3 hk3)
                  clear hJ3 hk3 HRR hy
                  gi_wp2
                  go_roundw
                  case rel => exact ⟨k + 1, by omega, by go_num, Lib.hid (by rw [HTK.out]; exact HJ3.out), Lib.hid (by rw [HTK.out]; exact HK3.out)⟩
                  case measure => simp [intOf]; omega
                · have HJx3 := Lib.hid hJx3
                  clear hJx3 HRR hy
                  gi_wp2
                  refine bodyPost_ret (results_none rfl _ _ _) rfl ?_
                  exact ⟨⟨_, rfl⟩, .inr ⟨wr0.heap.size, _, HBr.out.size, HJx3.out⟩⟩
              · have HE : Hid (ls.take k = ls) := Lib.hid (List.take_of_length_le (by omega))
                gi_wp2
                go_end0
                exact ⟨⟨_, rfl⟩, .inl ⟨wr0.heap.size, ls, HBr.out.size, HKk.out.1, HT.out, by have := HJk.out; rw [HE.out] at this; exact this⟩⟩
        · have hle2 : m.p.number ≤ hi := by omega
          have HLE2 : Hid (∀ x ∈ (ms.drop i).take (k + 1), x.p.number ≤ hi) := Lib.hid fun x hx => by
            rw [HTK.out] at hx
            rcases List.mem_append.1 hx with hx | hx
            · exact HLE.out x hx
            · rw [List.mem_singleton.1 hx]; exact hle2
          have HCL := Lib.hid (clone_any B m.g m.p.ids W1 (HRF.out.below HBW1.out) (by omega))
          clear HROW HBr HRF
          go_wp2_with fail
          rw [← hW1]
          clear hW1 hn0 hv31 o1 d1 o2 d2
          refine HCL.out.mono ?_
          rintro r w2 ⟨v', rfl, hI2, hb2⟩
          obtain ⟨x, hx⟩ : ∃ x : ML, x = ⟨m.p, v'⟩ := ⟨_, rfl⟩
          have hxg : ({ m.g with refs := v' } : GLine) = x.g := by rw [hx]; rfl
          have hxp : x.p = m.p := by rw [hx]
          have hxv : x.v = v' := by rw [hx]
          rw [hxg]
          have HI2 : Hid (IdsOwn W1.heap.size w2 x.v x.p.ids) := Lib.hid (by rw [hxp, hxv]; exact hI2)
          have HXP := Lib.hid hxp
          have honex : ∀ u ∈ lineList x.g, u.oneCell' = true := lineList_one (g := x.g) (by show x.v.oneCell' = true; exact HI2.out.one)
          have HONEX := Lib.hid honex
          have HBW2 := Lib.hid (HBW1.out.trans (hb2.mono HBW1.out.size) : Below W.heap.size W w2)
          have hrow2 := (HROW1.out.lin.below hb2)
          have HROW2 : Hid (RowAt W.heap.size w2 (.slice la ln lc) ls) := Lib.hid ⟨hrow2, HROW1.out.apart⟩
          have hs12 : W1.heap.size ≤ w2.heap.size := hb2.size
          have hownA := hrow2.row.alloc (.cells (lineCells x.g) 34)
          have HLT := Lib.hid (fun j hj => (World.ownsRow.lt hrow2.row j hj).1)
          have hsW1 : W.heap.size ≤ W1.heap.size := HBW1.out.size
          clear hI2 hb2 hx hxg hxp hxv honex hrow2 HBW1 HCL
          have HLL2 := HLL.out
          rw [HLK.out] at hownA
          go_wp2_with (at_builtin; refine wpList_append_own _ rfl (.tmp 35) (.tmp 38) 107 rfl W.heap.size 34 i0 (.agg (lineCells zeroLine)) 38 112 Tryz.underlying107 hi0 hz0 hz1 hz2 (lineCells_size _) (by decide) _ _ _ rfl hownA ⟨w2.heap.size, 0, none⟩ 1 1 (lineList x.g) rfl (lineList_length _) ?c1 HONEX.out ?c3 ?c4 ?c5 ?_)
          case c1 =>
            intro j u hj
            rw [Addr.add_lit, Nat.zero_add, cells_new]
            unfold lineCells
            rw [List.getElem?_toArray]
            exact hj
          case c3 => unfold maxLen; omega
          case c4 => omega
          case c5 => have := HBW2.out.size; simp; omega
          intro v2 w3 hown3 hgr3 _
          have hb3 : Below W.heap.size W w3 := (HBW2.out.alloc HBW2.out.size _).grown hgr3 (by have := HBW2.out.size; simp; omega) (fun j hj => HLT.out j hj)
          have hty : ∀ k, (Value.slice la ln lc).ownBlock = some k → ∃ c, (w2.alloc (.cells (lineCells x.g) 34)).heap[k]? = some (.cells c 34 (0, 0)) := fun k hk => ownsRow_typed hownA hk
          have hal : Below w2.heap.size w2 (w2.alloc (.cells (lineCells x.g) 34)) := (Below.refl _ _).alloc (Nat.le_refl _) _
          have hrow3 : RowAt W.heap.size w3 v2 (ls ++ [x]) := by
            refine HROW1.out.snoc ?_ (fun y hy => ids_grown ((HROW2.out.lin.refs y hy).below hal) hgr3 hty) (ids_grown ((HI2.out.below hal).mono (by have := HBW2.out.size; omega)) hgr3 hty) ?_
            · rw [HLK.out]; exact hown3
            · exact fun k hk => (HI2.out.lt hk).1
          have HROW3 := Lib.hid hrow3
          have HB3 := Lib.hid hb3
          have HP3 : Hid ((ls ++ [x]).map (·.p) = ((ms.drop i).take (k + 1)).map (·.p)) := Lib.hid (by rw [HTK.out, List.map_append, List.map_append, HP.out]; simp [HXP.out])
          clear hown3 hgr3 hb3 hty hal hrow3 hownA
          go_wp2
          go_roundw
          case rel => exact ⟨k + 1, ls ++ [x], by omega, by go_num, HP3, HLE2, HROW3, HB3⟩
          case measure => simp [intOf]; omega
      · have HT : Hid (ls.map (·.p) = rangeP ms lo hi) := Lib.hid (HP.out.trans (range_split HBT.out HSO.out (by omega) HLE.out (fun hx => by omega)))
        clear HP HLE
        rcases HROW.out.lin.head with ⟨hln, hls⟩ | ⟨rb, rcap, hlv, hrA, hrl, hrle, hrm, hrc⟩
        · cases hln
          have HLS := Lib.hid hls
          clear hls
          go_wp2
          go_loop [43] (fun i => i = .int .i64 0) (fun _ => 0)
          case atStart => exact rfl
          case round =>
            obtain rfl := hrel
            go_wp2
            go_end0
            exact ⟨⟨_, rfl⟩, .inl ⟨wr.heap.size, ls, HBr.out.size, Nat.le_refl _, HT.out, by rw [HLS.out]; exact HJ0.out wr HBr.out⟩⟩
        · cases hlv
          have hll : ls.length ≤ 65536 := HLL.out
          have HRC := Lib.hid hrc
          have hrbB : rb < wr.heap.size := hrl
          clear hrc
          go_wp2
          refine (wpIn_wide (n := n)).1 ?_
          obtain ⟨wr0, hwr0⟩ : ∃ x, x = wr := ⟨_, rfl⟩
          rw [← hwr0] at HROW HBr HRC hrbB ⊢
          clear hwr0
          gi_loopw [43] (fun i wy => ∃ k : Nat, k ≤ ls.length ∧ i = .int .i64 k ∧ Hid (J wr0.heap.size (ls.take k) wy) ∧ Hid (IterKeep W.heap.size wr0 (ls.take k) wy)) (fun i _ => ls.length - (intOf i).toNat)
          case atStart => exact ⟨0, by omega, rfl, Lib.hid (HJ0.out wr0 HBr.out), Lib.hid ⟨Nat.le_refl _, fun _ _ _ _ => rfl⟩⟩
          case round =>
            obtain ⟨k, hk, rfl, HJk, HKk⟩ := hrel
            by_cases hltk : k < ls.length
            · have hltz : (k : Int) < (ls.length : Int) := by omega
              obtain ⟨o1, d1⟩ := lineAt_rd (w := wr) (g := rb) (off := k * 38) (l := ls[k].g) (fun i u hu => (iter_row HROW.out HKk.out k rb rfl i).trans (HRC.out k hltk i u hu))
              have HGD := Lib.hid (iter_gd HROW.out HT.out HKk.out hltk)
              have HTK := Lib.hid (List.take_succ_eq_append_getElem hltk)
              have HNX := Lib.hid (fun X' => iter_next HKk.out hltk (X' := X'))
              have hone := (HROW.out.lin.refs ls[k] (List.getElem_mem hltk)).one
              have hft := fits_line (g := ls[k].g) hone
              have o2 := ok_new_line wr ls[k].g 34
              have d2 := rd_new_line wr ls[k].g 34
              have hY2 := HY.out wr0.heap.size (ls.take k) ls[k] (wr.alloc (.cells (lineCells ls[k].g) 34)) (HJs.out _ _ _ _ HJk.out HBr.out.size HKk.out.1 (Beside.of_below ((Below.refl _ _).alloc (Nat.le_refl _) _))) HBr.out.size (by have := HKk.out.1; simp; omega) (HGD.out.below ((Below.refl _ _).alloc (Nat.le_refl _) _))
              obtain ⟨fn, tmps, assign, body, hy, hR⟩ := hY2
              try dsimp only at hy
              have hzs : ((lineCells zeroLine).size == 38) = true := by rw [lineCells_size]; rfl
              have HRR := Lib.hid hR
              clear hR HGD
              generalize ls[k] = x at o1 d1 o2 d2 HTK HNX hft hone hy HRR
              gi_wp2
              refine ⟨fun hd => (by cases hd), HRR.out.mono ?_⟩
              rintro e W3 (⟨rfl, hJ3, hk3⟩ | ⟨rfl, hJx3⟩)
              · have HJ3 := Lib.hid hJ3
                have HK3 := Lib.hid (HNX.out W3 hk3)
                clear hJ3 hk3 HRR hy
                gi_wp2
                go_roundw
                case rel => exact ⟨k + 1, by omega, by go_num, Lib.hid (by rw [HTK.out]; exact HJ3.out), Lib.hid (by rw [HTK.out]; exact HK3.out)⟩
                case measure => simp [intOf]; omega
              · have HJx3 := Lib.hid hJx3
                clear hJx3 HRR hy
                gi_wp2
                refine bodyPost_ret (results_none rfl _ _ _) rfl ?_
                exact ⟨⟨_, rfl⟩, .inr ⟨wr0.heap.size, _, HBr.out.size, HJx3.out⟩⟩
            · have HE : Hid (ls.take k = ls) := Lib.hid (List.take_of_length_le (by omega))
              gi_wp2
              go_end0
              exact ⟨⟨_, rfl⟩, .inl ⟨wr0.heap.size, ls, HBr.out.size, HKk.out.1, HT.out, by have := HJk.out; rw [HE.out] at this; exact this⟩⟩

end Go.Proofs.YtdjaphcelpchaaaGreatDoor

namespace Go.Proofs.YtdjaphcelpchaaaGreatDoor
open Go Go.RowKit Go.Proofs

attribute [local go_sem ↓] ex_load_id ex_store_id ex_load_line ex_store_line ex_load_rline ex_store_rline ex_alloc_line ex_build_line ex_alloc_rline ex_build_rline

attribute [local go_sem] ld_id st_id ld_line st_line ld_rline st_rline guard_id okCells_drew rdCells_drew okCells_drewN rdCells_drewN rowOk_drew rowOk_cells okCells_cells rdCells_cells setRow_drew setRow_new setRow_past

attribute [local go_sem] Oper.semAt_some

attribute [local go_sem ↓] exI_load_line exI_store_line exI_alloc_line exI_load_id exI_store_id exI_load_rline exI_store_rline

/-- What the walk of same keeps from one round of its loop to the next. -/
structure SameSt (w : World) (gbx : Nat) (ga ra : Option Addr) (gc : Nat) (ns : List ByteArray) (ds : List Nat) (ic i : Nat) (W : World) : Prop where
  bl : Below w.heap.size w W
  rc : W.heap[w.heap.size]? = some (.cells #[.bool false] 4 (0, 0))
  gx : W.heap[gbx]? = some (.cells #[.slice ga ns.length gc] 78 (0, 0))
  gr : ns ≠ [] → ∃ b, ga = some ⟨b, 0, none⟩ ∧ b < W.heap.size ∧ StrRow W b 0 ns
  rr : ns ≠ [] → ∃ b, ra = some ⟨b, 0, none⟩ ∧ b < W.heap.size ∧ StrRow W b 0 ns
  ix : W.heap[ic]? = some (.cells #[.int .i64 i] 3 (0, 0))
  ms : ∀ D ∈ ds, W.heap[D]? = some (.deferred (some []))
  md : ds.Nodup
  mb : ∀ D ∈ ds, w.heap.size < D
theorem SameSt.step {w : World} {gbx : Nat} {ga ra : Option Addr} {gc : Nat} {ns : List ByteArray} {ds : List Nat} {ic i : Nat} {W W' : World} (h : SameSt w gbx ga ra gc ns ds ic i W) (hb : Below W.heap.size W W') : SameSt w gbx ga ra gc ns ds ic i W' where
  bl := h.bl.trans (hb.mono h.bl.size)
  rc := (hb.block _ (Array.getElem?_eq_some_iff.1 h.rc).1).trans h.rc
  gx := (hb.block _ (Array.getElem?_eq_some_iff.1 h.gx).1).trans h.gx
  gr := fun hn => let ⟨b, e, hl, hr⟩ := h.gr hn; ⟨b, e, Nat.lt_of_lt_of_le hl hb.size, hr.below' hb hl⟩
  rr := fun hn => let ⟨b, e, hl, hr⟩ := h.rr hn; ⟨b, e, Nat.lt_of_lt_of_le hl hb.size, hr.below' hb hl⟩
  ix := (hb.block _ (Array.getElem?_eq_some_iff.1 h.ix).1).trans h.ix
  ms := fun D hD => (hb.block _ (Array.getElem?_eq_some_iff.1 (h.ms D hD)).1).trans (h.ms D hD)
  md := h.md
  mb := h.mb
theorem results_cell1' {P : Program} {fn : Func} {p : Tmp} {ty : Nat} (h : fn.results = #[.cell p ty]) (hA : ∀ w, Sem.run P (isAgg ty) w = .ok false w) (tmps : Array Value) (w : World) (a : Addr) (v : Value) (hp : tmps.getD p undef = .pointer (some a)) (hc : w.cell? a = some v) :
    (results fn tmps).run P w = .ok v w := by
  have hp' : tmps[p]?.getD undef = .pointer (some a) := by simpa using hp
  simp [results, h, asAddr, hp', loadVar, hA, hc]
/-- A mark among the deferred calls. -/
def markD (D : Nat) : Deferred := { target := .collected D, args := #[] }
def leftI (n : Nat) (a : Act) (w : World) : Nat := match a.tmps.getD 7 undef with
  | .pointer (some p) => n - (intOf ((w.cell? p).getD undef)).toNat
  | _ => 0
/-- A frame written out. -/
theorem tmps_range (t : Array Value) (n : Nat) (h : t.size = n) : t = ((List.range n).map fun k => t.getD k undef).toArray := by
  subst h
  apply Array.ext
  · simp
  · intro i h1 h2
    simp [h1]
theorem slots89 (t : Array Value) (h : t.size = 89) : ∃ f : Nat → Value, (∀ k, f k = t.getD k undef) ∧ t = #[f 0, f 1, f 2, f 3, f 4, f 5, f 6, f 7, f 8, f 9, f 10, f 11, f 12, f 13, f 14, f 15, f 16, f 17, f 18, f 19, f 20, f 21, f 22, f 23, f 24, f 25, f 26, f 27, f 28, f 29, f 30, f 31, f 32, f 33, f 34, f 35, f 36, f 37, f 38, f 39, f 40, f 41, f 42, f 43, f 44, f 45, f 46, f 47, f 48, f 49, f 50, f 51, f 52, f 53, f 54, f 55, f 56, f 57, f 58, f 59, f 60, f 61, f 62, f 63, f 64, f 65, f 66, f 67, f 68, f 69, f 70, f 71, f 72, f 73, f 74, f 75, f 76, f 77, f 78, f 79, f 80, f 81, f 82, f 83, f 84, f 85, f 86, f 87, f 88] := ⟨fun k => t.getD k undef, fun _ => rfl, (tmps_range t 89 h).trans rfl⟩
/-- The loop's invariant. -/
structure SameInv (ib : Nat) (v : Value) (rs : List MR) (w : World) (gbx : Nat) (ga ra : Option Addr) (gc rcp : Nat) (ds : List Nat) (ic i : Nat) (a : Act) (W : World) : Prop where
  le : i ≤ (groupsR rs).length
  st : SameSt w gbx ga ra gc (groupsR rs) ds ic i W
  size : a.tmps.size = 89
  s0 : a.tmps.getD 0 undef = .pointer (some ⟨ib, 0, none⟩)
  s1 : a.tmps.getD 1 undef = v
  s4 : a.tmps.getD 4 undef = .pointer (some ⟨w.heap.size, 0, none⟩)
  s5 : a.tmps.getD 5 undef = .pointer (some ⟨gbx, 0, none⟩)
  s6 : a.tmps.getD 6 undef = .slice ra (groupsR rs).length rcp
  s7 : a.tmps.getD 7 undef = .pointer (some ⟨ic, 0, none⟩)
  df : a.defers = ds.map markD
theorem SameInv.left {ib : Nat} {v : Value} {rs : List MR} {w : World} {gbx : Nat} {ga ra : Option Addr} {gc rcp : Nat} {ds : List Nat} {ic i : Nat} {a : Act} {W : World} (h : SameInv ib v rs w gbx ga ra gc rcp ds ic i a W) (n : Nat) : leftI n a W = n - i := by
  unfold leftI
  rw [h.s7]
  show n - (intOf ((W.cell? ⟨ic, 0, none⟩).getD undef)).toNat = _
  rw [cell_of_row W ic 0 _ _ _ h.st.ix]
  rfl

/-- What the slots hold in a round. -/
structure RSlots (t : Array Value) (ib : Nat) (v : Value) (rc gbx : Nat) (rv : Value) (ic kb : Nat) : Prop where
  size : t.size = 89
  s0 : t.getD 0 undef = .pointer (some ⟨ib, 0, none⟩)
  s1 : t.getD 1 undef = v
  s4 : t.getD 4 undef = .pointer (some ⟨rc, 0, none⟩)
  s5 : t.getD 5 undef = .pointer (some ⟨gbx, 0, none⟩)
  s6 : t.getD 6 undef = rv
  s7 : t.getD 7 undef = .pointer (some ⟨ic, 0, none⟩)
  s8 : t.getD 8 undef = .pointer (some ⟨kb, 0, none⟩)
  s9 : t.getD 9 undef = .pointer (some ⟨kb + 1, 0, none⟩)
theorem getD_setv {t : Array Value} {i j : Nat} (v d : Value) (h : i ≠ j) : (t.setIfInBounds i v).getD j d = t.getD j d := by
  simp [h]
theorem RSlots.set {t : Array Value} {ib : Nat} {v : Value} {rc gbx : Nat} {rv : Value} {ic kb : Nat} (h : RSlots t ib v rc gbx rv ic kb) {k : Nat} (hk : 10 ≤ k) (u : Value) : RSlots (t.setIfInBounds k u) ib v rc gbx rv ic kb :=
  ⟨by simpa using h.size, (getD_setv _ _ (by omega)).trans h.s0, (getD_setv _ _ (by omega)).trans h.s1, (getD_setv _ _ (by omega)).trans h.s4, (getD_setv _ _ (by omega)).trans h.s5, (getD_setv _ _ (by omega)).trans h.s6, (getD_setv _ _ (by omega)).trans h.s7, (getD_setv _ _ (by omega)).trans h.s8, (getD_setv _ _ (by omega)).trans h.s9⟩
theorem RSlots.out {t : Array Value} {ib : Nat} {v : Value} {rc gbx : Nat} {rv : Value} {ic kb : Nat} (h : RSlots t ib v rc gbx rv ic kb) : ∃ f : Nat → Value, (∀ k, f k = t.getD k undef) ∧ t = #[.pointer (some ⟨ib, 0, none⟩), v, f 2, f 3, .pointer (some ⟨rc, 0, none⟩), .pointer (some ⟨gbx, 0, none⟩), rv, .pointer (some ⟨ic, 0, none⟩), .pointer (some ⟨kb, 0, none⟩), .pointer (some ⟨kb + 1, 0, none⟩), f 10, f 11, f 12, f 13, f 14, f 15, f 16, f 17, f 18, f 19, f 20, f 21, f 22, f 23, f 24, f 25, f 26, f 27, f 28, f 29, f 30, f 31, f 32, f 33, f 34, f 35, f 36, f 37, f 38, f 39, f 40, f 41, f 42, f 43, f 44, f 45, f 46, f 47, f 48, f 49, f 50, f 51, f 52, f 53, f 54, f 55, f 56, f 57, f 58, f 59, f 60, f 61, f 62, f 63, f 64, f 65, f 66, f 67, f 68, f 69, f 70, f 71, f 72, f 73, f 74, f 75, f 76, f 77, f 78, f 79, f 80, f 81, f 82, f 83, f 84, f 85, f 86, f 87, f 88] := by
  obtain ⟨f, hf, hft⟩ := slots89 t h.size
  refine ⟨f, hf, ?_⟩
  have e0 := (hf 0).trans h.s0
  have e1 := (hf 1).trans h.s1
  have e4 := (hf 4).trans h.s4
  have e5 := (hf 5).trans h.s5
  have e6 := (hf 6).trans h.s6
  have e7 := (hf 7).trans h.s7
  have e8 := (hf 8).trans h.s8
  have e9 := (hf 9).trans h.s9
  rw [← e0, ← e1, ← e4, ← e5, ← e6, ← e7, ← e8, ← e9]
  exact hft
theorem foldl_one (p : Nat) (v : Value) (t : Array Value) : (((#[p] : Array Tmp).zip #[v]).foldl (fun t (p, v) => t.setIfInBounds p v) t) = t.setIfInBounds p v := by
  simp
theorem name_act {P : Program} {c : Code} {Q : Exit → Act → World → Prop} {a : Act} {w : World} (h : ∀ a', a' = a → c.wp P Q a' w) : c.wp P Q a w := h a rfl
/-- Between two rounds: the counter; all else lies as it lay. -/
structure KbAt (W8 : World) (kb n : Nat) (X : World) : Prop where
  kept : Kept [kb] W8 X
  cell : X.heap[kb]? = some (.cells #[.int .i64 n] 3 (0, 0))
theorem KbAt.beside {W8 : World} {kb n : Nat} {X Y : World} {B : Nat} (h : KbAt W8 kb n X) (hk : kb < W8.heap.size) (hb : Beside W8.heap.size B X Y) : KbAt W8 kb n Y :=
  ⟨⟨hb.os.trans h.kept.os, hb.tape.trans h.kept.tape, hb.output.trans h.kept.output, Nat.le_trans h.kept.size hb.size, fun k hk' hn => (hb.block k (Nat.lt_of_lt_of_le hk' h.kept.size) (.inl hk')).trans (h.kept.block k hk' hn)⟩, (hb.block kb (Nat.lt_of_lt_of_le hk h.kept.size) (.inl hk)).trans h.cell⟩
theorem KbAt.later {W8 : World} {kb n : Nat} {X Y : World} (h : KbAt W8 kb n X) (hb : Below X.heap.size X Y) : KbAt W8 kb n Y :=
  ⟨h.kept.trans (Kept.of_below (F := []) hb) (fun _ hk => by cases hk), (hb.block kb (Array.getElem?_eq_some_iff.1 h.cell).1).trans h.cell⟩
/-- Ahead of a round's body. -/
structure SameAx (T : List PLine) (ib : Nat) (v : Value) (rc gbx : Nat) (rv : Value) (ic kb : Nat) (W8 : World) (B : Nat) (pre : List ML) (x : ML) (a : Act) (X : World) : Prop where
  cnt : KbAt W8 kb pre.length X
  gd : GdL T (W8.heap.size + 2) B pre x X
  sl : RSlots a.tmps ib v rc gbx rv ic kb
  df : a.defers = []
  yb : ∃ yb, LineVar X yb x.g ∧ W8.heap.size + 2 ≤ yb ∧ a.tmps.getD 10 undef = .pointer (some ⟨yb, 0, none⟩)

theorem IdxAt.good_in {B : Nat} {w : World} {ib M mc : Nat} {gs : List MG} (h : IdxAt B w ib M gs mc) {s : ByteArray} {m : ML} (hm : m ∈ linesIn gs s) : pErr m.p = 0 := by
  have hne : linesIn gs s ≠ [] := fun e => by rw [e] at hm; cases hm
  obtain ⟨G, hG, hms, _⟩ := linesIn_ne hne
  exact (h.grps G (groupOf_mem hG).1).good m (hms ▸ hm)
theorem num_range {p : PLine} (h : pErr p = 0) : 1 ≤ p.number ∧ p.number ≤ 2147483646 := by
  obtain ⟨f1, _⟩ := lineErr_zero h
  exact f1
theorem range_all {ms : List ML} (h : ∀ m ∈ ms, pErr m.p = 0) : rangeP ms (-1) 1099511627776 = ms.map (·.p) := by
  unfold rangeP
  rw [List.filter_eq_self]
  intro p hp
  obtain ⟨m, hm, rfl⟩ := List.mem_map.1 hp
  have := num_range (h m hm)
  rw [decide_eq_true_eq]
  omega
/-- The worlds in which the old blocks lie as they lay. -/
theorem KbAt.old {W8 : World} {kb n : Nat} {X : World} (h : KbAt W8 kb n X) {k : Nat} (hk : k < W8.heap.size) (hn : k ≠ kb) : X.heap[k]? = W8.heap[k]? := h.kept.block k hk (by simpa using hn)

set_option maxRecDepth 100000 in
set_option maxHeartbeats 8000000 in
theorem same_any (B B2 ib M mc : Nat) (gs : List MG) (v : Value) (rs : List MR) (w : World) (hG : Gl w) (h : IdxAt B w ib M gs mc) (hv : RefsAt B2 w v rs) (hr : RelR gs rs) (ho : ordR rs) (hI : ∀ r ∈ rs, IdsAt w r.m.v r.m.p.ids) :
    Calls Tryz.prog 27 #[.pointer (some ⟨ib, 0, none⟩), v] w fun r w' => r = .returned (.bool true) ∧ Below w.heap.size w w' := by
  obtain ⟨W, hW⟩ : ∃ W, W = w.alloc (.cells #[.bool false] 4) := ⟨_, rfl⟩
  have hb0 : Below w.heap.size w W := by rw [hW]; exact (Below.refl _ _).alloc (Nat.le_refl _) _
  have hs0 : W.heap.size = w.heap.size + 1 := by rw [hW]; simp
  have hC0 : W.heap[w.heap.size]? = some (.cells #[.bool false] 4 (0, 0)) := by rw [hW]; exact heap_alloc_new _ _
  have HGR := Lib.hid (groups_any B ib M mc gs W (hG.later hb0) (h.below hb0))
  obtain ⟨va, vn, vc, hve⟩ : ∃ a n c, v = .slice a n c := own_slice hv.row
  subst hve
  have HX := Lib.hid h
  have HV := Lib.hid hv
  have HR := Lib.hid hr
  have HO := Lib.hid ho
  have HI := Lib.hid hI
  have HB0 := Lib.hid hb0
  have HC0 := Lib.hid hC0
  have HS0 := Lib.hid hs0
  clear h hv hr ho hI hb0 hC0 hs0
  refine (callsIn_wide (n := 3)).1 (callsIn_of_wp_marks Tryz.func27 rfl trivial ?_ rfl)
  simp only [Tryz.ntmps27, List.size_toArray, List.length_cons, List.length_nil, Nat.reduceAdd, Nat.reduceSub, Array.replicate_succ, Array.replicate_zero, List.push_toArray, List.append_toArray, List.nil_append, List.cons_append]
  refine wpIn_wide.2 ?_
  go_wp2_with fail
  rw [← hW]
  clear hW
  refine HGR.out.mono ?_
  rintro r w1 ⟨gv, ns, rfl, hns, hord, hmem, hb1⟩
  have hnse := rel_names HX.out HR.out HO.out hord hmem
  subst hnse
  have HB1 := Lib.hid (HB0.out.trans (hb1.mono HB0.out.size) : Below w.heap.size w w1)
  have HC1 : Hid (w1.heap[w.heap.size]? = some (.cells #[.bool false] 4 (0, 0))) := Lib.hid ((hb1.block _ (by rw [HS0.out]; omega)).trans HC0.out)
  have HGR2 := Lib.hid (groupsRef_any B2 (.slice va vn vc) rs w1 (HV.out.below HB1.out))
  clear hb1 HGR hord hmem HB0 HC0
  go_wp2_with fail
  refine HGR2.out.mono ?_
  rintro r w2 ⟨rv, rfl, hown, hb2⟩
  have HB2 := Lib.hid (HB1.out.trans (hb2.mono HB1.out.size) : Below w.heap.size w w2)
  have HRN := Lib.hid (ownsRow_base hown (Nat.zero_le _))
  obtain ⟨ga, gc, hge, hgr⟩ : ∃ ga gc, gv = .slice ga (groupsR rs).length gc ∧ (groupsR rs ≠ [] → ∃ b, ga = some ⟨b, 0, none⟩ ∧ b < w2.heap.size ∧ StrRow w2 b 0 (groupsR rs)) := by
    rcases hns with ⟨e1, rfl⟩ | ⟨b, c, rfl, _, hrow, _, hbl⟩
    · exact ⟨none, 0, by rw [e1]; rfl, fun h => absurd e1 h⟩
    · exact ⟨_, c, rfl, fun _ => ⟨b, rfl, Nat.lt_of_lt_of_le hbl hb2.size, hrow.below' hb2 hbl⟩⟩
  obtain ⟨ra, rcp, hre, hrr⟩ : ∃ ra rcp, rv = .slice ra (groupsR rs).length rcp ∧ (groupsR rs ≠ [] → ∃ b, ra = some ⟨b, 0, none⟩ ∧ b < w2.heap.size ∧ StrRow w2 b 0 (groupsR rs)) := by
    by_cases hne : groupsR rs = []
    · rcases hown.2 with ⟨e, _⟩ | ⟨g', cap', cur', e, _⟩
      · exact ⟨none, 0, by rw [e, hne]; rfl, fun h => absurd hne h⟩
      · exact ⟨_, cap', e, fun h => absurd hne h⟩
    · obtain ⟨b, c, e, hrow, _, hbl⟩ := row_strs hown hne
      exact ⟨_, c, e, fun _ => ⟨b, rfl, hbl, hrow⟩⟩
  subst hge hre
  have HC2 : Hid (w2.heap[w.heap.size]? = some (.cells #[.bool false] 4 (0, 0))) := Lib.hid ((hb2.block _ (Array.getElem?_eq_some_iff.1 HC1.out).1).trans HC1.out)
  have HGRR := Lib.hid hgr
  have HRR := Lib.hid hrr
  have hnl : (groupsR rs).length ≤ 100000 := Nat.le_trans (groups_length rs) HV.out.few
  clear hgr hrr hown hns hb2 HGR2 HC1 HB1
  have hW3 : SameSt w w2.heap.size ga ra gc (groupsR rs) [] (w2.heap.size + 1) 0 ((w2.alloc (.cells #[.slice ga (groupsR rs).length gc] 78)).alloc (.cells #[.int .i64 0] 3)) := by
    have hba : Below w2.heap.size w2 ((w2.alloc (.cells #[.slice ga (groupsR rs).length gc] 78)).alloc (.cells #[.int .i64 0] 3)) := ((Below.refl _ _).alloc (Nat.le_refl _) _).alloc (by simp) _
    refine ⟨HB2.out.trans (hba.mono HB2.out.size), (hba.block _ (Array.getElem?_eq_some_iff.1 HC2.out).1).trans HC2.out, ?_, fun hn => ?_, fun hn => ?_, ?_, fun D hD => (by cases hD), List.nodup_nil, fun D hD => (by cases hD)⟩
    · rw [heap_alloc_old _ _ (by simp), heap_alloc_new]
    · obtain ⟨b, e, hl, hr⟩ := HGRR.out hn; exact ⟨b, e, Nat.lt_of_lt_of_le hl hba.size, hr.below' hba hl⟩
    · obtain ⟨b, e, hl, hr⟩ := HRR.out hn; exact ⟨b, e, Nat.lt_of_lt_of_le hl hba.size, hr.below' hba hl⟩
    · have := heap_alloc_new (w2.alloc (.cells #[.slice ga (groupsR rs).length gc] 78)) (.cells #[.int .i64 0] 3)
      simpa using this
  have HW3 := Lib.hid hW3
  clear hW3
  go_wp2
  generalize (w2.alloc (.cells #[.slice ga (groupsR rs).length gc] 78)).alloc (.cells #[.int .i64 0] 3) = w3 at HW3 ⊢
  obtain ⟨gbx, hgbx⟩ : ∃ x, x = w2.heap.size := ⟨_, rfl⟩
  rw [← hgbx] at HW3 ⊢
  clear hgbx HB2 HC2 HGRR HRR HRN
  refine wp_loop (fun a W => ∃ ds ic i, SameInv ib (.slice va vn vc) rs w gbx ga ra gc rcp ds ic i a W) (leftI (groupsR rs).length) ?start ?round
  case start => exact ⟨[], gbx + 1, 0, Nat.zero_le _, HW3.out, rfl, rfl, rfl, rfl, rfl, rfl, rfl, rfl⟩
  case round =>
    rintro a W ⟨ds, ic, i, hinv⟩
    have hmu := hinv.left (groupsR rs).length
    have HMU : Hid (∀ ds' ic' a' W', SameInv ib (.slice va vn vc) rs w gbx ga ra gc rcp ds' ic' (i + 1) a' W' → i < (groupsR rs).length → leftI (groupsR rs).length a' W' < leftI (groupsR rs).length a W) := Lib.hid fun ds' ic' a' W' h hl => by rw [h.left, hmu]; omega
    generalize leftI (groupsR rs).length a W = mu at HMU
    clear hmu
    have ha : ∃ f : Nat → Value, a = { tmps := #[.pointer (some ⟨ib, 0, none⟩), .slice va vn vc, f 2, f 3, .pointer (some ⟨w.heap.size, 0, none⟩), .pointer (some ⟨gbx, 0, none⟩), .slice ra (groupsR rs).length rcp, .pointer (some ⟨ic, 0, none⟩), f 8, f 9, f 10, f 11, f 12, f 13, f 14, f 15, f 16, f 17, f 18, f 19, f 20, f 21, f 22, f 23, f 24, f 25, f 26, f 27, f 28, f 29, f 30, f 31, f 32, f 33, f 34, f 35, f 36, f 37, f 38, f 39, f 40, f 41, f 42, f 43, f 44, f 45, f 46, f 47, f 48, f 49, f 50, f 51, f 52, f 53, f 54, f 55, f 56, f 57, f 58, f 59, f 60, f 61, f 62, f 63, f 64, f 65, f 66, f 67, f 68, f 69, f 70, f 71, f 72, f 73, f 74, f 75, f 76, f 77, f 78, f 79, f 80, f 81, f 82, f 83, f 84, f 85, f 86, f 87, f 88], defers := ds.map markD } := by
      obtain ⟨f, hf, hft⟩ := slots89 a.tmps hinv.size
      refine ⟨f, ?_⟩
      obtain ⟨tm, df⟩ := a
      have hdf : df = ds.map markD := hinv.df
      have e0 := (hf 0).trans hinv.s0
      have e1 := (hf 1).trans hinv.s1
      have e4 := (hf 4).trans hinv.s4
      have e5 := (hf 5).trans hinv.s5
      have e6 := (hf 6).trans hinv.s6
      have e7 := (hf 7).trans hinv.s7
      simp only at hft
      rw [hft, hdf, e0, e1, e4, e5, e6, e7]
    obtain ⟨f, rfl⟩ := ha
    have hst := hinv.st
    clear hinv
    have HST := Lib.hid hst
    clear HW3
    have k1 := cell_of_row W ic 0 _ _ _ hst.ix
    have k2 := cell_of_row W gbx 0 _ _ _ hst.gx
    by_cases hlt : i < (groupsR rs).length
    · have hltz : (i : Int) < ((groupsR rs).length : Int) := by omega
      have hne : groupsR rs ≠ [] := fun e => by rw [e] at hlt; cases hlt
      obtain ⟨gb, hga, hgl, hgr⟩ := hst.gr hne
      obtain ⟨rb, hra, hrl, hrr⟩ := hst.rr hne
      subst hga hra
      obtain ⟨t, ht⟩ : ∃ t, (groupsR rs)[i]? = some t := ⟨_, List.getElem?_eq_getElem hlt⟩
      have z1 : ∀ z : Later W, z.1.cell? ⟨ic, 0, none⟩ = some (.int .i64 i) := fun z => cell_of_row _ ic 0 _ _ _ ((hst.step z.2).ix)
      have z2 : ∀ z : Later W, z.1.cell? ⟨gbx, 0, none⟩ = some (.slice (some ⟨gb, 0, none⟩) (groupsR rs).length gc) := fun z => cell_of_row _ gbx 0 _ _ _ ((hst.step z.2).gx)
      have z3 : ∀ z : Later W, z.1.cell? ⟨gb, i, none⟩ = some (.string t) := fun z => by have := hgr.below' z.2 hgl i t ht; rwa [Nat.zero_add] at this
      have Z3 := Lib.hid z3
      have HBW : Hid (Below W.heap.size W W) := Lib.hid (Below.refl _ _)
      have z4 : ∀ z : Later W, z.1.cell? ⟨rb, i, none⟩ = some (.string t) := fun z => by have := hrr.below' z.2 hrl i t ht; rwa [Nat.zero_add] at this
      have hnm : ∃ r ∈ rs, r.s = t := ((groupsR_ok rs HO.out).2.1 t).1 (List.mem_of_getElem? ht)
      have hll : (linesIn gs t).length = (ofR rs t).length := by
        have := congrArg List.length (rel_lines HX.out HR.out HO.out t)
        rwa [List.length_map, List.length_map] at this
      have HLL := Lib.hid hll
      have hofl : (ofR rs t).length ≤ 100000 := by unfold ofR; exact Nat.le_trans (List.length_filter_le _ _) HV.out.few
      have HLN := Lib.hid (len_any B ib M mc gs t W.drew ((HX.out.below hst.bl).below (Below.refl _ _).drew))
      clear hst hgr hrr ht hne hll
      go_wp2_with fail
      refine wp_region_mix0 [0, 1, 2, 3, 4, 5, 6, 7, 8, 9, 10, 11, 12, 13, 14, 16, 17, 18, 19, 20] [15, 21, 22, 23, 24] (fun w' => ∃ z : Later W, w' = z.1) (by kernel_rfl) (by kernel_rfl) (by kernel_rfl) ⟨⟨_, (Below.refl _ _).drew⟩, rfl⟩ ?_
      simp only [opsAt, List.map_cons, List.map_nil, Array.getD_eq_getD_getElem?, List.getElem?_toArray, List.getElem?_cons_zero, List.getElem?_cons_succ, Option.getD_some]
      repeat (go_big_quiet_step (fail))
      refine wpQuiet_nil ?_
      refine wpR_at true (by kernel_rfl) (by kernel_rfl) ?_
      simp only [opsAt, List.map_cons, List.map_nil, Array.getD_eq_getD_getElem?, List.getElem?_toArray, List.getElem?_cons_zero, List.getElem?_cons_succ, Option.getD_some]
      go_wp2_with fail
      refine HLN.out.mono ?_
      rintro r w' ⟨rfl, rfl⟩
      go_wp2_with fail
      refine ⟨fun _ => ⟨⟨_, (Below.refl _ _).drew⟩, rfl⟩, wpR_list [21, 22, 23, 24] _ _ (by kernel_rfl) ?_⟩
      simp only [opsAt, List.map_cons, List.map_nil, Array.getD_eq_getD_getElem?, List.getElem?_toArray, List.getElem?_cons_zero, List.getElem?_cons_succ, Option.getD_some]
      have HST1 := Lib.hid (HST.out.step ((Below.refl _ _).drew : Below W.heap.size W W.drew))
      have HOF := Lib.hid (of_any B2 (.slice va vn vc) rs t W.drew (HV.out.below HST1.out.bl))
      clear z1 z2 z3 z4 HLN
      go_wp2_with fail
      refine HOF.out.mono ?_
      rintro r w4 ⟨lv, rfl, hlv, hb4⟩
      obtain ⟨la, lc, hle⟩ : ∃ a c, lv = .slice a (ofR rs t).length c := by
        rcases hlv.head with ⟨e, h0⟩ | ⟨g', cap', _, e, _⟩
        · exact ⟨none, 0, by rw [e, h0]; rfl⟩
        · exact ⟨_, _, e⟩
      subst hle
      have HST4 := Lib.hid (HST1.out.step hb4)
      have HBW4 : Hid (Below W.heap.size W w4) := Lib.hid (HBW.out.drew.trans (hb4.mono HBW.out.size))
      have hlz : (((linesIn gs t).length : Int) != ((ofR rs t).length : Int)) = false := by rw [HLL.out]; simp
      have q1 := cell_of_row w4 ic 0 _ _ _ HST4.out.ix
      have q2 := cell_of_row w4 gbx 0 _ _ _ HST4.out.gx
      have q3 : w4.cell? ⟨gb, i, none⟩ = some (.string t) := Z3.out ⟨w4, HBW.out.drew.trans (hb4.mono HBW.out.size)⟩
      have HOF2 := Lib.hid (of_any B2 (.slice va vn vc) rs t w4 (HV.out.below HST4.out.bl))
      clear hlv hb4 HOF HST1
      go_wp2_with fail
      refine NoPanic.normal ?_
      go_wp2_with fail
      refine HOF2.out.mono ?_
      rintro r w5 ⟨lv, rfl, hlv, hb5⟩
      obtain ⟨la, lc, hle⟩ : ∃ a c, lv = .slice a (ofR rs t).length c := by
        rcases hlv.head with ⟨e, h0⟩ | ⟨g', cap', _, e, _⟩
        · exact ⟨none, 0, by rw [e, h0]; rfl⟩
        · exact ⟨_, _, e⟩
      subst hle
      have HST5 := Lib.hid (HST4.out.step hb5)
      have HLV := Lib.hid hlv
      obtain ⟨W6, hW6⟩ : ∃ W6, W6 = (w5.alloc (.cells #[.int .i64 0] 3)).alloc (.cells #[.slice la (ofR rs t).length lc] 49) := ⟨_, rfl⟩
      have hb6 : Below w5.heap.size w5 W6 := by rw [hW6]; exact ((Below.refl _ _).alloc (Nat.le_refl _) _).alloc (by simp) _
      have hs6 : W6.heap.size = w5.heap.size + 2 := by rw [hW6]; simp
      have HKB : Hid (W6.heap[w5.heap.size]? = some (.cells #[.int .i64 0] 3 (0, 0))) := Lib.hid (by rw [hW6, heap_alloc_old _ _ (by simp), heap_alloc_new])
      have HLB : Hid (W6.heap[w5.heap.size + 1]? = some (.cells #[.slice la (ofR rs t).length lc] 49 (0, 0))) := Lib.hid (by
        have := heap_alloc_new (w5.alloc (.cells #[.int .i64 0] 3)) (.cells #[.slice la (ofR rs t).length lc] 49)
        rw [hW6]
        simpa using this)
      have HST6 := Lib.hid (HST5.out.step hb6)
      have q1 := cell_of_row W6 ic 0 _ _ _ HST6.out.ix
      have q2 := cell_of_row W6 gbx 0 _ _ _ HST6.out.gx
      have hb56 : Below W.heap.size W W6 := (HBW4.out.trans ((hb5.trans (hb6.mono hb5.size)).mono HBW4.out.size))
      have q3 : W6.cell? ⟨gb, i, none⟩ = some (.string t) := Z3.out ⟨W6, hb56⟩
      have Q3 := Lib.hid q3
      have HB56 := Lib.hid hb56
      have HLV6 := Lib.hid (hlv.below hb6)
      have hb45 : w4.heap.size ≤ w5.heap.size := hb5.size
      have HLVK : Hid (∀ g, (Value.slice la (ofR rs t).length lc).ownBlock = some g → g < w5.heap.size) := Lib.hid fun g hg => (World.ownsRow.lt hlv.row g hg).2
      have HS6 := Lib.hid hs6
      rw [hW6] at q1 q2 q3
      clear hlv HOF2 HST4 HST5 hb5 hb6 hb56 hs6
      go_wp2_with fail
      rw [← hW6]
      clear hW6 q1 q2 q3
      refine (range_call (some ⟨ib, 0, none⟩) t (-1) 1099511627776 W6).mono ?_
      rintro r W8 ⟨rfl, hW8⟩
      have hb8 : Below W6.heap.size W6 W8 := by rw [← hW8]; exact ((((Below.refl _ _).alloc (Nat.le_refl _) _).alloc (by simp) _).alloc (by simp; omega) _).alloc (by simp; omega) _
      have c0 : W8.cell? ⟨W6.heap.size, 0, none⟩ = some (.pointer (some ⟨ib, 0, none⟩)) := by
        rw [← hW8]; exact Lib.cell?_alloc_some _ (Lib.cell?_alloc_some _ (Lib.cell?_alloc_some _ (cells_new W6 _ _ 0)))
      have c1 : W8.cell? ⟨W6.heap.size + 1, 0, none⟩ = some (.string t) := by
        rw [← hW8]; exact Lib.cell?_alloc_some _ (Lib.cell?_alloc_some _ (by simp))
      have c2 : W8.cell? ⟨W6.heap.size + 1 + 1, 0, none⟩ = some (.int .i64 (-1)) := by
        rw [← hW8]; exact Lib.cell?_alloc_some _ (by simpa using cells_new ((W6.alloc (.cells #[.pointer (some ⟨ib, 0, none⟩)] 47)).alloc (.cells #[.string t] 9)) #[.int .i64 (-1)] 3 0)
      have c3 : W8.cell? ⟨W6.heap.size + 1 + 1 + 1, 0, none⟩ = some (.int .i64 1099511627776) := by
        rw [← hW8]; simpa using cells_new (((W6.alloc (.cells #[.pointer (some ⟨ib, 0, none⟩)] 47)).alloc (.cells #[.string t] 9)).alloc (.cells #[.int .i64 (-1)] 3)) #[.int .i64 1099511627776] 3 0
      have HC := Lib.hid (And.intro c0 (And.intro c1 (And.intro c2 c3)))
      have HST8 := Lib.hid (HST6.out.step hb8)
      have HBW8 : Hid (Below W.heap.size W W8) := Lib.hid (HB56.out.trans (hb8.mono HB56.out.size))
      have HG8 : Hid (W8.cell? ⟨gb, i, none⟩ = some (.string t)) := Lib.hid ((hb8.cell (block_lt_of_cell Q3.out)).trans Q3.out)
      have HKB8 : Hid (W8.heap[w5.heap.size]? = some (.cells #[.int .i64 0] 3 (0, 0))) := Lib.hid ((hb8.block _ (by rw [HS6.out]; omega)).trans HKB.out)
      have HLB8 : Hid (W8.heap[w5.heap.size + 1]? = some (.cells #[.slice la (ofR rs t).length lc] 49 (0, 0))) := Lib.hid ((hb8.block _ (by rw [HS6.out]; omega)).trans HLB.out)
      have HLV8 := Lib.hid (HLV6.out.below hb8)
      obtain ⟨kb, hkb⟩ : ∃ kb, kb = w5.heap.size := ⟨_, rfl⟩
      obtain ⟨n6, hn6⟩ : ∃ n6, n6 = W6.heap.size := ⟨_, rfl⟩
      have hblk : ic < kb ∧ gbx < kb ∧ gb < kb ∧ w.heap.size ≤ kb := by
        have h1 := (Array.getElem?_eq_some_iff.1 HST.out.ix).1
        have h2 := (Array.getElem?_eq_some_iff.1 HST.out.gx).1
        have h3 := HBW4.out.size
        have h4 := hb45
        rw [hkb]
        have h5 := HST.out.bl.size
        exact ⟨by omega, by omega, by omega, by omega⟩
      have HWK : Hid (W.heap.size ≤ kb) := Lib.hid (by rw [hkb]; have := HBW4.out.size; omega)
      rw [← hkb] at HKB8 HLB8 HS6 HLVK ⊢
      rw [← hn6] at HC HS6 ⊢
      clear hW8 hb8 c0 c1 c2 c3 HST6 HKB HLB HLV6 hkb hn6
      go_wp2_with fail
      refine name_act fun a8 ha8 => ?_
      have hsl : RSlots a8.tmps ib (.slice va vn vc) w.heap.size gbx (.slice (some ⟨rb, 0, none⟩) (groupsR rs).length rcp) ic kb := by rw [ha8]; exact ⟨rfl, rfl, rfl, rfl, rfl, rfl, rfl, rfl, rfl⟩
      have HSL := Lib.hid hsl
      have HA8 := Lib.hid ha8
      have he62 : a8.eval (.tmp 62) = .func (.func 67) #[] #[.pointer (some ⟨n6, 0, none⟩), .pointer (some ⟨n6 + 1, 0, none⟩), .pointer (some ⟨n6 + 1 + 1, 0, none⟩), .pointer (some ⟨n6 + 1 + 1 + 1, 0, none⟩)] := by rw [ha8]; rfl
      have hkbl : kb < W8.heap.size := (Array.getElem?_eq_some_iff.1 HKB8.out).1
      have HX8 := Lib.hid (HX.out.below HST8.out.bl)
      clear hsl ha8
      have HRT : Hid (rangeP (linesIn gs t) (-1) 1099511627776 = (ofR rs t).map (·.m.p)) := Lib.hid (by
        rw [← rel_lines HX.out HR.out HO.out t]
        exact range_all fun m hm => HX.out.good_in hm)
      refine (wpIn_wide (n := 3)).1 (wpIn_rangeFunc_guard (F := Fence.wide) rfl (by omega) (gf := 67) he62 trivial (enters_of Tryz.func67 (by kernel_rfl) rfl) (encs := fun x : ML => #[.agg (lineCells x.g)]) (Gd := GdL (rangeP (linesIn gs t) (-1) 1099511627776)) (Kp := KpL) (S := fun xs => xs.map (·.p) = rangeP (linesIn gs t) (-1) 1099511627776)
        (fun W' hb' hs' => rangeSeq_any _ _ _ _ _ B ib M mc gs t (-1) 1099511627776 W' ((hb'.cell (block_lt_of_cell HC.out.1)).trans HC.out.1) ((hb'.cell (block_lt_of_cell HC.out.2.1)).trans HC.out.2.1) ((hb'.cell (block_lt_of_cell HC.out.2.2.1)).trans HC.out.2.2.1) ((hb'.cell (block_lt_of_cell HC.out.2.2.2)).trans HC.out.2.2.2) (HX8.out.below hb'))
        ?kl ?kr (fun _ => rfl) (fun _ pre X => KbAt W8 kb pre.length X) (fun _ _ _ _ => False) (fun B pre X Y hi _ _ hb => hi.beside hkbl hb) (fun _ _ _ _ _ h _ _ _ => h) (fun X hb _ => ⟨Kept.of_below hb, (hb.block kb hkbl).trans HKB8.out⟩)
        (SameAx (rangeP (linesIn gs t) (-1) 1099511627776) ib (.slice va vn vc) w.heap.size gbx (.slice (some ⟨rb, 0, none⟩) (groupsR rs).length rcp) ic kb W8) ?assign ?hax ?ka ?body ?done (fun _ _ _ _ _ h _ => h.elim) (fun _ _ _ _ h => h.elim))
      case kl =>
        rintro B x X Y Z l o h1 h2 hk rfl
        have hsz : (X.putObj l o).heap.size = X.heap.size := by simp [World.putObj]
        exact ⟨by have := hk.1; omega, fun k hA hB hne => (hk.2 k hA hB hne).trans (World.putObj_heap_other (by omega))⟩
      case kr =>
        rintro B x X Y l o h1 h2 hk
        have hsz : (Y.putObj l o).heap.size = Y.heap.size := by simp [World.putObj]
        exact ⟨by have := hk.1; omega, fun k hA hB hne => (World.putObj_heap_other (by omega)).trans (hk.2 k hA hB hne)⟩
      case ka =>
        rintro B x X Y Z hb hBX hk
        exact ⟨Nat.le_trans hb.size hk.1, fun k hA hB hne => (hk.2 k hA hB hne).trans (hb.block k (by omega))⟩
      case hax =>
        rintro B pre x a' X l o ⟨h1, h2, h3, h4, yb, h5, h6, h7⟩ hl1 hl2
        have hbs : Beside W8.heap.size (W8.heap.size + 2) X (X.putObj l o) := Beside.putObj X l o ⟨hl1, hl2⟩
        refine ⟨h1.beside hkbl hbs, ⟨h2.here, h2.past, h2.refs.block fun k hk => World.putObj_heap_other (by have := (h2.refs.lt hk).1; omega), h2.lt⟩, h3, h4, yb, ?_, h6, h7⟩
        exact (World.putObj_heap_other (by omega)).trans h5
      case assign =>
        intro l B pre x X K hi hB hBX hgd hK
        have hsl2 : RSlots (a8.tmps.setIfInBounds 63 (.agg (lineCells x.g))) ib (.slice va vn vc) w.heap.size gbx (.slice (some ⟨rb, 0, none⟩) (groupsR rs).length rcp) ic kb := HSL.out.set (by omega) _
        have h63 : (a8.tmps.setIfInBounds 63 (.agg (lineCells x.g))).getD 63 undef = .agg (lineCells x.g) := by
          have := HSL.out.size
          simp [this]
        rw [foldl_one]
        generalize a8.tmps.setIfInBounds 63 (.agg (lineCells x.g)) = t63 at hsl2 h63
        have HS2 := Lib.hid hsl2
        obtain ⟨f', hf', hft⟩ := hsl2.out
        have h63' : f' 63 = .agg (lineCells x.g) := (hf' 63).trans h63
        rw [hft, h63']
        have hone := hgd.refs.one
        have hft2 := fits_line (g := x.g) hone
        have hzs : ((lineCells zeroLine).size == 38) = true := by rw [lineCells_size]; rfl
        have HK := Lib.hid hK
        have HI8 := Lib.hid hi
        have HGD := Lib.hid hgd
        clear hK hi hgd hft hf' h63 h63' hsl2
        gi_wp2
        have hba : Below X.heap.size X (X.alloc (.cells (lineCells x.g) 34)) := (Below.refl _ _).alloc (Nat.le_refl _) _
        refine HK.out _ _ ⟨HI8.out.later hba, HGD.out.below hba, ⟨rfl, rfl, rfl, rfl, rfl, rfl, rfl, rfl, rfl⟩, rfl, X.heap.size, heap_alloc_new _ _, by omega, rfl⟩ hba
      case body =>
        rintro l B pre x a' X rfl hB hBX ⟨hcnt, hgd, hsl, hdf, yb, hyv, hyb, h10⟩
        obtain ⟨tm, df⟩ := a'
        obtain rfl : df = [] := hdf
        obtain ⟨f', hf', hft⟩ := hsl.out
        have h10' : f' 10 = .pointer (some ⟨yb, 0, none⟩) := (hf' 10).trans h10
        simp only at hft
        rw [h10'] at hft
        subst hft
        clear hf' h10 h10' hsl
        -- the line of the reference
        have hhere := hgd.here
        rw [HRT.out, List.getElem?_map] at hhere
        obtain ⟨r0, hr0, hr0p⟩ := Option.map_eq_some_iff.1 hhere
        obtain ⟨hkl, hgk⟩ := List.getElem?_eq_some_iff.1 hr0
        have hr0m : r0 ∈ rs ∧ r0.s = t := ofR_mem.1 (List.mem_of_getElem? hr0)
        have hgood : pErr x.p = 0 := by
          obtain ⟨m, hm, he⟩ := (HR.out t r0.m.p).2 ⟨r0, hr0m.1, hr0m.2, rfl⟩
          rw [← hr0p, ← he]
          exact HX.out.good_in hm
        have hrl := refs_len hgood
        have hbX : Below w.heap.size w X := HST8.out.bl.trans (hcnt.kept.below HST8.out.bl.size (fun k hk => by rw [List.mem_singleton.1 hk]; exact hblk.2.2.2))
        have hI0 : IdsAt X r0.m.v x.p.ids := by rw [← hr0p]; exact (HI.out r0 hr0m.1).below hbX
        rcases HLV8.out.head with ⟨_, e0⟩ | ⟨lg, lcap, _, hlve, hlB, hll8, hlle, _, _, hlcell⟩
        · rw [e0] at hkl; cases hkl
        have hlk : lg < kb := HLVK.out lg (by rw [hlve]; rfl)
        cases hlve
        have hlX : ∀ j u, (flatR (ofR rs t))[j]? = some u → X.cell? ⟨lg, j, none⟩ = some u := fun j u hu => (cell_of_same (a := ⟨lg, j, none⟩) (hcnt.old hll8 (Nat.ne_of_lt hlk))).trans (hlcell j u hu)
        obtain ⟨i1, i2⟩ := rAt_rd hlX hkl
        rw [hgk] at i2
        have hgg : r0.m.g = { x.g with refs := r0.m.v } := by
          unfold ML.g
          rw [hr0p]
        rw [hgg, hr0m.2] at i2
        have y1 := (Array.getElem?_eq_some_iff.1 HST8.out.ix).1
        have y2 := (Array.getElem?_eq_some_iff.1 HST8.out.gx).1
        have e1 : X.cell? ⟨kb, 0, none⟩ = some (.int .i64 pre.length) := cell_of_row X kb 0 _ _ _ hcnt.cell
        have e2 : X.cell? ⟨kb + 1, 0, none⟩ = some (.slice (some ⟨lg, 0, none⟩) (ofR rs t).length lc) := cell_of_row X (kb + 1) 0 _ _ _ ((hcnt.old (Array.getElem?_eq_some_iff.1 HLB8.out).1 (by omega)).trans HLB8.out)
        have e3 : X.cell? ⟨gbx, 0, none⟩ = some (.slice (some ⟨gb, 0, none⟩) (groupsR rs).length gc) := cell_of_row X gbx 0 _ _ _ ((hcnt.old y2 (by omega)).trans HST8.out.gx)
        have e4 : X.cell? ⟨ic, 0, none⟩ = some (.int .i64 i) := cell_of_row X ic 0 _ _ _ ((hcnt.old y1 (by omega)).trans HST8.out.ix)
        have e5 : X.cell? ⟨gb, i, none⟩ = some (.string t) := (cell_of_same (a := ⟨gb, i, none⟩) (hcnt.old (k := gb) (by omega) (by omega))).trans HG8.out
        obtain ⟨e6, e7⟩ := hyv.rd
        have hklz : (pre.length : Int) < ((ofR rs t).length : Int) := by omega
        have HGD := Lib.hid hgd
        have HCN := Lib.hid hcnt
        have HI0 := Lib.hid hI0
        have HBX := Lib.hid hbX
        clear hgd hcnt hI0 hbX hlX hlcell hr0 hr0p hgk hr0m hgood hhere hgg hyv hlle hlB
        gi_wp2_with fail
        refine wpIn_region_stages (by kernel_rfl) (fun ⟨_, _, h⟩ => h) (by kernel_rfl) ?_
        have hbd : Below X.heap.size X X.drew := (Below.refl _ _).drew
        have HBD : Hid (∀ z : Later X.drew, Below X.heap.size X z.1) := Lib.hid fun z => hbd.trans (z.2.mono hbd.size)
        have z1 : ∀ z : Later X.drew, z.1.cell? ⟨kb, 0, none⟩ = some (.int .i64 pre.length) := fun z => ((HBD.out z).cell (block_lt_of_cell e1)).trans e1
        have z2 : ∀ z : Later X.drew, z.1.cell? ⟨kb + 1, 0, none⟩ = some (.slice (some ⟨lg, 0, none⟩) (ofR rs t).length lc) := fun z => ((HBD.out z).cell (block_lt_of_cell e2)).trans e2
        have z3 : ∀ z : Later X.drew, z.1.cell? ⟨gbx, 0, none⟩ = some (.slice (some ⟨gb, 0, none⟩) (groupsR rs).length gc) := fun z => ((HBD.out z).cell (block_lt_of_cell e3)).trans e3
        have z4 : ∀ z : Later X.drew, z.1.cell? ⟨ic, 0, none⟩ = some (.int .i64 i) := fun z => ((HBD.out z).cell (block_lt_of_cell e4)).trans e4
        have z5 : ∀ z : Later X.drew, z.1.cell? ⟨gb, i, none⟩ = some (.string t) := fun z => ((HBD.out z).cell (block_lt_of_cell e5)).trans e5
        have z6 : ∀ z : Later X.drew, okCells z.1 ⟨yb, 0, none⟩ 38 = true := fun z => Later.ok e6 ⟨z.1, HBD.out z⟩
        have z7 : ∀ z : Later X.drew, rdCells z.1 ⟨yb, 0, none⟩ 38 = lineCells x.g := fun z => (Later.rd e6 ⟨z.1, HBD.out z⟩).trans e7
        have z8 : ∀ z : Later X.drew, okCells z.1 ⟨lg, pre.length * 39, none⟩ 39 = true := fun z => Later.ok i1 ⟨z.1, HBD.out z⟩
        have z9 : ∀ z : Later X.drew, rdCells z.1 ⟨lg, pre.length * 39, none⟩ 39 = rlineCells t { x.g with refs := r0.m.v } := fun z => (Later.rd i1 ⟨z.1, HBD.out z⟩).trans i2
        clear e2 e3 e4 e5 e6 e7 i1 i2
        generalize hXd : X.drew = Xd at hbd HBD z1 z2 z3 z4 z5 z6 z7 z8 z9 ⊢
        have HBXd := Lib.hid hbd
        clear hbd hXd
        refine wp_stage [0, 1] [2, 3, 4] 13 (fun w' => ∃ z : Later Xd, w' = z.1) (by kernel_rfl) (by kernel_rfl) (by kernel_rfl) rfl rfl ⟨⟨_, Below.refl _ _⟩, rfl⟩ ?_
        simp only [opsAt, List.map_cons, List.map_nil, Array.getD_eq_getD_getElem?, List.getElem?_toArray, List.getElem?_cons_zero, List.getElem?_cons_succ, Option.getD_some]
        repeat (go_big_quiet_step (fail))
        refine wpQuiet_nil ?_
        refine wpN_cons true rfl (by kernel_rfl) ?_
        go_wp2_with fail
        refine ⟨fun _ => ⟨⟨_, Below.refl _ _⟩, rfl⟩, wpN_list [3, 4] _ _ (by kernel_rfl) ?_⟩
        simp only [opsAt, List.map_cons, List.map_nil, Array.getD_eq_getD_getElem?, List.getElem?_toArray, List.getElem?_cons_zero, List.getElem?_cons_succ, Option.getD_some]
        go_wp2
        refine NoPanic.normal ?_
        rw [QS_normal]
        have hdg : decide ((ofR rs t).length ≤ pre.length) = false := decide_eq_false (by omega)
        simp only [hdg]
        clear hdg
        refine wp_stage [5, 6, 7, 8, 9, 11, 12, 13, 14] [10, 15, 16, 17] 0 (fun w' => ∃ z : Later Xd, w' = z.1) (by kernel_rfl) (by kernel_rfl) (by kernel_rfl) rfl rfl ⟨⟨_, Below.refl _ _⟩, rfl⟩ ?_
        simp only [opsAt, List.map_cons, List.map_nil, Array.getD_eq_getD_getElem?, List.getElem?_toArray, List.getElem?_cons_zero, List.getElem?_cons_succ, Option.getD_some]
        repeat (go_big_quiet_step (fail))
        refine wpQuiet_nil ?_
        clear z1 z2 z3 z4 z5 z6 z7 z8 z9
        refine wpN_cons true rfl (by kernel_rfl) ?_
        have honx := HGD.out.refs.one
        have hcs : x.g.refs.cells = #[x.g.refs] := by
          obtain ⟨a', c', he, _⟩ := HGD.out.refs.at
          show x.v.cells = #[x.v]
          rw [he]; rfl
        go_wp2_with fail
        refine (back_any t x.g Xd hcs honx).mono ?_
        rintro r X2 ⟨rfl, hb2⟩
        have HB2 := Lib.hid (HBXd.out.trans (hb2.mono HBXd.out.size) : Below X.heap.size X X2)
        go_wp2_with fail
        refine ⟨fun _ => ⟨⟨_, hb2⟩, rfl⟩, wpN_list [15, 16, 17] _ _ (by kernel_rfl) ?_⟩
        clear hb2
        simp only [opsAt, List.map_cons, List.map_nil, Array.getD_eq_getD_getElem?, List.getElem?_toArray, List.getElem?_cons_zero, List.getElem?_cons_succ, Option.getD_some]
        have HSM := Lib.hid (same_true t x.g x.v r0.m.v x.p.ids X2 (HGD.out.refs.at.below HB2.out) (HI0.out.below HB2.out) (by omega))
        go_wp2_with fail
        refine HSM.out.mono ?_
        rintro r X3 ⟨rfl, hb3⟩
        have HB3 := Lib.hid (HB2.out.trans (hb3.mono HB2.out.size) : Below X.heap.size X X3)
        clear hb3 HSM HB2 HBXd
        go_wp2
        refine NoPanic.normal ?_
        rw [QS_normal]
        refine wpSt_end (by kernel_rfl) ?_
        have hk3 : X3.heap[kb]? = some (.cells #[.int .i64 pre.length] 3 (0, 0)) := (HB3.out.block kb (Array.getElem?_eq_some_iff.1 HCN.out.cell).1).trans HCN.out.cell
        have g1 := cell_of_row X3 kb 0 _ _ _ hk3
        have g2 := frozen_of_row X3 kb 0 _ _ hk3
        have hpl : pre.length ≤ 100000 := by omega
        clear e1
        gi_wp2
        have hsz : (X3.setCell ⟨kb, 0, none⟩ (.int .i64 ((pre.length : Int) + 1))).heap.size = X3.heap.size := by simp
        have ho : ∀ k, k ≠ kb → (X3.setCell ⟨kb, 0, none⟩ (.int .i64 ((pre.length : Int) + 1))).heap[k]? = X3.heap[k]? := fun k hk => heap_setCell_other X3 ⟨kb, 0, none⟩ k _ hk
        have hc := heap_setCell_same X3 kb 0 _ _ (.int .i64 ((pre.length : Int) + 1)) hk3
        refine ⟨⟨by rw [hsz]; exact HB3.out.size, fun k hk hk2 => ?_⟩, ⟨by rw [hsz]; exact HB3.out.size, fun k hA hB' _ => ?_⟩, ⟨⟨HB3.out.os.trans HCN.out.kept.os, HB3.out.tape.trans HCN.out.kept.tape, HB3.out.output.trans HCN.out.kept.output, by rw [hsz]; exact Nat.le_trans HCN.out.kept.size HB3.out.size, fun k hk hn => ?_⟩, ?_⟩⟩
        · exact (ho k (by omega)).trans (HB3.out.block k (by omega))
        · exact (ho k (by omega)).trans (HB3.out.block k (by omega))
        · have hn' : k ≠ kb := by simpa using hn
          exact (ho k hn').trans ((HB3.out.block k (Nat.lt_of_lt_of_le hk HCN.out.kept.size)).trans (HCN.out.old hk hn'))
        · rw [hc, List.length_append, List.length_singleton]
          simp
      case done =>
        intro B xs W9 hB hBW hS hi hmk
        have hxl : xs.length = (ofR rs t).length := by
          have := congrArg List.length hS
          rw [HRT.out, List.length_map, List.length_map] at this
          exact this
        have hbK : Below kb W8 W9 := hi.kept.below (by omega) (fun k hk => by rw [List.mem_singleton.1 hk]; exact Nat.le_refl _)
        have hWk : W.heap.size ≤ kb := HWK.out
        have HB9 : Hid (Below W.heap.size W W9) := Lib.hid (HBW8.out.trans (hbK.mono hWk))
        have HST9 := Lib.hid (HST.out.step HB9.out)
        have g1 := cell_of_row W9 kb 0 _ _ _ hi.cell
        have g2 : W9.cell? ⟨kb + 1, 0, none⟩ = some (.slice la (ofR rs t).length lc) := cell_of_row W9 (kb + 1) 0 _ _ _ ((hi.old (Array.getElem?_eq_some_iff.1 HLB8.out).1 (by omega)).trans HLB8.out)
        have g3 := cell_of_row W9 ic 0 _ _ _ HST9.out.ix
        rw [hxl] at g1
        have HMK := Lib.hid hmk
        have HW89 := Lib.hid hi.kept.size
        clear hS hi hmk hbK hxl
        rw [HA8.out]
        go_wp2
        have hba : Below W9.heap.size W9 (W9.alloc (.cells #[.int .i64 ((i : Int) + 1)] 3)) := (Below.refl _ _).alloc (Nat.le_refl _) _
        have h9 := HST9.out.step hba
        have hDl : ∀ D ∈ ds, D < W.heap.size := fun D hD => (Array.getElem?_eq_some_iff.1 (HST.out.ms D hD)).1
        have hst10 : SameSt w gbx (some ⟨gb, 0, none⟩) (some ⟨rb, 0, none⟩) gc (groupsR rs) (W8.heap.size :: ds) W9.heap.size (i + 1) (W9.alloc (.cells #[.int .i64 ((i : Int) + 1)] 3)) := by
          refine ⟨h9.bl, h9.rc, h9.gx, h9.gr, h9.rr, heap_alloc_new _ _, fun D hD => ?_, ?_, fun D hD => ?_⟩
          · rcases List.mem_cons.1 hD with rfl | hD
            · exact (hba.block _ (Array.getElem?_eq_some_iff.1 HMK.out).1).trans HMK.out
            · exact h9.ms D hD
          · refine List.nodup_cons.2 ⟨fun hD => ?_, h9.md⟩
            have := hDl _ hD
            omega
          · rcases List.mem_cons.1 hD with rfl | hD
            · have := hblk.2.2.2; omega
            · exact h9.mb D hD
        exact ⟨⟨_, _, i + 1, by omega, hst10, rfl, rfl, rfl, rfl, rfl, rfl, rfl, rfl⟩, HMU.out (W8.heap.size :: ds) W9.heap.size _ _ ⟨by omega, hst10, rfl, rfl, rfl, rfl, rfl, rfl, rfl, rfl⟩ hlt⟩
    · have hltz : ¬ (i : Int) < ((groupsR rs).length : Int) := by omega
      have k3 := cell_of_row W w.heap.size 0 _ _ _ hst.rc
      have k4 := frozen_of_row W w.heap.size 0 _ _ hst.rc
      clear hst
      go_wp2
      refine leaves_marks ds _ HST.out.md (fun D hD => ?_) (fun w' e1 e2 e3 e4 e5 => ?_)
      · exact (heap_setCell_other W ⟨w.heap.size, 0, none⟩ D (.bool true) (by have := HST.out.mb D hD; simp; omega)).trans (HST.out.ms D hD)
      · have hn : w.heap.size ∉ ds := fun hD => by have := HST.out.mb _ hD; omega
        have hC := heap_setCell_same W w.heap.size 0 _ _ (.bool true) HST.out.rc
        have hC5 := (e5 _ hn).trans hC
        have hc5 := cell_of_row _ w.heap.size 0 _ _ _ hC5
        have hbs : Below w.heap.size w (W.setCell ⟨w.heap.size, 0, none⟩ (.bool true)) := HST.out.bl.setCell (p := ⟨w.heap.size, 0, none⟩) (by simp) _
        refine ⟨.bool true, ?_, rfl, ⟨e1.trans hbs.os, e2.trans hbs.tape, e3.trans hbs.output, by rw [e4]; exact hbs.size, fun k hk => (e5 k (fun hD => by have := HST.out.mb _ hD; omega)).trans (hbs.block k hk)⟩⟩
        exact results_cell1' Tryz.results27 Tryz.isAgg4 _ _ ⟨w.heap.size, 0, none⟩ _ rfl hc5

end Go.Proofs.YtdjaphcelpchaaaGreatDoor

namespace Go.Proofs.YtdjaphcelpchaaaGreatDoor
open Go Go.RowKit Go.Proofs

theorem ex_load_op (ρ : Operand → Value) (d : Option Tmp) (x : Operand) (ty : TypeId) (pos : String) (af : Array Edge) (g : Option (Nat × Bool)) (w : World) :
    Sem.run Tryz.prog (execOp ρ ⟨d, .load 53 x, ty, pos, af, g⟩) w = ldRes Tryz.prog 53 w (ρ x) := rfl
theorem ld_op (w : World) (a : Addr) (h : okCells w a 40 = true) : ldRes Tryz.prog 53 w (.pointer (some a)) = .ok (.value (.agg (rdCells w a 40))) w := ldRes_agg Tryz.isAgg53 Tryz.sizeOf53 w a h

attribute [local go_sem ↓] ex_load_id ex_store_id ex_load_line ex_store_line ex_load_rline ex_store_rline ex_alloc_line ex_build_line ex_alloc_rline ex_build_rline ex_load_op

attribute [local go_sem] ld_id st_id ld_line st_line ld_rline st_rline guard_id okCells_drew rdCells_drew okCells_drewN rdCells_drewN rowOk_drew rowOk_cells okCells_cells rdCells_cells setRow_drew setRow_new setRow_past ld_op

/-- An operation of a law's argument. -/
structure MO where
  k : Nat
  s : ByteArray
  m : ML
def opList (o : MO) : List Value := .int .u8 o.k :: .string o.s :: lineList o.m.g
theorem opList_length (o : MO) : (opList o).length = 40 := by simp [opList, lineList_length]
/-- A slice of operations in memory. -/
structure OpsAt (w : World) (v : Value) (os : List MO) : Prop where
  row : ∃ a c, v = .slice a os.length c ∧ os.length ≤ c ∧ (os ≠ [] → ∃ b off, a = some ⟨b, off, none⟩ ∧ b < w.heap.size ∧ ∀ j (hj : j < os.length) i u, (opList os[j])[i]? = some u → w.cell? ⟨b, off + j * 40 + i, none⟩ = some u)
  few : os.length ≤ 140737488351232
  kind : ∀ o ∈ os, o.k < 256
  ids : ∀ o ∈ os, IdsAt w o.m.v o.m.p.ids
  len : ∀ o ∈ os, o.m.p.ids.length ≤ maxLen
  names : ∀ o ∈ os, o.s.size ≤ maxLen / 4 ∧ o.m.p.name.size ≤ maxLen / 4 ∧ o.m.p.subject.size ≤ maxLen / 4
theorem OpsAt.below {w w' : World} {v : Value} {os : List MO} (h : OpsAt w v os) (hb : Below w.heap.size w w') : OpsAt w' v os where
  row := by
    obtain ⟨a, c, e, hc, hr⟩ := h.row
    refine ⟨a, c, e, hc, fun hn => ?_⟩
    obtain ⟨b, off, e2, hl, hcell⟩ := hr hn
    exact ⟨b, off, e2, Nat.lt_of_lt_of_le hl hb.size, fun j hj i u hu => (hb.cell (p := ⟨b, off + j * 40 + i, none⟩) hl).trans (hcell j hj i u hu)⟩
  few := h.few
  kind := h.kind
  ids := fun o ho => (h.ids o ho).below hb
  len := h.len
  names := h.names
/-- Whether a line is small. -/
def smallB (s : ByteArray) (m : ML) : Bool := decide (m.p.ids.length ≤ 30) && decide (s.size + m.p.name.size + m.p.subject.size ≤ 600)
def fitsB (os : List MO) : Bool := decide (os.length ≤ 40) && os.all fun o => smallB o.s o.m
theorem opAt_rd {w : World} {b off : Nat} {os : List MO} (h : ∀ j (hj : j < os.length) i u, (opList os[j])[i]? = some u → w.cell? ⟨b, off + j * 40 + i, none⟩ = some u) {j : Nat} (hj : j < os.length) : okCells w ⟨b, off + j * 40, none⟩ 40 = true ∧ rdCells w ⟨b, off + j * 40, none⟩ 40 = opCells os[j].k os[j].s os[j].m.g := by
  have := rd_of_cells (w := w) (a := ⟨b, off + j * 40, none⟩) (cs := opList os[j]) (fun i v hi => by rw [Addr.add_lit]; exact h j hj i v hi)
  rwa [opList_length] at this
theorem opAt_line {w : World} {b off : Nat} {os : List MO} (h : ∀ j (hj : j < os.length) i u, (opList os[j])[i]? = some u → w.cell? ⟨b, off + j * 40 + i, none⟩ = some u) {j : Nat} (hj : j < os.length) : okCells w ⟨b, off + j * 40 + 1, none⟩ 39 = true ∧ rdCells w ⟨b, off + j * 40 + 1, none⟩ 39 = rlineCells os[j].s os[j].m.g := by
  have := rd_of_cells (w := w) (a := ⟨b, off + j * 40 + 1, none⟩) (cs := .string os[j].s :: lineList os[j].m.g) (fun i v hi => by
    rw [Addr.add_lit, Nat.add_assoc (off + j * 40) 1 i, Nat.add_comm 1 i]
    exact h j hj (i + 1) v (by unfold opList; rw [List.getElem?_cons_succ]; exact hi))
  rw [List.length_cons, lineList_length] at this
  exact this

set_option maxRecDepth 100000 in
set_option maxHeartbeats 4000000 in
theorem fits_any (v : Value) (os : List MO) (w : World) (h : OpsAt w v os) :
    Calls Tryz.prog 24 #[v] w fun r w' => r = .returned (.bool (fitsB os)) ∧ Below w.heap.size w w' := by
  obtain ⟨a, c, rfl, hc, hr⟩ := h.row
  have hfew := h.few
  by_cases h40 : os.length ≤ 40
  · have h40z : (os.length : Int) ≤ 40 := by omega
    have HX := Lib.hid h
    clear h
    go_enter Tryz.func24, Tryz.ntmps24
    go_wp2
    go_loopw [3] (fun i wr => ∃ k : Nat, k ≤ os.length ∧ i = .int .i64 k ∧ Hid (∀ j (hj : j < os.length), j < k → smallB os[j].s os[j].m = true) ∧ Hid (Below w.heap.size w wr)) (fun i _ => os.length - (intOf i).toNat)
    case atStart => exact ⟨0, by omega, rfl, Lib.hid fun _ _ h => by omega, Lib.hid (Below.refl _ _)⟩
    case round =>
      obtain ⟨k, hk, rfl, HS, HB⟩ := hrel
      by_cases hlt : k < os.length
      · have hltz : (k : Int) < (os.length : Int) := by omega
        have hne : os ≠ [] := fun e => by rw [e] at hlt; cases hlt
        obtain ⟨b, off, rfl, hbl, hcell⟩ := hr hne
        obtain ⟨o1, d1⟩ := opAt_line (w := wr) (b := b) (off := off) (os := os) (fun j hj i u hu => (HB.out.cell (p := ⟨b, off + j * 40 + i, none⟩) hbl).trans (hcell j hj i u hu)) hlt
        have hmem : os[k] ∈ os := List.getElem_mem hlt
        obtain ⟨ra, rc, hrefs, _, _⟩ := HX.out.ids _ hmem
        obtain ⟨n1, n2, n3⟩ := HX.out.names _ hmem
        have HSM := Lib.hid (small_any os[k].s os[k].m.g wr ra _ rc hrefs (HX.out.len _ hmem) n1 n2 n3)
        have HNX : Hid (smallB os[k].s os[k].m = true → ∀ j (hj : j < os.length), j < k + 1 → smallB os[j].s os[j].m = true) := Lib.hid fun h j hj hjk => by
          by_cases e : j = k
          · subst e; exact h
          · exact HS.out j hj (by omega)
        have HNO : Hid (smallB os[k].s os[k].m = false → fitsB os = false) := Lib.hid fun h => by
          unfold fitsB
          rw [Bool.and_eq_false_iff]
          right
          rw [List.all_eq_false]
          exact ⟨_, hmem, by rw [h]; simp⟩
        have HSB : Hid (smallB os[k].s os[k].m = (decide (os[k].m.p.ids.length ≤ 30) && decide (os[k].s.size + os[k].m.g.name.size + os[k].m.g.subject.size ≤ 600))) := Lib.hid rfl
        generalize os[k] = o at o1 d1 HSM HNX HNO HSB
        rw [← HSB.out] at HSM
        clear hrefs n1 n2 n3 hmem hcell hr HS
        go_wp2_with fail
        refine HSM.out.mono ?_
        rintro r w1 ⟨rfl, hb1⟩
        have HB1 := Lib.hid (HB.out.trans (hb1.mono HB.out.size) : Below w.heap.size w w1)
        clear hb1 HSM
        cases hsm : smallB o.s o.m with
        | true =>
          have HN1 := Lib.hid (HNX.out hsm)
          clear HNX HNO hsm
          go_wp2
          go_roundw
          case rel => exact ⟨k + 1, by omega, by go_num, HN1, HB1⟩
          case measure => simp [intOf]; omega
        | false =>
          have HN1 := Lib.hid (HNO.out hsm)
          clear HNX HNO hsm
          go_wp2
          go_ret
          exact ⟨by rw [HN1.out]; rfl, HB1.out⟩
      · have HE : Hid (fitsB os = true) := Lib.hid (by
          unfold fitsB
          rw [Bool.and_eq_true, decide_eq_true_eq, List.all_eq_true]
          refine ⟨h40, fun o ho => ?_⟩
          obtain ⟨j, hj, rfl⟩ := List.getElem_of_mem ho
          exact HS.out j hj (by omega))
        go_wp2
        go_ret
        exact ⟨by rw [HE.out]; rfl, HB.out⟩
  · have h40z : (40 : Int) < (os.length : Int) := by omega
    have HE : Hid (fitsB os = false) := Lib.hid (by unfold fitsB; rw [decide_eq_false h40]; rfl)
    go_enter Tryz.func24, Tryz.ntmps24
    go_wp2
    go_ret
    exact ⟨by rw [HE.out]; rfl, Below.refl _ _⟩

/-- An index without lines. -/
theorem IdxAt.fresh (B : Nat) (w : World) (hB : B ≤ w.heap.size) : IdxAt B ((w.alloc (.map #[] 0)).alloc (.cells #[.map (some w.heap.size), .int .i64 0] 104)) (w.heap.size + 1) w.heap.size [] 0 where
  blk := by
    have := heap_alloc_new (w.alloc (.map #[] 0)) (.cells #[.map (some w.heap.size), .int .i64 0] 104)
    simpa [total] using this
  map := by
    unfold MapAt
    rw [heap_alloc_old _ _ (by simp), heap_alloc_new]
    rfl
  names := List.nodup_nil
  grps := fun _ h => by cases h
  apart := by simp [foot]
  born := List.nodup_nil
  young := fun _ h => by cases h
  few := by simp [total]
  ibB := by omega
  MB := hB

/-- What a law's loop over operations keeps: the index, the reference's list; nothing old has turned. -/
structure PlaySt (w : World) (ib M : Nat) (gs : List MG) (mc : Nat) (v : Value) (rs : List MR) (n : Nat) (W : World) : Prop where
  bl : Below w.heap.size w W
  idx : IdxAt w.heap.size W ib M gs mc
  refs : RefsAt w.heap.size W v rs
  rel : RelR gs rs
  ord : ordR rs
  ids : ∀ r ∈ rs, IdsAt w r.m.v r.m.p.ids
  tot : total gs ≤ n
  len : rs.length ≤ n
theorem PlaySt.later {w : World} {ib M : Nat} {gs : List MG} {mc : Nat} {v : Value} {rs : List MR} {n : Nat} {W W' : World} (h : PlaySt w ib M gs mc v rs n W) (hb : Below W.heap.size W W') : PlaySt w ib M gs mc v rs n W' :=
  ⟨h.bl.trans (hb.mono h.bl.size), h.idx.below hb, h.refs.below hb, h.rel, h.ord, h.ids, h.tot, h.len⟩
theorem PlaySt.start {w : World} {W : World} (hb : Below w.heap.size w W) : PlaySt w (W.heap.size + 1) W.heap.size [] 0 (.slice none 0 0) [] 0 ((W.alloc (.map #[] 0)).alloc (.cells #[.map (some W.heap.size), .int .i64 0] 104)) :=
  ⟨(hb.alloc hb.size _).alloc (by have := hb.size; simp; omega) _, IdxAt.fresh _ _ hb.size, RefsAt.nil _ _, RelR.nil, .nil, fun _ h => (by cases h), by simp [total], Nat.le_refl _⟩
theorem IdxAt.foot_base {B : Nat} {w : World} {ib M mc : Nat} {gs : List MG} (h : IdxAt B w ib M gs mc) : ∀ k ∈ foot ib M gs, B ≤ k := by
  exact fun k hk => (h.foot_lt k hk).1
theorem PlaySt.next {w : World} {ib M : Nat} {gs : List MG} {mc : Nat} {v : Value} {rs : List MR} {n : Nat} {W W' : World} {s : ByteArray} {p : PLine} {v0 : Value} {r : Ending} {gs' : List MG} {mc' : Nat} {v' : Value} {rs' : List MR} (h : PlaySt w ib M gs mc v rs n W) (hI : IdsAt w v0 p.ids) (hd : DoPost w.heap.size w.heap.size ib M gs rs s p v0 W r W' gs' mc' v' rs') : PlaySt w ib M gs' mc' v' rs' (n + 1) W' where
  bl := h.bl.trans (hd.kept.below h.bl.size h.idx.foot_base)
  idx := hd.idx
  refs := hd.refs
  rel := hd.rel
  ord := hd.ord
  ids := fun r hr => by
    rcases hd.mem r hr with h1 | ⟨h1, _⟩
    · exact h.ids r h1
    · rw [h1]; exact hI
  tot := by have := hd.tot; have := h.tot; omega
  len := by have := hd.len; have := h.len; omega

end Go.Proofs.YtdjaphcelpchaaaGreatDoor

namespace Go.Proofs.YtdjaphcelpchaaaGreatDoor
open Go Go.RowKit Go.Proofs Go.ChangeShapes Go.WideShapes Go.ChangeAt

section
variable {H : Type} {enc : TypeId × Value → H} {W : World} {base fuel : Nat} {sp : Nat → Bool} {held : Bool}

theorem cells_op : Tryz.prog.cellsOf 53 = 40 := by kernel_rfl
theorem bytes_op : 0 < Tryz.prog.bytesOf 53 := of_decide_eq_true (by kernel_rfl)
theorem weights_all_mem {P : Program} {e : TypeId} : ∀ {l : List (DataW H)} {d : DataW H}, d ∈ l → ∀ n ∈ d.weights P e, n ∈ DataW.weightsAll P e l
  | x :: l, d, hd, n, hn => by
    unfold DataW.weightsAll
    rcases List.mem_cons.1 hd with rfl | hd
    · exact List.mem_append_left _ hn
    · exact List.mem_append_right _ (weights_all_mem hd n hn)

/-- A line as plain data, and its value. -/
def mkML (g : GLine) (ids : List Id32) : ML := ⟨⟨g.number, g.id, g.name, g.date, g.subject, ids, g.bytes⟩, g.refs⟩
theorem mkML_g (g : GLine) (ids : List Id32) : (mkML g ids).g = g := rfl

/-- An operation: its 40 cells. -/
theorem open_opcells {cs : List Value} {d : DataW H} {ps : List MemPlace} (h : DataW.trod enc Tryz.prog W base sp held fuel 53 cs = some (d, ps)) (hw : ∀ n ∈ d.weights Tryz.prog 53, n ≤ reachBytes) :
    ∃ o : MO, cs = opList o ∧ o.k < 256 ∧ IdsAt W o.m.v o.m.p.ids ∧ o.m.p.ids.length * 32 ≤ reachBytes ∧ o.s.size ≤ reachBytes ∧ o.m.p.name.size ≤ reachBytes ∧ o.m.p.subject.size ≤ reachBytes := by
  have hu := Tryz.underlying53
  obtain ⟨xs, m, _, hx, hl, hn, hel⟩ := DataW.trod_struct hu h
  rw [cells_op] at hl
  have hd : d = .agg (xs.map (·.1)) := (Prod.mk.inj hx).1
  obtain ⟨x0, x1, rfl⟩ : ∃ x0 x1, xs = [x0, x1] := by
    match xs, hn with
    | [x0, x1], _ => exact ⟨x0, x1, rfl⟩
  have h0 : DataW.trod enc Tryz.prog W base sp held m 5 ((cs.drop 0).take (Tryz.prog.cellsOf 5)) = some x0 := hel 0 _ rfl
  rw [cells_byte] at h0
  have h1 : DataW.trod enc Tryz.prog W base sp held m 26 ((cs.drop 1).take (Tryz.prog.cellsOf 26)) = some x1 := hel 1 _ rfl
  rw [cells_rline] at h1
  clear hel hn
  have hwt : ∀ n ∈ x1.1.weights Tryz.prog 26, n ≤ reachBytes := fun n hn => by
    refine hw n ?_
    rw [hd]
    unfold DataW.weights
    rw [hu]
    exact DataW.weights_mem_each (j := 1) (t := 26) (d := x1.1) rfl rfl n hn
  obtain ⟨z, e0, _, hwf⟩ := DataW.trod_int Tryz.underlying5 h0
  have hz : 0 ≤ z ∧ z ≤ 255 := by simpa [Lit.wf, IntKind.min, IntKind.max, IntKind.signed, IntKind.bits] using hwf
  obtain ⟨s, g, ids, e1, hI, w1, w2, w3, w4⟩ := open_rlinecells (d := x1.1) (ps := x1.2) h1 hwt
  refine ⟨⟨z.toNat, s, mkML g ids⟩, ?_, by show z.toNat < 256; omega, hI, w1, w2, w3, w4⟩
  have cut : ∀ k a, cs.drop k = (cs.drop k).take a ++ cs.drop (k + a) := fun k a => by rw [← List.drop_drop, List.take_append_drop]
  have c0 := cut 0 1
  rw [e0, cut 1 39, e1, List.drop_eq_nil_of_le (by omega : cs.length ≤ 1 + 39), List.drop_zero] at c0
  rw [c0]
  have hzz : ((z.toNat : Nat) : Int) = z := by omega
  unfold opList
  simp only
  rw [hzz, mkML_g]
  simp

set_option maxRecDepth 100000 in
theorem ops_cells {base : Nat} {v0 : Value} (h : Value.okWide Tryz.prog W .any base 45 v0) : v0.cells = #[v0] := by
  unfold Value.okWide at h
  rw [Tryz.underlying45] at h
  simp only at h
  cases v0 with
  | agg cs => simp [Cell.okWide, Cell.ok, Tryz.underlying45] at h
  | _ => rfl
/-- The argument. -/
theorem open_ops {cs : List Value} {d : DataW H} {ps : List MemPlace} (h : DataW.trod enc Tryz.prog W base sp held fuel 45 cs = some (d, ps)) (hw : ∀ n ∈ d.weights Tryz.prog 45, n ≤ reachBytes) :
    ∃ v os, cs = [v] ∧ OpsAt W v os := by
  rcases DataW.trod_slice Tryz.underlying45 h with ⟨rfl, _⟩ | ⟨a, len, cap, elems, rest, m, _, rfl, hx, hb, hl, hm, hlen, hel, _, _⟩
  · exact ⟨_, [], rfl, ⟨⟨none, 0, rfl, Nat.le_refl _, fun h => absurd rfl h⟩, by simp, fun _ h => (by cases h), fun _ h => (by cases h), fun _ h => (by cases h), fun _ h => (by cases h)⟩⟩
  · have hd : d = .slice (elems.map (·.1)) (rest.map (·.1)) := (Prod.mk.inj hx).1
    have hwt : (elems.length + rest.length) * Tryz.prog.bytesOf 53 ≤ reachBytes := by
      refine hw _ ?_
      rw [hd]
      unfold DataW.weights
      rw [Tryz.underlying45]
      simp
    have hwe : ∀ x ∈ elems, ∀ n ∈ x.1.weights Tryz.prog 53, n ≤ reachBytes := fun x hx n hn => by
      refine hw n ?_
      rw [hd]
      unfold DataW.weights
      rw [Tryz.underlying45]
      have := weights_all_mem (P := Tryz.prog) (e := 53) (l := elems.map (·.1)) (List.mem_map.2 ⟨x, hx, rfl⟩) n hn
      simp [this]
    have each : ∀ i, i < len → ∃ o : MO, (∀ j u, (opList o)[j]? = some u → W.cell? ((a.add (i * 40)).add j) = some u) ∧ o.k < 256 ∧ IdsAt W o.m.v o.m.p.ids ∧ o.m.p.ids.length * 32 ≤ reachBytes ∧ o.s.size ≤ reachBytes ∧ o.m.p.name.size ≤ reachBytes ∧ o.m.p.subject.size ≤ reachBytes := fun i hi => by
      have hE := hel i hi
      rw [cells_op, List.getElem?_eq_getElem (by omega)] at hE
      obtain ⟨cs', hcs, ht⟩ := Option.bind_eq_some_iff.1 hE
      obtain ⟨o, rfl, r1⟩ := open_opcells (d := (elems[i]'(by omega)).1) (ps := (elems[i]'(by omega)).2) ht (hwe _ (List.getElem_mem _))
      obtain ⟨_, hll, hcell⟩ := World.cells?_some hcs
      exact ⟨o, fun j u hj => (hcell j (by have := (List.getElem?_eq_some_iff.1 hj).1; rw [opList_length] at this; exact this)).trans hj, r1⟩
    have hall : ∃ f : Nat → MO, ∀ i, i < len → (∀ j u, (opList (f i))[j]? = some u → W.cell? ((a.add (i * 40)).add j) = some u) ∧ (f i).k < 256 ∧ IdsAt W (f i).m.v (f i).m.p.ids ∧ (f i).m.p.ids.length * 32 ≤ reachBytes ∧ (f i).s.size ≤ reachBytes ∧ (f i).m.p.name.size ≤ reachBytes ∧ (f i).m.p.subject.size ≤ reachBytes := by
      refine ⟨fun i => if hi : i < len then Classical.choose (each i hi) else ⟨0, ⟨#[]⟩, default⟩, fun i hi => ?_⟩
      simp only [hi, dif_pos]
      exact Classical.choose_spec (each i hi)
    obtain ⟨f, hf⟩ := hall
    have hmem : ∀ o ∈ (List.range len).map f, ∃ i, i < len ∧ o = f i := fun o ho => by
      obtain ⟨i, hi, rfl⟩ := List.mem_map.1 ho
      exact ⟨i, List.mem_range.1 hi, rfl⟩
    have hlen2 : len ≤ 140737488351232 := by
      have h1 := bytes_op
      unfold reachBytes at hwt
      have : elems.length * 1 ≤ (elems.length + rest.length) * Tryz.prog.bytesOf 53 := Nat.mul_le_mul (by omega) h1
      omega
    refine ⟨_, (List.range len).map f, rfl, ⟨⟨some a, cap, by simp, by simpa using hl, fun hne => ?_⟩, by simpa using hlen2, fun o ho => ?_, fun o ho => ?_, fun o ho => ?_, fun o ho => ?_⟩⟩
    · have h0 : 0 < len := by
        cases len with
        | zero => simp at hne
        | succ n => omega
      have h00 := (hf 0 h0).1 0 _ (by unfold opList; rfl)
      have hspot : a.spot = none := by simpa [Addr.add] using World.cell?_spot h00
      obtain ⟨b, off, spot⟩ := a
      simp only at hspot
      subst hspot
      refine ⟨b, off, rfl, by have := block_lt_of_cell h00; simpa [Addr.add] using this, fun j hj i u hu => ?_⟩
      have hj' : j < len := by simpa using hj
      rw [List.getElem_map, List.getElem_range] at hu
      have := (hf j hj').1 i u hu
      rwa [Addr.add_lit, Addr.add_lit] at this
    · obtain ⟨i, hi, rfl⟩ := hmem o ho; exact (hf i hi).2.1
    · obtain ⟨i, hi, rfl⟩ := hmem o ho; exact (hf i hi).2.2.1
    · obtain ⟨i, hi, rfl⟩ := hmem o ho
      have := (hf i hi).2.2.2.1
      unfold reachBytes at this
      unfold maxLen
      omega
    · obtain ⟨i, hi, rfl⟩ := hmem o ho
      obtain ⟨_, _, _, _, w2, w3, w4⟩ := hf i hi
      unfold reachBytes at w2 w3 w4
      unfold maxLen
      exact ⟨by omega, by omega, by omega⟩
end

end Go.Proofs.YtdjaphcelpchaaaGreatDoor
