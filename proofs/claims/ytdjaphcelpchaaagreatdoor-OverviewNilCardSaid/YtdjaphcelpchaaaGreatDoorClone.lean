/- (overview.Line).clone: a copy whose references lie in a block of their own. -/
import Derived.Test.YtdjaphcelpchaaaGreatDoorCheck
namespace Go.Proofs.YtdjaphcelpchaaaGreatDoor
open Go Go.RowKit Go.Proofs

attribute [local go_sem ↓] ex_load_id ex_store_id ex_load_line ex_store_line ex_alloc_line ex_build_line
attribute [local go_sem] ld_id st_id ld_line st_line guard_id okCells_drew rdCells_drew okCells_drewN rdCells_drewN rowOk_drew rowOk_cells okCells_cells rdCells_cells setRow_drew setRow_new setRow_past

/-- The references of a line as a row of their own: nil, or the head of a block at or beyond a number. -/
def IdsOwn (B : Nat) (w : World) (v : Value) (ids : List Id32) : Prop := w.ownsRow B 23 32 v ids.length (flatIds ids)
theorem IdsOwn.at {B : Nat} {w : World} {v : Value} {ids : List Id32} (h : IdsOwn B w v ids) : IdsAt w v ids := idsAt_own h
theorem IdsOwn.mono {B B' : Nat} {w : World} {v : Value} {ids : List Id32} (h : IdsOwn B w v ids) (hB : B' ≤ B) : IdsOwn B' w v ids := by
  refine ⟨h.1, ?_⟩
  rcases h.2 with h0 | ⟨g, cap, cur, e, hg, hr⟩
  · exact .inl h0
  · exact .inr ⟨g, cap, cur, e, Nat.le_trans hB hg, hr⟩
theorem IdsOwn.block {B : Nat} {w w' : World} {v : Value} {ids : List Id32} (h : IdsOwn B w v ids) (hk : ∀ k, v.ownBlock = some k → w'.heap[k]? = w.heap[k]?) : IdsOwn B w' v ids := by
  refine ⟨h.1, ?_⟩
  rcases h.2 with h0 | ⟨g, cap, cur, e, hg, hcur, hr⟩
  · exact .inl h0
  · exact .inr ⟨g, cap, cur, e, hg, (hk g (by rw [e]; rfl)).trans hcur, hr⟩
theorem IdsOwn.lt {B : Nat} {w : World} {v : Value} {ids : List Id32} (h : IdsOwn B w v ids) {k : Nat} (hk : v.ownBlock = some k) : B ≤ k ∧ k < w.heap.size := World.ownsRow.lt h k hk
theorem IdsOwn.below {B : Nat} {w w' : World} {v : Value} {ids : List Id32} (h : IdsOwn B w v ids) (hb : Below w.heap.size w w') : IdsOwn B w' v ids := h.block fun k hk => hb.block k (h.lt hk).2
theorem IdsOwn.one {B : Nat} {w : World} {v : Value} {ids : List Id32} (h : IdsOwn B w v ids) : v.oneCell' = true := h.at.one

theorem cloneIds_any (B : Nat) (v : Value) (ids : List Id32) (w : World) (h : IdsOwn B w v ids) (hn : ids.length ≤ 1000000) :
    Calls Tryz.prog 104 #[v] w fun r w' => ∃ v', r = .returned v' ∧ IdsOwn w.heap.size w' v' ids ∧ Below w.heap.size w w' := by
  obtain ⟨i0, hi, hz0, hz1, hz2⟩ := info_parts Tryz.info_id
  rcases h.2 with ⟨rfl, h0⟩ | ⟨g, cap, cur, rfl, hg, hcur, hle, hmx, hcs, htk⟩
  · refine (AnyE.slices_Clone_nil Tryz.cloneId 0 0 w).mono ?_
    rintro r w' ⟨rfl, rfl⟩
    obtain rfl : ids = [] := List.length_eq_zero_iff.1 h0
    exact ⟨_, rfl, World.ownsRow_nil _ _ _ _, Below.refl _ _⟩
  · refine (AnyE.slices_Clone Tryz.cloneId i0 (.agg (encId zeroId).toArray) 32 32 hi hz0 hz1 hz2 (encId_size zeroId) (by decide) Tryz.sizeOf23 g 0 ids.length cap (flatIds ids) w h.1 (by unfold maxLen; omega) (by omega) (fun j u hj => ?_) (flat_one ids)).mono ?_
    · have := World.ownsRow.cells h (g := g) rfl j u hj
      rwa [Addr.add_lit] at this
    · rintro r w' ⟨v', rfl, hown, _, hb⟩
      exact ⟨v', rfl, hown, hb⟩

set_option maxRecDepth 100000 in
set_option maxHeartbeats 1000000 in
theorem clone_any (B : Nat) (g : GLine) (ids : List Id32) (w : World) (h : IdsOwn B w g.refs ids) (hn : ids.length ≤ 1000000) :
    Calls Tryz.prog 70 #[.agg (lineCells g)] w fun r w' => ∃ v, r = .returned (.agg (lineCells { g with refs := v })) ∧ IdsOwn w.heap.size w' v ids ∧ Below w.heap.size w w' := by
  obtain ⟨W0, hW0⟩ : ∃ W0, W0 = (w.alloc (.cells (lineCells g) 34)).alloc (.cells (lineCells zeroLine) 34) := ⟨_, rfl⟩
  have hs0 : W0.heap.size = w.heap.size + 2 := by rw [hW0]; simp
  have hb0 : Below w.heap.size w W0 := by rw [hW0]; exact ((Below.refl _ _).alloc (Nat.le_refl _) _).alloc (by simp) _
  have hV0 : LineVar W0 w.heap.size g := by
    unfold LineVar
    rw [hW0, heap_alloc_old _ _ (by simp), heap_alloc_new]
  have hZ0 : LineVar W0 (w.heap.size + 1) zeroLine := by
    unfold LineVar
    have := heap_alloc_new (w.alloc (.cells (lineCells g) 34)) (.cells (lineCells zeroLine) 34)
    rw [hW0]
    simpa using this
  have hcl := cloneIds_any B g.refs ids W0 (h.below hb0) hn
  have c36 : W0.cell? ⟨w.heap.size, 36, none⟩ = some g.refs := (hV0.cell 36).trans (lc36 g)
  have HC := Lib.hid hcl
  have HV := Lib.hid hV0
  have HZ := Lib.hid hZ0
  have HB := Lib.hid hb0
  clear hcl hV0 hZ0 hb0
  go_enter Tryz.func70, Tryz.ntmps70
  rw [hW0] at c36
  go_wp2_with fail
  rw [← hW0]
  clear c36 hW0
  refine HC.out.mono ?_
  rintro r w1 ⟨v, rfl, hI, hb1⟩
  have hone := hI.one
  obtain ⟨va, vn, vc, hv⟩ : ∃ a n c, v = .slice a n c := by obtain ⟨a, c, e, _⟩ := hI.at; exact ⟨a, _, c, e⟩
  have hV1 : LineVar w1 w.heap.size g := HV.out.below hb1 (by omega)
  have hZ1 : LineVar w1 (w.heap.size + 1) zeroLine := HZ.out.below hb1 (by omega)
  have hB1 : Below w.heap.size w w1 := HB.out.trans (hb1.mono HB.out.size)
  have hV2 := hV1.set 36 v (set_refs g v)
  have hZ2 : LineVar (w1.setCell ⟨w.heap.size, 36, none⟩ v) (w.heap.size + 1) zeroLine := hZ1.grown (grown_set w1 w.heap.size 36 v) (by simp)
  have hI2 : IdsOwn W0.heap.size (w1.setCell ⟨w.heap.size, 36, none⟩ v) v ids := hI.block fun k hk => heap_setCell_other w1 ⟨w.heap.size, 36, none⟩ k v (by have := (hI.lt hk).1; simp; omega)
  have hB2 : Below w.heap.size w (w1.setCell ⟨w.heap.size, 36, none⟩ v) := hB1.setCell (Nat.le_refl _) v
  have hc := (hV1.cell 36).trans (lc36 g)
  have hf := hV1.free 36
  have ho2 := hV2.rd.1
  have hr2 := hV2.rd.2
  have hro := hZ2.row
  have hft := fits_line (g := { g with refs := v }) hone
  have HV2 := Lib.hid hV2
  have HZ2 := Lib.hid hZ2
  have HI2 := Lib.hid hI2
  have HB2 := Lib.hid hB2
  clear hV1 hZ1 hB1 hV2 hZ2 hI2 hB2 hI hb1 HC HV HZ HB h
  subst hv
  go_wp2
  refine bodyPost_ret (v := .agg (lineCells { g with refs := .slice va vn vc })) ?_ rfl ⟨_, rfl, ?_, below_grown HB2.out (grown_row _ _ _) HB2.out.size (by omega)⟩
  · exact results_agg1 rfl Tryz.isAgg34 Tryz.sizeOf34 _ _ ⟨w.heap.size + 1, 0, none⟩ _ rfl (HZ2.out.blk.setRow.rd.1) (HZ2.out.blk.setRow.rd.2)
  · refine (HI2.out.mono (by omega)).block fun k hk => (grown_row _ (w.heap.size + 1) _).block k (HI2.out.lt hk).2 ?_
    intro e
    have := (HI2.out.lt hk).1
    cases e
    omega

end Go.Proofs.YtdjaphcelpchaaaGreatDoor
