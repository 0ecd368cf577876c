/- bulletinref28.Same of two equal lines. -/
import Derived.Test.YtdjaphcelpchaaaGreatDoorOwn
namespace Go.Proofs.YtdjaphcelpchaaaGreatDoor
open Go Go.RowKit Go.Proofs

attribute [local go_sem ↓] ex_load_id ex_store_id ex_load_line ex_store_line ex_load_rline ex_store_rline ex_alloc_line ex_build_line ex_alloc_rline ex_build_rline
attribute [local go_sem] ld_id st_id ld_line st_line ld_rline st_rline guard_id okCells_drew rdCells_drew okCells_drewN rdCells_drewN rowOk_drew rowOk_cells okCells_cells rdCells_cells setRow_drew setRow_new setRow_past
attribute [local go_sem] lc0 lc33 lc34 lc35 lc36 lc37 rc0 rc1 rc34 rc35 rc36 rc37 rc38 okArr_lid rdArr_lid okArr_rid rdArr_rid run_eql_id run_neq_id eqIn_id

set_option maxRecDepth 100000 in
set_option maxHeartbeats 2000000 in
theorem same_true (s : ByteArray) (g : GLine) (v1 v2 : Value) (ids : List Id32) (w : World) (hI1 : IdsAt w v1 ids) (hI2 : IdsAt w v2 ids) (hn : ids.length ≤ 1000000) :
    Calls Tryz.prog 21 #[.agg (rlineCells s { g with refs := v1 }), .agg (rlineCells s { g with refs := v2 })] w fun r w' => r = .returned (.bool true) ∧ Below w.heap.size w w' := by
  obtain ⟨a1, c1, rfl, hc1, hr1⟩ := hI1
  obtain ⟨a2, c2, rfl, hc2, hr2⟩ := hI2
  have hbA := Lib.hid (show Below w.heap.size w ((w.alloc (.cells (rlineCells s { g with refs := .slice a1 ids.length c1 }) 26)).alloc (.cells (rlineCells s { g with refs := .slice a2 ids.length c2 }) 26)) from ((Below.refl _ _).alloc (Nat.le_refl _) _).alloc (by simp) _)
  have HR1 := Lib.hid hr1
  have HR2 := Lib.hid hr2
  clear hr1 hr2
  go_enter Tryz.func21, Tryz.ntmps21
  go_wp2
  have hA1 : ∀ j, ((w.alloc (.cells (rlineCells s { g with refs := .slice a1 ids.length c1 }) 26)).alloc (.cells (rlineCells s { g with refs := .slice a2 ids.length c2 }) 26)).cell? ⟨w.heap.size, j, none⟩ = (rlineCells s { g with refs := .slice a1 ids.length c1 })[j]? := fun j => by
    rw [cell_of_row _ w.heap.size j _ _ (0, 0) (by rw [heap_alloc_old _ _ (by simp), heap_alloc_new])]
  have hA2 : ∀ j, ((w.alloc (.cells (rlineCells s { g with refs := .slice a1 ids.length c1 }) 26)).alloc (.cells (rlineCells s { g with refs := .slice a2 ids.length c2 }) 26)).cell? ⟨w.heap.size + 1, j, none⟩ = (rlineCells s { g with refs := .slice a2 ids.length c2 })[j]? := fun j => by
    rw [cell_of_row _ (w.heap.size + 1) j _ _ (0, 0) (by have := heap_alloc_new (w.alloc (.cells (rlineCells s { g with refs := .slice a1 ids.length c1 }) 26)) (.cells (rlineCells s { g with refs := .slice a2 ids.length c2 }) 26); simpa using this)]
  generalize hW : (w.alloc (.cells (rlineCells s { g with refs := .slice a1 ids.length c1 }) 26)).alloc (.cells (rlineCells s { g with refs := .slice a2 ids.length c2 }) 26) = W at hbA hA1 hA2 ⊢
  clear hW
  go_loopw [5] (fun i wr => ∃ k q : Nat, k ≤ ids.length ∧ i = .int .i64 k ∧ wr = W.drewN q) (fun i _ => ids.length - (intOf i).toNat)
  case atStart => exact ⟨0, 0, Nat.zero_le _, rfl, rfl⟩
  case round =>
    obtain ⟨k, q, hk, rfl, rfl⟩ := hrel
    have q1 := (hA1 37).trans (rc37 _ _)
    have q2 := (hA2 37).trans (rc37 _ _)
    by_cases hlt : k < ids.length
    · have hltz : (k : Int) < (ids.length : Int) := by omega
      have hne : ids ≠ [] := by intro e; rw [e] at hlt; simp at hlt
      obtain ⟨b1, o1, rfl, hw1⟩ := HR1.out hne
      obtain ⟨b2, o2, rfl, hw2⟩ := HR2.out hne
      have hr1 := (hw1.below hbA.out (hw1.lt hne)).rd hlt
      have hr2 := (hw2.below hbA.out (hw2.lt hne)).rd hlt
      generalize ids[k]! = x at hr1 hr2
      obtain ⟨e1, e2⟩ := hr1
      obtain ⟨e3, e4⟩ := hr2
      clear hw1 hw2 hA1 hA2 hne
      go_wp2
      go_quiet (fail)
      go_wp2
      go_roundw
      case rel => exact ⟨k + 1, q + nq, by omega, by go_num, by first | rfl | rw [World.drewN_drewN]⟩
      case measure => simp [intOf]; omega
    · have hltz : ¬ (k : Int) < (ids.length : Int) := by omega
      clear hA1 hA2
      go_wp2
      go_ret
      have := hbA.out
      exact ⟨rfl, this.os, this.tape, this.output, this.size, this.block⟩

end Go.Proofs.YtdjaphcelpchaaaGreatDoor
