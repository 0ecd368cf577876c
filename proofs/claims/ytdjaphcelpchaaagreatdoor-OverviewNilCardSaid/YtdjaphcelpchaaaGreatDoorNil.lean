/- What the methods of a nil index answer. -/
import Derived.Test.YtdjaphcelpchaaaGreatDoorKnows
namespace Go.Proofs.YtdjaphcelpchaaaGreatDoor
open Go Go.RowKit Go.Proofs

attribute [local go_sem ↓] ex_load_id ex_store_id ex_load_line ex_store_line ex_load_rline ex_store_rline ex_alloc_line ex_build_line ex_alloc_rline ex_build_rline
attribute [local go_sem] ld_id st_id ld_line st_line ld_rline st_rline guard_id okCells_drew rdCells_drew okCells_drewN rdCells_drewN rowOk_drew rowOk_cells okCells_cells rdCells_cells setRow_drew setRow_new setRow_past

set_option maxHeartbeats 1000000 in
theorem linesOf_nil (s : ByteArray) (w : World) : Calls Tryz.prog 68 #[.pointer none, .string s] w fun r w' => r = .returned (.slice none 0 0) ∧ w = w' := by
  go_enter Tryz.func68, Tryz.ntmps68
  go_wp2
  go_ret
  exact ⟨rfl, rfl⟩

set_option maxRecDepth 100000 in
set_option maxHeartbeats 1000000 in
theorem get_nil (s : ByteArray) (n : Int) (w : World) : Calls Tryz.prog 37 #[.pointer none, .string s, .int .i64 n] w fun r w' => r = .returned (.tuple #[.agg (lineCells zeroLine), .bool false]) ∧ Below w.heap.size w w' := by
  have hb0 : Below w.heap.size w (w.alloc (.cells (lineCells zeroLine) 34)) := (Below.refl _ _).alloc (Nat.le_refl _) _
  have HB := Lib.hid hb0
  have hft : fitsRow 38 (lineCells zeroLine) = true := fits_line rfl
  have hzs : ((lineCells zeroLine).size == 38) = true := by rw [lineCells_size]; rfl
  clear hb0
  go_enter Tryz.func37, Tryz.ntmps37
  go_wp2_with fail
  refine (linesOf_nil s _).mono ?_
  rintro r w' ⟨rfl, rfl⟩
  go_wp2_with fail
  refine (search_none n _).mono ?_
  rintro r w' ⟨rfl, rfl⟩
  go_wp2
  refine bodyPost_ret (v := .tuple #[.agg (lineCells zeroLine), .bool false]) ?_ rfl ⟨rfl, HB.out⟩
  exact results_agg2 rfl Tryz.isAgg34 Tryz.sizeOf34 _ _ ⟨w.heap.size, 0, none⟩ _ _ rfl rfl (ok_new_line w zeroLine _) (rd_new_line w zeroLine 34)

set_option maxRecDepth 100000 in
set_option maxHeartbeats 1000000 in
theorem next_nil (s : ByteArray) (n : Int) (w : World) : Calls Tryz.prog 39 #[.pointer none, .string s, .int .i64 n] w fun r w' => r = .returned (.tuple #[.agg (lineCells zeroLine), .bool false]) ∧ Below w.heap.size w w' := by
  have hb0 : Below w.heap.size w (w.alloc (.cells (lineCells zeroLine) 34)) := (Below.refl _ _).alloc (Nat.le_refl _) _
  have HB := Lib.hid hb0
  have hft : fitsRow 38 (lineCells zeroLine) = true := fits_line rfl
  have hzs : ((lineCells zeroLine).size == 38) = true := by rw [lineCells_size]; rfl
  clear hb0
  go_enter Tryz.func39, Tryz.ntmps39
  go_wp2_with fail
  refine (linesOf_nil s _).mono ?_
  rintro r w' ⟨rfl, rfl⟩
  go_wp2_with fail
  refine (search_none n _).mono ?_
  rintro r w' ⟨rfl, rfl⟩
  go_wp2
  refine bodyPost_ret (v := .tuple #[.agg (lineCells zeroLine), .bool false]) ?_ rfl ⟨rfl, HB.out⟩
  exact results_agg2 rfl Tryz.isAgg34 Tryz.sizeOf34 _ _ ⟨w.heap.size, 0, none⟩ _ _ rfl rfl (ok_new_line w zeroLine _) (rd_new_line w zeroLine 34)

set_option maxRecDepth 100000 in
set_option maxHeartbeats 1000000 in
theorem prev_nil (s : ByteArray) (n : Int) (w : World) : Calls Tryz.prog 40 #[.pointer none, .string s, .int .i64 n] w fun r w' => r = .returned (.tuple #[.agg (lineCells zeroLine), .bool false]) ∧ Below w.heap.size w w' := by
  have hb0 : Below w.heap.size w (w.alloc (.cells (lineCells zeroLine) 34)) := (Below.refl _ _).alloc (Nat.le_refl _) _
  have HB := Lib.hid hb0
  have hft : fitsRow 38 (lineCells zeroLine) = true := fits_line rfl
  have hzs : ((lineCells zeroLine).size == 38) = true := by rw [lineCells_size]; rfl
  clear hb0
  go_enter Tryz.func40, Tryz.ntmps40
  go_wp2_with fail
  refine (linesOf_nil s _).mono ?_
  rintro r w' ⟨rfl, rfl⟩
  go_wp2_with fail
  refine (search_none n _).mono ?_
  rintro r w' ⟨rfl, rfl⟩
  go_wp2
  refine bodyPost_ret (v := .tuple #[.agg (lineCells zeroLine), .bool false]) ?_ rfl ⟨rfl, HB.out⟩
  exact results_agg2 rfl Tryz.isAgg34 Tryz.sizeOf34 _ _ ⟨w.heap.size, 0, none⟩ _ _ rfl rfl (ok_new_line w zeroLine _) (rd_new_line w zeroLine 34)

set_option maxRecDepth 100000 in
set_option maxHeartbeats 1000000 in
theorem find_nil (s : ByteArray) (x : Id32) (w : World) : Calls Tryz.prog 41 #[.pointer none, .string s, .agg (encId x).toArray] w fun r w' => r = .returned (.tuple #[.agg (lineCells zeroLine), .bool false]) ∧ Below w.heap.size w w' := by
  have hb0 : Below w.heap.size w ((w.alloc (.cells (encId x).toArray 23)).alloc (.cells (lineCells zeroLine) 34)) := ((Below.refl _ _).alloc (Nat.le_refl _) _).alloc (by simp) _
  have HB := Lib.hid hb0
  have hft : fitsRow 38 (lineCells zeroLine) = true := fits_line rfl
  have hzs : ((lineCells zeroLine).size == 38) = true := by rw [lineCells_size]; rfl
  clear hb0
  go_enter Tryz.func41, Tryz.ntmps41
  go_wp2_with fail
  refine (linesOf_nil s _).mono ?_
  rintro r w' ⟨rfl, rfl⟩
  go_wp2
  refine bodyPost_ret (v := .tuple #[.agg (lineCells zeroLine), .bool false]) ?_ rfl ⟨rfl, HB.out⟩
  exact results_agg2 rfl Tryz.isAgg34 Tryz.sizeOf34 _ _ ⟨w.heap.size + 1, 0, none⟩ _ _ rfl rfl (by simpa using ok_new_line (w.alloc (.cells (encId x).toArray 23)) zeroLine _) (by simpa using rd_new_line (w.alloc (.cells (encId x).toArray 23)) zeroLine 34)

set_option maxHeartbeats 1000000 in
theorem add_nil (s : ByteArray) (g : GLine) (w : World) : Calls Tryz.prog 32 #[.pointer none, .string s, .agg (lineCells g)] w fun r w' => r = .returned (.int .i64 1) ∧ Below w.heap.size w w' := by
  go_enter Tryz.func32, Tryz.ntmps32
  go_wp2
  go_ret
  exact ⟨rfl, (Below.refl _ _).alloc (Nat.le_refl _) _⟩

set_option maxHeartbeats 1000000 in
theorem remove_nil (s : ByteArray) (n : Int) (w : World) : Calls Tryz.prog 31 #[.pointer none, .string s, .int .i64 n] w fun r w' => r = .returned (.int .i64 1) ∧ w = w' := by
  go_enter Tryz.func31, Tryz.ntmps31
  go_wp2
  go_ret
  exact ⟨rfl, rfl⟩

set_option maxHeartbeats 1000000 in
theorem groups_nil (w : World) : Calls Tryz.prog 47 #[.pointer none] w fun r w' => r = .returned (.slice none 0 0) ∧ w = w' := by
  go_enter Tryz.func47, Tryz.ntmps47
  go_wp2
  go_ret
  exact ⟨rfl, rfl⟩

set_option maxHeartbeats 1000000 in
theorem where_nil (x : Id32) (w : World) : Calls Tryz.prog 42 #[.pointer none, .agg (encId x).toArray] w fun r w' => r = .returned (.slice none 0 0) ∧ w.alloc (.cells (encId x).toArray 23) = w' := by
  go_enter Tryz.func42, Tryz.ntmps42
  go_wp2_with fail
  refine (groups_nil _).mono ?_
  rintro r w' ⟨rfl, rfl⟩
  go_wp2
  go_loop [5, 13] (fun p a => p = .slice none 0 0 ∧ a = .int .i64 0) (fun _ _ => 0)
  case atStart => exact ⟨rfl, rfl⟩
  case round =>
    obtain ⟨rfl, rfl⟩ := hrel
    go_wp2
    go_ret
    exact ⟨rfl, rfl⟩

set_option maxHeartbeats 1000000 in
theorem removeId_nil (x : Id32) (w : World) : Calls Tryz.prog 46 #[.pointer none, .agg (encId x).toArray] w fun r w' => r = .returned (.int .i64 0) ∧ Below w.heap.size w w' := by
  have hok := ok_new_id w x
  have hrd := rd_new_id w x
  go_enter Tryz.func46, Tryz.ntmps46
  go_wp2_with fail
  refine (where_nil x _).mono ?_
  rintro r w' ⟨rfl, rfl⟩
  go_wp2
  go_loop [13] (fun a => a = .int .i64 0) (fun _ => 0)
  case atStart => exact rfl
  case round =>
    obtain rfl := hrel
    go_wp2
    go_ret
    exact ⟨rfl, ((Below.refl _ _).alloc (Nat.le_refl _) _).alloc (by simp) _⟩

set_option maxHeartbeats 1000000 in
theorem len_nil (s : ByteArray) (w : World) : Calls Tryz.prog 48 #[.pointer none, .string s] w fun r w' => r = .returned (.int .i64 0) ∧ w = w' := by
  go_enter Tryz.func48, Tryz.ntmps48
  go_wp2_with fail
  refine (linesOf_nil s _).mono ?_
  rintro r w' ⟨rfl, rfl⟩
  go_wp2
  go_ret
  exact ⟨rfl, rfl⟩

set_option maxHeartbeats 1000000 in
theorem clone_nil (w : World) : Calls Tryz.prog 43 #[.pointer none] w fun r w' => r = .returned (.pointer none) ∧ w = w' := by
  go_enter Tryz.func43, Tryz.ntmps43
  go_wp2
  go_ret
  exact ⟨rfl, rfl⟩

set_option maxHeartbeats 1000000 in
theorem equal_nil_nil (w : World) : Calls Tryz.prog 34 #[.pointer none, .pointer none] w fun r w' => r = .returned (.bool true) ∧ w = w' := by
  go_enter Tryz.func34, Tryz.ntmps34
  go_wp2
  go_ret
  exact ⟨rfl, rfl⟩
set_option maxHeartbeats 1000000 in
theorem equal_nil_some (a : Addr) (w : World) : Calls Tryz.prog 34 #[.pointer none, .pointer (some a)] w fun r w' => r = .returned (.bool false) ∧ w = w' := by
  go_enter Tryz.func34, Tryz.ntmps34
  go_wp2
  go_ret
  exact ⟨rfl, rfl⟩
set_option maxHeartbeats 1000000 in
theorem equal_some_nil (a : Addr) (w : World) : Calls Tryz.prog 34 #[.pointer (some a), .pointer none] w fun r w' => r = .returned (.bool false) ∧ w = w' := by
  go_enter Tryz.func34, Tryz.ntmps34
  go_wp2
  go_ret
  exact ⟨rfl, rfl⟩

set_option maxHeartbeats 1000000 in
theorem encode_nil (w : World) : Calls Tryz.prog 35 #[.pointer none] w fun r w' => r = .returned (.string ⟨#[]⟩) ∧ Below w.heap.size w w' := by
  have hB : Lib.IsBuilder 126 5 w.heap.size w.heap.size [] (w.alloc (.cells #[.pointer none, .slice none 0 0] 126)) := by
    exact .inl ⟨Nat.le_refl _, .slice none 0 0, heap_alloc_new _ _, World.ownsRow_nil _ _ _ _, by simp [Value.ownBlock]⟩
  go_enter Tryz.func35, Tryz.ntmps35
  go_wp2_with fail
  refine (groups_nil _).mono ?_
  rintro r w' ⟨rfl, rfl⟩
  go_wp2
  go_loop [12] (fun a => a = .int .i64 0) (fun _ => 0)
  case atStart => exact rfl
  case round =>
    obtain rfl := hrel
    go_wp2_with fail
    refine (Tryz.Builder_String_empty _ _ _ hB (by simp)).mono ?_
    rintro r w' ⟨rfl, hb⟩
    go_wp2
    go_ret
    exact ⟨rfl, ((Below.refl _ _).alloc (Nat.le_refl _) _).trans hb⟩

set_option maxRecDepth 100000 in
set_option maxHeartbeats 1000000 in
theorem zero_true (w : World) : Calls Tryz.prog 38 #[.agg (lineCells zeroLine)] w fun r w' => r = .returned (.bool true) ∧ Below w.heap.size w w' := by
  have hb0 : Below w.heap.size w (w.alloc (.cells (lineCells zeroLine) 34)) := (Below.refl _ _).alloc (Nat.le_refl _) _
  have HB := Lib.hid hb0
  have hok := ok_new_line w zeroLine 34
  have hrd := rd_new_line w zeroLine 34
  clear hb0
  go_enter Tryz.func38, Tryz.ntmps38
  go_wp2_with fail
  refine (back_any ⟨#[]⟩ zeroLine _ rfl rfl).mono ?_
  rintro r w1 ⟨rfl, hb1⟩
  go_wp2_with fail
  refine (same_true ⟨#[]⟩ zeroLine (.slice none 0 0) (.slice none 0 0) [] w1 (idsAt_nil _) (idsAt_nil _) (by simp)).mono ?_
  rintro r w2 ⟨rfl, hb2⟩
  go_wp2
  go_ret
  exact ⟨rfl, (HB.out.trans (hb1.mono (by simp))).trans (hb2.mono (by have := hb1.size; simp at this; omega))⟩

end Go.Proofs.YtdjaphcelpchaaaGreatDoor
