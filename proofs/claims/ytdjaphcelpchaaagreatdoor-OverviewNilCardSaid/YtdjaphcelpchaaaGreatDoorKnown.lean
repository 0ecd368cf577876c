/- The functions that 'known' calls, at a fresh index. -/
import Derived.Test.YtdjaphcelpchaaaGreatDoorMaps
namespace Go.Proofs.YtdjaphcelpchaaaGreatDoor
open Go Go.RowKit Go.Proofs

attribute [local go_sem ↓] ex_load_id ex_store_id ex_load_line ex_store_line ex_alloc_line ex_build_line
attribute [local go_sem] ld_id st_id ld_line st_line guard_id okCells_drew rdCells_drew okCells_drewN rdCells_drewN rowOk_drew rowOk_cells okCells_cells rdCells_cells setRow_drew setRow_new setRow_past

set_option maxHeartbeats 1000000 in
theorem linesOf_none (IB M : Nat) (s : ByteArray) (w : World) (hc : w.cell? ⟨IB, 0, none⟩ = some (.map (some M))) (hm : w.heap[M]? = some (.map #[] 0)) :
    Calls Tryz.prog 68 #[.pointer (some ⟨IB, 0, none⟩), .string s] w fun r w' => r = .returned (.slice none 0 0) ∧ w = w' := by
  have hl := look_empty w M s hm
  clear hm
  go_enter Tryz.func68, Tryz.ntmps68
  go_wp2
  go_ret
  exact ⟨rfl, rfl⟩

set_option maxHeartbeats 1000000 in
theorem linesOf_one (IB M gb n c : Nat) (w : World) (a : Option Addr) (hc : w.cell? ⟨IB, 0, none⟩ = some (.map (some M))) (hm : w.heap[M]? = some (.map #[{ key := .string ⟨#[97, 46, 98]⟩, val := .pointer (some ⟨gb, 0, none⟩), born := 0 }] 1)) (hg : w.cell? ⟨gb, 0, none⟩ = some (.slice a n c)) :
    Calls Tryz.prog 68 #[.pointer (some ⟨IB, 0, none⟩), .string ⟨#[97, 46, 98]⟩] w fun r w' => r = .returned (.slice a n c) ∧ w = w' := by
  have hl := look_one w M _ hm
  clear hm
  go_enter Tryz.func68, Tryz.ntmps68
  go_wp2
  go_ret
  exact ⟨rfl, rfl⟩

set_option maxRecDepth 100000 in
set_option maxHeartbeats 1000000 in
theorem search_none (x : Int) (w : World) :
    Calls Tryz.prog 69 #[.slice none 0 0, .int .i64 x] w fun r w' => r = .returned (.tuple #[.int .i64 0, .bool false]) ∧ w = w' := by
  go_enter Tryz.func69, Tryz.ntmps69
  go_wp2_with fail
  have hs : ∀ f, Calls Tryz.prog 101 #[.slice none 0 0, .int .i64 x, f] w fun r w' => r = .returned (.tuple #[.int .i64 0, .bool false]) ∧ w = w' := fun f => by
    go_enter Tryz.func101, Tryz.ntmps101
    go_wp2
    go_loop [9, 10] (fun a b => a = .int .i64 0 ∧ b = .int .i64 0) (fun _ _ => 0)
    case atStart => exact ⟨rfl, rfl⟩
    case round =>
      obtain ⟨rfl, rfl⟩ := hrel
      go_wp2
      go_ret2
      exact ⟨rfl, rfl⟩
  refine (hs _).mono ?_
  rintro r w' ⟨rfl, rfl⟩
  go_wp2
  go_ret2
  exact ⟨rfl, rfl⟩

set_option maxRecDepth 100000 in
set_option maxHeartbeats 1000000 in
theorem find_none (IB M : Nat) (s : ByteArray) (x : Id32) (w : World) (hc : w.cell? ⟨IB, 0, none⟩ = some (.map (some M))) (hm : w.heap[M]? = some (.map #[] 0)) :
    Calls Tryz.prog 41 #[.pointer (some ⟨IB, 0, none⟩), .string s, .agg (encId x).toArray] w fun r w' => r = .returned (.tuple #[.agg (lineCells zeroLine), .bool false]) ∧ Below w.heap.size w w' := by
  have hb0 : Below w.heap.size w ((w.alloc (.cells (encId x).toArray 23)).alloc (.cells (lineCells zeroLine) 34)) := ((Below.refl _ _).alloc (Nat.le_refl _) _).alloc (by simp) _
  have hcW : ((w.alloc (.cells (encId x).toArray 23)).alloc (.cells (lineCells zeroLine) 34)).cell? ⟨IB, 0, none⟩ = some (.map (some M)) := (hb0.cell (block_lt_of_cell hc)).trans hc
  have hmW := (hb0.block M (Array.getElem?_eq_some_iff.1 hm).1).trans hm
  have HC := Lib.hid hcW
  have HM := Lib.hid hmW
  have HB := Lib.hid hb0
  have hft : fitsRow 38 (lineCells zeroLine) = true := fits_line rfl
  have hzs : ((lineCells zeroLine).size == 38) = true := by rw [lineCells_size]; rfl
  clear hc hm hcW hmW hb0
  go_enter Tryz.func41, Tryz.ntmps41
  go_wp2_with fail
  refine (linesOf_none IB M s _ HC.out HM.out).mono ?_
  rintro r w' ⟨rfl, rfl⟩
  go_wp2
  refine bodyPost_ret (v := .tuple #[.agg (lineCells zeroLine), .bool false]) ?_ rfl ⟨rfl, HB.out⟩
  exact results_agg2 rfl Tryz.isAgg34 Tryz.sizeOf34 _ _ ⟨w.heap.size + 1, 0, none⟩ _ _ rfl rfl (by simpa using ok_new_line (w.alloc (.cells (encId x).toArray 23)) zeroLine _) (by simpa using rd_new_line (w.alloc (.cells (encId x).toArray 23)) zeroLine 34)

set_option maxHeartbeats 1000000 in
theorem isLower_yes (c : Int) (w : World) (h1 : 97 ≤ c) (h2 : c ≤ 122) : Calls Tryz.prog 134 #[.int .u8 c] w fun r w' => r = .returned (.bool true) ∧ w = w' := by
  go_enter Tryz.func134, Tryz.ntmps134
  go_wp2
  go_ret
  exact ⟨by simp, rfl⟩
set_option maxHeartbeats 1000000 in
theorem notOther_lower (c : Int) (w : World) (h1 : 97 ≤ c) (h2 : c ≤ 122) : Calls Tryz.prog 136 #[.int .u8 c] w fun r w' => r = .returned (.bool false) ∧ w = w' := by
  go_enter Tryz.func136, Tryz.ntmps136
  go_wp2_with fail
  refine (isLower_yes c w h1 h2).mono ?_
  rintro r w' ⟨rfl, rfl⟩
  go_wp2
  go_ret
  exact ⟨rfl, rfl⟩

/-- The lower letters. -/
def Low : Type := { c : Nat // 97 ≤ c ∧ c ≤ 122 }
instance : Inhabited Low := ⟨⟨97, by omega⟩⟩
def encLow (x : Low) : Value := .int .u8 x.1
theorem pred_low (w : World) : PredAt Tryz.prog 136 #[] encLow (fun _ => false) w := fun W x _ =>
  (notOther_lower x.1 W (by have := x.2; omega) (by have := x.2; omega)).mono fun _ _ ⟨he, hw⟩ => ⟨he, 0, hw.symm⟩

end Go.Proofs.YtdjaphcelpchaaaGreatDoor
