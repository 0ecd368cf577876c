/- The fields of a line that is being read: overview.setNumber, (*overview.Line).setReferences. -/
import Derived.Test.YtdjaphcelpchaaaGreatDoorSplit
namespace Go.Proofs.YtdjaphcelpchaaaGreatDoor
open Go Go.RowKit Go.Proofs

attribute [local go_sem ↓] ex_load_id ex_store_id ex_alloc_id ex_build_id
attribute [local go_sem] ld_id st_id guard_id okCells_drew rdCells_drew okCells_drewN rdCells_drewN rowOk_drew rowOk_cells okCells_cells rdCells_cells okArr_id rdArr_id setRow_drew setRow_new setRow_past fits_id encId_length

/-- A block that holds a line. -/
def LineVar (w : World) (lb : Nat) (g : GLine) : Prop := w.heap[lb]? = some (.cells (lineCells g) 34 (0, 0))
theorem LineVar.lt {w : World} {lb : Nat} {g : GLine} (h : LineVar w lb g) : lb < w.heap.size := (Array.getElem?_eq_some_iff.1 h).1
theorem LineVar.cell {w : World} {lb : Nat} {g : GLine} (h : LineVar w lb g) (j : Nat) : w.cell? ⟨lb, j, none⟩ = (lineCells g)[j]? := cell_of_row w lb j _ _ _ h
theorem LineVar.free {w : World} {lb : Nat} {g : GLine} (h : LineVar w lb g) (j : Nat) : w.frozen? ⟨lb, j, none⟩ = false := frozen_of_row w lb j _ _ h
theorem LineVar.grown {w w' : World} {lb : Nat} {g : GLine} {row : Option Nat} (h : LineVar w lb g) (hg : w.grownBy w' row) (hne : some lb ≠ row) : LineVar w' lb g := (hg.block lb h.lt hne).trans h

theorem lineList_set (g : GLine) (j : Nat) (v : Value) (hj : j < 5) : (lineList g).set (33 + j) v = .int .i64 g.number :: (encId g.id ++ [Value.string g.name, .int .i64 g.date, .string g.subject, g.refs, .int .i64 g.bytes].set j v) := by
  unfold lineList
  rw [show 33 + j = (32 + j) + 1 by omega, List.set_cons_succ, List.set_append_right _ _ (by rw [encId_length]; omega), encId_length, show 32 + j - 32 = j by omega]
theorem set_number (g : GLine) (v : Int) : (lineCells g).setIfInBounds 0 (.int .i64 v) = lineCells { g with number := v } := by
  simp [lineCells, lineList]
theorem set_name (g : GLine) (v : ByteArray) : (lineCells g).setIfInBounds 33 (.string v) = lineCells { g with name := v } := by
  unfold lineCells; rw [List.setIfInBounds_toArray, lineList_set g 0 _ (by omega)]; rfl
theorem set_date (g : GLine) (v : Int) : (lineCells g).setIfInBounds 34 (.int .i64 v) = lineCells { g with date := v } := by
  unfold lineCells; rw [List.setIfInBounds_toArray, lineList_set g 1 _ (by omega)]; rfl
theorem set_subject (g : GLine) (v : ByteArray) : (lineCells g).setIfInBounds 35 (.string v) = lineCells { g with subject := v } := by
  unfold lineCells; rw [List.setIfInBounds_toArray, lineList_set g 2 _ (by omega)]; rfl
theorem set_refs (g : GLine) (v : Value) : (lineCells g).setIfInBounds 36 v = lineCells { g with refs := v } := by
  unfold lineCells; rw [List.setIfInBounds_toArray, lineList_set g 3 _ (by omega)]; rfl
theorem set_bytes (g : GLine) (v : Int) : (lineCells g).setIfInBounds 37 (.int .i64 v) = lineCells { g with bytes := v } := by
  unfold lineCells; rw [List.setIfInBounds_toArray, lineList_set g 4 _ (by omega)]; rfl
theorem LineVar.set {w : World} {lb : Nat} {g g' : GLine} (h : LineVar w lb g) (j : Nat) (v : Value) (e : (lineCells g).setIfInBounds j v = lineCells g') : LineVar (w.setCell ⟨lb, j, none⟩ v) lb g' := by
  unfold LineVar at *
  rw [heap_setCell_same w lb j _ _ v h, e]
theorem grown_set (w : World) (lb j : Nat) (v : Value) : w.grownBy (w.setCell ⟨lb, j, none⟩ v) (some lb) :=
  ⟨rfl, rfl, rfl, by simp [World.setCell], fun k _ hne => heap_setCell_other w ⟨lb, j, none⟩ k v (fun e => hne (by rw [e]))⟩
theorem grown_refl (w : World) (r : Option Nat) : w.grownBy w r := ⟨rfl, rfl, rfl, Nat.le_refl _, fun _ _ _ => rfl⟩
theorem grown_trans {a b c : World} {r : Option Nat} (h : a.grownBy b r) (k : b.grownBy c r) : a.grownBy c r :=
  ⟨k.os.trans h.os, k.tape.trans h.tape, k.output.trans h.output, Nat.le_trans h.size k.size, fun i hi hne => (k.block i (Nat.lt_of_lt_of_le hi h.size) hne).trans (h.block i hi hne)⟩
theorem grown_below {w w' : World} (h : Below w.heap.size w w') (r : Option Nat) : w.grownBy w' r := ⟨h.os, h.tape, h.output, h.size, fun k hk _ => h.block k hk⟩
/-- What grows beyond a block of the call's own keeps what lay before. -/
theorem below_grown {w W w' : World} {B lb : Nat} (h : Below B w W) (hg : W.grownBy w' (some lb)) (hB : B ≤ W.heap.size) (hlb : B ≤ lb) : Below B w w' := h.grown hg hB (fun k e => by cases e; exact hlb)

def numErr (l : List UInt8) (lo hi e : Int) : Int := if numOk l then rangeErr (numVal l) lo hi e else 3

set_option maxHeartbeats 1000000 in
theorem setNumber_no (b off : Nat) (p : ByteArray) (lo hi e : Int) (w : World) (hs : p.size ≤ maxLen) (hok : numOk p.data.toList = false) :
    Calls Tryz.prog 96 #[.pointer (some ⟨b, off, none⟩), .string p, .int .i64 lo, .int .i64 hi, .int .i64 e] w fun r w' => r = .returned (.int .i64 3) ∧ w = w' := by
  have HOK := Lib.hid hok
  clear hok
  go_enter Tryz.func96, Tryz.ntmps96
  go_wp2_with fail
  refine (parseNumber_any p w hs).mono ?_
  rintro r w' ⟨rfl, rfl⟩
  rw [HOK.out]
  go_wp2
  go_ret
  exact ⟨rfl, rfl⟩
set_option maxHeartbeats 1000000 in
theorem setNumber_yes (b off : Nat) (p : ByteArray) (lo hi e : Int) (w : World) (hs : p.size ≤ maxLen) (old : Value) (hc : w.cell? ⟨b, off, none⟩ = some old) (hf : w.frozen? ⟨b, off, none⟩ = false) (hok : numOk p.data.toList = true) :
    Calls Tryz.prog 96 #[.pointer (some ⟨b, off, none⟩), .string p, .int .i64 lo, .int .i64 hi, .int .i64 e] w fun r w' => r = .returned (.int .i64 (rangeErr (numVal p.data.toList) lo hi e)) ∧ w.setCell ⟨b, off, none⟩ (.int .i64 (numVal p.data.toList)) = w' := by
  have HOK := Lib.hid hok
  clear hok
  go_enter Tryz.func96, Tryz.ntmps96
  go_wp2_with fail
  refine (parseNumber_any p w hs).mono ?_
  rintro r w' ⟨rfl, rfl⟩
  rw [HOK.out]
  go_wp2_with fail
  refine (checkRange_any _ _ _ _ _).mono ?_
  rintro r w' ⟨rfl, rfl⟩
  go_wp2
  go_ret
  exact ⟨rfl, rfl⟩

end Go.Proofs.YtdjaphcelpchaaaGreatDoor
