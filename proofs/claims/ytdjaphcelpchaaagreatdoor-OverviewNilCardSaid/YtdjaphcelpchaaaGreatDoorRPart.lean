/- bulletinref28.part: one part of a text into one field of the reference's line. -/
import Derived.Test.YtdjaphcelpchaaaGreatDoorRPartRefs
namespace Go.Proofs.YtdjaphcelpchaaaGreatDoor
open Go Go.RowKit Go.Proofs

attribute [local go_sem ↓] ex_load_id ex_store_id ex_alloc_id ex_build_id
attribute [local go_sem] ld_id st_id guard_id okCells_drew rdCells_drew okCells_drewN rdCells_drewN rowOk_drew rowOk_cells okCells_cells rdCells_cells okArr_id rdArr_id setRow_drew setRow_new setRow_past fits_id encId_length

def RVar (w : World) (lb : Nat) (s : ByteArray) (g : GLine) : Prop := w.heap[lb]? = some (.cells (rlineCells s g) 26 (0, 0))
theorem RVar.lt {w : World} {lb : Nat} {s : ByteArray} {g : GLine} (h : RVar w lb s g) : lb < w.heap.size := (Array.getElem?_eq_some_iff.1 h).1
theorem RVar.cell {w : World} {lb : Nat} {s : ByteArray} {g : GLine} (h : RVar w lb s g) (j : Nat) : w.cell? ⟨lb, j, none⟩ = (rlineCells s g)[j]? := cell_of_row w lb j _ _ _ h
theorem RVar.free {w : World} {lb : Nat} {s : ByteArray} {g : GLine} (h : RVar w lb s g) (j : Nat) : w.frozen? ⟨lb, j, none⟩ = false := frozen_of_row w lb j _ _ h
theorem RVar.grown {w w' : World} {lb : Nat} {s : ByteArray} {g : GLine} {row : Option Nat} (h : RVar w lb s g) (hg : w.grownBy w' row) (hne : some lb ≠ row) : RVar w' lb s g := (hg.block lb h.lt hne).trans h
theorem rset_succ (s : ByteArray) (g g' : GLine) (j : Nat) (v : Value) (h : (lineCells g).setIfInBounds j v = lineCells g') : (rlineCells s g).setIfInBounds (j + 1) v = rlineCells s g' := by
  unfold rlineCells lineCells at *
  rw [List.setIfInBounds_toArray] at h ⊢
  rw [List.set_cons_succ, List.toArray_inj h]
theorem RVar.set {w : World} {lb : Nat} {s : ByteArray} {g g' : GLine} (h : RVar w lb s g) (j : Nat) (v : Value) (e : (lineCells g).setIfInBounds j v = lineCells g') : RVar (w.setCell ⟨lb, j + 1, none⟩ v) lb s g' := by
  unfold RVar at *
  rw [heap_setCell_same w lb (j + 1) _ _ v h, rset_succ s g g' j v e]
theorem RVar.rd {w : World} {lb : Nat} {s : ByteArray} {g : GLine} (h : RVar w lb s g) : okCells w ⟨lb, 0, none⟩ 39 = true ∧ rdCells w ⟨lb, 0, none⟩ 39 = rlineCells s g := by
  have := rd_of_cells (w := w) (a := ⟨lb, 0, none⟩) (cs := Value.string s :: lineList g) (fun j v hj => by rw [Addr.add_lit, Nat.zero_add, h.cell j]; simpa [rlineCells] using hj)
  rwa [List.length_cons, lineList_length] at this
def RBlk (w : World) (lb : Nat) : Prop := ∃ cs, w.heap[lb]? = some (.cells cs 26 (0, 0)) ∧ cs.size = 39
theorem RVar.blk {w : World} {lb : Nat} {s : ByteArray} {g : GLine} (h : RVar w lb s g) : RBlk w lb := ⟨_, h, rlineCells_size s g⟩
theorem RBlk.row {w : World} {lb : Nat} (h : RBlk w lb) : rowOk w lb 39 = true := by
  obtain ⟨cs, h1, h2⟩ := h
  unfold rowOk; rw [h1]; simp [h2]
theorem RBlk.setRow {w : World} {lb : Nat} {s : ByteArray} {g' : GLine} (h : RBlk w lb) : RVar (w.setRow lb (rlineCells s g')) lb s g' := by
  obtain ⟨cs, h1, _⟩ := h
  exact setRow_heap w lb _ _ _ _ h1
theorem RBlk.grown {w w' : World} {lb : Nat} {row : Option Nat} (h : RBlk w lb) (hg : w.grownBy w' row) (hne : some lb ≠ row) : RBlk w' lb := by
  obtain ⟨cs, h1, h2⟩ := h
  exact ⟨cs, (hg.block lb (Array.getElem?_eq_some_iff.1 h1).1 hne).trans h1, h2⟩

def RSetPost (s : ByteArray) (g : GLine) (i : Nat) (p : ByteArray) (lb : Nat) (w w' : World) : Prop :=
  w.grownBy w' (some lb) ∧ RBlk w' lb ∧ (partErr i p = 0 → ∃ v, RVar w' lb s (setG g i p v) ∧ (i = 5 → v.oneCell' = true ∧ (∀ b, v.ownBlock = some b → w.heap.size ≤ b) ∧ IdsAt w' v (refIds p)))
theorem rpost_of {s : ByteArray} {g : GLine} {i : Nat} {p : ByteArray} {lb : Nat} {w w' : World} (hg : w.grownBy w' (some lb)) (hv : ∀ v, RVar w' lb s (setG g i p v)) (hi : i ≠ 5) : RSetPost s g i p lb w w' :=
  ⟨hg, (hv undef).blk, fun _ => ⟨undef, hv undef, fun e => absurd e hi⟩⟩
theorem rangeErr_in {n lo hi e : Int} (h1 : ¬ n < lo) (h2 : ¬ hi < n) : rangeErr n lo hi e = 0 := by unfold rangeErr; rw [if_neg (by omega)]
theorem rangeErr_out {n lo hi e : Int} (h : n < lo ∨ hi < n) : rangeErr n lo hi e = e := by unfold rangeErr; rw [if_pos h]

set_option maxHeartbeats 1000000 in
theorem rset0 (lb : Nat) (s : ByteArray) (g : GLine) (p : ByteArray) (w : World) (hv : RVar w lb s g) (hs : p.size ≤ maxLen) :
    Calls Tryz.prog 64 #[.pointer (some ⟨lb, 0, none⟩), .int .i64 0, .string p] w fun r w' => r = .returned (.int .i64 (partErr 0 p)) ∧ RSetPost s g 0 p lb w w' := by
  have hc := (hv.cell 1).trans (rc1 s g)
  have hf := hv.free 1
  have hblk := hv
  unfold RVar at hblk
  have hc2 : (w.setCell ⟨lb, 1, none⟩ (.int .i64 (numVal p.data.toList))).cell? ⟨lb, 1, none⟩ = some (.int .i64 (numVal p.data.toList)) :=
    ((hv.set 0 (.int .i64 (numVal p.data.toList)) (set_number g _)).cell 1).trans (rc1 _ _)
  have HP := Lib.hid (show RSetPost s g 0 p lb w (w.setCell ⟨lb, 1, none⟩ (.int .i64 (numVal p.data.toList))) from rpost_of (grown_set _ _ _ _) (fun v => hv.set 0 _ (set_number g _)) (by decide))
  clear hv hblk
  go_enter Tryz.func64, Tryz.ntmps64
  go_wp2_with fail
  refine (number_any p w hs).mono ?_
  rintro r w' ⟨rfl, rfl⟩
  have HE := Lib.hid (show partErr 0 p = numErr p.data.toList 1 2147483646 2 from rfl)
  unfold numErr at HE
  generalize numVal p.data.toList = m at HP HE hc2 ⊢
  by_cases hok : numOk p.data.toList = true
  · rw [hok] at HE ⊢
    clear hok
    by_cases h1 : (m : Int) < 1
    · have HF := Lib.hid (show partErr 0 p = 2 from HE.out.trans (rangeErr_out (Or.inl h1)))
      go_wp2
      go_ret
      exact ⟨ret_int HF.out.symm, HP.out⟩
    · by_cases h2 : 2147483646 < (m : Int)
      · have HF := Lib.hid (show partErr 0 p = 2 from HE.out.trans (rangeErr_out (Or.inr h2)))
        go_wp2
        go_ret
        exact ⟨ret_int HF.out.symm, HP.out⟩
      · have HF := Lib.hid (show partErr 0 p = 0 from HE.out.trans (rangeErr_in h1 h2))
        go_wp2
        go_ret
        exact ⟨ret_int HF.out.symm, HP.out⟩
  · have hok' : numOk p.data.toList = false := by simpa using hok
    rw [hok'] at HE ⊢
    clear hok hok'
    have HF := Lib.hid (show partErr 0 p = 3 from HE.out)
    go_wp2
    go_ret
    exact ⟨ret_int HF.out.symm, HP.out⟩

theorem rlineList_id (s : ByteArray) (g : GLine) (x : Id32) : (Value.string s :: lineList g).take 2 ++ encId x ++ (Value.string s :: lineList g).drop 34 = Value.string s :: lineList { g with id := x } := by
  simp [lineList, encId_length]
theorem st_rline_id (w : World) (lb : Nat) (s : ByteArray) (g : GLine) (x : Id32) (h : RVar w lb s g) : stRes Tryz.prog 23 w (.pointer (some ⟨lb, 2, none⟩)) (.agg (encId x).toArray) = .ok .skip (w.setRow lb (rlineCells s { g with id := x })) := by
  have h1 := run_storeCells_at Tryz.prog lb 2 26 (encId x) 0 (rlineCells s g) w h (by rw [encId_length, rlineCells_size]; omega) (encId_oneCell x)
  have e : ((rlineCells s g).toList.take (2 + 0) ++ encId x ++ (rlineCells s g).toList.drop (2 + 0 + (encId x).length)).toArray = rlineCells s { g with id := x } := by
    rw [encId_length]; exact congrArg List.toArray (rlineList_id s g x)
  rw [e] at h1
  unfold stRes
  rw [Sem.run_bind]
  have h2 : Sem.run Tryz.prog (Instr.storeAt 23 (.pointer (some ⟨lb, 2, none⟩)) (.agg (encId x).toArray)) w = .ok () (w.setRow lb (rlineCells s { g with id := x })) := by
    simp [Instr.storeAt, Instr.sureAddr, storeVar, Tryz.sizeOf23, Value.cells, encId_length, h1]
  rw [h2]; rfl

set_option maxRecDepth 100000 in
set_option maxHeartbeats 1000000 in
theorem rset1 (lb : Nat) (s : ByteArray) (g : GLine) (p : ByteArray) (w : World) (hv : RVar w lb s g) (hs : p.size ≤ maxLen) :
    Calls Tryz.prog 64 #[.pointer (some ⟨lb, 0, none⟩), .int .i64 1, .string p] w fun r w' => r = .returned (.int .i64 (partErr 1 p)) ∧ RSetPost s g 1 p lb w w' := by
  go_enter Tryz.func64, Tryz.ntmps64
  go_wp2_with fail
  refine (identity_any p w hs).mono ?_
  rintro r w2 ⟨rfl, hb2⟩
  have hv2 : RVar w2 lb s g := hv.grown (grown_below hb2 none) (by simp)
  have hst := st_rline_id _ lb s g (idVal p.data.toList) hv2
  have HP := Lib.hid (show RSetPost s g 1 p lb w (w2.setRow lb (rlineCells s { g with id := idVal p.data.toList })) from rpost_of (grown_trans (grown_below hb2 _) (grown_row _ _ _)) (fun v => hv2.blk.setRow) (by decide))
  clear hb2 hv hv2
  by_cases hok : idOk p.data.toList = true
  · have HF := Lib.hid (show partErr 1 p = 0 by unfold partErr; rw [hok]; rfl)
    rw [hok]
    clear hok
    go_wp2
    go_ret
    exact ⟨ret_int HF.out.symm, HP.out⟩
  · have hok' : idOk p.data.toList = false := by simpa using hok
    have HF := Lib.hid (show partErr 1 p = 3 by unfold partErr; rw [hok']; rfl)
    rw [hok']
    clear hok hok'
    go_wp2
    go_ret
    exact ⟨ret_int HF.out.symm, HP.out⟩

set_option maxHeartbeats 1000000 in
theorem rset2 (lb : Nat) (s : ByteArray) (g : GLine) (p : ByteArray) (w : World) (hv : RVar w lb s g) (hs : p.size ≤ maxLen) :
    Calls Tryz.prog 64 #[.pointer (some ⟨lb, 0, none⟩), .int .i64 2, .string p] w fun r w' => r = .returned (.int .i64 (partErr 2 p)) ∧ RSetPost s g 2 p lb w w' := by
  have hc := (hv.cell 34).trans (rc34 s g)
  have hf := hv.free 34
  have HV := Lib.hid hv
  clear hv
  go_enter Tryz.func64, Tryz.ntmps64
  go_wp2_with fail
  refine (text_any p 60 _ hs).mono ?_
  rintro r w' ⟨rfl, rfl⟩
  go_wp2
  go_ret
  exact ⟨rfl, rpost_of (grown_set _ _ _ _) (fun v => HV.out.set 33 _ (set_name g _)) (by decide)⟩

set_option maxHeartbeats 1000000 in
theorem rset3 (lb : Nat) (s : ByteArray) (g : GLine) (p : ByteArray) (w : World) (hv : RVar w lb s g) (hs : p.size ≤ maxLen) :
    Calls Tryz.prog 64 #[.pointer (some ⟨lb, 0, none⟩), .int .i64 3, .string p] w fun r w' => r = .returned (.int .i64 (partErr 3 p)) ∧ RSetPost s g 3 p lb w w' := by
  have hc := (hv.cell 35).trans (rc35 s g)
  have hf := hv.free 35
  have hblk := hv
  unfold RVar at hblk
  have hc2 : (w.setCell ⟨lb, 35, none⟩ (.int .i64 (numVal p.data.toList))).cell? ⟨lb, 35, none⟩ = some (.int .i64 (numVal p.data.toList)) :=
    ((hv.set 34 (.int .i64 (numVal p.data.toList)) (set_date g _)).cell 35).trans (rc35 _ _)
  have HP := Lib.hid (show RSetPost s g 3 p lb w (w.setCell ⟨lb, 35, none⟩ (.int .i64 (numVal p.data.toList))) from rpost_of (grown_set _ _ _ _) (fun v => hv.set 34 _ (set_date g _)) (by decide))
  clear hv hblk
  go_enter Tryz.func64, Tryz.ntmps64
  go_wp2_with fail
  refine (number_any p w hs).mono ?_
  rintro r w' ⟨rfl, rfl⟩
  have HE := Lib.hid (show partErr 3 p = numErr p.data.toList 0 105190559 13 from rfl)
  unfold numErr at HE
  generalize numVal p.data.toList = m at HP HE hc2 ⊢
  by_cases hok : numOk p.data.toList = true
  · rw [hok] at HE ⊢
    clear hok
    by_cases h2 : 105190559 < (m : Int)
    · have HF := Lib.hid (show partErr 3 p = 13 from HE.out.trans (rangeErr_out (Or.inr h2)))
      go_wp2
      go_ret
      exact ⟨ret_int HF.out.symm, HP.out⟩
    · have HF := Lib.hid (show partErr 3 p = 0 from HE.out.trans (rangeErr_in (by omega) h2))
      go_wp2
      go_ret
      exact ⟨ret_int HF.out.symm, HP.out⟩
  · have hok' : numOk p.data.toList = false := by simpa using hok
    rw [hok'] at HE ⊢
    clear hok hok'
    have HF := Lib.hid (show partErr 3 p = 3 from HE.out)
    go_wp2
    go_ret
    exact ⟨ret_int HF.out.symm, HP.out⟩

set_option maxHeartbeats 1000000 in
theorem rset4 (lb : Nat) (s : ByteArray) (g : GLine) (p : ByteArray) (w : World) (hv : RVar w lb s g) (hs : p.size ≤ maxLen) :
    Calls Tryz.prog 64 #[.pointer (some ⟨lb, 0, none⟩), .int .i64 4, .string p] w fun r w' => r = .returned (.int .i64 (partErr 4 p)) ∧ RSetPost s g 4 p lb w w' := by
  have hc := (hv.cell 36).trans (rc36 s g)
  have hf := hv.free 36
  have HV := Lib.hid hv
  clear hv
  go_enter Tryz.func64, Tryz.ntmps64
  go_wp2_with fail
  refine (text_any p 200 _ hs).mono ?_
  rintro r w' ⟨rfl, rfl⟩
  go_wp2
  go_ret
  exact ⟨rfl, rpost_of (grown_set _ _ _ _) (fun v => HV.out.set 35 _ (set_subject g _)) (by decide)⟩

set_option maxHeartbeats 1000000 in
theorem rset6 (lb : Nat) (s : ByteArray) (g : GLine) (p : ByteArray) (w : World) (hv : RVar w lb s g) (hs : p.size ≤ maxLen) :
    Calls Tryz.prog 64 #[.pointer (some ⟨lb, 0, none⟩), .int .i64 6, .string p] w fun r w' => r = .returned (.int .i64 (partErr 6 p)) ∧ RSetPost s g 6 p lb w w' := by
  have hc := (hv.cell 38).trans (rc38 s g)
  have hf := hv.free 38
  have hblk := hv
  unfold RVar at hblk
  have hc2 : (w.setCell ⟨lb, 38, none⟩ (.int .i64 (numVal p.data.toList))).cell? ⟨lb, 38, none⟩ = some (.int .i64 (numVal p.data.toList)) :=
    ((hv.set 37 (.int .i64 (numVal p.data.toList)) (set_bytes g _)).cell 38).trans (rc38 _ _)
  have HP := Lib.hid (show RSetPost s g 6 p lb w (w.setCell ⟨lb, 38, none⟩ (.int .i64 (numVal p.data.toList))) from rpost_of (grown_set _ _ _ _) (fun v => hv.set 37 _ (set_bytes g _)) (by decide))
  clear hv hblk
  go_enter Tryz.func64, Tryz.ntmps64
  go_wp2_with fail
  refine (number_any p w hs).mono ?_
  rintro r w' ⟨rfl, rfl⟩
  have HE := Lib.hid (show partErr 6 p = numErr p.data.toList 0 65536 2 from rfl)
  unfold numErr at HE
  generalize numVal p.data.toList = m at HP HE hc2 ⊢
  by_cases hok : numOk p.data.toList = true
  · rw [hok] at HE ⊢
    clear hok
    by_cases h2 : 65536 < (m : Int)
    · have HF := Lib.hid (show partErr 6 p = 2 from HE.out.trans (rangeErr_out (Or.inr h2)))
      go_wp2
      go_ret
      exact ⟨ret_int HF.out.symm, HP.out⟩
    · have HF := Lib.hid (show partErr 6 p = 0 from HE.out.trans (rangeErr_in (by omega) h2))
      go_wp2
      go_ret
      exact ⟨ret_int HF.out.symm, HP.out⟩
  · have hok' : numOk p.data.toList = false := by simpa using hok
    rw [hok'] at HE ⊢
    clear hok hok'
    have HF := Lib.hid (show partErr 6 p = 3 from HE.out)
    go_wp2
    go_ret
    exact ⟨ret_int HF.out.symm, HP.out⟩

theorem rset5 (lb : Nat) (s : ByteArray) (g : GLine) (p : ByteArray) (w : World) (hv : RVar w lb s g) (hr : g.refs = .slice none 0 0) (hs : p.size < 4294967281) :
    Calls Tryz.prog 64 #[.pointer (some ⟨lb, 0, none⟩), .int .i64 5, .string p] w fun r w' => r = .returned (.int .i64 (partErr 5 p)) ∧ RSetPost s g 5 p lb w w' := by
  refine (partRefs_any lb 26 (rlineCells s g) p w hv (by rw [rc37, hr]) hs).mono ?_
  rintro r w' ⟨rfl, hg, v, hb, h1, h2, h3⟩
  rw [rset_succ s g _ 36 v (set_refs g v)] at hb
  exact ⟨rfl, hg, RVar.blk (s := s) (g := { g with refs := v }) hb, fun e => ⟨v, hb, fun _ => ⟨h1, h2, h3 e⟩⟩⟩

theorem rset_any (i lb : Nat) (s : ByteArray) (g : GLine) (p : ByteArray) (w : World) (hi : i < 7) (hv : RVar w lb s g) (hr : i = 5 → g.refs = .slice none 0 0) (hs : p.size < 4294967281) :
    Calls Tryz.prog 64 #[.pointer (some ⟨lb, 0, none⟩), .int .i64 i, .string p] w fun r w' => r = .returned (.int .i64 (partErr i p)) ∧ RSetPost s g i p lb w w' := by
  have hm : p.size ≤ maxLen := by unfold maxLen; omega
  match i, hi, hr with
  | 0, _, _ => exact rset0 lb s g p w hv hm
  | 1, _, _ => exact rset1 lb s g p w hv hm
  | 2, _, _ => exact rset2 lb s g p w hv hm
  | 3, _, _ => exact rset3 lb s g p w hv hm
  | 4, _, _ => exact rset4 lb s g p w hv hm
  | 5, _, hr => exact rset5 lb s g p w hv (hr rfl) hs
  | 6, _, _ => exact rset6 lb s g p w hv hm

end Go.Proofs.YtdjaphcelpchaaaGreatDoor
