/- (*overview.Line).set: one part of a text into one field of the line. -/
import Derived.Test.YtdjaphcelpchaaaGreatDoorRefsSet
namespace Go.Proofs.YtdjaphcelpchaaaGreatDoor
open Go Go.RowKit Go.Proofs

attribute [local go_sem ↓] ex_load_id ex_store_id ex_alloc_id ex_build_id
attribute [local go_sem] ld_id st_id guard_id okCells_drew rdCells_drew okCells_drewN rdCells_drewN rowOk_drew rowOk_cells okCells_cells rdCells_cells okArr_id rdArr_id setRow_drew setRow_new setRow_past fits_id encId_length

/-- What part i says of its text, and the line with that part set. -/
def partErr (i : Nat) (p : ByteArray) : Int := match i with
  | 0 => numErr p.data.toList 1 2147483646 2
  | 1 => if idOk p.data.toList then 0 else 3
  | 2 => textErr p.data.toList 60
  | 3 => numErr p.data.toList 0 105190559 13
  | 4 => textErr p.data.toList 200
  | 5 => refsPart p
  | _ => numErr p.data.toList 0 65536 2
def setG (g : GLine) (i : Nat) (p : ByteArray) (v : Value) : GLine := match i with
  | 0 => { g with number := numVal p.data.toList }
  | 1 => { g with id := idVal p.data.toList }
  | 2 => { g with name := p }
  | 3 => { g with date := numVal p.data.toList }
  | 4 => { g with subject := p }
  | 5 => { g with refs := v }
  | _ => { g with bytes := numVal p.data.toList }
/-- A block for a line, whatever it holds. -/
def LineBlk (w : World) (lb : Nat) : Prop := ∃ cs, w.heap[lb]? = some (.cells cs 34 (0, 0)) ∧ cs.size = 38
def SetPost (g : GLine) (i : Nat) (p : ByteArray) (lb : Nat) (w w' : World) : Prop :=
  w.grownBy w' (some lb) ∧ LineBlk w' lb ∧ (partErr i p = 0 → ∃ v, LineVar w' lb (setG g i p v) ∧ (i = 5 → v.oneCell' = true ∧ v.ownBlock ≠ some lb ∧ IdsAt w' v (refIds p)))

theorem LineVar.row {w : World} {lb : Nat} {g : GLine} (h : LineVar w lb g) : rowOk w lb 38 = true := by
  unfold rowOk; rw [h]; simp [lineCells_size]
theorem LineVar.blk {w : World} {lb : Nat} {g : GLine} (h : LineVar w lb g) : LineBlk w lb := ⟨_, h, lineCells_size g⟩
theorem LineBlk.row {w : World} {lb : Nat} (h : LineBlk w lb) : rowOk w lb 38 = true := by
  obtain ⟨cs, h1, h2⟩ := h
  unfold rowOk; rw [h1]; simp [h2]
theorem IdsAt.grown {w w' : World} {v : Value} {ids : List Id32} {lb : Nat} (h : IdsAt w v ids) (hg : w.grownBy w' (some lb)) (hne : v.ownBlock ≠ some lb) : IdsAt w' v ids := by
  obtain ⟨a, c, rfl, hc, hr⟩ := h
  refine ⟨a, c, rfl, hc, fun hn => ?_⟩
  obtain ⟨b, off, rfl, hrow⟩ := hr hn
  refine ⟨b, off, rfl, fun j hj i v hi => ?_⟩
  rw [← hrow j hj i v hi]
  unfold World.cell?
  rw [hg.block b (hrow.lt hn) (fun e => hne (by rw [Value.ownBlock]; exact e))]
theorem post_of {g : GLine} {i : Nat} {p : ByteArray} {lb : Nat} {w w' : World} (hg : w.grownBy w' (some lb)) (hv : ∀ v, LineVar w' lb (setG g i p v)) (hi : i ≠ 5) : SetPost g i p lb w w' :=
  ⟨hg, (hv undef).blk, fun _ => ⟨undef, hv undef, fun e => absurd e hi⟩⟩
theorem post_no {g : GLine} {i : Nat} {p : ByteArray} {lb : Nat} {w w' : World} (hg : w.grownBy w' (some lb)) (hv : LineVar w' lb g) (he : partErr i p ≠ 0) : SetPost g i p lb w w' :=
  ⟨hg, hv.blk, fun e => absurd e he⟩
theorem numErr_no {l : List UInt8} {lo hi e : Int} (h : numOk l = false) : numErr l lo hi e = 3 := by unfold numErr; rw [h]; rfl
theorem numErr_yes {l : List UInt8} {lo hi e : Int} (h : numOk l = true) : numErr l lo hi e = rangeErr (numVal l) lo hi e := by unfold numErr; rw [h]; rfl

set_option maxHeartbeats 1000000 in
theorem set0 (lb : Nat) (g : GLine) (p : ByteArray) (w : World) (hv : LineVar w lb g) (hs : p.size ≤ maxLen) :
    Calls Tryz.prog 60 #[.pointer (some ⟨lb, 0, none⟩), .int .i64 0, .string p] w fun r w' => r = .returned (.int .i64 (partErr 0 p)) ∧ SetPost g 0 p lb w w' := by
  by_cases hok : numOk p.data.toList = true
  · have HOK := Lib.hid hok
    clear hok
    go_enter Tryz.func60, Tryz.ntmps60
    go_wp2_with fail
    refine (setNumber_yes lb 0 p 1 2147483646 2 w hs _ ((hv.cell 0).trans (lc0 g)) (hv.free 0) HOK.out).mono ?_
    rintro r w' ⟨rfl, rfl⟩
    go_wp2
    go_ret
    exact ⟨ret_int (numErr_yes HOK.out).symm, post_of (grown_set _ _ _ _) (fun v => hv.set 0 _ (set_number g _)) (by decide)⟩
  · have HOK := Lib.hid (show numOk p.data.toList = false by simpa using hok)
    clear hok
    go_enter Tryz.func60, Tryz.ntmps60
    go_wp2_with fail
    refine (setNumber_no lb 0 p 1 2147483646 2 w hs HOK.out).mono ?_
    rintro r w' ⟨rfl, rfl⟩
    go_wp2
    go_ret
    exact ⟨ret_int (numErr_no HOK.out).symm, post_no (grown_refl _ _) hv (by rw [show partErr 0 p = 3 from numErr_no HOK.out]; decide)⟩

theorem lineList_id (g : GLine) (x : Id32) : (lineList g).take 1 ++ encId x ++ (lineList g).drop 33 = lineList { g with id := x } := by
  simp [lineList, encId_length]
theorem st_line_id (w : World) (lb : Nat) (g : GLine) (x : Id32) (h : LineVar w lb g) : stRes Tryz.prog 23 w (.pointer (some ⟨lb, 1, none⟩)) (.agg (encId x).toArray) = .ok .skip (w.setRow lb (lineCells { g with id := x })) := by
  have h1 := run_storeCells_at Tryz.prog lb 1 34 (encId x) 0 (lineCells g) w h (by rw [encId_length, lineCells_size]; omega) (encId_oneCell x)
  have e : ((lineCells g).toList.take (1 + 0) ++ encId x ++ (lineCells g).toList.drop (1 + 0 + (encId x).length)).toArray = lineCells { g with id := x } := by
    rw [encId_length]; exact congrArg List.toArray (lineList_id g x)
  rw [e] at h1
  unfold stRes
  rw [Sem.run_bind]
  have h2 : Sem.run Tryz.prog (Instr.storeAt 23 (.pointer (some ⟨lb, 1, none⟩)) (.agg (encId x).toArray)) w = .ok () (w.setRow lb (lineCells { g with id := x })) := by
    simp [Instr.storeAt, Instr.sureAddr, storeVar, Tryz.sizeOf23, Value.cells, encId_length, h1]
  rw [h2]; rfl
theorem LineVar.row_set {w : World} {lb : Nat} {g g' : GLine} (h : LineVar w lb g) : LineVar (w.setRow lb (lineCells g')) lb g' := setRow_heap w lb _ _ _ _ h
theorem grown_row (w : World) (lb : Nat) (cs : Array Value) : w.grownBy (w.setRow lb cs) (some lb) :=
  ⟨rfl, rfl, rfl, by simp [World.setRow], fun k _ hne => by
    unfold World.setRow
    simp only [Array.getElem?_modify]
    rw [if_neg (fun e => hne (by rw [e]))]⟩

set_option maxRecDepth 100000 in
set_option maxHeartbeats 1000000 in
theorem set1 (lb : Nat) (g : GLine) (p : ByteArray) (w : World) (hv : LineVar w lb g) (hs : p.size ≤ maxLen) :
    Calls Tryz.prog 60 #[.pointer (some ⟨lb, 0, none⟩), .int .i64 1, .string p] w fun r w' => r = .returned (.int .i64 (partErr 1 p)) ∧ SetPost g 1 p lb w w' := by
  go_enter Tryz.func60, Tryz.ntmps60
  go_wp2_with fail
  refine (parseId_any p w hs).mono ?_
  rintro r w2 ⟨rfl, hb2⟩
  have hv2 : LineVar (w2.alloc (.cells (encId (idVal p.data.toList)).toArray 23)) lb g := hv.grown (grown_below (hb2.alloc hb2.size _) none) (by simp)
  have hg2 := Lib.hid (grown_below (hb2.alloc hb2.size (.cells (encId (idVal p.data.toList)).toArray 23)) (some lb))
  by_cases hok : idOk p.data.toList = true
  · have HOK := Lib.hid hok
    rw [hok]
    clear hok hb2
    have hst := st_line_id _ lb g (idVal p.data.toList) hv2
    have HV2 := Lib.hid hv2
    clear hv2 hv
    go_wp2
    go_ret
    exact ⟨ret_int (by unfold partErr; rw [HOK.out]; rfl), post_of (grown_trans hg2.out (grown_row _ _ _)) (fun v => HV2.out.row_set) (by decide)⟩
  · have hok' : idOk p.data.toList = false := by simpa using hok
    have HOK := Lib.hid hok'
    rw [hok']
    have HV2 := Lib.hid hv2
    clear hok hok' hb2 hv2 hv
    go_wp2
    go_ret
    have e3 : partErr 1 p = 3 := by unfold partErr; rw [HOK.out]; rfl
    exact ⟨ret_int e3.symm, post_no hg2.out HV2.out (by rw [e3]; decide)⟩

set_option maxHeartbeats 1000000 in
theorem set2 (lb : Nat) (g : GLine) (p : ByteArray) (w : World) (hv : LineVar w lb g) (hs : p.size ≤ maxLen) :
    Calls Tryz.prog 60 #[.pointer (some ⟨lb, 0, none⟩), .int .i64 2, .string p] w fun r w' => r = .returned (.int .i64 (partErr 2 p)) ∧ SetPost g 2 p lb w w' := by
  have hc := (hv.cell 33).trans (lc33 g)
  have hf := hv.free 33
  have HV := Lib.hid hv
  clear hv
  go_enter Tryz.func60, Tryz.ntmps60
  go_wp2_with fail
  refine (checkText_any p 60 _ hs).mono ?_
  rintro r w' ⟨rfl, rfl⟩
  go_wp2
  go_ret
  exact ⟨rfl, post_of (grown_set _ _ _ _) (fun v => HV.out.set 33 _ (set_name g _)) (by decide)⟩

set_option maxHeartbeats 1000000 in
theorem set3 (lb : Nat) (g : GLine) (p : ByteArray) (w : World) (hv : LineVar w lb g) (hs : p.size ≤ maxLen) :
    Calls Tryz.prog 60 #[.pointer (some ⟨lb, 0, none⟩), .int .i64 3, .string p] w fun r w' => r = .returned (.int .i64 (partErr 3 p)) ∧ SetPost g 3 p lb w w' := by
  by_cases hok : numOk p.data.toList = true
  · have HOK := Lib.hid hok
    clear hok
    go_enter Tryz.func60, Tryz.ntmps60
    go_wp2_with fail
    refine (setNumber_yes lb 34 p 0 105190559 13 w hs _ ((hv.cell 34).trans (lc34 g)) (hv.free 34) HOK.out).mono ?_
    rintro r w' ⟨rfl, rfl⟩
    go_wp2
    go_ret
    exact ⟨ret_int (numErr_yes HOK.out).symm, post_of (grown_set _ _ _ _) (fun v => hv.set 34 _ (set_date g _)) (by decide)⟩
  · have HOK := Lib.hid (show numOk p.data.toList = false by simpa using hok)
    clear hok
    go_enter Tryz.func60, Tryz.ntmps60
    go_wp2_with fail
    refine (setNumber_no lb 34 p 0 105190559 13 w hs HOK.out).mono ?_
    rintro r w' ⟨rfl, rfl⟩
    go_wp2
    go_ret
    exact ⟨ret_int (numErr_no HOK.out).symm, post_no (grown_refl _ _) hv (by rw [show partErr 3 p = 3 from numErr_no HOK.out]; decide)⟩

set_option maxHeartbeats 1000000 in
theorem set4 (lb : Nat) (g : GLine) (p : ByteArray) (w : World) (hv : LineVar w lb g) (hs : p.size ≤ maxLen) :
    Calls Tryz.prog 60 #[.pointer (some ⟨lb, 0, none⟩), .int .i64 4, .string p] w fun r w' => r = .returned (.int .i64 (partErr 4 p)) ∧ SetPost g 4 p lb w w' := by
  have hc := (hv.cell 35).trans (lc35 g)
  have hf := hv.free 35
  have HV := Lib.hid hv
  clear hv
  go_enter Tryz.func60, Tryz.ntmps60
  go_wp2_with fail
  refine (checkText_any p 200 _ hs).mono ?_
  rintro r w' ⟨rfl, rfl⟩
  go_wp2
  go_ret
  exact ⟨rfl, post_of (grown_set _ _ _ _) (fun v => HV.out.set 35 _ (set_subject g _)) (by decide)⟩

set_option maxHeartbeats 1000000 in
theorem set5 (lb : Nat) (g : GLine) (p : ByteArray) (w : World) (hv : LineVar w lb g) (hr : g.refs = .slice none 0 0) (hG : Gl w) (hs : p.size < 4294967281) :
    Calls Tryz.prog 60 #[.pointer (some ⟨lb, 0, none⟩), .int .i64 5, .string p] w fun r w' => r = .returned (.int .i64 (partErr 5 p)) ∧ SetPost g 5 p lb w w' := by
  go_enter Tryz.func60, Tryz.ntmps60
  go_wp2_with fail
  refine (setReferences_any lb 34 (lineCells g) p w hv (by rw [lc36, hr]) hG hs).mono ?_
  rintro r w' ⟨rfl, hg, v, hb, h1, h2, h3⟩
  rw [set_refs] at hb
  clear hv hr hG
  go_wp2
  go_ret
  exact ⟨rfl, hg, LineVar.blk hb, fun e => ⟨v, hb, fun _ => ⟨h1, h2, h3 e⟩⟩⟩

set_option maxHeartbeats 1000000 in
theorem set6 (lb : Nat) (g : GLine) (p : ByteArray) (w : World) (hv : LineVar w lb g) (hs : p.size ≤ maxLen) :
    Calls Tryz.prog 60 #[.pointer (some ⟨lb, 0, none⟩), .int .i64 6, .string p] w fun r w' => r = .returned (.int .i64 (partErr 6 p)) ∧ SetPost g 6 p lb w w' := by
  by_cases hok : numOk p.data.toList = true
  · have HOK := Lib.hid hok
    clear hok
    go_enter Tryz.func60, Tryz.ntmps60
    go_wp2_with fail
    refine (setNumber_yes lb 37 p 0 65536 2 w hs _ ((hv.cell 37).trans (lc37 g)) (hv.free 37) HOK.out).mono ?_
    rintro r w' ⟨rfl, rfl⟩
    go_wp2
    go_ret
    exact ⟨ret_int (numErr_yes HOK.out).symm, post_of (grown_set _ _ _ _) (fun v => hv.set 37 _ (set_bytes g _)) (by decide)⟩
  · have HOK := Lib.hid (show numOk p.data.toList = false by simpa using hok)
    clear hok
    go_enter Tryz.func60, Tryz.ntmps60
    go_wp2_with fail
    refine (setNumber_no lb 37 p 0 65536 2 w hs HOK.out).mono ?_
    rintro r w' ⟨rfl, rfl⟩
    go_wp2
    go_ret
    exact ⟨ret_int (numErr_no HOK.out).symm, post_no (grown_refl _ _) hv (by rw [show partErr 6 p = 3 from numErr_no HOK.out]; decide)⟩

end Go.Proofs.YtdjaphcelpchaaaGreatDoor
