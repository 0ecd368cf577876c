/- Lines in memory: the cells of overview.Line and of bulletinref28.Line; (overview.Line).Check and bulletinref28.Check return what lineErr tells. -/
import Derived.Test.YtdjaphcelpchaaaGreatDoorRefs
namespace Go.Proofs.YtdjaphcelpchaaaGreatDoor
open Go Go.RowKit Go.Proofs

/-- A line as Go holds it: its references are a slice value. -/
structure GLine where
  number : Int
  id : Id32
  name : ByteArray
  date : Int
  subject : ByteArray
  refs : Value
  bytes : Int

def lineList (g : GLine) : List Value := .int .i64 g.number :: (encId g.id ++ [.string g.name, .int .i64 g.date, .string g.subject, g.refs, .int .i64 g.bytes])
/-- The 38 cells of an overview.Line, and the 39 of a bulletinref28.Line. -/
def lineCells (g : GLine) : Array Value := (lineList g).toArray
def rlineCells (grp : ByteArray) (g : GLine) : Array Value := (.string grp :: lineList g).toArray

theorem lineList_length (g : GLine) : (lineList g).length = 38 := by simp [lineList, encId_length]
theorem lineCells_size (g : GLine) : (lineCells g).size = 38 := by simp [lineCells, lineList_length]
theorem rlineCells_size (s : ByteArray) (g : GLine) : (rlineCells s g).size = 39 := by simp [rlineCells, lineList_length]
theorem lineList_at (g : GLine) (j : Nat) : (lineList g)[33 + j]? = [Value.string g.name, .int .i64 g.date, .string g.subject, g.refs, .int .i64 g.bytes][j]? := by
  unfold lineList
  rw [show 33 + j = (32 + j) + 1 by omega, List.getElem?_cons_succ, List.getElem?_append_right (by rw [encId_length]; omega), encId_length, show 32 + j - 32 = j by omega]
theorem lc0 (g : GLine) : (lineCells g)[0]? = some (.int .i64 g.number) := rfl
theorem lc33 (g : GLine) : (lineCells g)[33]? = some (.string g.name) := by simpa [lineCells] using lineList_at g 0
theorem lc34 (g : GLine) : (lineCells g)[34]? = some (.int .i64 g.date) := by simpa [lineCells] using lineList_at g 1
theorem lc35 (g : GLine) : (lineCells g)[35]? = some (.string g.subject) := by simpa [lineCells] using lineList_at g 2
theorem lc36 (g : GLine) : (lineCells g)[36]? = some g.refs := by simpa [lineCells] using lineList_at g 3
theorem lc37 (g : GLine) : (lineCells g)[37]? = some (.int .i64 g.bytes) := by simpa [lineCells] using lineList_at g 4
theorem rc_succ (s : ByteArray) (g : GLine) (j : Nat) : (rlineCells s g)[j + 1]? = (lineCells g)[j]? := by simp [rlineCells, lineCells]
theorem rc0 (s : ByteArray) (g : GLine) : (rlineCells s g)[0]? = some (.string s) := rfl
theorem rc1 (s : ByteArray) (g : GLine) : (rlineCells s g)[1]? = some (.int .i64 g.number) := rfl
theorem rc34 (s : ByteArray) (g : GLine) : (rlineCells s g)[34]? = some (.string g.name) := (rc_succ s g 33).trans (lc33 g)
theorem rc35 (s : ByteArray) (g : GLine) : (rlineCells s g)[35]? = some (.int .i64 g.date) := (rc_succ s g 34).trans (lc34 g)
theorem rc36 (s : ByteArray) (g : GLine) : (rlineCells s g)[36]? = some (.string g.subject) := (rc_succ s g 35).trans (lc35 g)
theorem rc37 (s : ByteArray) (g : GLine) : (rlineCells s g)[37]? = some g.refs := (rc_succ s g 36).trans (lc36 g)
theorem rc38 (s : ByteArray) (g : GLine) : (rlineCells s g)[38]? = some (.int .i64 g.bytes) := (rc_succ s g 37).trans (lc37 g)

def refsOne (g : GLine) : Prop := g.refs.oneCell' = true
theorem lineList_one {g : GLine} (h : refsOne g) : ∀ v ∈ lineList g, v.oneCell' = true := by
  intro v hv
  simp only [lineList, List.mem_cons, List.mem_append, List.mem_nil_iff, or_false] at hv
  rcases hv with rfl | hv | rfl | rfl | rfl | rfl | rfl
  · rfl
  · exact encId_oneCell _ v hv
  · rfl
  · rfl
  · rfl
  · exact h
  · rfl
theorem fits_line {g : GLine} (h : refsOne g) : fitsRow 38 (lineCells g) = true := fitsRow_mk (lineCells_size g) (by
  rw [Array.all_eq_true_iff_forall_mem]; intro v hv; exact lineList_one h v (by simpa [lineCells] using hv))
theorem fits_rline {s : ByteArray} {g : GLine} (h : refsOne g) : fitsRow 39 (rlineCells s g) = true := fitsRow_mk (rlineCells_size s g) (by
  rw [Array.all_eq_true_iff_forall_mem]
  intro v hv
  simp only [rlineCells, List.mem_toArray, List.mem_cons] at hv
  rcases hv with rfl | hv
  · rfl
  · exact lineList_one h v hv)

theorem ext_full {cs : Array Value} {n : Nat} (h : cs.size = n) : cs.extract 0 (0 + n) = cs := by subst h; simp
theorem ok_new_line (w : World) (g : GLine) (t : Nat) : okCells (w.alloc (.cells (lineCells g) t)) ⟨w.heap.size, 0, none⟩ 38 = true := ok_new w _ t 0 38 (by rw [lineCells_size]; omega)
theorem rd_new_line (w : World) (g : GLine) (t : Nat) : rdCells (w.alloc (.cells (lineCells g) t)) ⟨w.heap.size, 0, none⟩ 38 = lineCells g := by
  rw [rd_new w _ t 0 38 (by rw [lineCells_size]; omega)]; exact ext_full (lineCells_size g)
theorem ok_new_rline (w : World) (s : ByteArray) (g : GLine) (t : Nat) : okCells (w.alloc (.cells (rlineCells s g) t)) ⟨w.heap.size, 0, none⟩ 39 = true := ok_new w _ t 0 39 (by rw [rlineCells_size]; omega)
theorem rd_new_rline (w : World) (s : ByteArray) (g : GLine) (t : Nat) : rdCells (w.alloc (.cells (rlineCells s g) t)) ⟨w.heap.size, 0, none⟩ 39 = rlineCells s g := by
  rw [rd_new w _ t 0 39 (by rw [rlineCells_size]; omega)]; exact ext_full (rlineCells_size s g)
theorem extract_id (g : GLine) : (lineCells g).extract 1 (1 + 32) = (encId g.id).toArray := by
  apply Array.ext'
  simp [lineCells, lineList, encId_length]
theorem extract_rid (s : ByteArray) (g : GLine) : (rlineCells s g).extract 2 (2 + 32) = (encId g.id).toArray := by
  apply Array.ext'
  simp [rlineCells, lineList, encId_length]
theorem ok_line_id (w : World) (g : GLine) (t : Nat) : okCells (w.alloc (.cells (lineCells g) t)) ⟨w.heap.size, 1, none⟩ 32 = true := ok_new w _ t 1 32 (by rw [lineCells_size]; omega)
theorem rd_line_id (w : World) (g : GLine) (t : Nat) : rdCells (w.alloc (.cells (lineCells g) t)) ⟨w.heap.size, 1, none⟩ 32 = (encId g.id).toArray := by
  rw [rd_new w _ t 1 32 (by rw [lineCells_size]; omega)]; exact extract_id g
theorem ok_rline_id (w : World) (s : ByteArray) (g : GLine) (t : Nat) : okCells (w.alloc (.cells (rlineCells s g) t)) ⟨w.heap.size, 2, none⟩ 32 = true := ok_new w _ t 2 32 (by rw [rlineCells_size]; omega)
theorem rd_rline_id (w : World) (s : ByteArray) (g : GLine) (t : Nat) : rdCells (w.alloc (.cells (rlineCells s g) t)) ⟨w.heap.size, 2, none⟩ 32 = (encId g.id).toArray := by
  rw [rd_new w _ t 2 32 (by rw [rlineCells_size]; omega)]; exact extract_rid s g

theorem ex_load_line (ρ : Operand → Value) (d : Option Tmp) (x : Operand) (ty : TypeId) (pos : String) (af : Array Edge) (g : Option (Nat × Bool)) (w : World) :
    Sem.run Tryz.prog (execOp ρ ⟨d, .load 34 x, ty, pos, af, g⟩) w = ldRes Tryz.prog 34 w (ρ x) := rfl
theorem ex_store_line (ρ : Operand → Value) (d : Option Tmp) (x y : Operand) (ty : TypeId) (pos : String) (af : Array Edge) (g : Option (Nat × Bool)) (w : World) :
    Sem.run Tryz.prog (execOp ρ ⟨d, .store 34 x y, ty, pos, af, g⟩) w = stRes Tryz.prog 34 w (ρ x) (ρ y) := rfl
theorem ld_line (w : World) (a : Addr) (h : okCells w a 38 = true) : ldRes Tryz.prog 34 w (.pointer (some a)) = .ok (.value (.agg (rdCells w a 38))) w :=
  ldRes_agg Tryz.isAgg34 Tryz.sizeOf34 w a h
theorem st_line (w : World) (g : Nat) (cells : Array Value) (h : rowOk w g 38 = true) (h2 : fitsRow 38 cells = true) :
    stRes Tryz.prog 34 w (.pointer (some ⟨g, 0, none⟩)) (.agg cells) = .ok .skip (w.setRow g cells) := stRes_agg (by kernel_rfl) w g cells h h2
theorem ex_load_rline (ρ : Operand → Value) (d : Option Tmp) (x : Operand) (ty : TypeId) (pos : String) (af : Array Edge) (g : Option (Nat × Bool)) (w : World) :
    Sem.run Tryz.prog (execOp ρ ⟨d, .load 26 x, ty, pos, af, g⟩) w = ldRes Tryz.prog 26 w (ρ x) := rfl
theorem ex_store_rline (ρ : Operand → Value) (d : Option Tmp) (x y : Operand) (ty : TypeId) (pos : String) (af : Array Edge) (g : Option (Nat × Bool)) (w : World) :
    Sem.run Tryz.prog (execOp ρ ⟨d, .store 26 x y, ty, pos, af, g⟩) w = stRes Tryz.prog 26 w (ρ x) (ρ y) := rfl
theorem ld_rline (w : World) (a : Addr) (h : okCells w a 39 = true) : ldRes Tryz.prog 26 w (.pointer (some a)) = .ok (.value (.agg (rdCells w a 39))) w :=
  ldRes_agg Tryz.isAgg26 Tryz.sizeOf26 w a h
theorem st_rline (w : World) (g : Nat) (cells : Array Value) (h : rowOk w g 39 = true) (h2 : fitsRow 39 cells = true) :
    stRes Tryz.prog 26 w (.pointer (some ⟨g, 0, none⟩)) (.agg cells) = .ok .skip (w.setRow g cells) := stRes_agg (by kernel_rfl) w g cells h h2

/-- The zero line. -/
def zeroLine : GLine := ⟨0, zeroId, ⟨#[]⟩, 0, ⟨#[]⟩, .slice none 0 0, 0⟩
theorem ex_alloc_line (ρ : Operand → Value) (d : Option Tmp) (ty : TypeId) (pos : String) (af : Array Edge) (g : Option (Nat × Bool)) (w : World) :
    Sem.run Tryz.prog (execOp ρ ⟨d, .alloc 34, ty, pos, af, g⟩) w = .ok (.value (.pointer (some ⟨w.heap.size, 0, none⟩))) (w.alloc (.cells (lineCells zeroLine) 34)) := by kernel_rfl
theorem ex_build_line (ρ : Operand → Value) (d : Option Tmp) (ty : TypeId) (pos : String) (af : Array Edge) (g : Option (Nat × Bool)) (w : World) :
    Sem.run Tryz.prog (execOp ρ ⟨d, .build 34 #[], ty, pos, af, g⟩) w = .ok (.value (.agg (lineCells zeroLine))) w := by kernel_rfl
theorem ex_alloc_rline (ρ : Operand → Value) (d : Option Tmp) (ty : TypeId) (pos : String) (af : Array Edge) (g : Option (Nat × Bool)) (w : World) :
    Sem.run Tryz.prog (execOp ρ ⟨d, .alloc 26, ty, pos, af, g⟩) w = .ok (.value (.pointer (some ⟨w.heap.size, 0, none⟩))) (w.alloc (.cells (rlineCells ⟨#[]⟩ zeroLine) 26)) := by kernel_rfl
theorem ex_build_rline (ρ : Operand → Value) (d : Option Tmp) (ty : TypeId) (pos : String) (af : Array Edge) (g : Option (Nat × Bool)) (w : World) :
    Sem.run Tryz.prog (execOp ρ ⟨d, .build 26 #[], ty, pos, af, g⟩) w = .ok (.value (.agg (rlineCells ⟨#[]⟩ zeroLine))) w := by kernel_rfl

attribute [local go_sem ↓] ex_load_id ex_store_id ex_load_line ex_store_line ex_load_rline ex_store_rline
attribute [local go_sem] ld_id st_id ld_line st_line ld_rline st_rline guard_id okCells_drew rdCells_drew okCells_drewN rdCells_drewN ok_alloc rd_alloc rowOk_drew rowOk_new rowOk_alloc setRow_drew setRow_new setRow_past fits_id ok_new_id rd_new_id
attribute [local go_sem] lc0 lc33 lc34 lc35 lc36 lc37 rc0 rc1 rc34 rc35 rc36 rc37 rc38 ok_new_line rd_new_line ok_new_rline rd_new_rline ok_line_id rd_line_id ok_rline_id rd_rline_id

/-- The first number of a list that is not 0. -/
def orErr : List Int → Int
  | [] => 0
  | e :: r => if e = 0 then orErr r else e
theorem orErr_zeros : ∀ (l : List Int), (∀ e ∈ l, e = 0) → ∀ r, orErr (l ++ r) = orErr r
  | [], _, _ => rfl
  | e :: l, h, r => by
    have h0 : e = 0 := h e (by simp)
    rw [List.cons_append, orErr, if_pos h0]
    exact orErr_zeros l (fun x hx => h x (by simp [hx])) r
theorem orErr_hit {es : List Int} {k : Nat} (hlt : k < es.length) (hz : ∀ j, j < k → es[j]! = 0) (hk : es[k]! ≠ 0) : orErr es = es[k]! := by
  have e1 : es = es.take k ++ es[k] :: es.drop (k + 1) := by simp
  rw [e1, orErr_zeros (es.take k) (fun x hx => by
    obtain ⟨j, hj, rfl⟩ := List.mem_take_iff_getElem.1 hx
    have := hz j (by omega)
    simpa [show j < es.length by omega] using this)]
  have : es[k]! = es[k] := by simp [hlt]
  rw [← e1, this]
  rw [this] at hk
  simp [orErr, hk]
theorem orErr_none {es : List Int} (hz : ∀ j, j < es.length → es[j]! = 0) : orErr es = 0 := by
  have := orErr_zeros es (fun x hx => by
    obtain ⟨j, hj, rfl⟩ := List.mem_iff_getElem.1 hx
    simpa [hj] using hz j hj) []
  simpa [orErr] using this

theorem or_any (b : Nat) (c : Nat) (es : List Int) (w : World) (hm : es.length ≤ 1000) (h : ∀ j, j < es.length → w.cell? ⟨b, j, none⟩ = some (.int .i64 es[j]!)) :
    Calls Tryz.prog 55 #[.slice (some ⟨b, 0, none⟩) es.length c] w fun r w' => r = .returned (.int .i64 (orErr es)) ∧ w = w' := by
  have H := Lib.hid h
  clear h
  go_enter Tryz.func55, Tryz.ntmps55
  go_wp2
  go_loop [8] (fun i => ∃ k : Nat, k ≤ es.length ∧ i = .int .i64 k ∧ ∀ j, j < k → es[j]! = 0) (fun i => es.length - (intOf i).toNat)
  case atStart => exact ⟨0, Nat.zero_le _, rfl, fun j hj => absurd hj (Nat.not_lt_zero _)⟩
  case round =>
    obtain ⟨k, hk, rfl, hz⟩ := hrel
    have HZ := Lib.hid hz
    clear hz
    by_cases hlt : k < es.length
    · have hltz : (k : Int) < (es.length : Int) := by omega
      have hc := H.out k hlt
      generalize hx : es[k]! = x at hc
      have HX := Lib.hid hx
      clear hx
      by_cases h0 : x = 0
      · have h0' : (x != 0) = false := by simp [h0]
        have hn := Lib.hid (show ∀ j, j < k + 1 → es[j]! = 0 from fun j hj => by
          by_cases e : j = k
          · rw [e, HX.out, h0]
          · exact HZ.out j (by omega))
        clear h0
        go_wp2
        go_round
        case rel => exact ⟨k + 1, by omega, by go_num, hn.out⟩
        case measure => simp [intOf]; omega
      · have h0' : (x != 0) = true := by simp [h0]
        have hf := Lib.hid (show orErr es = x by rw [orErr_hit hlt HZ.out (by rw [HX.out]; exact h0), HX.out])
        clear h0
        go_wp2
        go_ret
        exact ⟨ret_int hf.out.symm, rfl⟩
    · have hf := Lib.hid (orErr_none (es := es) (by rw [show es.length = k by omega]; exact HZ.out))
      go_wp2
      go_ret
      exact ⟨ret_int hf.out.symm, rfl⟩

/-- The error of a line. -/
def lineErr (g : GLine) (ids : List Id32) : Int :=
  orErr [rangeErr g.number 1 2147483646 2, textErr g.name.data.toList 60, rangeErr g.date 0 105190559 13, textErr g.subject.data.toList 200, refsErr ids, rangeErr g.bytes 0 65536 2]

theorem or6 (a b c d e f : Int) (w : World) :
    Calls Tryz.prog 55 #[.slice (some ⟨w.heap.size, 0, none⟩) 6 6] (w.alloc (.cells #[.int .i64 a, .int .i64 b, .int .i64 c, .int .i64 d, .int .i64 e, .int .i64 f] 30))
      fun r w' => r = .returned (.int .i64 (orErr [a, b, c, d, e, f])) ∧ w.alloc (.cells #[.int .i64 a, .int .i64 b, .int .i64 c, .int .i64 d, .int .i64 e, .int .i64 f] 30) = w' :=
  or_any w.heap.size 6 [a, b, c, d, e, f] _ (by simp) (fun j hj => by
    rw [cells_new]
    have : j = 0 ∨ j = 1 ∨ j = 2 ∨ j = 3 ∨ j = 4 ∨ j = 5 := by simp at hj; omega
    rcases this with rfl | rfl | rfl | rfl | rfl | rfl <;> rfl)

/-- What is asked of a line in memory: its references are a slice of identities, its texts have lengths. -/
structure LineOk (w : World) (g : GLine) (ids : List Id32) : Prop where
  refs : IdsAt w g.refs ids
  len : ids.length ≤ maxLen
  name : g.name.size ≤ maxLen
  subject : g.subject.size ≤ maxLen

theorem LineOk.below {w w' : World} {g : GLine} {ids : List Id32} (h : LineOk w g ids) (hb : Below w.heap.size w w') : LineOk w' g ids := ⟨h.refs.below hb, h.len, h.name, h.subject⟩
theorem IdsAt.one {w : World} {v : Value} {ids : List Id32} (h : IdsAt w v ids) : v.oneCell' = true := by
  obtain ⟨a, c, rfl, _⟩ := h; rfl

set_option maxRecDepth 100000 in
set_option maxHeartbeats 1000000 in
theorem lineCheck_any (g : GLine) (ids : List Id32) (w : World) (h : LineOk w g ids) :
    Calls Tryz.prog 18 #[.agg (lineCells g)] w fun r w' => r = .returned (.int .i64 (lineErr g ids)) ∧ Below w.heap.size w w' := by
  have hbw : Below w.heap.size w (w.alloc (.cells (lineCells g) 34)) := (Below.refl _ _).alloc (Nat.le_refl _) _
  have hok := Lib.hid (h.below hbw)
  have HBW := Lib.hid hbw
  clear hbw
  obtain ⟨W, hW⟩ : ∃ W, w.alloc (.cells (lineCells g) 34) = W := ⟨_, rfl⟩
  have c0 : ∀ z : Later W, z.1.cell? ⟨w.heap.size, 0, none⟩ = some (.int .i64 g.number) := fun z => z.cell (by rw [← hW, cells_new]; exact lc0 g)
  have c33 : ∀ z : Later W, z.1.cell? ⟨w.heap.size, 33, none⟩ = some (.string g.name) := fun z => z.cell (by rw [← hW, cells_new]; exact lc33 g)
  have c34 : ∀ z : Later W, z.1.cell? ⟨w.heap.size, 34, none⟩ = some (.int .i64 g.date) := fun z => z.cell (by rw [← hW, cells_new]; exact lc34 g)
  have c35 : ∀ z : Later W, z.1.cell? ⟨w.heap.size, 35, none⟩ = some (.string g.subject) := fun z => z.cell (by rw [← hW, cells_new]; exact lc35 g)
  have c36 : ∀ z : Later W, z.1.cell? ⟨w.heap.size, 36, none⟩ = some g.refs := fun z => z.cell (by rw [← hW, cells_new]; exact lc36 g)
  have c37 : ∀ z : Later W, z.1.cell? ⟨w.heap.size, 37, none⟩ = some (.int .i64 g.bytes) := fun z => z.cell (by rw [← hW, cells_new]; exact lc37 g)
  have HW := Lib.hid hW
  go_enter Tryz.func18, Tryz.ntmps18
  go_wp2
  clear hW
  refine wp_region_ht 18 (fun w' => ∃ z : Later W, w' = z.1) (by kernel_rfl) (by kernel_rfl) ⟨⟨_, (Below.refl _ _).drew⟩, rfl⟩ ?_
  simp only [List.take_succ_cons, List.take_zero, List.drop_succ_cons, List.drop_zero]
  repeat (go_big_quiet_step (first | (go_at_call 56; exact Later.call_same (checkRange_any _ _ _ _ _)) | (go_at_call 57; exact Later.call_same (checkText_any _ _ _ (by first | exact h.name | exact h.subject))) | (go_at_call 58; exact Later.call (checkReferences_any _ _ _ ((HW.out ▸ hok.out : LineOk W g ids).refs.below (Subtype.property _)) h.len))))
  refine wpQuiet_nil ?_
  rintro _ ⟨z, rfl⟩
  have hz := z.2
  generalize z.1 = wz at hz ⊢
  clear c0 c33 c34 c35 c36 c37
  go_wp2_with fail
  refine (or6 _ _ _ _ _ _ _).mono ?_
  rintro e w1 ⟨rfl, rfl⟩
  go_wp2
  go_ret
  refine ⟨rfl, ?_⟩
  have h1 : Below w.heap.size w wz := HBW.out.trans (by rw [HW.out]; exact hz.mono (by rw [← HW.out]; simp))
  exact h1.alloc h1.size _

set_option maxRecDepth 100000 in
set_option maxHeartbeats 1000000 in
theorem refCheck_any (s : ByteArray) (g : GLine) (ids : List Id32) (w : World) (h : LineOk w g ids) :
    Calls Tryz.prog 15 #[.agg (rlineCells s g)] w fun r w' => r = .returned (.int .i64 (lineErr g ids)) ∧ Below w.heap.size w w' := by
  have hbw : Below w.heap.size w (w.alloc (.cells (rlineCells s g) 26)) := (Below.refl _ _).alloc (Nat.le_refl _) _
  have hok := h.below hbw
  have hn := hok.name
  have hsu := hok.subject
  have HB := Lib.hid hbw
  have HO := Lib.hid hok
  clear hbw hok
  have split : ∀ n lo hi e : Int, (rangeErr n lo hi e = e ∧ (n < lo ∨ hi < n)) ∨ (rangeErr n lo hi e = 0 ∧ lo ≤ n ∧ n ≤ hi) := fun n lo hi e => by
    by_cases hx : n < lo ∨ hi < n
    · exact .inl ⟨if_pos hx, hx⟩
    · exact .inr ⟨if_neg hx, by omega, by omega⟩
  have done : ∀ v : Int, lineErr g ids = v → ∀ w' : World, Below w.heap.size w w' → (Ending.returned (.int .i64 v) = .returned (.int .i64 (lineErr g ids)) ∧ Below w.heap.size w w') := fun v hv w' hw' => ⟨ret_int hv.symm, hw'⟩
  have DONE := Lib.hid done
  clear done
  rcases split g.number 1 2147483646 2 with ⟨e1, hx⟩ | ⟨e1, h1, h2⟩
  · have hf := Lib.hid (show lineErr g ids = 2 by simp [lineErr, orErr, e1])
    clear split e1
    rcases hx with hx | hx
    · go_enter Tryz.func15, Tryz.ntmps15
      go_wp2
      go_ret
      exact DONE.out _ hf.out _ HB.out
    · have hx' : ¬ g.number < 1 := by omega
      go_enter Tryz.func15, Tryz.ntmps15
      go_wp2
      go_ret
      exact DONE.out _ hf.out _ HB.out
  have n1 : ¬ g.number < 1 := by omega
  have n2 : ¬ (2147483646 : Int) < g.number := by omega
  clear h1 h2
  go_enter Tryz.func15, Tryz.ntmps15
  go_wp2_with fail
  refine (text_any _ _ _ hn).mono ?_
  rintro e w' ⟨rfl, rfl⟩
  generalize e2 : textErr g.name.data.toList 60 = x2
  by_cases hx2 : x2 = 0
  case neg =>
    have hf := Lib.hid (show lineErr g ids = x2 by simp [lineErr, orErr, e1, e2, hx2])
    have hb2 : (x2 != 0) = true := by simp [hx2]
    clear split e1 e2 hx2
    go_wp2
    go_ret
    exact DONE.out _ hf.out _ HB.out
  subst hx2
  have E1 := Lib.hid e1
  have E2 := Lib.hid e2
  clear e1 e2
  rcases split g.date 0 105190559 13 with ⟨e3, hx⟩ | ⟨e3, h1, h2⟩
  · have hf := Lib.hid (show lineErr g ids = 13 by simp [lineErr, orErr, E1.out, E2.out, e3])
    clear split e3
    rcases hx with hx | hx
    · go_wp2
      go_ret
      exact DONE.out _ hf.out _ HB.out
    · have hx' : ¬ g.date < 0 := by omega
      go_wp2
      go_ret
      exact DONE.out _ hf.out _ HB.out
  have d1 : ¬ g.date < 0 := by omega
  have d2 : ¬ (105190559 : Int) < g.date := by omega
  have E3 := Lib.hid e3
  clear e3 h1 h2
  go_wp2_with fail
  refine (text_any _ _ _ hsu).mono ?_
  rintro e w' ⟨rfl, rfl⟩
  generalize e4 : textErr g.subject.data.toList 200 = x4
  by_cases hx4 : x4 = 0
  case neg =>
    have hf := Lib.hid (show lineErr g ids = x4 by simp [lineErr, orErr, E1.out, E2.out, E3.out, e4, hx4])
    have hb2 : (x4 != 0) = true := by simp [hx4]
    clear split e4 hx4
    go_wp2
    go_ret
    exact DONE.out _ hf.out _ HB.out
  subst hx4
  have E4 := Lib.hid e4
  clear e4
  go_wp2_with fail
  refine (refs_any _ ids _ HO.out.refs HO.out.len).mono ?_
  rintro e w' ⟨rfl, q, rfl⟩
  have hbq : Below w.heap.size w ((w.alloc (.cells (rlineCells s g) 26)).drewN q) := HB.out.trans ⟨rfl, rfl, rfl, Nat.le_refl _, fun _ _ => rfl⟩
  have HQ := Lib.hid hbq
  clear hbq
  generalize e5 : refsErr ids = x5
  by_cases hx5 : x5 = 0
  case neg =>
    have hf := Lib.hid (show lineErr g ids = x5 by simp [lineErr, orErr, E1.out, E2.out, E3.out, E4.out, e5, hx5])
    have hb2 : (x5 != 0) = true := by simp [hx5]
    clear split e5 hx5
    go_wp2
    go_ret
    exact DONE.out _ hf.out _ HQ.out
  subst hx5
  have E5 := Lib.hid e5
  clear e5
  rcases split g.bytes 0 65536 2 with ⟨e6, hx⟩ | ⟨e6, h1, h2⟩
  · have hf := Lib.hid (show lineErr g ids = 2 by simp [lineErr, orErr, E1.out, E2.out, E3.out, E4.out, E5.out, e6])
    clear split e6
    rcases hx with hx | hx
    · go_wp2
      go_ret
      exact DONE.out _ hf.out _ HQ.out
    · have hx' : ¬ g.bytes < 0 := by omega
      go_wp2
      go_ret
      exact DONE.out _ hf.out _ HQ.out
  have b1 : ¬ g.bytes < 0 := by omega
  have b2 : ¬ (65536 : Int) < g.bytes := by omega
  have hf := Lib.hid (show lineErr g ids = 0 by simp [lineErr, orErr, E1.out, E2.out, E3.out, E4.out, E5.out, e6])
  clear e6 h1 h2 split
  go_wp2
  go_ret
  exact DONE.out _ hf.out _ HQ.out

end Go.Proofs.YtdjaphcelpchaaaGreatDoor
