/- Parts of the proofs about bulletinlaw28: RPart, Build, Back, Own, Same, Plain, Inv, LawCheck, Maps, Known, Check, Clone, Insert, Add0, Knows, Join, OpenLine, Search, MapLaw, Index. -/
import Derived.Test.YtdjaphcelpchaaaGreatDoorShelf
import Derived.Test.YtdjaphcelpchaaaGreatDoorK1
import Derived.Test.YtdjaphcelpchaaaGreatDoorK2
import Derived.Test.YtdjaphcelpchaaaGreatDoorShelf2
import Derived.Deep.QuietTactic
import Derived.WalkSpells
import Derived.Outline
import Derived.Carry
import Derived.WideMake
import Derived.RangeFuncRecord
import Derived.Deep.CutBlock
import Derived.Test.YtdjaphcelpchaaaGreatDoorCards
import Derived.Test.YtdjaphcelpchaaaGreatDoorTie
import Derived.ProofKit
import Derived.OpenShut
import Derived.Lay
import Derived.LaidSub
import Derived.Deep.DeepHandedRow
import Derived.Lib.LaidTab
import Derived.Shelf.Vars
import Derived.SizedLaws

namespace Go.Proofs.YtdjaphcelpchaaaGreatDoor
open Go Go.RowKit Go.Proofs

attribute [local go_sem ↓] ex_load_id ex_store_id ex_alloc_id ex_build_id

attribute [local go_sem] ld_id st_id guard_id okCells_drew rdCells_drew okCells_drewN rdCells_drewN rowOk_drew rowOk_cells okCells_cells rdCells_cells okArr_id rdArr_id setRow_drew setRow_new setRow_past fits_id encId_length

def RVar (w : World) (lb : Nat) (s : ByteArray) (g : GLine) : Prop := w.heap[lb]? = some (.cells (rlineCells s g) 26 (0, 0))
theorem RVar.lt {w : World} {lb : Nat} {s : ByteArray} {g : GLine} (h : RVar w lb s g) : lb < w.heap.size := (Array.getElem?_eq_some_iff.1 h).1
theorem RVar.cell {w : World} {lb : Nat} {s : ByteArray} {g : GLine} (h : RVar w lb s g) (j : Nat) : w.cell? ⟨lb, j, none⟩ = (rlineCells s g)[j]? := cell_of_row w lb j _ _ _ h
theorem rset_succ (s : ByteArray) (g g' : GLine) (j : Nat) (v : Value) (h : (lineCells g).setIfInBounds j v = lineCells g') : (rlineCells s g).setIfInBounds (j + 1) v = rlineCells s g' := by
  unfold rlineCells lineCells at *
  rw [List.setIfInBounds_toArray] at h ⊢
  rw [List.set_cons_succ, List.toArray_inj h]
theorem RVar.rd {w : World} {lb : Nat} {s : ByteArray} {g : GLine} (h : RVar w lb s g) : okCells w ⟨lb, 0, none⟩ 39 = true ∧ rdCells w ⟨lb, 0, none⟩ 39 = rlineCells s g := by
  have := rd_of_cells (w := w) (a := ⟨lb, 0, none⟩) (cs := Value.string s :: lineList g) (fun j v hj => by rw [Addr.add_lit, Nat.zero_add, h.cell j]; simpa [rlineCells] using hj)
  rwa [List.length_cons, lineList_length] at this
end Go.Proofs.YtdjaphcelpchaaaGreatDoor

namespace Go.Proofs.YtdjaphcelpchaaaGreatDoor
open Go Go.RowKit Go.Proofs

theorem fill_cons {place : Nat → Option (Nat × Nat)} {cells : Array Value} {i off size : Nat} {v : Value} {rest : List (Nat × Value)} (hp : place i = some (off, size)) (hs : v.cells.size = size) (hf : off + size ≤ cells.size) :
    Instr.fill place cells ((i, v) :: rest) = Instr.fill place (v.cells.zipIdx.foldl (fun cs (c, j) => cs.setIfInBounds (off + j) c) cells) rest := by
  rw [Instr.fill, hp]
  simp only [hs]
  rw [if_neg]
  simp; omega
theorem fill_one_cell {place : Nat → Option (Nat × Nat)} {cells cells' : Array Value} {i off : Nat} {v : Value} {rest : List (Nat × Value)} (hp : place i = some (off, 1)) (hs : v.cells = #[v]) (hf : off + 1 ≤ cells.size) (e : cells.setIfInBounds off v = cells') :
    Instr.fill place cells ((i, v) :: rest) = Instr.fill place cells' rest := by
  rw [fill_cons hp (by rw [hs]; rfl) hf, hs, ← e]
  rfl
theorem put_id (g : GLine) (x : Id32) : (encId x).toArray.zipIdx.foldl (fun cs (c, j) => cs.setIfInBounds (1 + j) c) (lineCells g) = lineCells { g with id := x } := by
  have h := put_list (encId x) 0 1 [.int .i64 g.number] (encId g.id) [.string g.name, .int .i64 g.date, .string g.subject, g.refs, .int .i64 g.bytes] rfl (by rw [encId_length, encId_length])
  rw [← Array.foldl_toList, Array.toList_zipIdx]
  exact h
theorem put_rid (s : ByteArray) (g : GLine) (x : Id32) : (encId x).toArray.zipIdx.foldl (fun cs (c, j) => cs.setIfInBounds (2 + j) c) (rlineCells s g) = rlineCells s { g with id := x } := by
  have h := put_list (encId x) 0 2 [.string s, .int .i64 g.number] (encId g.id) [.string g.name, .int .i64 g.date, .string g.subject, g.refs, .int .i64 g.bytes] rfl (by rw [encId_length, encId_length])
  rw [← Array.foldl_toList, Array.toList_zipIdx]
  exact h
def places34 (i : Nat) : Option (Nat × Nat) := #[(0, 1), (1, 32), (33, 1), (34, 1), (35, 1), (36, 1), (37, 1)][i]?
def places26 (i : Nat) : Option (Nat × Nat) := #[(0, 1), (1, 1), (2, 32), (34, 1), (35, 1), (36, 1), (37, 1), (38, 1)][i]?
theorem built34 (parts : List (Nat × Value)) : Tryz.prog.built 34 parts = Instr.fill places34 (lineCells zeroLine) parts := by kernel_rfl
theorem built26 (parts : List (Nat × Value)) : Tryz.prog.built 26 parts = Instr.fill places26 (rlineCells ⟨#[]⟩ zeroLine) parts := by kernel_rfl
theorem built_line (g : GLine) (hr : g.refs.cells = #[g.refs]) :
    Tryz.prog.built 34 [(0, .int .i64 g.number), (1, .agg (encId g.id).toArray), (2, .string g.name), (3, .int .i64 g.date), (4, .string g.subject), (5, g.refs), (6, .int .i64 g.bytes)] = some (lineCells g) := by
  rw [built34]
  rw [fill_one_cell (off := 0) rfl rfl (by rw [lineCells_size]; omega) (set_number _ _)]
  rw [fill_cons (off := 1) (size := 32) (v := .agg (encId g.id).toArray) rfl (encId_size _) (by rw [lineCells_size]; omega)]
  show Instr.fill _ ((encId g.id).toArray.zipIdx.foldl (fun cs (c, j) => cs.setIfInBounds (1 + j) c) _) _ = _
  rw [put_id]
  rw [fill_one_cell (off := 33) rfl rfl (by rw [lineCells_size]; omega) (set_name _ _)]
  rw [fill_one_cell (off := 34) rfl rfl (by rw [lineCells_size]; omega) (set_date _ _)]
  rw [fill_one_cell (off := 35) rfl rfl (by rw [lineCells_size]; omega) (set_subject _ _)]
  rw [fill_one_cell (off := 36) rfl hr (by rw [lineCells_size]; omega) (set_refs _ _)]
  rw [fill_one_cell (off := 37) rfl rfl (by rw [lineCells_size]; omega) (set_bytes _ _)]
  rfl
theorem set_rname (s s' : ByteArray) (g : GLine) : (rlineCells s g).setIfInBounds 0 (.string s') = rlineCells s' g := by simp [rlineCells]
theorem built_rline (s : ByteArray) (g : GLine) (hr : g.refs.cells = #[g.refs]) :
    Tryz.prog.built 26 [(0, .string s), (1, .int .i64 g.number), (2, .agg (encId g.id).toArray), (3, .string g.name), (4, .int .i64 g.date), (5, .string g.subject), (6, g.refs), (7, .int .i64 g.bytes)] = some (rlineCells s g) := by
  rw [built26]
  rw [fill_one_cell (off := 0) rfl rfl (by rw [rlineCells_size]; omega) (set_rname _ _ _)]
  rw [fill_one_cell (off := 1) rfl rfl (by rw [rlineCells_size]; omega) (rset_succ _ _ _ 0 _ (set_number _ _))]
  rw [fill_cons (off := 2) (size := 32) (v := .agg (encId g.id).toArray) rfl (encId_size _) (by rw [rlineCells_size]; omega)]
  show Instr.fill _ ((encId g.id).toArray.zipIdx.foldl (fun cs (c, j) => cs.setIfInBounds (2 + j) c) _) _ = _
  rw [put_rid]
  rw [fill_one_cell (off := 34) rfl rfl (by rw [rlineCells_size]; omega) (rset_succ _ _ _ 33 _ (set_name _ _))]
  rw [fill_one_cell (off := 35) rfl rfl (by rw [rlineCells_size]; omega) (rset_succ _ _ _ 34 _ (set_date _ _))]
  rw [fill_one_cell (off := 36) rfl rfl (by rw [rlineCells_size]; omega) (rset_succ _ _ _ 35 _ (set_subject _ _))]
  rw [fill_one_cell (off := 37) rfl hr (by rw [rlineCells_size]; omega) (rset_succ _ _ _ 36 _ (set_refs _ _))]
  rw [fill_one_cell (off := 38) rfl rfl (by rw [rlineCells_size]; omega) (rset_succ _ _ _ 37 _ (set_bytes _ _))]
  rfl

def blRes (P : Program) (t : Nat) (w : World) (parts : Array (Nat × Value)) : Result Next := Sem.run P (do pure (Next.value (← Instr.build t parts))) w
theorem blRes_of {P : Program} {t : Nat} {w : World} {parts : Array (Nat × Value)} {cells : Array Value} (h : P.built t parts.toList = some cells) : blRes P t w parts = .ok (.value (.agg cells)) w := by
  unfold blRes
  rw [Sem.run_bind, run_build w t parts cells h]; rfl
theorem ex_build_line7 (ρ : Operand → Value) (d : Option Tmp) (x0 x1 x2 x3 x4 x5 x6 : Operand) (ty : TypeId) (pos : String) (af : Array Edge) (gd : Option (Nat × Bool)) (w : World) :
    Sem.run Tryz.prog (execOp ρ ⟨d, .build 34 #[(0, x0), (1, x1), (2, x2), (3, x3), (4, x4), (5, x5), (6, x6)], ty, pos, af, gd⟩) w = blRes Tryz.prog 34 w #[(0, ρ x0), (1, ρ x1), (2, ρ x2), (3, ρ x3), (4, ρ x4), (5, ρ x5), (6, ρ x6)] := by kernel_rfl
theorem ex_build_rline8 (ρ : Operand → Value) (d : Option Tmp) (x0 x1 x2 x3 x4 x5 x6 x7 : Operand) (ty : TypeId) (pos : String) (af : Array Edge) (gd : Option (Nat × Bool)) (w : World) :
    Sem.run Tryz.prog (execOp ρ ⟨d, .build 26 #[(0, x0), (1, x1), (2, x2), (3, x3), (4, x4), (5, x5), (6, x6), (7, x7)], ty, pos, af, gd⟩) w = blRes Tryz.prog 26 w #[(0, ρ x0), (1, ρ x1), (2, ρ x2), (3, ρ x3), (4, ρ x4), (5, ρ x5), (6, ρ x6), (7, ρ x7)] := by kernel_rfl

/-- append(s, x...) of an x without elements onto a slice that has no room and no element: s itself. -/
theorem wpList_append_zero {ops : Array Oper} {rest : List Oper} {o : Oper} {a : Act} {w : World} {Q : Exit → Act → World → Prop} (hgd : o.guard = none) (s x : Operand)
    (ho : o.op = .call { callee := .builtin .append, args := #[s, x], argTypes := #[24, 24] }) (g c : Nat) (ad : Option Addr) (hs : a.eval s = .slice (some ⟨g, 0, none⟩) 0 0) (hx : a.eval x = .slice ad 0 c)
    (h : wpList Tryz.prog ops Q rest (a.put o.dst (.slice (some ⟨g, 0, none⟩) 0 0)) w) : wpList Tryz.prog ops Q (o :: rest) a w := by
  refine wpList_plain hgd fun K hK => ?_
  have hr : (Builtin.append_ #[24, 24] o.type #[.slice (some ⟨g, 0, none⟩) 0 0, .slice ad 0 c]).run Tryz.prog w = .ok (.slice (some ⟨g, 0, none⟩) 0 0) w := by
    cases ad with
    | none => kernel_rfl
    | some b => kernel_rfl
  unfold Oper.wp execOp
  simp only [ho, resolve, invoke, builtin, Sem.run_bind, Sem.run_pure, Result.andThen_ok, List.map_toArray, List.map_cons, List.map_nil, hs, hx, hr]
  exact hK _ _ h

end Go.Proofs.YtdjaphcelpchaaaGreatDoor

namespace Go.Proofs.YtdjaphcelpchaaaGreatDoor
open Go Go.RowKit Go.Proofs

attribute [local go_sem ↓] ex_load_id ex_store_id ex_load_line ex_store_line ex_load_rline ex_store_rline ex_alloc_line ex_build_line ex_alloc_rline ex_build_rline ex_build_line7 ex_build_rline8

attribute [local go_sem] ld_id st_id ld_line st_line ld_rline st_rline guard_id okCells_drew rdCells_drew okCells_drewN rdCells_drewN rowOk_drew rowOk_cells okCells_cells rdCells_cells setRow_drew setRow_new setRow_past

attribute [local go_sem] lc0 lc33 lc34 lc35 lc36 lc37 rc0 rc1 rc34 rc35 rc36 rc37 rc38

theorem okArr_lid (g : GLine) : okArr (lineCells g) 1 32 = true := okArr_le (by rw [lineCells_size]; omega)
theorem rdArr_lid (g : GLine) : rdArr (lineCells g) 1 32 = (encId g.id).toArray := by rw [rdArr_extract (by rw [lineCells_size]; omega)]; exact extract_id g
theorem okArr_rid (s : ByteArray) (g : GLine) : okArr (rlineCells s g) 2 32 = true := okArr_le (by rw [rlineCells_size]; omega)
theorem rdArr_rid (s : ByteArray) (g : GLine) : rdArr (rlineCells s g) 2 32 = (encId g.id).toArray := by rw [rdArr_extract (by rw [rlineCells_size]; omega)]; exact extract_rid s g
attribute [local go_sem] okArr_lid rdArr_lid okArr_rid rdArr_rid

theorem results_agg1 {P : Program} {fn : Func} {p : Tmp} {ty n : Nat} (h : fn.results = #[.cell p ty]) (hA : ∀ w, Sem.run P (isAgg ty) w = .ok true w) (hs : ∀ w, Sem.run P (Go.sizeOf ty) w = .ok n w)
    (tmps : Array Value) (w : World) (a : Addr) (cs : Array Value) (hp : tmps.getD p undef = .pointer (some a)) (hok : okCells w a n = true) (hrd : rdCells w a n = cs) :
    (results fn tmps).run P w = .ok (.agg cs) w := by
  have hp' : tmps[p]?.getD undef = .pointer (some a) := by simpa using hp
  have hl : (loadVar ty a).run P w = .ok (.agg cs) w := by
    simp [loadVar, hA, hs, run_loadCells_rd w a n hok, hrd]
  simp [results, h, hp', asAddr, hl]

set_option maxRecDepth 100000 in
set_option maxHeartbeats 1000000 in
theorem back_any (s : ByteArray) (g : GLine) (w : World) (hr : g.refs.cells = #[g.refs]) (h1 : refsOne g) :
    Calls Tryz.prog 22 #[.string s, .agg (lineCells g)] w fun r w' => r = .returned (.agg (rlineCells s g)) ∧ Below w.heap.size w w' := by
  have hb : ∀ w, blRes Tryz.prog 26 w #[(0, .string s), (1, .int .i64 g.number), (2, .agg (encId g.id).toArray), (3, .string g.name), (4, .int .i64 g.date), (5, .string g.subject), (6, g.refs), (7, .int .i64 g.bytes)] = .ok (.value (.agg (rlineCells s g))) w := fun w => blRes_of (built_rline s g hr)
  have hft := fits_rline (s := s) h1
  have hrsz : ((rlineCells ⟨#[]⟩ zeroLine).size == 39) = true := by rw [rlineCells_size]; rfl
  go_enter Tryz.func22, Tryz.ntmps22
  go_wp2
  refine bodyPost_ret (v := .agg (rlineCells s g)) ?_ rfl ⟨rfl, ((Below.refl _ _).alloc (Nat.le_refl _) _).alloc (by simp) _⟩
  exact results_agg1 rfl Tryz.isAgg26 Tryz.sizeOf26 _ _ ⟨w.heap.size + 1, 0, none⟩ _ rfl (by simpa using ok_new_rline (w.alloc (.cells (lineCells g) 34)) s g _) (by simpa using rd_new_rline (w.alloc (.cells (lineCells g) 34)) s g 26)

set_option maxHeartbeats 1000000 in
theorem small_any (s : ByteArray) (g : GLine) (w : World) (a : Option Addr) (n c : Nat) (hr : g.refs = .slice a n c) (hn : n ≤ maxLen) (h1 : s.size ≤ maxLen / 4) (h2 : g.name.size ≤ maxLen / 4) (h3 : g.subject.size ≤ maxLen / 4) :
    Calls Tryz.prog 14 #[.agg (rlineCells s g)] w fun r w' => r = .returned (.bool (decide (n ≤ 30) && decide (s.size + g.name.size + g.subject.size ≤ 600))) ∧ Below w.heap.size w w' := by
  unfold maxLen at *
  have hbw := Lib.hid (show Below w.heap.size w (w.alloc (.cells (rlineCells s g) 26)) from (Below.refl _ _).alloc (Nat.le_refl _) _)
  by_cases hq : n ≤ 30
  · have hqz : (n : Int) ≤ 30 := by omega
    by_cases hp : s.size + g.name.size + g.subject.size ≤ 600
    · have hpz : (s.size : Int) + g.name.size + g.subject.size ≤ 600 := by omega
      go_enter Tryz.func14, Tryz.ntmps14
      go_wp2
      go_ret
      exact ⟨by simp; exact ⟨hq, hp⟩, hbw.out⟩
    · have hpz : ¬ (s.size : Int) + g.name.size + g.subject.size ≤ 600 := by omega
      go_enter Tryz.func14, Tryz.ntmps14
      go_wp2
      go_ret
      exact ⟨by simp, hbw.out⟩
  · have hqz : ¬ (n : Int) ≤ 30 := by omega
    go_enter Tryz.func14, Tryz.ntmps14
    go_wp2
    go_ret
    exact ⟨by simp, hbw.out⟩

end Go.Proofs.YtdjaphcelpchaaaGreatDoor

namespace Go.Proofs.YtdjaphcelpchaaaGreatDoor
open Go Go.RowKit Go.Proofs

attribute [local go_sem ↓] ex_load_id ex_store_id ex_load_line ex_store_line ex_load_rline ex_store_rline ex_alloc_line ex_build_line ex_alloc_rline ex_build_rline ex_build_line7 ex_build_rline8

attribute [local go_sem] ld_id st_id ld_line st_line ld_rline st_rline guard_id okCells_drew rdCells_drew okCells_drewN rdCells_drewN rowOk_drew rowOk_cells okCells_cells rdCells_cells setRow_drew setRow_new setRow_past

attribute [local go_sem] lc0 lc33 lc34 lc35 lc36 lc37 rc0 rc1 rc34 rc35 rc36 rc37 rc38 okArr_lid rdArr_lid okArr_rid rdArr_rid

theorem ex_bs_zero (ρ : Operand → Value) (d : Option Tmp) (ty : TypeId) (pos : String) (af : Array Edge) (g : Option (Nat × Bool)) (w : World) :
    Sem.run Tryz.prog (execOp ρ ⟨d, .buildSlice 24 0 #[], ty, pos, af, g⟩) w = .ok (.value (.slice (some ⟨w.heap.size, 0, none⟩) 0 0)) (w.alloc (.cells #[] 23)) := by kernel_rfl
attribute [local go_sem ↓] ex_bs_zero

theorem flat_row {w : World} {b off : Nat} {ids : List Id32} (h : IdRow w b off ids) : ∀ j u, (flatIds ids)[j]? = some u → w.cell? ((⟨b, off, none⟩ : Addr).add j) = some u := by
  intro j u hj
  have hlt : j < ids.length * 32 := by have := (List.getElem?_eq_some_iff.1 hj).1; rwa [flat_length] at this
  rw [Addr.add_lit]
  have h1 := flat_get ids (j / 32) (j % 32) (by omega) (by omega)
  rw [show j / 32 * 32 + j % 32 = j by omega, hj] at h1
  have := h (j / 32) (by omega) (j % 32) u h1.symm
  rwa [show off + j / 32 * 32 + j % 32 = off + j by omega] at this
theorem flat_one (ids : List Id32) : ∀ u ∈ flatIds ids, u.oneCell' = true := by
  intro u hu
  unfold flatIds at hu
  rw [List.mem_flatMap] at hu
  obtain ⟨x, _, hx⟩ := hu
  exact encId_oneCell x u hx

end Go.Proofs.YtdjaphcelpchaaaGreatDoor

namespace Go.Proofs.YtdjaphcelpchaaaGreatDoor
open Go Go.RowKit Go.Proofs

attribute [local go_sem ↓] ex_load_id ex_store_id ex_load_line ex_store_line ex_load_rline ex_store_rline ex_alloc_line ex_build_line ex_alloc_rline ex_build_rline

attribute [local go_sem] ld_id st_id ld_line st_line ld_rline st_rline guard_id okCells_drew rdCells_drew okCells_drewN rdCells_drewN rowOk_drew rowOk_cells okCells_cells rdCells_cells setRow_drew setRow_new setRow_past

attribute [local go_sem] lc0 lc33 lc34 lc35 lc36 lc37 rc0 rc1 rc34 rc35 rc36 rc37 rc38 okArr_lid rdArr_lid okArr_rid rdArr_rid run_eql_id run_neq_id eqIn_id

set_option maxRecDepth 100000 in
set_option maxHeartbeats 2000000 in
theorem same_true (s : ByteArray) (g : GLine) (v1 v2 : Value) (ids : List Id32) (w : World) (hI1 : IdsAt w v1 ids) (hI2 : IdsAt w v2 ids) (hn : ids.length ≤ 1000000) :
    Calls Tryz.prog 21 #[.agg (rlineCells s { g with refs := v1 }), .agg (rlineCells s { g with refs := v2 })] w fun r w' => r = .returned (.bool true) ∧ Below w.heap.size w w' := by
  obtain ⟨a1, c1, rfl, hc1, hr1⟩ := hI1
  obtain ⟨a2, c2, rfl, hc2, hr2⟩ := hI2
  have hbA := Lib.hid (show Below w.heap.size w ((w.alloc (.cells (rlineCells s { g with refs := .slice a1 ids.length c1 }) 26)).alloc (.cells (rlineCells s { g with refs := .slice a2 ids.length c2 }) 26)) from ((Below.refl _ _).alloc (Nat.le_refl _) _).alloc (by simp) _)
  have HR1 := Lib.hid hr1
  have HR2 := Lib.hid hr2
  clear hr1 hr2
  go_enter Tryz.func21, Tryz.ntmps21
  go_wp2
  have hA1 : ∀ j, ((w.alloc (.cells (rlineCells s { g with refs := .slice a1 ids.length c1 }) 26)).alloc (.cells (rlineCells s { g with refs := .slice a2 ids.length c2 }) 26)).cell? ⟨w.heap.size, j, none⟩ = (rlineCells s { g with refs := .slice a1 ids.length c1 })[j]? := fun j => by
    rw [cell_of_row _ w.heap.size j _ _ (0, 0) (by rw [heap_alloc_old _ _ (by simp), heap_alloc_new])]
  have hA2 : ∀ j, ((w.alloc (.cells (rlineCells s { g with refs := .slice a1 ids.length c1 }) 26)).alloc (.cells (rlineCells s { g with refs := .slice a2 ids.length c2 }) 26)).cell? ⟨w.heap.size + 1, j, none⟩ = (rlineCells s { g with refs := .slice a2 ids.length c2 })[j]? := fun j => by
    rw [cell_of_row _ (w.heap.size + 1) j _ _ (0, 0) (by have := heap_alloc_new (w.alloc (.cells (rlineCells s { g with refs := .slice a1 ids.length c1 }) 26)) (.cells (rlineCells s { g with refs := .slice a2 ids.length c2 }) 26); simpa using this)]
  generalize hW : (w.alloc (.cells (rlineCells s { g with refs := .slice a1 ids.length c1 }) 26)).alloc (.cells (rlineCells s { g with refs := .slice a2 ids.length c2 }) 26) = W at hbA hA1 hA2 ⊢
  clear hW
  go_loopw [5] (fun i wr => ∃ k q : Nat, k ≤ ids.length ∧ i = .int .i64 k ∧ wr = W.drewN q) (fun i _ => ids.length - (intOf i).toNat)
  case atStart => exact ⟨0, 0, Nat.zero_le _, rfl, rfl⟩
  case round =>
    obtain ⟨k, q, hk, rfl, rfl⟩ := hrel
    have q1 := (hA1 37).trans (rc37 _ _)
    have q2 := (hA2 37).trans (rc37 _ _)
    by_cases hlt : k < ids.length
    · have hltz : (k : Int) < (ids.length : Int) := by omega
      have hne : ids ≠ [] := by intro e; rw [e] at hlt; simp at hlt
      obtain ⟨b1, o1, rfl, hw1⟩ := HR1.out hne
      obtain ⟨b2, o2, rfl, hw2⟩ := HR2.out hne
      have hr1 := (hw1.below hbA.out (hw1.lt hne)).rd hlt
      have hr2 := (hw2.below hbA.out (hw2.lt hne)).rd hlt
      generalize ids[k]! = x at hr1 hr2
      obtain ⟨e1, e2⟩ := hr1
      obtain ⟨e3, e4⟩ := hr2
      clear hw1 hw2 hA1 hA2 hne
      go_wp2
      go_quiet (fail)
      go_wp2
      go_roundw
      case rel => exact ⟨k + 1, q + nq, by omega, by go_num, by first | rfl | rw [World.drewN_drewN]⟩
      case measure => simp [intOf]; omega
    · have hltz : ¬ (k : Int) < (ids.length : Int) := by omega
      clear hA1 hA2
      go_wp2
      go_ret
      have := hbA.out
      exact ⟨rfl, this.os, this.tape, this.output, this.size, this.block⟩

end Go.Proofs.YtdjaphcelpchaaaGreatDoor

namespace Go.Proofs.YtdjaphcelpchaaaGreatDoor
open Go Go.RowKit Go.Proofs

/-! ## parts and joins -/
theorem join_two (x y : List UInt8) (r : List (List UInt8)) (sep : List UInt8) : Lib.join (x :: y :: r) sep = x ++ sep ++ Lib.join (y :: r) sep := by
  simp [Lib.join, List.intercalate, List.intersperse]
theorem splitL_none (c : UInt8) : ∀ l : List UInt8, c ∉ l → splitL c l = [l]
  | [], _ => rfl
  | b :: l, h => by
    have h1 : b ≠ c := fun e => h (by rw [e]; exact List.mem_cons_self)
    have h2 : c ∉ l := fun e => h (List.mem_cons_of_mem _ e)
    rw [splitL, if_neg h1, splitL_none c l h2]
theorem splitL_pre (c : UInt8) : ∀ (x l : List UInt8), c ∉ x → splitL c (x ++ c :: l) = x :: splitL c l
  | [], l, _ => by simp [splitL]
  | b :: x, l, h => by
    have h1 : b ≠ c := fun e => h (by rw [e]; exact List.mem_cons_self)
    have h2 : c ∉ x := fun e => h (List.mem_cons_of_mem _ e)
    rw [List.cons_append, splitL, if_neg h1, splitL_pre c x l h2]
theorem split_join (c : UInt8) : ∀ (xs : List (List UInt8)), xs ≠ [] → (∀ x ∈ xs, c ∉ x) → splitL c (Lib.join xs [c]) = xs
  | [], h, _ => absurd rfl h
  | [x], _, h => by rw [Lib.join_one]; exact splitL_none c x (h x (by simp))
  | x :: y :: r, _, h => by
    rw [join_two, List.append_assoc, List.singleton_append, splitL_pre c x _ (h x (by simp)), split_join c (y :: r) (by simp) (fun z hz => h z (List.mem_cons_of_mem _ hz))]
theorem join_split (c : UInt8) : ∀ l : List UInt8, Lib.join (splitL c l) [c] = l
  | [] => by rw [splitL, Lib.join_one]
  | b :: l => by
    have ih := join_split c l
    have hne := splitL_ne c l
    unfold splitL
    cases hq : splitL c l with
    | nil => exact absurd hq hne
    | cons y t =>
      rw [hq] at ih
      split
      · rename_i e; rw [join_two, ih, e]; rfl
      · cases t with
        | nil => rw [Lib.join_one] at ih ⊢; rw [ih]
        | cons z t => rw [join_two] at ih ⊢; rw [List.cons_append, List.cons_append, ih]

/-! ## numbers -/
theorem dec_rec (u : Nat) (h : ¬ u < 10) : Lib.decDigits u = Lib.decDigits (u / 10) ++ [UInt8.ofNat (48 + u % 10)] := by
  rw [Lib.decDigits, dif_neg h]
theorem dec_back : ∀ u : Nat, decVal (Lib.decDigits u) = u ∧ (Lib.decDigits u).all isDig = true ∧ 1 ≤ (Lib.decDigits u).length ∧ (1 < (Lib.decDigits u).length → (Lib.decDigits u).head? ≠ some 48) ∧ (u ≠ 0 → (Lib.decDigits u).head? ≠ some 48) := by
  intro u
  induction u using Nat.strongRecOn with
  | ind u ih =>
    by_cases h : u < 10
    · rw [Lib.decDigits_one h]
      have : u = 0 ∨ u = 1 ∨ u = 2 ∨ u = 3 ∨ u = 4 ∨ u = 5 ∨ u = 6 ∨ u = 7 ∨ u = 8 ∨ u = 9 := by omega
      rcases this with rfl | rfl | rfl | rfl | rfl | rfl | rfl | rfl | rfl | rfl <;> decide
    · obtain ⟨h1, h2, h3, h4, h5⟩ := ih (u / 10) (by omega)
      rw [dec_rec u h, decVal_snoc, h1]
      have hd : (UInt8.ofNat (48 + u % 10)).toNat = 48 + u % 10 := by simp; omega
      have hne : Lib.decDigits (u / 10) ≠ [] := by intro e; rw [e] at h3; simp at h3
      have hhead : (Lib.decDigits (u / 10) ++ [UInt8.ofNat (48 + u % 10)]).head? = (Lib.decDigits (u / 10)).head? := by
        cases hq : Lib.decDigits (u / 10) with
        | nil => exact absurd hq hne
        | cons a r => rfl
      refine ⟨by rw [hd]; omega, ?_, by simp, fun _ => ?_, fun _ => ?_⟩
      · rw [List.all_append, h2]; simp [isDig]; omega
      · rw [hhead]; exact h5 (by omega)
      · rw [hhead]; exact h5 (by omega)

theorem nDigits_le : ∀ (k u : Nat), u < 10 ^ (k + 1) → Lib.nDigits u ≤ k + 1
  | 0, u, h => by rw [Lib.nDigits_small (by simpa using h)]; omega
  | k + 1, u, h => by
    by_cases h10 : u < 10
    · rw [Lib.nDigits_small h10]; omega
    · have := nDigits_le k (u / 10) (by rw [Nat.pow_succ] at h; omega)
      rw [Lib.nDigits_big h10]; omega
theorem num_dec (u : Nat) (h : u < 10000000000) : numOk (Lib.decDigits u) = true ∧ numVal (Lib.decDigits u) = u := by
  obtain ⟨h1, h2, h3, h4, _⟩ := dec_back u
  have hl : (Lib.decDigits u).length ≤ 10 := by rw [Lib.decDigits_length]; exact nDigits_le 9 u (by omega)
  have hok : numOk (Lib.decDigits u) = true := by
    unfold numOk
    rw [h2]
    have e : (decide (1 < (Lib.decDigits u).length) && (Lib.decDigits u).head? == some 48) = false := by
      by_cases hq : 1 < (Lib.decDigits u).length
      · have := h4 hq; simp [this]
      · simp [hq]
    rw [e]
    simp [h3, hl]
  exact ⟨hok, by rw [numVal_yes hok, h1]⟩
/-! ## identities -/
theorem hexL_at : ∀ (l : List UInt8) (j : Nat) (h : j < l.length), (hexL l)[2 * j]? = some (hexDig (l[j].toNat / 16)) ∧ (hexL l)[2 * j + 1]? = some (hexDig (l[j].toNat % 16))
  | [], j, h => by simp at h
  | b :: l, 0, _ => by simp [hexL, hexB]
  | b :: l, j + 1, h => by
    have ih := hexL_at l j (by simpa using h)
    have e : hexL (b :: l) = hexDig (b.toNat / 16) :: hexDig (b.toNat % 16) :: hexL l := by simp [hexL, hexB]
    rw [e, show 2 * (j + 1) = 2 * j + 1 + 1 by omega]
    simpa using ih
theorem hv_dig : ∀ n : Nat, n < 16 → hv (hexDig n) = n := by decide
theorem id_hex (x : Id32) : idOk (hexOf x) = true ∧ idVal (hexOf x) = x := by
  have hl : (hexOf x).length = 64 := hexOf_length x
  have hx : x.1.length = 32 := x.2
  have hat : ∀ j, (h : j < 32) → chr (hexOf x) (2 * j) = hexDig ((x.1[j]'(by omega)).toNat / 16) ∧ chr (hexOf x) (2 * j + 1) = hexDig ((x.1[j]'(by omega)).toNat % 16) := fun j h => by
    have := hexL_at x.1 j (by omega)
    unfold chr
    rw [List.getD_eq_getElem?_getD, List.getD_eq_getElem?_getD]
    rw [show hexOf x = hexL x.1 from rfl, this.1, this.2]
    exact ⟨rfl, rfl⟩
  have hall : (hexOf x).all isHex = true := by
    rw [List.all_eq_true]
    intro c hc
    have hm : c ∈ hexL x.1 := hc
    unfold hexL at hm
    rw [List.mem_flatMap] at hm
    obtain ⟨b, _, hb⟩ := hm
    have hb255 := b.toNat_lt
    simp only [hexB, List.mem_cons, List.mem_nil_iff, or_false] at hb
    rcases hb with rfl | rfl
    · simp only [isHex, decide_eq_true_eq]; rw [hv_dig _ (by omega)]; omega
    · simp only [isHex, decide_eq_true_eq]; rw [hv_dig _ (by omega)]; omega
  have hok : idOk (hexOf x) = true := by unfold idOk; rw [hl, hall]; rfl
  refine ⟨hok, ?_⟩
  rw [idVal_yes hok]
  apply Subtype.ext
  apply List.ext_getElem
  · simp [accId, hx]
  · intro j h1 h2
    have hj : j < 32 := by omega
    have hb := (x.1[j]'(by omega)).toNat_lt
    simp only [accId, List.getElem_map, List.getElem_range]
    unfold accB
    rw [if_pos (by omega), (hat j hj).1, (hat j hj).2, hv_dig _ (by omega), hv_dig _ (by omega), show (x.1[j]'(by omega)).toNat / 16 * 16 + (x.1[j]'(by omega)).toNat % 16 = (x.1[j]'(by omega)).toNat by omega]
    exact UInt8.ofNat_toNat
end Go.Proofs.YtdjaphcelpchaaaGreatDoor

namespace Go.Proofs.YtdjaphcelpchaaaGreatDoor
open Go Go.RowKit Go.Proofs

theorem str_data (l : List UInt8) : (str l).data.toList = l := by simp [str]
theorem no9_dig (u : Nat) : (9 : UInt8) ∉ Lib.decDigits u := fun h => by
  have := List.all_eq_true.1 (dec_back u).2.1 9 h
  revert this; decide
theorem no_hex (c : UInt8) (hc : isHex c = false) (x : Id32) : c ∉ hexOf x := fun h => by
  have h1 := (id_hex x).1
  unfold idOk at h1
  simp only [Bool.and_eq_true, List.all_eq_true] at h1
  rw [h1.2 c h] at hc
  cases hc
theorem no9_text {l : List UInt8} {most : Int} (h : textErr l most = 0) : (9 : UInt8) ∉ l := fun h9 => by
  unfold textErr at h
  split at h
  · cases h
  · split at h
    · cases h
    · rename_i hb
      exact hb (List.any_eq_true.2 ⟨9, h9, by decide⟩)
theorem mem_join {c : UInt8} {sep : List UInt8} : ∀ {xs : List (List UInt8)}, c ∈ Lib.join xs sep → c ∈ sep ∨ ∃ x ∈ xs, c ∈ x
  | [], h => by simp [Lib.join_nil] at h
  | [x], h => by rw [Lib.join_one] at h; exact Or.inr ⟨x, by simp, h⟩
  | x :: y :: r, h => by
    rw [join_two, List.append_assoc, List.mem_append, List.mem_append] at h
    rcases h with h | h | h
    · exact Or.inr ⟨x, by simp, h⟩
    · exact Or.inl h
    · rcases mem_join h with h | ⟨z, hz, hc⟩
      · exact Or.inl h
      · exact Or.inr ⟨z, List.mem_cons_of_mem _ hz, hc⟩
theorem refsTxt_eq (ids : List Id32) : refsTxt ids = Lib.join (ids.map hexOf) [44] := by
  unfold refsTxt joinS
  rw [List.map_map]
  congr 1
theorem no9_refs (ids : List Id32) : (9 : UInt8) ∉ refsTxt ids := fun h => by
  rw [refsTxt_eq] at h
  rcases mem_join h with h | ⟨x, hx, hc⟩
  · revert h; decide
  · obtain ⟨y, _, rfl⟩ := List.mem_map.1 hx
    exact no_hex 9 (by decide) y hc
theorem refTexts_txt (ids : List Id32) : refTexts (str (refsTxt ids)) = ids.map hexOf := by
  unfold refTexts
  rw [str_size, str_data, refsTxt_eq]
  cases ids with
  | nil => rfl
  | cons x r =>
    have hs := split_join 44 ((x :: r).map hexOf) (by simp) (fun y hy => by
      obtain ⟨z, _, rfl⟩ := List.mem_map.1 hy
      exact no_hex 44 (by decide) z)
    rw [if_neg, hs]
    intro e
    rw [List.length_eq_zero_iff] at e
    rw [e] at hs
    have h64 := hexOf_length x
    cases r with
    | nil =>
      simp only [List.map_cons, List.map_nil, splitL, List.cons.injEq] at hs
      rw [← hs.1] at h64; simp at h64
    | cons y t => simp [splitL] at hs
theorem refIds_txt (ids : List Id32) : refIds (str (refsTxt ids)) = ids ∧ refsPart (str (refsTxt ids)) = refsErr ids := by
  have h1 : refIds (str (refsTxt ids)) = ids := by
    unfold refIds
    rw [refTexts_txt, List.map_map]
    conv => rhs; rw [← List.map_id ids]
    apply List.map_congr_left
    intro x _
    exact (id_hex x).2
  refine ⟨h1, ?_⟩
  unfold refsPart
  rw [h1, if_pos]
  rw [refTexts_txt, List.all_eq_true]
  intro y hy
  obtain ⟨z, _, rfl⟩ := List.mem_map.1 hy
  exact (id_hex z).1
theorem split_line (n : Nat) (id : Id32) (name : ByteArray) (d : Nat) (subject : ByteArray) (ids : List Id32) (b : Nat) (h1 : (9 : UInt8) ∉ name.data.toList) (h2 : (9 : UInt8) ∉ subject.data.toList) :
    splitS 9 (str (lineTxt n id name d subject ids b)) = lineParts n id name d subject ids b := by
  unfold splitS lineTxt joinS
  rw [str_data, split_join]
  · rw [List.map_map]
    conv => rhs; rw [← List.map_id (lineParts n id name d subject ids b)]
    apply List.map_congr_left
    intro x _
    exact str_of x
  · simp [lineParts]
  · intro x hx
    simp only [lineParts, List.map_cons, List.map_nil, List.mem_cons, List.mem_nil_iff, or_false, str_data, hexS] at hx
    rcases hx with rfl | rfl | rfl | rfl | rfl | rfl | rfl
    · exact no9_dig n
    · exact no_hex 9 (by decide) id
    · exact h1
    · exact no9_dig d
    · exact h2
    · exact no9_refs ids
    · exact no9_dig b
/-- What Parse tells of the text that Print writes of a line without error. -/
theorem parse_print {g : GLine} {ids : List Id32} (he : lineErr g ids = 0) :
    parseOut (str (lineTxt g.number.toNat g.id g.name g.date.toNat g.subject ids g.bytes.toNat)) = (0, 0) ∧
    ∀ G is, ParsedIs (str (lineTxt g.number.toNat g.id g.name g.date.toNat g.subject ids g.bytes.toNat)) G is → G = { g with refs := G.refs } ∧ is = ids := by
  obtain ⟨e1, e2, e3, e4, e5, e6⟩ := lineErr_zero he
  have hz := orErr_zero he
  have z1 := hz (rangeErr g.number 1 2147483646 2) (by simp)
  have z2 := hz (textErr g.name.data.toList 60) (by simp)
  have z3 := hz (rangeErr g.date 0 105190559 13) (by simp)
  have z4 := hz (textErr g.subject.data.toList 200) (by simp)
  have z5 := hz (refsErr ids) (by simp)
  have z6 := hz (rangeErr g.bytes 0 65536 2) (by simp)
  obtain ⟨n, hn⟩ : ∃ n : Nat, g.number = n := ⟨g.number.toNat, by omega⟩
  obtain ⟨d, hd⟩ : ∃ n : Nat, g.date = n := ⟨g.date.toNat, by omega⟩
  obtain ⟨b, hb⟩ : ∃ n : Nat, g.bytes = n := ⟨g.bytes.toNat, by omega⟩
  rw [hn] at z1 ⊢
  rw [hd] at z3 ⊢
  rw [hb] at z6 ⊢
  simp only [Int.toNat_natCast]
  obtain ⟨n1, n2⟩ := num_dec n (by omega)
  obtain ⟨d1, d2⟩ := num_dec d (by omega)
  obtain ⟨b1, b2⟩ := num_dec b (by omega)
  obtain ⟨i1, i2⟩ := id_hex g.id
  obtain ⟨r1, r2⟩ := refIds_txt ids
  have hT := split_line n g.id g.name d g.subject ids b (no9_text z2) (no9_text z4)
  have hbad : firstBad (lineParts n g.id g.name d g.subject ids b) = none := firstBad_none (fun j hj => by
    match j, hj with
    | 0, _ => show numErr (Lib.decDigits n) 1 2147483646 2 = 0; rw [numErr_yes n1, n2]; exact z1
    | 1, _ => show (if idOk (hexOf g.id) then (0 : Int) else 3) = 0; rw [i1]; rfl
    | 2, _ => exact z2
    | 3, _ => show numErr (Lib.decDigits d) 0 105190559 13 = 0; rw [numErr_yes d1, d2]; exact z3
    | 4, _ => exact z4
    | 5, _ => show refsPart (str (refsTxt ids)) = 0; rw [r2]; exact z5
    | 6, _ => show numErr (Lib.decDigits b) 0 65536 2 = 0; rw [numErr_yes b1, b2]; exact z6)
  have hpo : parseOut (str (lineTxt n g.id g.name d g.subject ids b)) = (0, 0) := by
    unfold parseOut
    rw [hT, hbad]; rfl
  refine ⟨hpo, fun G is hP => ?_⟩
  obtain ⟨v, hG, hi⟩ := hP.yes (by rw [hpo])
  rw [hT] at hG hi
  have hG2 : G = ⟨(numVal (Lib.decDigits n) : Nat), idVal (hexOf g.id), g.name, (numVal (Lib.decDigits d) : Nat), g.subject, v, (numVal (Lib.decDigits b) : Nat)⟩ := hG
  rw [n2, i2, d2, b2] at hG2
  refine ⟨?_, ?_⟩
  · rw [hG2]
  · rw [hi]; exact r1
end Go.Proofs.YtdjaphcelpchaaaGreatDoor

namespace Go.Proofs.YtdjaphcelpchaaaGreatDoor
open Go Go.RowKit Go.Proofs

attribute [local go_sem ↓] ex_load_id ex_store_id ex_load_line ex_store_line ex_load_rline ex_store_rline ex_alloc_line ex_build_line ex_alloc_rline ex_build_rline

attribute [local go_sem] ld_id st_id ld_line st_line ld_rline st_rline guard_id okCells_drew rdCells_drew okCells_drewN rdCells_drewN rowOk_drew rowOk_cells okCells_cells rdCells_cells setRow_drew setRow_new setRow_past

/-- 'known' answers true in every world that holds the program's tables. -/
def Knows : Prop := ∀ w : World, Gl w → Calls Tryz.prog 13 #[] w fun r w' => r = .returned (.bool true) ∧ Below w.heap.size w w'

theorem LineVar.below {w w' : World} {lb B : Nat} {g : GLine} (h : LineVar w lb g) (hb : Below B w w') (hlt : lb < B) : LineVar w' lb g := (hb.block lb hlt).trans h

end Go.Proofs.YtdjaphcelpchaaaGreatDoor

namespace Go.Proofs.YtdjaphcelpchaaaGreatDoor
open Go Go.RowKit Go.Proofs

theorem look_empty (w : World) (M : Nat) (k : ByteArray) (h : w.heap[M]? = some (.map #[] 0)) : (Instr.lookup 102 (.map (some M)) (.string k) false).run Tryz.prog w = .ok (.pointer none) w := by
  have hg : (getObj M).run Tryz.prog w = .ok (.map #[] 0) w := by simp [getObj, Sem.run, h]
  have hu : (underlying 102).run Tryz.prog w = .ok (.map 9 112) w := by kernel_rfl
  unfold Instr.lookup
  rw [Sem.run_bind, hu]
  simp only [Result.andThen_ok, Sem.run_bind, hg]
  show (_ : Result Value) = _
  first | kernel_rfl | rfl
theorem look_one (w : World) (M : Nat) (v : Value) (h : w.heap[M]? = some (.map #[{ key := .string ⟨#[97, 46, 98]⟩, val := v, born := 0 }] 1)) : (Instr.lookup 102 (.map (some M)) (.string ⟨#[97, 46, 98]⟩) false).run Tryz.prog w = .ok v w := by
  have hg : (getObj M).run Tryz.prog w = .ok (.map #[{ key := .string ⟨#[97, 46, 98]⟩, val := v, born := 0 }] 1) w := by simp [getObj, Sem.run, h]
  have hu : (underlying 102).run Tryz.prog w = .ok (.map 9 112) w := by kernel_rfl
  unfold Instr.lookup
  rw [Sem.run_bind, hu]
  simp only [Result.andThen_ok, Sem.run_bind, hg]
  show (_ : Result Value) = _
  first | kernel_rfl | rfl

theorem put_id_empty (w : World) (M : Nat) (v : Value) (h : w.heap[M]? = some (.map #[] 0)) : (Instr.mapUpdate 113 (.map (some M)) (.agg (encId zeroId).toArray) v).run Tryz.prog w = (setObj M (.map #[{ key := .agg (encId zeroId).toArray, val := v, born := 0 }] 1)).run Tryz.prog w := by
  have hg : (getObj M).run Tryz.prog w = .ok (.map #[] 0) w := by simp [getObj, Sem.run, h]
  have hu : (underlying 113).run Tryz.prog w = .ok (.map 23 3) w := by kernel_rfl
  unfold Instr.mapUpdate
  rw [Sem.run_bind, hu]
  simp only [Result.andThen_ok, Sem.run_bind, hg]
  show (_ : Result Unit) = _
  kernel_rfl

end Go.Proofs.YtdjaphcelpchaaaGreatDoor

namespace Go.Proofs.YtdjaphcelpchaaaGreatDoor
open Go Go.RowKit Go.Proofs

attribute [local go_sem ↓] ex_load_id ex_store_id ex_load_line ex_store_line ex_alloc_line ex_build_line

attribute [local go_sem] ld_id st_id ld_line st_line guard_id okCells_drew rdCells_drew okCells_drewN rdCells_drewN rowOk_drew rowOk_cells okCells_cells rdCells_cells setRow_drew setRow_new setRow_past

set_option maxHeartbeats 1000000 in
theorem linesOf_none (IB M : Nat) (s : ByteArray) (w : World) (hc : w.cell? ⟨IB, 0, none⟩ = some (.map (some M))) (hm : w.heap[M]? = some (.map #[] 0)) :
    Calls Tryz.prog 68 #[.pointer (some ⟨IB, 0, none⟩), .string s] w fun r w' => r = .returned (.slice none 0 0) ∧ w = w' := by
  have hl := look_empty w M s hm
  clear hm
  go_enter Tryz.func68, Tryz.ntmps68
  go_wp2
  go_ret
  exact ⟨rfl, rfl⟩

set_option maxHeartbeats 1000000 in
theorem linesOf_one (IB M gb n c : Nat) (w : World) (a : Option Addr) (hc : w.cell? ⟨IB, 0, none⟩ = some (.map (some M))) (hm : w.heap[M]? = some (.map #[{ key := .string ⟨#[97, 46, 98]⟩, val := .pointer (some ⟨gb, 0, none⟩), born := 0 }] 1)) (hg : w.cell? ⟨gb, 0, none⟩ = some (.slice a n c)) :
    Calls Tryz.prog 68 #[.pointer (some ⟨IB, 0, none⟩), .string ⟨#[97, 46, 98]⟩] w fun r w' => r = .returned (.slice a n c) ∧ w = w' := by
  have hl := look_one w M _ hm
  clear hm
  go_enter Tryz.func68, Tryz.ntmps68
  go_wp2
  go_ret
  exact ⟨rfl, rfl⟩

set_option maxRecDepth 100000 in
set_option maxHeartbeats 1000000 in
theorem search_none (x : Int) (w : World) :
    Calls Tryz.prog 69 #[.slice none 0 0, .int .i64 x] w fun r w' => r = .returned (.tuple #[.int .i64 0, .bool false]) ∧ w = w' := by
  go_enter Tryz.func69, Tryz.ntmps69
  go_wp2_with fail
  have hs : ∀ f, Calls Tryz.prog 101 #[.slice none 0 0, .int .i64 x, f] w fun r w' => r = .returned (.tuple #[.int .i64 0, .bool false]) ∧ w = w' := fun f => by
    go_enter Tryz.func101, Tryz.ntmps101
    go_wp2
    go_loop [9, 10] (fun a b => a = .int .i64 0 ∧ b = .int .i64 0) (fun _ _ => 0)
    case atStart => exact ⟨rfl, rfl⟩
    case round =>
      obtain ⟨rfl, rfl⟩ := hrel
      go_wp2
      go_ret2
      exact ⟨rfl, rfl⟩
  refine (hs _).mono ?_
  rintro r w' ⟨rfl, rfl⟩
  go_wp2
  go_ret2
  exact ⟨rfl, rfl⟩

set_option maxRecDepth 100000 in
set_option maxHeartbeats 1000000 in
theorem find_none (IB M : Nat) (s : ByteArray) (x : Id32) (w : World) (hc : w.cell? ⟨IB, 0, none⟩ = some (.map (some M))) (hm : w.heap[M]? = some (.map #[] 0)) :
    Calls Tryz.prog 41 #[.pointer (some ⟨IB, 0, none⟩), .string s, .agg (encId x).toArray] w fun r w' => r = .returned (.tuple #[.agg (lineCells zeroLine), .bool false]) ∧ Below w.heap.size w w' := by
  have hb0 : Below w.heap.size w ((w.alloc (.cells (encId x).toArray 23)).alloc (.cells (lineCells zeroLine) 34)) := ((Below.refl _ _).alloc (Nat.le_refl _) _).alloc (by simp) _
  have hcW : ((w.alloc (.cells (encId x).toArray 23)).alloc (.cells (lineCells zeroLine) 34)).cell? ⟨IB, 0, none⟩ = some (.map (some M)) := (hb0.cell (block_lt_of_cell hc)).trans hc
  have hmW := (hb0.block M (Array.getElem?_eq_some_iff.1 hm).1).trans hm
  have HC := Lib.hid hcW
  have HM := Lib.hid hmW
  have HB := Lib.hid hb0
  have hft : fitsRow 38 (lineCells zeroLine) = true := fits_line rfl
  have hzs : ((lineCells zeroLine).size == 38) = true := by rw [lineCells_size]; rfl
  clear hc hm hcW hmW hb0
  go_enter Tryz.func41, Tryz.ntmps41
  go_wp2_with fail
  refine (linesOf_none IB M s _ HC.out HM.out).mono ?_
  rintro r w' ⟨rfl, rfl⟩
  go_wp2
  refine bodyPost_ret (v := .tuple #[.agg (lineCells zeroLine), .bool false]) ?_ rfl ⟨rfl, HB.out⟩
  exact results_agg2 rfl Tryz.isAgg34 Tryz.sizeOf34 _ _ ⟨w.heap.size + 1, 0, none⟩ _ _ rfl rfl (by simpa using ok_new_line (w.alloc (.cells (encId x).toArray 23)) zeroLine _) (by simpa using rd_new_line (w.alloc (.cells (encId x).toArray 23)) zeroLine 34)

end Go.Proofs.YtdjaphcelpchaaaGreatDoor

namespace Go.Proofs.YtdjaphcelpchaaaGreatDoor
open Go Go.RowKit Go.Proofs

/-- A lower-case letter; a byte that no component holds; a component; the error of a name. -/
def lowB (c : UInt8) : Bool := decide (97 ≤ c.toNat) && decide (c.toNat ≤ 122)
def badB (c : UInt8) : Bool := !lowB c && (decide (c.toNat < 48) || decide (57 < c.toNat)) && c.toNat != 45 && c.toNat != 43 && c.toNat != 95
def compB (l : List UInt8) : Bool := match l with
  | [] => false
  | c :: r => decide ((c :: r).length ≤ 20) && lowB c && !(c :: r).any badB
def nameErr (s : ByteArray) : Int := if 80 < s.size then 5 else if (splitS 46 s).any (fun x => !compB x.data.toList) then 12 else if 10 < (splitS 46 s).length then 9 else 0

set_option maxHeartbeats 1000000 in
theorem isLower_any (c : UInt8) (w : World) : Calls Tryz.prog 134 #[.int .u8 c.toNat] w fun r w' => r = .returned (.bool (lowB c)) ∧ w = w' := by
  unfold lowB
  by_cases h1 : 97 ≤ c.toNat
  · by_cases h2 : c.toNat ≤ 122
    · rw [decide_eq_true h1, decide_eq_true h2]
      have h1' : (97 : Int) ≤ (c.toNat : Int) := by omega
      have h2' : (c.toNat : Int) ≤ 122 := by omega
      go_enter Tryz.func134, Tryz.ntmps134
      go_wp2
      go_ret
      exact ⟨by simp, rfl⟩
    · rw [decide_eq_true h1, decide_eq_false h2]
      have h1' : (97 : Int) ≤ (c.toNat : Int) := by omega
      have h2' : decide ((c.toNat : Int) ≤ 122) = false := by simp; omega
      go_enter Tryz.func134, Tryz.ntmps134
      go_wp2
      go_ret
      exact ⟨by simp, rfl⟩
  · rw [decide_eq_false h1]
    have h1' : decide ((97 : Int) ≤ (c.toNat : Int)) = false := by simp; omega
    go_enter Tryz.func134, Tryz.ntmps134
    go_wp2
    go_ret
    exact ⟨by simp, rfl⟩

set_option maxHeartbeats 2000000 in
theorem other_any (c : UInt8) (w : World) : Calls Tryz.prog 136 #[.int .u8 c.toNat] w fun r w' => r = .returned (.bool (badB c)) ∧ w = w' := by
  unfold badB
  have hlow := isLower_any c w
  generalize lowB c = b at hlow
  have HL := Lib.hid hlow
  clear hlow
  cases b with
  | true =>
    go_enter Tryz.func136, Tryz.ntmps136
    go_wp2_with fail
    refine HL.out.mono ?_
    rintro r w' ⟨rfl, rfl⟩
    go_wp2
    go_ret
    exact ⟨rfl, rfl⟩
  | false =>
    by_cases h1 : c.toNat < 48
    case pos =>
      have n45 : ((c.toNat : Int) != 45) = (c.toNat != 45) := by
        rw [Bool.eq_iff_iff]; simp; omega
      have n43 : ((c.toNat : Int) != 43) = (c.toNat != 43) := by
        rw [Bool.eq_iff_iff]; simp; omega
      have n95 : ((c.toNat : Int) != 95) = (c.toNat != 95) := by
        rw [Bool.eq_iff_iff]; simp; omega
      have h1' : (c.toNat : Int) < 48 := by omega
      rw [decide_eq_true h1, ← n45, ← n43, ← n95]
      cases e45 : ((c.toNat : Int) != 45) <;> cases e43 : ((c.toNat : Int) != 43) <;> cases e95 : ((c.toNat : Int) != 95) <;>
      · clear n45 n43 n95
        go_enter Tryz.func136, Tryz.ntmps136
        go_wp2_with fail
        refine HL.out.mono ?_
        rintro r w' ⟨rfl, rfl⟩
        go_wp2
        go_ret
        exact ⟨rfl, rfl⟩
    by_cases h2 : 57 < c.toNat
    case neg =>
      have h1' : decide ((c.toNat : Int) < 48) = false := by simp; omega
      have h2' : decide (57 < (c.toNat : Int)) = false := by simp; omega
      rw [decide_eq_false h1, decide_eq_false h2]
      go_enter Tryz.func136, Tryz.ntmps136
      go_wp2_with fail
      refine HL.out.mono ?_
      rintro r w' ⟨rfl, rfl⟩
      go_wp2
      go_ret
      exact ⟨rfl, rfl⟩
    have n45 : ((c.toNat : Int) != 45) = (c.toNat != 45) := by
      rw [Bool.eq_iff_iff]; simp; omega
    have n43 : ((c.toNat : Int) != 43) = (c.toNat != 43) := by
      rw [Bool.eq_iff_iff]; simp; omega
    have n95 : ((c.toNat : Int) != 95) = (c.toNat != 95) := by
      rw [Bool.eq_iff_iff]; simp; omega
    have h1' : decide ((c.toNat : Int) < 48) = false := by simp; omega
    have h2' : 57 < (c.toNat : Int) := by omega
    rw [decide_eq_false h1, decide_eq_true h2, ← n45, ← n43, ← n95]
    cases e45 : ((c.toNat : Int) != 45) <;> cases e43 : ((c.toNat : Int) != 43) <;> cases e95 : ((c.toNat : Int) != 95) <;>
    · clear n45 n43 n95
      go_enter Tryz.func136, Tryz.ntmps136
      go_wp2_with fail
      refine HL.out.mono ?_
      rintro r w' ⟨rfl, rfl⟩
      go_wp2
      go_ret
      exact ⟨rfl, rfl⟩

def encB (x : UInt8) : Value := .int .u8 x.toNat
theorem pred_bad (w : World) : PredAt Tryz.prog 136 #[] encB badB w := fun W x _ =>
  (other_any x W).mono fun _ _ ⟨he, hw⟩ => ⟨he, 0, hw.symm⟩

theorem bytesRow_get (s : ByteArray) (cap j : Nat) (h : j < s.size) : (bytesRow s cap)[j]? = some (.int .u8 (s.data.toList[j]!).toNat) := by
  unfold bytesRow
  have h' : j < s.data.size := h
  rw [Array.getElem?_append_left (by simpa using h'), Array.getElem?_map, Array.getElem?_eq_getElem h']
  simp only [Option.map_some]
  have : s.data.toList[j]! = s.data[j] := by rw [getElem!_pos s.data.toList j (by simpa using h')]; rfl
  rw [this]

theorem compB_eq {s : ByteArray} (h0 : 0 < s.size) : compB s.data.toList = (decide (s.size ≤ 20) && lowB s[0] && !s.data.toList.any badB) := by
  obtain ⟨⟨l⟩⟩ := s
  cases l with
  | nil => exact absurd h0 (by simp [ByteArray.size])
  | cons c r => rfl

set_option maxRecDepth 100000 in
set_option maxHeartbeats 1000000 in
theorem isComponent_any (s : ByteArray) (w : World) (hs : s.size ≤ maxLen) : Calls Tryz.prog 108 #[.string s] w fun r w' => r = .returned (.bool (compB s.data.toList)) ∧ Below w.heap.size w w' := by
  unfold maxLen at hs
  by_cases h0 : 0 < s.size
  case neg =>
    obtain ⟨⟨l⟩⟩ := s
    cases l with
    | nil =>
      go_enter Tryz.func108, Tryz.ntmps108
      go_wp2
      go_ret
      exact ⟨rfl, Below.refl _ _⟩
    | cons c r => exact absurd h0 (by simp [ByteArray.size])
  have hc := compB_eq h0
  have hpe : s.toList.isEmpty = false := by
    rw [ByteArray.toList_eq, List.isEmpty_eq_false_iff, ← List.length_pos_iff, size_list]; omega
  rw [hc]
  clear hc
  by_cases h20 : s.size ≤ 20
  case neg =>
    rw [decide_eq_false h20]
    have h20' : (20 : Int) < (s.size : Int) := by omega
    go_enter Tryz.func108, Tryz.ntmps108
    go_wp2
    go_ret
    exact ⟨rfl, Below.refl _ _⟩
  rw [decide_eq_true h20]
  have h20' : decide ((20 : Int) < (s.size : Int)) = false := by simp; omega
  have hlow := isLower_any s[0] w
  generalize lowB s[0] = b at hlow
  have HL := Lib.hid hlow
  clear hlow
  generalize hbb : s.data.toList.any badB = bb
  have HBB := Lib.hid hbb
  clear hbb
  go_enter Tryz.func108, Tryz.ntmps108
  go_wp2_with fail
  refine HL.out.mono ?_
  rintro r w' ⟨rfl, rfl⟩
  cases b with
  | false =>
    go_wp2
    go_ret
    exact ⟨rfl, Below.refl _ _⟩
  | true =>
    have hcv := run_bytes_of_string (P := Tryz.prog) w 9 124 5 s Tryz.underlying9 Tryz.underlying124 Tryz.underlying5
    go_wp2_with fail
    have hcf := AnyE.slices_ContainsFunc Tryz.containsFuncByte encB badB 136 #[] (enters_of Tryz.func136 (by decide) rfl) w.heap.size 0 s.size (grownCap w s.size 0 5) s.data.toList (w.alloc (.cells (bytesRow s (grownCap w s.size 0 5)) 5 ((bytesRow s (grownCap w s.size 0 5)).size, (bytesRow s (grownCap w s.size 0 5)).size + 1))).drew (pred_bad _) (Nat.le_of_eq (size_list s).symm) (by omega) (fun j hj => by
      have hj' : j < s.size := by rw [size_list] at hj; exact hj
      have := bytesRow_get s (grownCap w s.size 0 5) j hj'
      rw [World.cell?_drew, World.cell?_alloc_mark, Nat.zero_add]
      exact this)
    have hany : (s.data.toList.take s.size).any badB = s.data.toList.any badB := by rw [List.take_of_length_le (Nat.le_of_eq (size_list s))]
    rw [hany] at hcf
    rw [HBB.out] at hcf
    have HF := Lib.hid hcf
    clear hcf hcv hany HBB
    refine HF.out.mono ?_
    rintro r w' ⟨rfl, q, rfl⟩
    go_wp2
    go_ret
    exact ⟨by simp, below_drewN' ((Below.refl _ _).alloc (Nat.le_refl _) _) (1 + q)⟩

set_option maxHeartbeats 1000000 in
theorem notComp_any (s : ByteArray) (w : World) (hs : s.size ≤ maxLen) : Calls Tryz.prog 107 #[.string s] w fun r w' => r = .returned (.bool (!compB s.data.toList)) ∧ Below w.heap.size w w' := by
  have hc := isComponent_any s w hs
  generalize compB s.data.toList = b at hc ⊢
  have HC := Lib.hid hc
  clear hc
  go_enter Tryz.func107, Tryz.ntmps107
  go_wp2_with fail
  refine HC.out.mono ?_
  rintro r w' ⟨rfl, hb⟩
  go_wp2
  go_ret
  exact ⟨by simp, hb⟩

/-- The first index of a bad part, or -1. -/
def badAt : List ByteArray → Nat → Int
  | [], _ => -1
  | x :: r, k => if compB x.data.toList then badAt r (k + 1) else k
theorem badAt_all : ∀ (xs : List ByteArray) (k : Nat), (0 ≤ badAt xs k) ↔ xs.any (fun x => !compB x.data.toList) = true
  | [], k => by simp [badAt]
  | x :: r, k => by
    have := badAt_all r (k + 1)
    by_cases h : compB x.data.toList = true
    · simp only [badAt, h, if_true, List.any_cons, Bool.not_true, Bool.false_or]; exact this
    · simp only [badAt, h, List.any_cons]
      simp

set_option maxRecDepth 100000 in
set_option maxHeartbeats 1000000 in
theorem indexBad_any (b c : Nat) (xs : List ByteArray) (w : World) (hx : StrRow w b 0 xs) (hm : xs.length ≤ 1000000) (hlen : ∀ x ∈ xs, x.size ≤ maxLen) :
    Calls Tryz.prog 133 #[.slice (some ⟨b, 0, none⟩) xs.length c, .func (.func 107) #[] #[]] w fun r w' => r = .returned (.int .i64 (badAt xs 0)) ∧ Below w.heap.size w w' := by
  have HX := Lib.hid hx
  have HL := Lib.hid hlen
  clear hx hlen
  go_enter Tryz.func133, Tryz.ntmps133
  go_wp2
  go_loopw [5, 8] (fun _ i wr => ∃ k : Nat, k ≤ xs.length ∧ i = .int .i64 k ∧ Hid (badAt xs 0 = badAt (xs.drop k) k) ∧ Below w.heap.size w wr) (fun _ i _ => xs.length - (intOf i).toNat)
  case atStart => exact ⟨0, by omega, rfl, Lib.hid rfl, Below.refl _ _⟩
  case round =>
    obtain ⟨k, hk, rfl, HB, hb⟩ := hrel
    by_cases hlt : k < xs.length
    · have hltz : (k : Int) < (xs.length : Int) := by omega
      have hget : xs[k]? = some xs[k] := List.getElem?_eq_getElem hlt
      have hc0 := HX.out k _ hget
      rw [Nat.zero_add] at hc0
      have hcell : wr.cell? ⟨b, k, none⟩ = some (.string xs[k]) := (hb.cell (block_lt_of_cell hc0)).trans hc0
      have hsz := HL.out xs[k] (List.getElem_mem hlt)
      have hst : Hid (badAt xs 0 = if compB xs[k].data.toList then badAt (xs.drop (k + 1)) (k + 1) else k) := Lib.hid (by
        rw [HB.out, List.drop_eq_getElem_cons hlt]; rfl)
      have hcall := notComp_any xs[k] wr hsz
      have HBB := Lib.hid hb
      clear HB hc0 hget hsz hb
      generalize xs[k] = x at hcell hst hcall
      generalize compB x.data.toList = bb at hcall hst
      have HC := Lib.hid hcall
      clear hcall
      cases bb with
      | true =>
        go_wp2_with fail
        refine HC.out.mono ?_
        rintro r w' ⟨rfl, hb1⟩
        have hb2 := HBB.out.trans (hb1.mono HBB.out.size)
        go_wp2
        go_roundw
        case rel => exact ⟨k + 1, by omega, by go_num, Lib.hid (by rw [hst.out]; rfl), hb2⟩
        case measure => simp [intOf]; omega
      | false =>
        go_wp2_with fail
        refine HC.out.mono ?_
        rintro r w' ⟨rfl, hb1⟩
        have hb2 := HBB.out.trans (hb1.mono HBB.out.size)
        go_wp2
        go_ret
        exact ⟨ret_int (by rw [hst.out]; rfl), hb2⟩
    · have hend : Hid (badAt xs 0 = -1) := Lib.hid (by rw [HB.out, List.drop_eq_nil_of_le (by omega)]; rfl)
      clear HB
      go_wp2
      go_ret
      exact ⟨ret_int (by rw [hend.out]), hb⟩

set_option maxHeartbeats 1000000 in
theorem anyBad_any (b c : Nat) (xs : List ByteArray) (w : World) (hx : StrRow w b 0 xs) (hm : xs.length ≤ 1000000) (hlen : ∀ x ∈ xs, x.size ≤ maxLen) :
    Calls Tryz.prog 106 #[.slice (some ⟨b, 0, none⟩) xs.length c, .func (.func 107) #[] #[]] w fun r w' => r = .returned (.bool (xs.any fun x => !compB x.data.toList)) ∧ Below w.heap.size w w' := by
  have HI := Lib.hid (indexBad_any b c xs w hx hm hlen)
  have hiff := badAt_all xs 0
  have hd : (xs.any fun x => !compB x.data.toList) = decide (0 ≤ badAt xs 0) := by
    rw [Bool.eq_iff_iff, decide_eq_true_eq]; exact hiff.symm
  rw [hd]
  clear hiff hd hx hlen
  generalize badAt xs 0 = n at HI ⊢
  go_enter Tryz.func106, Tryz.ntmps106
  go_wp2_with fail
  refine HI.out.mono ?_
  rintro r w' ⟨rfl, hb⟩
  go_wp2
  go_ret
  exact ⟨by simp, hb⟩

set_option maxHeartbeats 1000000 in
theorem dots_any (s : ByteArray) (w : World) (hG : Gl w) (hs : s.size < 4294967281) :
    Calls Tryz.prog 105 #[.string s] w fun r w' => r = .returned (.slice (some ⟨w.heap.size, 0, none⟩) (splitS 46 s).length (splitS 46 s).length) ∧ w.alloc (.cells ((splitS 46 s).map Value.string).toArray 9) = w' := by
  go_enter Tryz.func105, Tryz.ntmps105
  go_wp2_with fail
  refine (split_any 46 s w hG hs).mono ?_
  rintro r w' ⟨rfl, rfl⟩
  go_wp2
  go_ret
  exact ⟨rfl, rfl⟩

theorem splitL_le (c : UInt8) : ∀ l : List UInt8, ∀ x ∈ splitL c l, x.length ≤ l.length
  | [], x, hx => by simp [splitL] at hx; simp [hx]
  | b :: l, x, hx => by
    have ih := splitL_le c l
    unfold splitL at hx
    split at hx
    · simp only [List.mem_cons] at hx
      rcases hx with rfl | hx
      · simp
      · have := ih x hx; simp; omega
    · split at hx
      · rename_i h t e
        rw [e] at ih
        simp only [List.mem_cons] at hx
        rcases hx with rfl | hx
        · have := ih h (by simp); simp; omega
        · have := ih x (by simp [hx]); simp; omega
      · simp at hx; subst hx; simp
theorem splitS_le (c : UInt8) (s : ByteArray) : ∀ x ∈ splitS c s, x.size ≤ s.size := by
  intro x hx
  unfold splitS at hx
  obtain ⟨l, hl, rfl⟩ := List.mem_map.1 hx
  rw [str_size, ← size_list]
  exact splitL_le c _ l hl

set_option maxRecDepth 100000 in
set_option maxHeartbeats 1000000 in
theorem nameCheck_any (s : ByteArray) (w : World) (hG : Gl w) (hs : s.size ≤ maxLen) :
    Calls Tryz.prog 72 #[.string s] w fun r w' => r = .returned (.int .i64 (nameErr s)) ∧ Below w.heap.size w w' := by
  unfold maxLen at hs
  unfold nameErr
  by_cases h80 : 80 < s.size
  · rw [if_pos h80]
    have h80' : (80 : Int) < (s.size : Int) := by omega
    go_enter Tryz.func72, Tryz.ntmps72
    go_wp2
    go_ret
    exact ⟨rfl, Below.refl _ _⟩
  · rw [if_neg h80]
    have h80' : ¬ (80 : Int) < (s.size : Int) := by omega
    have hle := splitS_le 46 s
    have hln := splitS_len 46 s
    have hD := Lib.hid (dots_any s w hG (by omega))
    have hbw : Below w.heap.size w (w.alloc (.cells ((splitS 46 s).map Value.string).toArray 9)) := (Below.refl _ _).alloc (Nat.le_refl _) _
    have hA := anyBad_any w.heap.size (splitS 46 s).length (splitS 46 s) (w.alloc (.cells ((splitS 46 s).map Value.string).toArray 9)) (split_row w _ _) (by omega) (fun x hx => by have := hle x hx; unfold maxLen; omega)
    have hm : (splitS 46 s).length ≤ 81 := by omega
    generalize splitS 46 s = xs at hD hA hbw hm ⊢
    generalize (xs.any fun x => !compB x.data.toList) = b at hA ⊢
    generalize xs.length = n at hD hA hm ⊢
    have HA := Lib.hid hA
    have HB := Lib.hid hbw
    clear hA hbw hle hln
    cases b with
    | true =>
      go_enter Tryz.func72, Tryz.ntmps72
      go_wp2_with fail
      refine hD.out.mono ?_
      rintro r w' ⟨rfl, rfl⟩
      go_wp2_with fail
      refine HA.out.mono ?_
      rintro r w' ⟨rfl, hb⟩
      go_wp2
      go_ret
      exact ⟨rfl, HB.out.trans (hb.mono HB.out.size)⟩
    | false =>
      by_cases h10 : 10 < n
      · have h10' : (10 : Int) < (n : Int) := by omega
        rw [if_pos h10]
        go_enter Tryz.func72, Tryz.ntmps72
        go_wp2_with fail
        refine hD.out.mono ?_
        rintro r w' ⟨rfl, rfl⟩
        go_wp2_with fail
        refine HA.out.mono ?_
        rintro r w' ⟨rfl, hb⟩
        go_wp2
        go_ret
        exact ⟨rfl, HB.out.trans (hb.mono HB.out.size)⟩
      · have h10' : ¬ (10 : Int) < (n : Int) := by omega
        rw [if_neg h10]
        go_enter Tryz.func72, Tryz.ntmps72
        go_wp2_with fail
        refine hD.out.mono ?_
        rintro r w' ⟨rfl, rfl⟩
        go_wp2_with fail
        refine HA.out.mono ?_
        rintro r w' ⟨rfl, hb⟩
        go_wp2
        go_ret
        exact ⟨rfl, HB.out.trans (hb.mono HB.out.size)⟩

end Go.Proofs.YtdjaphcelpchaaaGreatDoor

namespace Go.Proofs.YtdjaphcelpchaaaGreatDoor
open Go Go.RowKit Go.Proofs

attribute [local go_sem ↓] ex_load_id ex_store_id ex_load_line ex_store_line ex_alloc_line ex_build_line

attribute [local go_sem] ld_id st_id ld_line st_line guard_id okCells_drew rdCells_drew okCells_drewN rdCells_drewN rowOk_drew rowOk_cells okCells_cells rdCells_cells setRow_drew setRow_new setRow_past

/-- The references of a line as a row of their own: nil, or the head of a block at or beyond a number. -/
def IdsOwn (B : Nat) (w : World) (v : Value) (ids : List Id32) : Prop := w.ownsRow B 23 32 v ids.length (flatIds ids)
theorem IdsOwn.at {B : Nat} {w : World} {v : Value} {ids : List Id32} (h : IdsOwn B w v ids) : IdsAt w v ids := idsAt_own h
theorem IdsOwn.mono {B B' : Nat} {w : World} {v : Value} {ids : List Id32} (h : IdsOwn B w v ids) (hB : B' ≤ B) : IdsOwn B' w v ids := by
  refine ⟨h.1, ?_⟩
  rcases h.2 with h0 | ⟨g, cap, cur, e, hg, hr⟩
  · exact .inl h0
  · exact .inr ⟨g, cap, cur, e, Nat.le_trans hB hg, hr⟩
theorem IdsOwn.block {B : Nat} {w w' : World} {v : Value} {ids : List Id32} (h : IdsOwn B w v ids) (hk : ∀ k, v.ownBlock = some k → w'.heap[k]? = w.heap[k]?) : IdsOwn B w' v ids := by
  refine ⟨h.1, ?_⟩
  rcases h.2 with h0 | ⟨g, cap, cur, e, hg, hcur, hr⟩
  · exact .inl h0
  · exact .inr ⟨g, cap, cur, e, hg, (hk g (by rw [e]; rfl)).trans hcur, hr⟩
theorem IdsOwn.lt {B : Nat} {w : World} {v : Value} {ids : List Id32} (h : IdsOwn B w v ids) {k : Nat} (hk : v.ownBlock = some k) : B ≤ k ∧ k < w.heap.size := World.ownsRow.lt h k hk
theorem IdsOwn.below {B : Nat} {w w' : World} {v : Value} {ids : List Id32} (h : IdsOwn B w v ids) (hb : Below w.heap.size w w') : IdsOwn B w' v ids := h.block fun k hk => hb.block k (h.lt hk).2
theorem IdsOwn.one {B : Nat} {w : World} {v : Value} {ids : List Id32} (h : IdsOwn B w v ids) : v.oneCell' = true := h.at.one

theorem cloneIds_any (B : Nat) (v : Value) (ids : List Id32) (w : World) (h : IdsOwn B w v ids) (hn : ids.length ≤ 1000000) :
    Calls Tryz.prog 104 #[v] w fun r w' => ∃ v', r = .returned v' ∧ IdsOwn w.heap.size w' v' ids ∧ Below w.heap.size w w' := by
  obtain ⟨i0, hi, hz0, hz1, hz2⟩ := info_parts Tryz.info_id
  rcases h.2 with ⟨rfl, h0⟩ | ⟨g, cap, cur, rfl, hg, hcur, hle, hmx, hcs, htk⟩
  · refine (AnyE.slices_Clone_nil Tryz.cloneId 0 0 w).mono ?_
    rintro r w' ⟨rfl, rfl⟩
    obtain rfl : ids = [] := List.length_eq_zero_iff.1 h0
    exact ⟨_, rfl, World.ownsRow_nil _ _ _ _, Below.refl _ _⟩
  · refine (AnyE.slices_Clone Tryz.cloneId i0 (.agg (encId zeroId).toArray) 32 32 hi hz0 hz1 hz2 (encId_size zeroId) (by decide) Tryz.sizeOf23 g 0 ids.length cap (flatIds ids) w h.1 (by unfold maxLen; omega) (by omega) (fun j u hj => ?_) (flat_one ids)).mono ?_
    · have := World.ownsRow.cells h (g := g) rfl j u hj
      rwa [Addr.add_lit] at this
    · rintro r w' ⟨v', rfl, hown, _, hb⟩
      exact ⟨v', rfl, hown, hb⟩

set_option maxRecDepth 100000 in
set_option maxHeartbeats 1000000 in
theorem clone_any (B : Nat) (g : GLine) (ids : List Id32) (w : World) (h : IdsOwn B w g.refs ids) (hn : ids.length ≤ 1000000) :
    Calls Tryz.prog 70 #[.agg (lineCells g)] w fun r w' => ∃ v, r = .returned (.agg (lineCells { g with refs := v })) ∧ IdsOwn w.heap.size w' v ids ∧ Below w.heap.size w w' := by
  obtain ⟨W0, hW0⟩ : ∃ W0, W0 = (w.alloc (.cells (lineCells g) 34)).alloc (.cells (lineCells zeroLine) 34) := ⟨_, rfl⟩
  have hs0 : W0.heap.size = w.heap.size + 2 := by rw [hW0]; simp
  have hb0 : Below w.heap.size w W0 := by rw [hW0]; exact ((Below.refl _ _).alloc (Nat.le_refl _) _).alloc (by simp) _
  have hV0 : LineVar W0 w.heap.size g := by
    unfold LineVar
    rw [hW0, heap_alloc_old _ _ (by simp), heap_alloc_new]
  have hZ0 : LineVar W0 (w.heap.size + 1) zeroLine := by
    unfold LineVar
    have := heap_alloc_new (w.alloc (.cells (lineCells g) 34)) (.cells (lineCells zeroLine) 34)
    rw [hW0]
    simpa using this
  have hcl := cloneIds_any B g.refs ids W0 (h.below hb0) hn
  have c36 : W0.cell? ⟨w.heap.size, 36, none⟩ = some g.refs := (hV0.cell 36).trans (lc36 g)
  have HC := Lib.hid hcl
  have HV := Lib.hid hV0
  have HZ := Lib.hid hZ0
  have HB := Lib.hid hb0
  clear hcl hV0 hZ0 hb0
  go_enter Tryz.func70, Tryz.ntmps70
  rw [hW0] at c36
  go_wp2_with fail
  rw [← hW0]
  clear c36 hW0
  refine HC.out.mono ?_
  rintro r w1 ⟨v, rfl, hI, hb1⟩
  have hone := hI.one
  obtain ⟨va, vn, vc, hv⟩ : ∃ a n c, v = .slice a n c := by obtain ⟨a, c, e, _⟩ := hI.at; exact ⟨a, _, c, e⟩
  have hV1 : LineVar w1 w.heap.size g := HV.out.below hb1 (by omega)
  have hZ1 : LineVar w1 (w.heap.size + 1) zeroLine := HZ.out.below hb1 (by omega)
  have hB1 : Below w.heap.size w w1 := HB.out.trans (hb1.mono HB.out.size)
  have hV2 := hV1.set 36 v (set_refs g v)
  have hZ2 : LineVar (w1.setCell ⟨w.heap.size, 36, none⟩ v) (w.heap.size + 1) zeroLine := hZ1.grown (grown_set w1 w.heap.size 36 v) (by simp)
  have hI2 : IdsOwn W0.heap.size (w1.setCell ⟨w.heap.size, 36, none⟩ v) v ids := hI.block fun k hk => heap_setCell_other w1 ⟨w.heap.size, 36, none⟩ k v (by have := (hI.lt hk).1; simp; omega)
  have hB2 : Below w.heap.size w (w1.setCell ⟨w.heap.size, 36, none⟩ v) := hB1.setCell (Nat.le_refl _) v
  have hc := (hV1.cell 36).trans (lc36 g)
  have hf := hV1.free 36
  have ho2 := hV2.rd.1
  have hr2 := hV2.rd.2
  have hro := hZ2.row
  have hft := fits_line (g := { g with refs := v }) hone
  have HV2 := Lib.hid hV2
  have HZ2 := Lib.hid hZ2
  have HI2 := Lib.hid hI2
  have HB2 := Lib.hid hB2
  clear hV1 hZ1 hB1 hV2 hZ2 hI2 hB2 hI hb1 HC HV HZ HB h
  subst hv
  go_wp2
  refine bodyPost_ret (v := .agg (lineCells { g with refs := .slice va vn vc })) ?_ rfl ⟨_, rfl, ?_, below_grown HB2.out (grown_row _ _ _) HB2.out.size (by omega)⟩
  · exact results_agg1 rfl Tryz.isAgg34 Tryz.sizeOf34 _ _ ⟨w.heap.size + 1, 0, none⟩ _ rfl (HZ2.out.blk.setRow.rd.1) (HZ2.out.blk.setRow.rd.2)
  · refine (HI2.out.mono (by omega)).block fun k hk => (grown_row _ (w.heap.size + 1) _).block k (HI2.out.lt hk).2 ?_
    intro e
    have := (HI2.out.lt hk).1
    cases e
    omega

end Go.Proofs.YtdjaphcelpchaaaGreatDoor

namespace Go.Proofs.YtdjaphcelpchaaaGreatDoor
open Go Go.RowKit Go.Proofs

theorem Tryz.info_line : (Tryz.prog.info? 34).map (fun i => (i.zero, i.size, i.bytes)) = some (some (.agg (lineCells zeroLine)), 38, 112) := by kernel_rfl

set_option maxRecDepth 100000 in
set_option maxHeartbeats 1000000 in
theorem insert_end (B : Nat) (v : Value) (n sb : Nat) (xs : List Value) (g : GLine) (w : World) (hone : refsOne g) (hown : w.ownsRow B 34 38 v n xs) (hB : B ≤ w.heap.size) (hn : n ≤ 65536) (hsb : ∀ j u, (lineList g)[j]? = some u → w.cell? ((⟨sb, 0, none⟩ : Addr).add j) = some u) :
    Calls Tryz.prog 73 #[v, .int .i64 n, .slice (some ⟨sb, 0, none⟩) 1 1] w fun r w' => ∃ v', r = .returned v' ∧ w'.ownsRow B 34 38 v' (n + 1) (xs ++ lineList g) ∧ w.grownBy w' v.ownBlock := by
  obtain ⟨i0, hi, hz0, hz1, hz2⟩ := info_parts Tryz.info_line
  have HS := Lib.hid hsb
  clear hsb
  have hone2 := Lib.hid (lineList_one hone)
  have hl1 := lineList_length g
  have HW := Lib.hid hown
  rcases hown.2 with ⟨rfl, rfl⟩ | ⟨gb, cap, cur, rfl, hg, hcur, hle, hmx, hcs, htk⟩
  · clear hown
    go_enter Tryz.func73, Tryz.ntmps73
    go_wp2_with (at_builtin; refine wpList_append_own _ rfl (.tmp 23) (.tmp 24) 107 rfl B 34 i0 (.agg (lineCells zeroLine)) 38 112 Tryz.underlying107 hi hz0 hz1 hz2 (lineCells_size _) (by decide) _ _ _ rfl HW.out ⟨sb, 0, none⟩ 1 1 (lineList g) rfl hl1 HS.out hone2.out ?c3 ?c4 hB ?_)
    case c3 => unfold maxLen; omega
    case c4 => omega
    intro v' w2 hown' hgrow _
    go_wp2
    go_ret
    exact ⟨v', rfl, hown', hgrow⟩
  · clear hown
    unfold maxLen at hmx
    have heq : ((n : Int) == (n : Int)) = true := by simp
    have hle' : (n : Int) ≤ (cap : Int) := by omega
    by_cases hcn : cap = n
    · subst hcn
      go_enter Tryz.func73, Tryz.ntmps73
      go_wp2_with (at_builtin; refine wpList_append_own _ rfl (.tmp 23) (.tmp 24) 107 rfl B 34 i0 (.agg (lineCells zeroLine)) 38 112 Tryz.underlying107 hi hz0 hz1 hz2 (lineCells_size _) (by decide) _ _ _ rfl HW.out ⟨sb, 0, none⟩ 1 1 (lineList g) rfl hl1 HS.out hone2.out (by unfold maxLen; omega) (by omega) hB ?_)
      intro v' w2 hown' hgrow _
      go_wp2
      go_ret
      exact ⟨v', rfl, hown', hgrow⟩
    · have hcz : ¬ (cap : Int) = (n : Int) := by omega
      go_enter Tryz.func73, Tryz.ntmps73
      go_wp2_with (at_builtin; refine wpList_append_own _ rfl (.tmp 23) (.tmp 24) 107 rfl B 34 i0 (.agg (lineCells zeroLine)) 38 112 Tryz.underlying107 hi hz0 hz1 hz2 (lineCells_size _) (by decide) _ _ _ rfl HW.out ⟨sb, 0, none⟩ 1 1 (lineList g) rfl hl1 HS.out hone2.out (by unfold maxLen; omega) (by omega) hB ?_)
      intro v' w2 hown' hgrow _
      go_wp2
      go_ret
      exact ⟨v', rfl, hown', hgrow⟩

end Go.Proofs.YtdjaphcelpchaaaGreatDoor

namespace Go.Proofs.YtdjaphcelpchaaaGreatDoor
open Go Go.RowKit Go.Proofs

attribute [local go_sem ↓] ex_load_id ex_store_id ex_load_line ex_store_line ex_alloc_line ex_build_line

attribute [local go_sem] ld_id st_id ld_line st_line guard_id okCells_drew rdCells_drew okCells_drewN rdCells_drewN rowOk_drew rowOk_cells okCells_cells rdCells_cells setRow_drew setRow_new setRow_past

/-- The line that 'known' adds. -/
def three : GLine := { zeroLine with number := 3 }
theorem three_ok : lineErr three [] = 0 := by decide +kernel
theorem ab_ok : nameErr ⟨#[97, 46, 98]⟩ = 0 := by decide +kernel

theorem quiet_call {f : FuncId} {args : Array Value} {w : World} {n : Nat} {v : Value} (h : Calls Tryz.prog f args (w.drewN n) fun e w' => e = .returned v ∧ w.drewN n = w') : Calls Tryz.prog f args (w.drewN n) fun e w'' => e = .returned v ∧ ∃ m, w'' = w.drewN m :=
  Calls.quiet_of_same (h.mono fun _ _ ⟨a, b⟩ => ⟨a, b.symm⟩)
theorem LineVar.idAt {w : World} {lb : Nat} {g : GLine} (h : LineVar w lb g) : okCells w ⟨lb, 1, none⟩ 32 = true ∧ rdCells w ⟨lb, 1, none⟩ 32 = (encId g.id).toArray := by
  have := rd_of_cells (w := w) (a := ⟨lb, 1, none⟩) (cs := encId g.id) (fun j v hj => by
    have hj32 : j < 32 := by have := (List.getElem?_eq_some_iff.1 hj).1; rwa [encId_length] at this
    rw [Addr.add_lit, h.cell, ← hj]
    simp only [lineCells, lineList, List.getElem?_toArray]
    rw [show 1 + j = j + 1 by omega, List.getElem?_cons_succ, List.getElem?_append_left (by rw [encId_length]; exact hj32)])
  rwa [encId_length] at this

set_option maxRecDepth 100000 in
set_option maxHeartbeats 2000000 in
theorem add_fresh (IB M B : Nat) (w : World) (hG : Gl w) (hI : w.heap[IB]? = some (.cells #[.map (some M), .int .i64 0] 104 (0, 0))) (hM : w.heap[M]? = some (.map #[] 0)) (hB : B ≤ IB) (hBM : B ≤ M) :
    Calls Tryz.prog 32 #[.pointer (some ⟨IB, 0, none⟩), .string ⟨#[97, 46, 98]⟩, .agg (lineCells three)] w fun r w' => r = .returned (.int .i64 0) ∧ Below B w w' ∧
      ∃ gb a c, w'.cell? ⟨IB, 0, none⟩ = some (.map (some M)) ∧ w'.heap[M]? = some (.map #[{ key := .string ⟨#[97, 46, 98]⟩, val := .pointer (some ⟨gb, 0, none⟩), born := 0 }] 1) ∧ w'.cell? ⟨gb, 0, none⟩ = some (.slice a 1 c) := by
  have hIB : IB < w.heap.size := (Array.getElem?_eq_some_iff.1 hI).1
  have hMB : M < w.heap.size := (Array.getElem?_eq_some_iff.1 hM).1
  have hne : IB ≠ M := by rintro rfl; rw [hI] at hM; cases hM
  have hb0 : Below w.heap.size w (w.alloc (.cells (lineCells three) 34)) := (Below.refl _ _).alloc (Nat.le_refl _) _
  have hL0 : LineVar (w.alloc (.cells (lineCells three) 34)) w.heap.size three := heap_alloc_new _ _
  have HL0 := Lib.hid hL0
  have HB0 := Lib.hid hb0
  have HI := Lib.hid hI
  have HM := Lib.hid hM
  clear hL0 hb0 hI hM
  go_enter Tryz.func32, Tryz.ntmps32
  go_wp2_with fail
  refine (nameCheck_any ⟨#[97, 46, 98]⟩ _ (hG.later HB0.out) (by decide +kernel)).mono ?_
  rintro r w1 ⟨rfl, hb1⟩
  rw [ab_ok]
  have hL1 : LineVar w1 w.heap.size three := HL0.out.below hb1 (by simp)
  have hB1 : Below w.heap.size w w1 := HB0.out.trans (hb1.mono (by simp))
  have hs1 : w.heap.size < w1.heap.size := hL1.lt
  obtain ⟨o1, d1⟩ := hL1.rd
  have HL1 := Lib.hid hL1
  have HB1 := Lib.hid hB1
  clear hb1 hL1 hB1 HL0 HB0
  go_wp2_with fail
  refine (lineCheck_any three [] w1 ⟨idsAt_nil _, by decide +kernel, by decide +kernel, by decide +kernel⟩).mono ?_
  rintro r w2 ⟨rfl, hb2⟩
  rw [three_ok]
  have hL2 : LineVar w2 w.heap.size three := HL1.out.below hb2 hs1
  have hB2 : Below w.heap.size w w2 := HB1.out.trans (hb2.mono HB1.out.size)
  have hs2 : w.heap.size < w2.heap.size := hL2.lt
  clear o1 d1 hb2 HL1 HB1 hs1
  have hI2 := (hB2.block IB hIB).trans HI.out
  have hM2 := (hB2.block M hMB).trans HM.out
  have n2 := (hL2.cell 0).trans (lc0 three)
  have HL2 := Lib.hid hL2
  have HB2 := Lib.hid hB2
  have HI2 := Lib.hid hI2
  have HM2 := Lib.hid hM2
  clear hL2 hB2 hI2 hM2
  have hcI2 : w2.cell? ⟨IB, 0, none⟩ = some (.map (some M)) := cell_of_row w2 IB 0 _ _ _ HI2.out
  have c1 : ∀ n, Calls Tryz.prog 68 #[.pointer (some ⟨IB, 0, none⟩), .string ⟨#[97, 46, 98]⟩] (w2.drewN n) fun r w' => r = .returned (.slice none 0 0) ∧ ∃ m, w' = w2.drewN m := fun n => quiet_call (linesOf_none IB M _ _ (by rw [World.cell?_drewN]; exact hcI2) (by rw [World.heap_drewN]; exact HM2.out))
  have c2 : ∀ n, Calls Tryz.prog 69 #[.slice none 0 0, .int .i64 three.number] (w2.drewN n) fun r w' => r = .returned (.tuple #[.int .i64 0, .bool false]) ∧ ∃ m, w' = w2.drewN m := fun n => quiet_call (search_none _ _)
  have C1 := Lib.hid c1
  have C2 := Lib.hid c2
  clear c1 c2 hcI2
  go_wp2_with fail
  go_quiet (first | (go_at_call 68; exact C1.out _) | (go_at_call 69; exact C2.out _))
  have hL3 : LineVar (w2.drewN nq) w.heap.size three := HL2.out
  have hB3 : Below w.heap.size w (w2.drewN nq) := below_drewN' HB2.out nq
  have hI3 : (w2.drewN nq).heap[IB]? = some (.cells #[.map (some M), .int .i64 0] 104 (0, 0)) := HI2.out
  have hM3 : (w2.drewN nq).heap[M]? = some (.map #[] 0) := HM2.out
  have hs3 : w.heap.size < (w2.drewN nq).heap.size := hs2
  generalize w2.drewN nq = w3 at hL3 hB3 hI3 hM3 hs3 ⊢
  clear C1 C2 HL2 HB2 HI2 HM2 n2 hs2
  obtain ⟨o3, d3⟩ := hL3.idAt
  have hcI3 : w3.cell? ⟨IB, 0, none⟩ = some (.map (some M)) := cell_of_row w3 IB 0 _ _ _ hI3
  have HF := Lib.hid (find_none IB M ⟨#[97, 46, 98]⟩ three.id w3 hcI3 hM3)
  have HL3 := Lib.hid hL3
  have HB3 := Lib.hid hB3
  have HI3 := Lib.hid hI3
  have HM3 := Lib.hid hM3
  have hft : fitsRow 38 (lineCells zeroLine) = true := fits_line rfl
  have hzs : ((lineCells zeroLine).size == 38) = true := by rw [lineCells_size]; rfl
  clear hL3 hB3 hI3 hM3 hcI3
  go_wp2_with fail
  refine HF.out.mono ?_
  rintro r w4 ⟨rfl, hb4⟩
  have hL4 : LineVar w4 w.heap.size three := HL3.out.below hb4 hs3
  have hB4 : Below w.heap.size w w4 := HB3.out.trans (hb4.mono HB3.out.size)
  have hs4 : w.heap.size < w4.heap.size := hL4.lt
  clear o3 d3 HF HL3 HB3 HI3 HM3 hb4 hs3
  have hb5 : Below w4.heap.size w4 (w4.alloc (.cells (lineCells zeroLine) 34)) := (Below.refl _ _).alloc (Nat.le_refl _) _
  have hL5 : LineVar (w4.alloc (.cells (lineCells zeroLine) 34)) w.heap.size three := hL4.below hb5 hs4
  have hB5 : Below w.heap.size w (w4.alloc (.cells (lineCells zeroLine) 34)) := hB4.trans (hb5.mono hB4.size)
  have hs5 : w.heap.size < (w4.alloc (.cells (lineCells zeroLine) 34)).heap.size := hL5.lt
  have hI5 := (hB5.block IB hIB).trans HI.out
  have hM5 := (hB5.block M hMB).trans HM.out
  have HL5 := Lib.hid hL5
  have HB5 := Lib.hid hB5
  have HI5 := Lib.hid hI5
  have HM5 := Lib.hid hM5
  clear hb5 hL5 hB5 hI5 hM5 hL4 hB4 hs4
  go_upto_region 11 with (fail)
  generalize w4.alloc (.cells (lineCells zeroLine) 34) = w5 at HL5 HB5 HI5 HM5 hs5 ⊢
  have hc0 : w5.cell? ⟨IB, 0, none⟩ = some (.map (some M)) := cell_of_row _ IB 0 _ _ _ HI5.out
  have hc1 : w5.cell? ⟨IB, 1, none⟩ = some (.int .i64 0) := cell_of_row _ IB 1 _ _ _ HI5.out
  have hlk := look_empty _ M ⟨#[97, 46, 98]⟩ HM5.out
  have hmn := fun (u : World) => run_eql_map_nil (P := Tryz.prog) u 102 9 112 (some M) Tryz.underlying102
  have hmm := @run_makeMap Tryz.prog
  have hup : ∀ v, (Instr.mapUpdate 102 (.map (some M)) (.string ⟨#[97, 46, 98]⟩) v).run Tryz.prog ((w5.alloc (.map #[] 0)).alloc (.cells #[.slice none 0 0, .map (some w5.heap.size)] 115)) = .ok () (((w5.alloc (.map #[] 0)).alloc (.cells #[.slice none 0 0, .map (some w5.heap.size)] 115)).putObj M (.map #[{ key := .string ⟨#[97, 46, 98]⟩, val := v, born := 0 }] 1)) := fun v =>
    run_mapUpdate_first _ 102 9 112 M 0 ⟨#[97, 46, 98]⟩ v Tryz.underlying102 Tryz.underlying9 (by
      rw [heap_alloc_old _ _ (by have := (Array.getElem?_eq_some_iff.1 HM5.out).1; simp; omega), heap_alloc_old _ _ (Array.getElem?_eq_some_iff.1 HM5.out).1]; exact HM5.out)
  have hc6 : ((w5.alloc (.map #[] 0)).alloc (.cells #[.slice none 0 0, .map (some w5.heap.size)] 115)).cell? ⟨IB, 0, none⟩ = some (.map (some M)) := Lib.cell?_alloc_some _ (Lib.cell?_alloc_some _ hc0)
  go_upto_region 21 with (fail)
  obtain ⟨gb, hgb⟩ : ∃ gb, gb = w5.heap.size + 1 := ⟨_, rfl⟩
  obtain ⟨nb, hnb⟩ : ∃ nb, nb = w5.heap.size := ⟨_, rfl⟩
  obtain ⟨w6, hw6⟩ : ∃ w6, w6 = ((w5.alloc (.map #[] 0)).alloc (.cells #[.slice none 0 0, .map (some w5.heap.size)] 115)).putObj M (.map #[{ key := .string ⟨#[97, 46, 98]⟩, val := .pointer (some ⟨w5.heap.size + 1, 0, none⟩), born := 0 }] 1) := ⟨_, rfl⟩
  have hM5lt : M < w5.heap.size := (Array.getElem?_eq_some_iff.1 HM5.out).1
  have hI5lt : IB < w5.heap.size := (Array.getElem?_eq_some_iff.1 HI5.out).1
  have hs6 : w6.heap.size = w5.heap.size + 2 := by rw [hw6]; simp [World.putObj]
  have blk6 : ∀ k, k < w5.heap.size → k ≠ M → w6.heap[k]? = w5.heap[k]? := fun k hk hkM => by
    rw [hw6, World.putObj_heap_other hkM, heap_alloc_old _ _ (by simp; omega), heap_alloc_old _ _ hk]
  have hM6 : w6.heap[M]? = some (.map #[{ key := .string ⟨#[97, 46, 98]⟩, val := .pointer (some ⟨gb, 0, none⟩), born := 0 }] 1) := by
    rw [hw6, World.putObj_heap_same (by simp; omega), hgb]
  have hg6 : w6.heap[gb]? = some (.cells #[.slice none 0 0, .map (some nb)] 115 (0, 0)) := by
    rw [hw6, World.putObj_heap_other (by omega), hgb, hnb]
    have := heap_alloc_new (w5.alloc (.map #[] 0)) (.cells #[.slice none 0 0, .map (some w5.heap.size)] 115)
    simpa using this
  have hn6 : w6.heap[nb]? = some (.map #[] 0) := by
    rw [hw6, World.putObj_heap_other (by omega), heap_alloc_old _ _ (by simp; omega), hnb, heap_alloc_new]
  have hL6 : LineVar w6 w.heap.size three := (blk6 _ hs5 (by omega)).trans HL5.out
  have hI6 := (blk6 IB hI5lt hne).trans HI5.out
  have hB6 : Below B w w6 := by
    have h1 : Below B w w5 := HB5.out.mono (by omega)
    refine ⟨?_, ?_, ?_, by have := h1.size; omega, fun k hk => (blk6 k (by omega) (by omega)).trans (h1.block k hk)⟩
    · rw [hw6]; exact h1.os
    · rw [hw6]; exact h1.tape
    · rw [hw6]; exact h1.output
  rw [← hw6, ← hgb, ← hnb]
  have hgbs : gb < w6.heap.size := by omega
  have hnbs : nb < w6.heap.size := by omega
  have hLs : w.heap.size < w6.heap.size := by omega
  have hIs : IB < w6.heap.size := by omega
  have hMs : M < w6.heap.size := by omega
  have hgL : gb ≠ w.heap.size := by omega
  have hgI : gb ≠ IB := by omega
  have hgM : gb ≠ M := by omega
  have hgN : gb ≠ nb := by omega
  have hnL : nb ≠ w.heap.size := by omega
  have hnI : nb ≠ IB := by omega
  have hnM : nb ≠ M := by omega
  have hBg : B ≤ gb := by omega
  have hBn : B ≤ nb := by omega
  clear hw6 hgb hnb hs6 blk6 hc6 hc0 hc1 hlk hmn hmm hup HL5 HB5 HI5 HM5 hM5lt hI5lt hs5
  have q1 : ∀ z : Later w6, z.1.cell? ⟨gb, 0, none⟩ = some (.slice none 0 0) := fun z => z.cell (cell_of_row w6 gb 0 _ _ _ hg6)
  have q2 : ∀ z : Later w6, okCells z.1 ⟨w.heap.size, 0, none⟩ 38 = true := fun z => (hL6.below z.2 hLs).rd.1
  have q3 : ∀ z : Later w6, rdCells z.1 ⟨w.heap.size, 0, none⟩ 38 = lineCells three := fun z => (hL6.below z.2 hLs).rd.2
  have HM6 := Lib.hid hM6
  have HG6 := Lib.hid hg6
  have HN6 := Lib.hid hn6
  have HL6 := Lib.hid hL6
  have HI6 := Lib.hid hI6
  have HB6 := Lib.hid hB6
  clear hM6 hg6 hn6 hL6 hI6 hB6
  refine wp_region_mix0 [0, 1, 2, 3, 4, 5, 6] [7, 8, 9, 10, 11, 12] (fun w' => ∃ z : Later w6, w' = z.1) (by kernel_rfl) (by kernel_rfl) (by kernel_rfl) ⟨⟨_, (Below.refl _ _).drew⟩, rfl⟩ ?_
  simp only [opsAt, List.map_cons, List.map_nil, Array.getD_eq_getD_getElem?, List.getElem?_toArray, List.getElem?_cons_zero, List.getElem?_cons_succ, Option.getD_some]
  repeat (go_big_quiet_step (fail))
  refine wpQuiet_nil ?_
  clear q1 q2 q3
  have hbd : Below w6.heap.size w6 w6.drew := (Below.refl _ _).drew
  generalize w6.drew = w7 at hbd ⊢
  refine wpR_cons true rfl (by kernel_rfl) ?_
  go_wp2_with fail
  refine (clone_any 0 three [] w7 (World.ownsRow_nil _ _ _ _) (by simp)).mono ?_
  rintro r w8 ⟨v, rfl, hI8, hb8⟩
  have hone := hI8.one
  have hb8' : Below w6.heap.size w6 w8 := hbd.trans (hb8.mono hbd.size)
  obtain ⟨g8, hg8⟩ : ∃ g8 : GLine, g8 = { three with refs := v } := ⟨_, rfl⟩
  have hone8 : refsOne g8 := by rw [hg8]; exact hone
  rw [← hg8]
  have HG8 := Lib.hid hg8
  clear hg8
  obtain ⟨i0, hi, hz0, hz1, hz2⟩ := info_parts Tryz.info_line
  go_wp2_with fail
  refine ⟨fun _ => ⟨⟨_, hb8'⟩, rfl⟩, wpR_cons true rfl (by kernel_rfl) ?_⟩
  refine wpList_buildSlice rfl 107 34 1 _ rfl (lineCells g8) i0 _ Tryz.underlying107 hi hz0 (by rw [hz1]; decide) (by rw [hz1]; decide) (by rw [hz1]; simp only [List.map_toArray, List.map_cons, List.map_nil]; refine fill_one _ _ 38 (lineCells_size _) ?_; rw [Array.size_map, Array.size_range]) ?_
  have hb9 : Below w6.heap.size w6 (w8.alloc (.cells (lineCells g8) 34)) := hb8'.alloc hb8'.size _
  have hIns := insert_end 0 (.slice none 0 0) 0 w8.heap.size [] g8 (w8.alloc (.cells (lineCells g8) 34)) hone8 (World.ownsRow_nil _ _ _ _) (Nat.zero_le _) (by omega) (fun j u hj => by rw [Addr.add_lit, Nat.zero_add, cells_new]; simpa [lineCells] using hj)
  have HIns := Lib.hid hIns
  have HB9 := Lib.hid hb9
  clear hIns hb9
  go_wp2_with fail
  generalize w8.alloc (.cells (lineCells g8) 34) = w9 at HIns HB9 ⊢
  refine ⟨fun _ => ⟨⟨_, HB9.out⟩, rfl⟩, wpR_cons true rfl (by kernel_rfl) ?_⟩
  go_wp2_with fail
  refine HIns.out.mono ?_
  rintro r w10 ⟨v', rfl, hown, hgrow⟩
  have hb10 : Below w6.heap.size w6 w10 := ⟨hgrow.os.trans HB9.out.os, hgrow.tape.trans HB9.out.tape, hgrow.output.trans HB9.out.output, Nat.le_trans HB9.out.size hgrow.size, fun k hk => (hgrow.block k (by have := HB9.out.size; omega) (by simp [Value.ownBlock])).trans (HB9.out.block k hk)⟩
  obtain ⟨va, vc, hv'⟩ : ∃ va vc, v' = .slice (some ⟨va, 0, none⟩) 1 vc := by
    rcases hown.2 with ⟨_, h0⟩ | ⟨g', cap', _, e, _⟩
    · omega
    · exact ⟨g', cap', e⟩
  subst hv'
  go_wp2_with fail
  refine ⟨fun _ => ⟨⟨_, hb10⟩, rfl⟩, wpR_list [10, 11, 12] _ _ (by kernel_rfl) ?_⟩
  simp only [opsAt, List.map_cons, List.map_nil, Array.getD_eq_getD_getElem?, List.getElem?_toArray, List.getElem?_cons_zero, List.getElem?_cons_succ, Option.getD_some]
  have hg10 := (hb10.block gb hgbs).trans HG6.out
  have hcg := cell_of_row w10 gb 0 _ _ _ hg10
  have hfg := frozen_of_row w10 gb 0 _ _ hg10
  have hg11 := heap_setCell_same w10 gb 0 _ _ (.slice (some ⟨va, 0, none⟩) 1 vc) hg10
  have blk11 : ∀ k, k ≠ gb → (w10.setCell ⟨gb, 0, none⟩ (.slice (some ⟨va, 0, none⟩) 1 vc)).heap[k]? = w10.heap[k]? := fun k hk => heap_setCell_other w10 ⟨gb, 0, none⟩ k _ hk
  have hL11 : LineVar (w10.setCell ⟨gb, 0, none⟩ (.slice (some ⟨va, 0, none⟩) 1 vc)) w.heap.size three := (blk11 _ hgL.symm).trans ((hb10.block _ hLs).trans HL6.out)
  have hI11 := (blk11 _ hgI.symm).trans ((hb10.block _ hIs).trans HI6.out)
  have hM11 := (blk11 _ hgM.symm).trans ((hb10.block _ hMs).trans HM6.out)
  have hN11 := (blk11 _ hgN.symm).trans ((hb10.block _ hnbs).trans HN6.out)
  have hB11 : Below B w (w10.setCell ⟨gb, 0, none⟩ (.slice (some ⟨va, 0, none⟩) 1 vc)) := (HB6.out.trans (hb10.mono (by omega))).setCell hBg _
  have HG11 := Lib.hid hg11
  have HL11 := Lib.hid hL11
  have HI11 := Lib.hid hI11
  have HM11 := Lib.hid hM11
  have HN11 := Lib.hid hN11
  have HB11 := Lib.hid hB11
  clear hg11 blk11 hL11 hI11 hM11 hN11 hB11 hg10 hown hgrow hb10 HB9 HIns
  go_wp2
  refine NoPanic.normal ?_
  go_upto_region 22 with (fail)
  generalize w10.setCell ⟨gb, 0, none⟩ (.slice (some ⟨va, 0, none⟩) 1 vc) = w11 at HG11 HL11 HI11 HM11 HN11 HB11 ⊢
  have hg11s : gb < w11.heap.size := (Array.getElem?_eq_some_iff.1 HG11.out).1
  have hn11s : nb < w11.heap.size := (Array.getElem?_eq_some_iff.1 HN11.out).1
  have hL11s : w.heap.size < w11.heap.size := HL11.out.lt
  have q1 : ∀ z : Later w11, z.1.cell? ⟨gb, 1, none⟩ = some (.map (some nb)) := fun z => z.cell (cell_of_row w11 gb 1 _ _ _ HG11.out)
  have q2 : ∀ z : Later w11, okCells z.1 ⟨w.heap.size, 1, none⟩ 32 = true := fun z => (HL11.out.below z.2 hL11s).idAt.1
  have q3 : ∀ z : Later w11, rdCells z.1 ⟨w.heap.size, 1, none⟩ 32 = (encId three.id).toArray := fun z => (HL11.out.below z.2 hL11s).idAt.2
  have q4 : ∀ z : Later w11, z.1.cell? ⟨w.heap.size, 0, none⟩ = some (.int .i64 three.number) := fun z => ((HL11.out.below z.2 hL11s).cell 0).trans (lc0 three)
  clear hcg hfg
  refine wp_region_mix0 [0, 1, 2, 3, 4, 5, 6, 7] [8] (fun w' => ∃ z : Later w11, w' = z.1) (by kernel_rfl) (by kernel_rfl) (by kernel_rfl) ⟨⟨_, (Below.refl _ _).drew⟩, rfl⟩ ?_
  simp only [opsAt, List.map_cons, List.map_nil, Array.getD_eq_getD_getElem?, List.getElem?_toArray, List.getElem?_cons_zero, List.getElem?_cons_succ, Option.getD_some]
  repeat (go_big_quiet_step (fail))
  refine wpQuiet_nil ?_
  clear q1 q2 q3 q4
  have hup : (Instr.mapUpdate 113 (.map (some nb)) (.agg (encId three.id).toArray) (.int .i64 three.number)).run Tryz.prog w11.drew = .ok () (w11.drew.putObj nb (.map #[{ key := .agg (encId zeroId).toArray, val := .int .i64 three.number, born := 0 }] 1)) := by
    have h1 := put_id_empty w11.drew nb (.int .i64 three.number) HN11.out
    have h2 := MapKept.run_setObj_map (P := Tryz.prog) (w := w11.drew) (r := nb) (.map #[{ key := .agg (encId zeroId).toArray, val := .int .i64 three.number, born := 0 }] 1) HN11.out
    exact h1.trans h2
  have hsd : w11.drew.heap.size = w11.heap.size := rfl
  obtain ⟨w12, hw12⟩ : ∃ w12, w12 = w11.drew.putObj nb (.map #[{ key := .agg (encId zeroId).toArray, val := .int .i64 three.number, born := 0 }] 1) := ⟨_, rfl⟩
  have blk12 : ∀ k, k ≠ nb → w12.heap[k]? = w11.heap[k]? := fun k hk => by rw [hw12, World.putObj_heap_other hk]; rfl
  have hs12 : w12.heap.size = w11.heap.size := by rw [hw12]; simp only [World.putObj, Array.size_setIfInBounds]; rfl
  have hg12 := (blk12 gb hgN).trans HG11.out
  have hI12 := (blk12 IB hnI.symm).trans HI11.out
  have hM12 := (blk12 M hnM.symm).trans HM11.out
  have hB12 : Below B w w12 := by
    have h1 := HB11.out
    refine ⟨?_, ?_, ?_, by have := h1.size; omega, fun k hk => (blk12 k (by omega)).trans (h1.block k hk)⟩
    · rw [hw12]; exact h1.os
    · rw [hw12]; exact h1.tape
    · rw [hw12]; exact h1.output
  rw [← hw12] at hup
  have HG12 := Lib.hid hg12
  have HI12 := Lib.hid hI12
  have HM12 := Lib.hid hM12
  have HB12 := Lib.hid hB12
  clear hw12 blk12 hg12 hI12 hM12 hB12 hs12 hsd
  refine wpR_list [8] _ _ (by kernel_rfl) ?_
  simp only [opsAt, List.map_cons, List.map_nil, Array.getD_eq_getD_getElem?, List.getElem?_toArray, List.getElem?_cons_zero, List.getElem?_cons_succ, Option.getD_some]
  go_wp2
  refine NoPanic.normal ?_
  have hci := cell_of_row w12 IB 1 _ _ _ HI12.out
  have hfi := frozen_of_row w12 IB 1 _ _ HI12.out
  clear hup
  have hI13 := heap_setCell_same w12 IB 1 _ _ (.int .i64 1) HI12.out
  have hM13 := (heap_setCell_other w12 ⟨IB, 1, none⟩ M (.int .i64 1) (by simpa using hne.symm)).trans HM12.out
  have hG13 := (heap_setCell_other w12 ⟨IB, 1, none⟩ gb (.int .i64 1) (by simpa using hgI)).trans HG12.out
  have HI13 := Lib.hid hI13
  have HM13 := Lib.hid hM13
  have HG13 := Lib.hid hG13
  clear hI13 hM13 hG13
  go_wp2
  go_ret
  refine ⟨rfl, HB12.out.setCell hB _, gb, some ⟨va, 0, none⟩, vc, ?_, HM13.out, ?_⟩
  · exact cell_of_row _ IB 0 _ _ _ HI13.out
  · exact cell_of_row _ gb 0 _ _ _ HG13.out

end Go.Proofs.YtdjaphcelpchaaaGreatDoor

namespace Go.Proofs.YtdjaphcelpchaaaGreatDoor
open Go Go.RowKit Go.Proofs

attribute [local go_sem ↓] ex_load_id ex_store_id ex_load_line ex_store_line ex_alloc_line ex_build_line

attribute [local go_sem] ld_id st_id ld_line st_line guard_id okCells_drew rdCells_drew okCells_drewN rdCells_drewN rowOk_drew rowOk_cells okCells_cells rdCells_cells setRow_drew setRow_new setRow_past

/-- The line that 'known' prints, and its text. -/
def seven : GLine := { zeroLine with number := 7, name := ⟨#[65, 110, 110]⟩, subject := ⟨#[82, 101, 58, 32, 116, 101, 97]⟩, bytes := 120 }
theorem seven_ok : lineErr seven [] = 0 := by decide +kernel
def sevenTxt : List UInt8 := [55, 9] ++ Lib.repeatL [48] 64 ++ [9, 65, 110, 110, 9, 48, 9, 82, 101, 58, 32, 116, 101, 97, 9, 9, 49, 50, 48]
theorem seven_txt : lineTxt 7 zeroId ⟨#[65, 110, 110]⟩ 0 ⟨#[82, 101, 58, 32, 116, 101, 97]⟩ [] 120 = sevenTxt := by decide +kernel

theorem ex_build_l4 (ρ : Operand → Value) (d : Option Tmp) (x0 x2 x4 x6 : Operand) (ty : TypeId) (pos : String) (af : Array Edge) (gd : Option (Nat × Bool)) (w : World) :
    Sem.run Tryz.prog (execOp ρ ⟨d, .build 34 #[(0, x0), (2, x2), (4, x4), (6, x6)], ty, pos, af, gd⟩) w = blRes Tryz.prog 34 w #[(0, ρ x0), (2, ρ x2), (4, ρ x4), (6, ρ x6)] := by kernel_rfl
theorem ex_build_l1 (ρ : Operand → Value) (d : Option Tmp) (x0 : Operand) (ty : TypeId) (pos : String) (af : Array Edge) (gd : Option (Nat × Bool)) (w : World) :
    Sem.run Tryz.prog (execOp ρ ⟨d, .build 34 #[(0, x0)], ty, pos, af, gd⟩) w = blRes Tryz.prog 34 w #[(0, ρ x0)] := by kernel_rfl
theorem bl_seven (w : World) : blRes Tryz.prog 34 w #[(0, .int .i64 7), (2, .string ⟨#[65, 110, 110]⟩), (4, .string ⟨#[82, 101, 58, 32, 116, 101, 97]⟩), (6, .int .i64 120)] = .ok (.value (.agg (lineCells seven))) w := by kernel_rfl
theorem bl_three (w : World) : blRes Tryz.prog 34 w #[(0, .int .i64 3)] = .ok (.value (.agg (lineCells three))) w := by kernel_rfl
attribute [local go_sem ↓] ex_build_l4 ex_build_l1

attribute [local go_sem] bl_seven bl_three

set_option maxHeartbeats 1000000 in
theorem new_any (w : World) : Calls Tryz.prog 25 #[] w fun r w' => r = .returned (.pointer (some ⟨w.heap.size + 1, 0, none⟩)) ∧ (w.alloc (.map #[] 0)).alloc (.cells #[.map (some w.heap.size), .int .i64 0] 104) = w' := by
  have hmm := @run_makeMap Tryz.prog
  go_enter Tryz.func25, Tryz.ntmps25
  go_wp2
  go_ret
  exact ⟨rfl, rfl⟩

set_option maxHeartbeats 1000000 in
theorem len_one (IB M gb n c : Nat) (w : World) (a : Option Addr) (hc : w.cell? ⟨IB, 0, none⟩ = some (.map (some M))) (hm : w.heap[M]? = some (.map #[{ key := .string ⟨#[97, 46, 98]⟩, val := .pointer (some ⟨gb, 0, none⟩), born := 0 }] 1)) (hg : w.cell? ⟨gb, 0, none⟩ = some (.slice a n c)) :
    Calls Tryz.prog 48 #[.pointer (some ⟨IB, 0, none⟩), .string ⟨#[97, 46, 98]⟩] w fun r w' => r = .returned (.int .i64 n) ∧ w = w' := by
  have HL := Lib.hid (linesOf_one IB M gb n c w a hc hm hg)
  clear hc hm hg
  go_enter Tryz.func48, Tryz.ntmps48
  go_wp2_with fail
  refine HL.out.mono ?_
  rintro r w' ⟨rfl, rfl⟩
  go_wp2
  go_ret
  exact ⟨rfl, rfl⟩

set_option maxRecDepth 100000 in
set_option maxHeartbeats 2000000 in
theorem knows : Knows := by
  intro w hG
  have hp := print_any seven [] w hG ⟨idsAt_nil _, by decide +kernel, by decide +kernel, by decide +kernel⟩
  have e0 : (if lineErr seven [] = 0 then str (lineTxt seven.number.toNat seven.id seven.name seven.date.toNat seven.subject [] seven.bytes.toNat) else ⟨#[]⟩) = str sevenTxt := by
    rw [if_pos seven_ok, ← seven_txt]; rfl
  rw [e0, seven_ok] at hp
  have HP := Lib.hid hp
  clear hp e0
  go_enter Tryz.func13, Tryz.ntmps13
  go_wp2_with fail
  refine HP.out.mono ?_
  rintro r w1 ⟨rfl, hb1⟩
  have HB1 := Lib.hid hb1
  clear hb1 HP
  go_wp2_with fail
  refine (new_any w1).mono ?_
  rintro r w2' ⟨rfl, rfl⟩
  have hb2 : Below w1.heap.size w1 ((w1.alloc (.map #[] 0)).alloc (.cells #[.map (some w1.heap.size), .int .i64 0] 104)) := ((Below.refl _ _).alloc (Nat.le_refl _) _).alloc (by simp) _
  have hI2 : ((w1.alloc (.map #[] 0)).alloc (.cells #[.map (some w1.heap.size), .int .i64 0] 104)).heap[w1.heap.size + 1]? = some (.cells #[.map (some w1.heap.size), .int .i64 0] 104 (0, 0)) := by
    have := heap_alloc_new (w1.alloc (.map #[] 0)) (.cells #[.map (some w1.heap.size), .int .i64 0] 104)
    simpa using this
  have hM2 : ((w1.alloc (.map #[] 0)).alloc (.cells #[.map (some w1.heap.size), .int .i64 0] 104)).heap[w1.heap.size]? = some (.map #[] 0) := by
    rw [heap_alloc_old _ _ (by simp), heap_alloc_new]
  generalize (w1.alloc (.map #[] 0)).alloc (.cells #[.map (some w1.heap.size), .int .i64 0] 104) = w2 at hb2 hI2 hM2 ⊢
  have hs2 : w1.heap.size + 1 < w2.heap.size := (Array.getElem?_eq_some_iff.1 hI2).1
  have HB2 := Lib.hid hb2
  have HI2 := Lib.hid hI2
  have HM2 := Lib.hid hM2
  clear hb2 hI2 hM2
  have hrep := Tryz.strings_Repeat ⟨#[48]⟩ 64 w2 (by omega) (by decide +kernel)
  have HR := Lib.hid hrep
  clear hrep
  go_wp2_with fail
  refine HR.out.mono ?_
  rintro r w3 ⟨rfl, hb3⟩
  have hI3 := (hb3.block _ hs2).trans HI2.out
  have hM3 := (hb3.block w1.heap.size (by omega)).trans HM2.out
  have hB3 : Below w1.heap.size w1 w3 := HB2.out.trans (hb3.mono (by omega))
  have hG3 : Gl w3 := hG.later (HB1.out.trans (hB3.mono HB1.out.size))
  have HA := Lib.hid (add_fresh (w1.heap.size + 1) w1.heap.size w1.heap.size w3 hG3 hI3 hM3 (by omega) (Nat.le_refl _))
  have HB3 := Lib.hid hB3
  clear hI3 hM3 hB3 hG3 hb3 HR HB2 HI2 HM2 hs2
  go_wp2_with fail
  refine HA.out.mono ?_
  rintro r w4 ⟨rfl, hb4, gb, a, c, hc4, hm4, hg4⟩
  have HLn := Lib.hid (len_one _ _ gb 1 c w4 a hc4 hm4 hg4)
  have hB4 := HB1.out.trans ((HB3.out.trans hb4).mono HB1.out.size)
  have HB4 := Lib.hid hB4
  clear hc4 hm4 hg4 hb4 hB4 HA HB3
  go_wp2_with fail
  refine HLn.out.mono ?_
  rintro r w5 ⟨rfl, rfl⟩
  go_wp2
  go_ret
  exact ⟨rfl, HB4.out⟩

#print axioms knows
end Go.Proofs.YtdjaphcelpchaaaGreatDoor

namespace Go.Proofs.YtdjaphcelpchaaaGreatDoor
open Go Go.RowKit Go.Proofs Go.ChangeShapes Go.WideShapes Go.ChangeAt

theorem own : ownKnob Tryz.prog.godebug = none := by kernel_rfl
theorem laidOut : laidOutB Tryz.prog = true := by kernel_rfl

/-- The list of variables that every row of this seat names with what they hold. -/
def laidAll : List (String × DataW Unit) := Rows.overviewParseRow.laid

theorem gl_of {W : World} (h : laidMetH Tryz.prog laidAll W) (hs : W.ShapedOpen Tryz.prog) : Gl W where
  tab := by
    have h1 := h.filter (fun x => x.1 == "internal/strconv.uint64pow10")
    have e : laidAll.filter (fun x => x.1 == "internal/strconv.uint64pow10") = [("internal/strconv.uint64pow10", Lib.tabData .u64 Lib.pow10Tab)] := by kernel_rfl
    rw [e] at h1
    exact Lib.tabIs_of_head (rest := []) (g := 1) (by kernel_rfl) (by kernel_rfl) Tryz.underlying210 Tryz.underlying174 (by kernel_rfl) (by kernel_rfl) h1
  len := cell_of_shapedOpen_int (g := 0) (t := 3) (zero := #[.int .i64 0]) hs (by rw [globals_size]; decide) (by kernel_rfl) rfl (by kernel_rfl) (by kernel_rfl) Tryz.underlying3
  size := by
    have h0 : (((begin Tryz.prog (fun _ _ => 0) default).world.heap[5]?).bind Obj.row?).isSome = true := by kernel_rfl
    obtain ⟨⟨zero, t⟩, hz⟩ := Option.isSome_iff_exists.1 h0
    obtain ⟨cs, hh, _, _⟩ := hs.1 5 zero t (by rw [globals_size]; decide) hz
    rw [globals_size]
    have := (Array.getElem?_eq_some_iff.1 hh).1
    omega

section
variable {H : Type} {enc : TypeId × Value → H}

theorem trodAll_stays {P : Program} {W W' : World} (hl : laidOutB P = true) (hb : Below W.heap.size W W') (sp : Nat → Bool) (ts : List TypeId) : ∀ (vs : List Value) (ds : List (DataW H)) (p : List MemPlace),
    (∀ t ∈ ts, P.readableRec t = true ∧ t < P.types.size) → DataW.TrodAll enc P W 0 (fun _ => true) true ts vs ds p → (∀ x ∈ p, x.block < W.heap.size) → (∀ x ∈ p, sp x.block = true) → DataW.TrodAll enc P W' 0 sp true ts vs ds p := by
  induction ts with
  | nil =>
    intro vs ds p _ h _ _
    obtain ⟨rfl, rfl, rfl⟩ := trodAll_nil h
    exact trodAll_mk0
  | cons t ts ih =>
    intro vs ds p hr h hlt hsp
    obtain ⟨v, vs', d, ds', p1, q1, rfl, rfl, rfl, h1, h2⟩ := trodAll_cons h
    have ht := hr t (by simp)
    exact trodAll_cons_mk (WideElems.Trod_stays hl ht.1 ht.2 h1 (fun x hx => hb.same (hlt x (List.mem_append_left _ hx))) (fun x hx => hsp x (List.mem_append_left _ hx)))
      (ih vs' ds' q1 (fun u hu => hr u (by simp [hu])) h2 (fun x hx => hlt x (List.mem_append_right _ hx)) (fun x hx => hsp x (List.mem_append_right _ hx)))

/-- A law of this seat: its walk returned true and left all that was there as it was: the row's post holds. -/
theorem law_post {f : Func} {s : ChangeSpec} {W W' : World} {args : Array Value} {ds gs : List (DataW H)} {before : List MemPlace} (hvars : s.vars = []) (hrt : f.resultTypes = #[4])
    (hW : DataW.Whole enc Tryz.prog f.params.toList s.vars false W args.toList ds gs before) (hr : ∀ t ∈ f.params.toList, Tryz.prog.readableRec t = true ∧ t < Tryz.prog.types.size)
    (hfn : s.fn H ds = { results := [.lit (.bool true)], args := ds }) (hb : Below W.heap.size W W') : s.post enc Tryz.prog f false true false false W args (.bool true) W' := by
  have hlt : ∀ x ∈ before, x.block < W.heap.size := fun x hx => hW.lt x hx
  have hW0 := hW
  obtain ⟨p, q, hA, hV, rfl, _, _⟩ := hW
  rw [hvars] at hV
  obtain ⟨rfl, rfl⟩ := trodVars_none hV
  rw [List.append_nil] at hW0 hlt
  refine ⟨ds, [], p, [], p, [], hW0, ?_, ?_, ?_, ?_, fun h => by cases h⟩
  · rw [List.append_nil, hfn, hrt]
    exact trodAll_mk1 (shut_bool Tryz.underlying4 _)
  · rw [List.append_nil, hfn]
    exact trodAll_stays laidOut hb _ _ _ _ _ hr hA hlt (fun x hx => by simpa using hlt x hx)
  · rw [List.append_nil, hfn, hvars]
    rfl
  · exact World.keptBut_mono (fun x hx => ⟨hx, .inr (.inl hx)⟩) (hb.frame (· ∈ p))
end

end Go.Proofs.YtdjaphcelpchaaaGreatDoor

namespace Go.Proofs.YtdjaphcelpchaaaGreatDoor
open Go Go.RowKit Go.Proofs Go.ChangeShapes Go.WideShapes Go.ChangeAt

section
variable {H : Type} {enc : TypeId × Value → H} {W : World} {base fuel : Nat} {sp : Nat → Bool} {held : Bool}

theorem cells_id : Tryz.prog.cellsOf 23 = 32 := by kernel_rfl
theorem cells_byte : Tryz.prog.cellsOf 5 = 1 := by kernel_rfl
theorem cells_int : Tryz.prog.cellsOf 3 = 1 := by kernel_rfl
theorem cells_string : Tryz.prog.cellsOf 9 = 1 := by kernel_rfl
theorem cells_ids : Tryz.prog.cellsOf 24 = 1 := by kernel_rfl
theorem cells_rline : Tryz.prog.cellsOf 26 = 39 := by kernel_rfl
theorem bytes_id : Tryz.prog.bytesOf 23 = 32 := by kernel_rfl

theorem take_one {cs : List Value} {i : Nat} {v : Value} (h : (cs.drop i).take 1 = [v]) : cs[i]? = some v := by
  have h0 : ((cs.drop i).take 1)[0]? = some v := by rw [h]; rfl
  simpa using h0

theorem open_idcells {cs : List Value} {x : DataW H × List MemPlace} (h : DataW.trod enc Tryz.prog W base sp held fuel 23 cs = some x) : ∃ id : Id32, cs = encId id := by
  obtain ⟨xs, m, _, _, hl, hn, hel⟩ := DataW.trod_array Tryz.underlying23 h
  rw [cells_id] at hl
  have each : ∀ i, i < 32 → ∃ b : UInt8, cs[i]? = some (.int .u8 b.toNat) := fun i hi => by
    have hE := hel i hi
    rw [cells_byte, Nat.mul_one, List.getElem?_eq_getElem (by omega)] at hE
    obtain ⟨z, e1, _, hw⟩ := DataW.trod_int Tryz.underlying5 hE
    have hz : 0 ≤ z ∧ z ≤ 255 := by simpa [Lit.wf, IntKind.min, IntKind.max, IntKind.signed, IntKind.bits] using hw
    refine ⟨UInt8.ofNat z.toNat, ?_⟩
    rw [take_one e1]
    have : (UInt8.ofNat z.toNat).toNat = z.toNat := by simp; omega
    rw [this]
    congr 2
    omega
  refine ⟨⟨cs.map fun v => match v with | .int _ n => UInt8.ofNat n.toNat | _ => 0, by simp [hl]⟩, ?_⟩
  apply List.ext_getElem?
  intro i
  by_cases hi : i < 32
  · obtain ⟨b, hb⟩ := each i hi
    rw [hb]
    simp [encId, hb]
  · rw [List.getElem?_eq_none (by omega)]
    exact (List.getElem?_eq_none (Nat.le_trans (Nat.le_of_eq (encId_length _)) (by omega))).symm

/-- The references: nil or a slice of identities. -/
theorem open_ids {cs : List Value} {d : DataW H} {ps : List MemPlace} (h : DataW.trod enc Tryz.prog W base sp held fuel 24 cs = some (d, ps)) (hw : ∀ n ∈ d.weights Tryz.prog 24, n ≤ reachBytes) :
    ∃ v ids, cs = [v] ∧ IdsAt W v ids ∧ ids.length * 32 ≤ reachBytes := by
  rcases DataW.trod_slice Tryz.underlying24 h with ⟨rfl, _⟩ | ⟨a, len, cap, elems, rest, m, _, rfl, hx, hb, hl, hm, hlen, hel, _, _⟩
  · exact ⟨_, [], rfl, ⟨none, 0, rfl, Nat.le_refl _, fun h => absurd rfl h⟩, by simp⟩
  · have hd : d = .slice (elems.map (·.1)) (rest.map (·.1)) := (Prod.mk.inj hx).1
    have hwt : (elems.length + rest.length) * 32 ≤ reachBytes := by
      refine hw _ ?_
      rw [hd]
      unfold DataW.weights
      rw [Tryz.underlying24]
      simp [bytes_id]
    have each : ∀ i, i < len → ∃ id : Id32, ∀ j u, (encId id)[j]? = some u → W.cell? ((a.add (i * 32)).add j) = some u := fun i hi => by
      have hE := hel i hi
      rw [cells_id, List.getElem?_eq_getElem (by omega)] at hE
      obtain ⟨cs', hcs, ht⟩ := Option.bind_eq_some_iff.1 hE
      obtain ⟨id, rfl⟩ := open_idcells ht
      obtain ⟨_, hll, hcell⟩ := World.cells?_some hcs
      exact ⟨id, fun j u hj => (hcell j (by have := (List.getElem?_eq_some_iff.1 hj).1; rw [encId_length] at this; exact this)).trans hj⟩
    have hall : ∃ f : Nat → Id32, ∀ i, i < len → ∀ j u, (encId (f i))[j]? = some u → W.cell? ((a.add (i * 32)).add j) = some u := by
      refine ⟨fun i => if hi : i < len then Classical.choose (each i hi) else default, fun i hi => ?_⟩
      simp only [hi, dif_pos]
      exact Classical.choose_spec (each i hi)
    obtain ⟨f, hf⟩ := hall
    refine ⟨_, (List.range len).map f, rfl, ⟨some a, cap, by simp, by simpa using hl, fun hne => ?_⟩, ?_⟩
    · have h0 : 0 < len := by
        cases len with
        | zero => simp at hne
        | succ n => omega
      have hspot : a.spot = none := by
        have h00 := hf 0 h0 0 _ (encId_get (f 0) 0 (by omega))
        simpa [Addr.add] using World.cell?_spot h00
      obtain ⟨b, off, spot⟩ := a
      simp only at hspot
      subst hspot
      refine ⟨b, off, rfl, fun j hj i u hu => ?_⟩
      have hj' : j < len := by simpa using hj
      have e1 : ((List.range len).map f)[j]! = f j := by
        rw [getElem!_pos _ j (by simpa using hj')]; simp
      rw [e1] at hu
      have := hf j hj' i u hu
      rwa [Addr.add_lit, Addr.add_lit] at this
    · simp
      omega

/-- A line of the reference: its 39 cells. -/
theorem open_rlinecells {cs : List Value} {d : DataW H} {ps : List MemPlace} (h : DataW.trod enc Tryz.prog W base sp held fuel 26 cs = some (d, ps)) (hw : ∀ n ∈ d.weights Tryz.prog 26, n ≤ reachBytes) :
    ∃ (s : ByteArray) (g : GLine) (ids : List Id32), cs = .string s :: lineList g ∧ IdsAt W g.refs ids ∧ ids.length * 32 ≤ reachBytes ∧ s.size ≤ reachBytes ∧ g.name.size ≤ reachBytes ∧ g.subject.size ≤ reachBytes := by
  have hu := Tryz.underlying26
  obtain ⟨xs, m, _, hx, hl, hn, hel⟩ := DataW.trod_struct hu h
  rw [cells_rline] at hl
  have hd : d = .agg (xs.map (·.1)) := (Prod.mk.inj hx).1
  obtain ⟨x0, x1, x2, x3, x4, x5, x6, x7, rfl⟩ : ∃ x0 x1 x2 x3 x4 x5 x6 x7, xs = [x0, x1, x2, x3, x4, x5, x6, x7] := by
    match xs, hn with
    | [x0, x1, x2, x3, x4, x5, x6, x7], _ => exact ⟨x0, x1, x2, x3, x4, x5, x6, x7, rfl⟩
  have h0 : DataW.trod enc Tryz.prog W base sp held m 9 ((cs.drop 0).take (Tryz.prog.cellsOf 9)) = some x0 := hel 0 _ rfl
  rw [cells_string] at h0
  have h1 : DataW.trod enc Tryz.prog W base sp held m 3 ((cs.drop 1).take (Tryz.prog.cellsOf 3)) = some x1 := hel 1 _ rfl
  rw [cells_int] at h1
  have h2 : DataW.trod enc Tryz.prog W base sp held m 23 ((cs.drop 2).take (Tryz.prog.cellsOf 23)) = some x2 := hel 2 _ rfl
  rw [cells_id] at h2
  have h3 : DataW.trod enc Tryz.prog W base sp held m 9 ((cs.drop 34).take (Tryz.prog.cellsOf 9)) = some x3 := hel 3 _ rfl
  rw [cells_string] at h3
  have h4 : DataW.trod enc Tryz.prog W base sp held m 3 ((cs.drop 35).take (Tryz.prog.cellsOf 3)) = some x4 := hel 4 _ rfl
  rw [cells_int] at h4
  have h5 : DataW.trod enc Tryz.prog W base sp held m 9 ((cs.drop 36).take (Tryz.prog.cellsOf 9)) = some x5 := hel 5 _ rfl
  rw [cells_string] at h5
  have h6 : DataW.trod enc Tryz.prog W base sp held m 24 ((cs.drop 37).take (Tryz.prog.cellsOf 24)) = some x6 := hel 6 _ rfl
  rw [cells_ids] at h6
  have h7 : DataW.trod enc Tryz.prog W base sp held m 3 ((cs.drop 38).take (Tryz.prog.cellsOf 3)) = some x7 := hel 7 _ rfl
  rw [cells_int] at h7
  clear hel hn
  have hwt : ∀ (j : Nat) (t : TypeId) (y : DataW H), ([9, 3, 23, 9, 3, 9, 24, 3] : List TypeId)[j]? = some t → ([x0, x1, x2, x3, x4, x5, x6, x7].map (·.1))[j]? = some y → ∀ n ∈ y.weights Tryz.prog t, n ≤ reachBytes := fun j t y ht hy n hn => by
    refine hw n ?_
    rw [hd]
    unfold DataW.weights
    rw [hu]
    exact DataW.weights_mem_each ht hy n hn
  obtain ⟨s, e0, f0, _⟩ := DataW.trod_string Tryz.underlying9 h0
  obtain ⟨n, e1, f1, _⟩ := DataW.trod_int Tryz.underlying3 h1
  obtain ⟨id, e2⟩ := open_idcells h2
  obtain ⟨nm, e3, f3, _⟩ := DataW.trod_string Tryz.underlying9 h3
  obtain ⟨dt, e4, f4, _⟩ := DataW.trod_int Tryz.underlying3 h4
  obtain ⟨sj, e5, f5, _⟩ := DataW.trod_string Tryz.underlying9 h5
  obtain ⟨v, ids, e6, hI, hil⟩ := open_ids (d := x6.1) (ps := x6.2) h6 (hwt 6 _ _ rfl rfl)
  obtain ⟨bt, e7, f7, _⟩ := DataW.trod_int Tryz.underlying3 h7
  have hstr : ∀ (z : ByteArray) (y : DataW H × List MemPlace), y = (.lit (.string z.data.toList), []) → (∀ k ∈ y.1.weights Tryz.prog 9, k ≤ reachBytes) → z.size ≤ reachBytes := fun z y hy hk => by
    refine hk _ ?_
    rw [hy]
    unfold DataW.weights
    exact List.mem_singleton.2 rfl
  refine ⟨s, ⟨n, id, nm, dt, sj, v, bt⟩, ids, ?_, hI, hil, hstr s x0 f0 (hwt 0 _ _ rfl rfl), hstr nm x3 f3 (hwt 3 _ _ rfl rfl), hstr sj x5 f5 (hwt 5 _ _ rfl rfl)⟩
  have cut : ∀ k a, cs.drop k = (cs.drop k).take a ++ cs.drop (k + a) := fun k a => by rw [← List.drop_drop, List.take_append_drop]
  have c0 := cut 0 1
  rw [e0, cut 1 1, e1, cut 2 32, e2, cut 34 1, e3, cut 35 1, e4, cut 36 1, e5, cut 37 1, e6, cut 38 1, e7, List.drop_eq_nil_of_le (by omega : cs.length ≤ 38 + 1), List.drop_zero] at c0
  rw [c0]
  simp [lineList]
end

end Go.Proofs.YtdjaphcelpchaaaGreatDoor

namespace Go.Proofs.YtdjaphcelpchaaaGreatDoor
open Go Go.RowKit Go.Proofs

attribute [local go_sem ↓] ex_load_id ex_store_id ex_load_line ex_store_line ex_alloc_line ex_build_line

attribute [local go_sem] ld_id st_id ld_line st_line guard_id okCells_drew rdCells_drew okCells_drewN rdCells_drewN rowOk_drew rowOk_cells okCells_cells rdCells_cells setRow_drew setRow_new setRow_past

/-- A line as plain data. -/
structure PLine where
  number : Int
  id : Id32
  name : ByteArray
  date : Int
  subject : ByteArray
  ids : List Id32
  bytes : Int
/-- A line in memory: its data, and the value of its references. -/
structure ML where
  p : PLine
  v : Value
def ML.g (m : ML) : GLine := ⟨m.p.number, m.p.id, m.p.name, m.p.date, m.p.subject, m.v, m.p.bytes⟩
instance : Inhabited ML := ⟨⟨⟨0, default, ⟨#[]⟩, 0, ⟨#[]⟩, [], 0⟩, .slice none 0 0⟩⟩
def flatLines (ms : List ML) : List Value := ms.flatMap fun m => lineList m.g

theorem flatLines_length (ms : List ML) : (flatLines ms).length = ms.length * 38 := by
  induction ms with
  | nil => rfl
  | cons m ms ih => simp [flatLines, lineList_length] at ih ⊢; omega
theorem flatLines_get : ∀ (ms : List ML) (j i : Nat) (hj : j < ms.length), i < 38 → (flatLines ms)[j * 38 + i]? = (lineList ms[j].g)[i]?
  | m :: ms, 0, i, _, hi => by
    show ((lineList m.g) ++ flatLines ms)[0 * 38 + i]? = _
    rw [Nat.zero_mul, Nat.zero_add, List.getElem?_append_left (by rw [lineList_length]; exact hi)]
    rfl
  | m :: ms, j + 1, i, hj, hi => by
    show ((lineList m.g) ++ flatLines ms)[(j + 1) * 38 + i]? = _
    rw [List.getElem?_append_right (by rw [lineList_length]; omega), lineList_length, show (j + 1) * 38 + i - 38 = j * 38 + i by omega]
    exact flatLines_get ms j i (by simpa using hj) hi

/-- A slice of lines in memory: nil, or the head of a block at or beyond B; each line's references a row of their own. -/
structure LinesAt (B : Nat) (w : World) (v : Value) (ms : List ML) : Prop where
  row : w.ownsRow B 34 38 v ms.length (flatLines ms)
  refs : ∀ m ∈ ms, IdsOwn B w m.v m.p.ids

/-- Where the row lies, if it is not nil. -/
theorem LinesAt.head {B : Nat} {w : World} {v : Value} {ms : List ML} (h : LinesAt B w v ms) : (v = .slice none 0 0 ∧ ms = []) ∨ ∃ g cap, v = .slice (some ⟨g, 0, none⟩) ms.length cap ∧ B ≤ g ∧ g < w.heap.size ∧ ms.length ≤ cap ∧ cap ≤ maxLen ∧
    ∀ j (hj : j < ms.length) i u, (lineList ms[j].g)[i]? = some u → w.cell? ⟨g, j * 38 + i, none⟩ = some u := by
  rcases h.row.2 with ⟨rfl, h0⟩ | ⟨g, cap, cur, rfl, hg, hcur, hle, hmx, hcs, htk⟩
  · exact .inl ⟨rfl, List.length_eq_zero_iff.1 h0⟩
  · refine .inr ⟨g, cap, rfl, hg, (Array.getElem?_eq_some_iff.1 hcur).1, hle, hmx, fun j hj i u hu => ?_⟩
    have hi : i < 38 := by have := (List.getElem?_eq_some_iff.1 hu).1; rwa [lineList_length] at this
    have := World.ownsRow.cells h.row (g := g) rfl (j * 38 + i) u (by rw [flatLines_get ms j i hj hi]; exact hu)
    rwa [Addr.add_lit, Nat.zero_add] at this
theorem lineAt_rd {w : World} {g off : Nat} {l : GLine} (h : ∀ i u, (lineList l)[i]? = some u → w.cell? ⟨g, off + i, none⟩ = some u) : okCells w ⟨g, off, none⟩ 38 = true ∧ rdCells w ⟨g, off, none⟩ 38 = lineCells l := by
  have := rd_of_cells (w := w) (a := ⟨g, off, none⟩) (cs := lineList l) (fun j v hj => by rw [Addr.add_lit]; exact h j v hj)
  rw [lineList_length] at this
  exact this

set_option maxHeartbeats 1000000 in
theorem isNaN_int (a : Int) (w : World) : Calls Tryz.prog 132 #[.int .i64 a] w fun r w' => r = .returned (.bool false) ∧ w = w' := by
  have h : ((a : Int) != a) = false := by simp
  go_enter Tryz.func132, Tryz.ntmps132
  go_wp2
  go_ret
  exact ⟨rfl, rfl⟩

/-- What cmp.Compare answers. -/
def cmpZ (a b : Int) : Int := if a < b then -1 else if b < a then 1 else 0
set_option maxHeartbeats 1000000 in
theorem cmpInt_any (a b : Int) (w : World) : Calls Tryz.prog 103 #[.int .i64 a, .int .i64 b] w fun r w' => r = .returned (.int .i64 (cmpZ a b)) ∧ w = w' := by
  unfold cmpZ
  by_cases h1 : a < b
  · rw [if_pos h1]
    go_enter Tryz.func103, Tryz.ntmps103
    go_wp2_with fail
    refine (isNaN_int a w).mono ?_
    rintro r w' ⟨rfl, rfl⟩
    go_wp2_with fail
    refine (isNaN_int b w).mono ?_
    rintro r w' ⟨rfl, rfl⟩
    go_wp2
    go_ret
    exact ⟨rfl, rfl⟩
  · rw [if_neg h1]
    by_cases h2 : b < a
    · rw [if_pos h2]
      go_enter Tryz.func103, Tryz.ntmps103
      go_wp2_with fail
      refine (isNaN_int a w).mono ?_
      rintro r w' ⟨rfl, rfl⟩
      go_wp2_with fail
      refine (isNaN_int b w).mono ?_
      rintro r w' ⟨rfl, rfl⟩
      go_wp2
      go_ret
      exact ⟨rfl, rfl⟩
    · rw [if_neg h2]
      go_enter Tryz.func103, Tryz.ntmps103
      go_wp2_with fail
      refine (isNaN_int a w).mono ?_
      rintro r w' ⟨rfl, rfl⟩
      go_wp2_with fail
      refine (isNaN_int b w).mono ?_
      rintro r w' ⟨rfl, rfl⟩
      go_wp2
      go_ret
      exact ⟨rfl, rfl⟩

set_option maxHeartbeats 1000000 in
theorem cmpLine_any (g : GLine) (n : Int) (w : World) : Calls Tryz.prog 102 #[.agg (lineCells g), .int .i64 n] w fun r w' => r = .returned (.int .i64 (cmpZ g.number n)) ∧ w.alloc (.cells (lineCells g) 34) = w' := by
  have hc : (w.alloc (.cells (lineCells g) 34)).cell? ⟨w.heap.size, 0, none⟩ = some (.int .i64 g.number) := (cells_new w _ _ 0).trans (lc0 g)
  go_enter Tryz.func102, Tryz.ntmps102
  go_wp2_with fail
  refine (cmpInt_any g.number n _).mono ?_
  rintro r w' ⟨rfl, rfl⟩
  go_wp2
  go_ret
  exact ⟨rfl, rfl⟩

/-- The numbers of lines; whether one of them has a number. -/
def nums (ms : List ML) : List Int := ms.map (·.p.number)
def hasNum (ms : List ML) (n : Int) : Bool := (nums ms).contains n
theorem nums_length (ms : List ML) : (nums ms).length = ms.length := by simp [nums]

/-- What a binary search keeps: below i all are smaller, from j on none is. -/
def Between (ns : List Int) (n : Int) (i j : Nat) : Prop := i ≤ j ∧ j ≤ ns.length ∧ (∀ k (h : k < ns.length), k < i → ns[k] < n) ∧ (∀ k (h : k < ns.length), j ≤ k → n ≤ ns[k])

theorem between_up {ns : List Int} {n : Int} {i j k : Nat} (hs : ns.Pairwise (· < ·)) (h : Between ns n i j) (hk : k < ns.length) (hik : i ≤ k) (hkj : k < j) (hc : ns[k] < n) : Between ns n (k + 1) j := by
  obtain ⟨h1, h2, h3, h4⟩ := h
  refine ⟨by omega, h2, fun m hm hmk => ?_, h4⟩
  by_cases e : m = k
  · subst e; exact hc
  · exact Int.lt_trans (List.pairwise_iff_getElem.1 hs m k hm hk (by omega)) hc
theorem between_down {ns : List Int} {n : Int} {i j k : Nat} (hs : ns.Pairwise (· < ·)) (h : Between ns n i j) (hk : k < ns.length) (hik : i ≤ k) (hkj : k < j) (hc : ¬ ns[k] < n) : Between ns n i k := by
  obtain ⟨h1, h2, h3, h4⟩ := h
  refine ⟨hik, by omega, h3, fun m hm hmk => ?_⟩
  by_cases e : m = k
  · subst e; omega
  · have := List.pairwise_iff_getElem.1 hs k m hk hm (by omega)
    omega
theorem cmpZ_zero {a b : Int} : (cmpZ a b == 0) = decide (a = b) := by
  unfold cmpZ
  split
  · have : a ≠ b := by omega
    simp [this]
  · split
    · have : a ≠ b := by omega
      simp [this]
    · have : a = b := by omega
      simp [this]
theorem between_has {ns : List Int} {n : Int} {i : Nat} (hs : ns.Pairwise (· < ·)) (h : Between ns n i i) : ns.contains n = if h : i < ns.length then (cmpZ ns[i] n == 0) else false := by
  obtain ⟨h1, h2, h3, h4⟩ := h
  rw [Bool.eq_iff_iff, List.contains_iff_mem]
  constructor
  · intro hm
    obtain ⟨k, hk, rfl⟩ := List.mem_iff_getElem.1 hm
    have hki : ¬ k < i := fun hx => by have := h3 k hk hx; omega
    have hi : i < ns.length := by omega
    rw [dif_pos hi, cmpZ_zero]
    have h5 := h4 i hi (Nat.le_refl _)
    by_cases e : k = i
    · subst e; simp
    · have := List.pairwise_iff_getElem.1 hs i k hi hk (by omega)
      omega
  · intro hx
    split at hx
    · rename_i hi
      rw [cmpZ_zero, decide_eq_true_eq] at hx
      rw [← hx]
      exact List.getElem_mem hi
    · cases hx

set_option maxRecDepth 100000 in
set_option maxHeartbeats 2000000 in
theorem bsearch_any (B : Nat) (v : Value) (ms : List ML) (n : Int) (w : World) (h : LinesAt B w v ms) (hn : ms.length ≤ 65536) (hs : (nums ms).Pairwise (· < ·)) :
    Calls Tryz.prog 101 #[v, .int .i64 n, .func (.func 102) #[] #[]] w fun r w' => ∃ i : Nat, Between (nums ms) n i i ∧ r = .returned (.tuple #[.int .i64 i, .bool (hasNum ms n)]) ∧ Below w.heap.size w w' := by
  rcases h.head with ⟨rfl, rfl⟩ | ⟨g, cap, rfl, hBg, hgl, hle, hmx, hcell⟩
  · go_enter Tryz.func101, Tryz.ntmps101
    go_wp2
    go_loop [9, 10] (fun a b => a = .int .i64 0 ∧ b = .int .i64 0) (fun _ _ => 0)
    case atStart => exact ⟨rfl, rfl⟩
    case round =>
      obtain ⟨rfl, rfl⟩ := hrel
      go_wp2
      go_ret2
      exact ⟨0, ⟨Nat.le_refl _, Nat.zero_le _, fun k h => absurd h (by simp [nums]), fun k h => absurd h (by simp [nums])⟩, rfl, Below.refl _ _⟩
  · have HC := Lib.hid hcell
    have HS := Lib.hid hs
    clear hcell hs h
    go_enter Tryz.func101, Tryz.ntmps101
    go_wp2
    go_loopw [9, 10, 11] (fun a b _ wr => ∃ i j : Nat, a = .int .i64 i ∧ b = .int .i64 j ∧ Hid (Between (nums ms) n i j) ∧ Below w.heap.size w wr) (fun a b _ _ => (intOf b).toNat - (intOf a).toNat)
    case atStart => exact ⟨0, ms.length, rfl, rfl, Lib.hid ⟨Nat.zero_le _, by rw [nums_length]; exact Nat.le_refl _, fun k h h' => absurd h' (Nat.not_lt_zero _), fun k h h' => absurd h (by rw [nums_length]; omega)⟩, Below.refl _ _⟩
    case round =>
      obtain ⟨i, j, rfl, rfl, HB, hb⟩ := hrel
      obtain ⟨hij, hj, _, _⟩ := HB.out
      rw [nums_length] at hj
      by_cases hlt : i < j
      · have hltz : (i : Int) < (j : Int) := by omega
        have hm : (i + j) / 2 < ms.length := by omega
        obtain ⟨o1, d1⟩ := lineAt_rd (w := wr) (g := g) (off := (i + j) / 2 * 38) (l := ms[(i + j) / 2].g) (fun k u hk => (hb.cell (p := ⟨g, (i + j) / 2 * 38 + k, none⟩) hgl).trans (HC.out _ hm k u hk))
        have hcall := cmpLine_any ms[(i + j) / 2].g n wr
        have hnum : ms[(i + j) / 2].g.number = (nums ms)[(i + j) / 2]'(by rw [nums_length]; exact hm) := by simp [ML.g, nums]
        have hb' : Below w.heap.size w (wr.alloc (.cells (lineCells ms[(i + j) / 2].g) 34)) := hb.alloc hb.size _
        have HBB := Lib.hid hb'
        clear hb hb'
        rw [hnum] at hcall
        clear hnum
        generalize ms[(i + j) / 2].g = l at hcall o1 d1 HBB
        have HX := Lib.hid hcall
        clear hcall
        by_cases hc : (nums ms)[(i + j) / 2]'(by rw [nums_length]; exact hm) < n
        · have HX2 : Hid (Between (nums ms) n ((i + j) / 2 + 1) j) := Lib.hid (between_up HS.out HB.out (by rw [nums_length]; exact hm) (by omega) (by omega) hc)
          have hcz : cmpZ ((nums ms)[(i + j) / 2]'(by rw [nums_length]; exact hm)) n = -1 := by unfold cmpZ; rw [if_pos hc]
          rw [hcz] at HX
          clear hcz hc
          go_wp2_with fail
          refine HX.out.mono ?_
          rintro r w' ⟨rfl, rfl⟩
          go_wp2
          go_roundw
          case rel => exact ⟨(i + j) / 2 + 1, j, by have : (((i + j) / 2 + 1 : Nat) : Int) = ((i : Int) + j) / 2 + 1 := (by omega); rw [this], rfl, HX2, HBB.out⟩
          case measure => simp [intOf]; omega
        · have HX2 : Hid (Between (nums ms) n i ((i + j) / 2)) := Lib.hid (between_down HS.out HB.out (by rw [nums_length]; exact hm) (by omega) (by omega) hc)
          obtain ⟨z, hz, hz0⟩ : ∃ z, z = cmpZ ((nums ms)[(i + j) / 2]'(by rw [nums_length]; exact hm)) n ∧ 0 ≤ z := ⟨_, rfl, by unfold cmpZ; rw [if_neg hc]; split <;> omega⟩
          rw [← hz] at HX
          clear hz hc
          go_wp2_with fail
          refine HX.out.mono ?_
          rintro r w' ⟨rfl, rfl⟩
          have hz0' : ¬ z < 0 := by omega
          go_wp2
          go_roundw
          case rel => exact ⟨i, (i + j) / 2, rfl, by have : (((i + j) / 2 : Nat) : Int) = ((i : Int) + j) / 2 := (by omega); rw [this], HX2, HBB.out⟩
          case measure => simp [intOf]; omega
      · obtain rfl : j = i := by omega
        have hdec : Hid (hasNum ms n = _) := Lib.hid (between_has HS.out HB.out)
        by_cases hin : j < ms.length
        · have hinz : (j : Int) < (ms.length : Int) := by omega
          obtain ⟨o1, d1⟩ := lineAt_rd (w := wr) (g := g) (off := j * 38) (l := ms[j].g) (fun k u hk => (hb.cell (p := ⟨g, j * 38 + k, none⟩) hgl).trans (HC.out _ hin k u hk))
          have hcall := cmpLine_any ms[j].g n wr
          have hnum : ms[j].g.number = (nums ms)[j]'(by rw [nums_length]; exact hin) := by simp [ML.g, nums]
          have hb' : Below w.heap.size w (wr.alloc (.cells (lineCells ms[j].g) 34)) := hb.alloc hb.size _
          have HBB := Lib.hid hb'
          have hres : hasNum ms n = (cmpZ ((nums ms)[j]'(by rw [nums_length]; exact hin)) n == 0) := by
            rw [hdec.out, dif_pos (by rw [nums_length]; exact hin)]
          clear hb hb' hdec
          rw [hnum] at hcall
          clear hnum
          have HR := Lib.hid hres
          clear hres
          generalize ms[j].g = l at hcall o1 d1 HBB
          generalize cmpZ ((nums ms)[j]'(by rw [nums_length]; exact hin)) n = z at hcall HR
          have HX := Lib.hid hcall
          clear hcall
          go_wp2_with fail
          refine HX.out.mono ?_
          rintro r w' ⟨rfl, rfl⟩
          go_wp2
          go_ret2
          exact ⟨j, HB.out, by rw [HR.out]; first | rfl | simp, HBB.out⟩
        · have hinz : decide ((j : Int) < (ms.length : Int)) = false := by simp; omega
          have HR : Hid (hasNum ms n = false) := Lib.hid (by rw [hdec.out, dif_neg (by rw [nums_length]; exact hin)])
          clear hdec
          go_wp2
          go_ret2
          exact ⟨j, HB.out, by rw [HR.out]; first | rfl | simp, hb⟩


set_option maxHeartbeats 1000000 in
theorem search_any (B : Nat) (v : Value) (ms : List ML) (n : Int) (w : World) (h : LinesAt B w v ms) (hn : ms.length ≤ 65536) (hs : (nums ms).Pairwise (· < ·)) :
    Calls Tryz.prog 69 #[v, .int .i64 n] w fun r w' => ∃ i : Nat, Between (nums ms) n i i ∧ r = .returned (.tuple #[.int .i64 i, .bool (hasNum ms n)]) ∧ Below w.heap.size w w' := by
  have HX := Lib.hid (bsearch_any B v ms n w h hn hs)
  clear h hs
  go_enter Tryz.func69, Tryz.ntmps69
  go_wp2_with fail
  refine HX.out.mono ?_
  rintro r w' ⟨i, hi, rfl, hb⟩
  have HI := Lib.hid hi
  clear hi HX
  go_wp2
  go_ret2
  exact ⟨i, HI.out, rfl, hb⟩

end Go.Proofs.YtdjaphcelpchaaaGreatDoor

namespace Go.Proofs.YtdjaphcelpchaaaGreatDoor
open Go Go.RowKit Go.Proofs

/-- An entry of a map: key, value, birth. -/
structure KE (K : Type) where
  k : K
  v : Value
  b : Nat
def enE {K : Type} (ek : K → Value) (e : KE K) : MapEntry := { key := ek e.k, val := e.v, born := e.b }
def findK {K : Type} [DecidableEq K] (k : K) : List (KE K) → Nat → Option (Nat × Value)
  | [], _ => none
  | e :: es, i => if k = e.k then some (i, e.v) else findK k es (i + 1)

/-- A map's object. -/
def MapAt {K : Type} (ek : K → Value) (w : World) (M : Nat) (l : List (KE K)) (c : Nat) : Prop := w.heap[M]? = some (.map (l.map (enE ek)).toArray c)
theorem MapAt.lt {K : Type} {ek : K → Value} {w : World} {M : Nat} {l : List (KE K)} {c : Nat} (h : MapAt ek w M l c) : M < w.heap.size := (Array.getElem?_eq_some_iff.1 h).1

/-- What is asked of a key type. -/
structure KeyOk {K : Type} [DecidableEq K] (kt : TypeId) (ek : K → Value) : Prop where
  check : ∀ (e : Bool) (k : K) (w : World), (Instr.checkKey e 10000 kt (ek k)).run Tryz.prog w = .ok () w
  find : ∀ (k : K) (l : List (KE K)) (w : World), (Instr.findKey kt (ek k) (l.map (enE ek))).run Tryz.prog w = .ok (findK k l 0) w
  bits : ∀ k : K, Instr.sameBits 10000 (ek k) (ek k) = true

abbrev ekS (s : ByteArray) : Value := .string s
abbrev ekI (x : Id32) : Value := .agg (encId x).toArray

theorem findNow_str (k : ByteArray) : ∀ (l : List (KE ByteArray)) (i : Nat), Instr.findNow .string (.string k) (l.map (enE ekS)) i = some (findK k l i)
  | [], i => rfl
  | e :: l, i => by
    rw [List.map_cons]
    unfold Instr.findNow findK
    simp only [enE, Instr.sameNow]
    by_cases h : k = e.k
    · rw [(MapKept.bytes_beq k e.k).2 h, if_pos h]
    · have hf : (k == e.k) = false := by
        cases hx : (k == e.k) with
        | false => rfl
        | true => exact absurd ((MapKept.bytes_beq k e.k).1 hx) h
      rw [hf, if_neg h]
      exact findNow_str k l (i + 1)

theorem keyS : KeyOk 9 ekS where
  check e k w := MapKept.run_checkKey (k := .string k) Tryz.underlying9 (by simp [MapKept.IsKey]) e 9999
  find k l w := by
    unfold Instr.findKey
    rw [Sem.run_bind, run_underlying Tryz.underlying9]
    simp only [Result.andThen_ok, findNow_str]
    rfl
  bits k := by
    unfold Instr.sameBits
    exact (MapKept.bytes_beq k k).2 rfl

theorem eq_id (x y : Id32) (w : World) : (Op.equal 23 (ekI x) (ekI y)).run Tryz.prog w = .ok (decide (x = y)) w := eqIn_id x y w
theorem findAsking_id (k : Id32) (w : World) : ∀ (l : List (KE Id32)) (i : Nat), (Instr.findAsking 23 (ekI k) (l.map (enE ekI)) i).run Tryz.prog w = .ok (findK k l i) w
  | [], i => rfl
  | e :: l, i => by
    rw [List.map_cons]
    unfold Instr.findAsking findK
    rw [Sem.run_bind]
    have : (enE ekI e).key = ekI e.k := rfl
    rw [this, eq_id]
    simp only [Result.andThen_ok]
    by_cases h : k = e.k
    · rw [decide_eq_true h, if_pos h]; rfl
    · rw [decide_eq_false h, if_neg h]
      exact findAsking_id k w l (i + 1)
theorem check_byte (e : Bool) (v : Value) (w : World) : (Instr.checkKey e 9999 5 v).run Tryz.prog w = .ok () w := by
  unfold Instr.checkKey
  rw [Sem.run_bind, run_underlying Tryz.underlying5]
  rfl
theorem same_zip : ∀ (l : List UInt8), ((l.map fun b => Value.int .u8 b.toNat).zip (l.map fun b => Value.int .u8 b.toNat)).all (fun (x, y) => Instr.sameBits 9999 x y) = true
  | [] => rfl
  | b :: l => by
    simp only [List.map_cons, List.zip_cons_cons, List.all_cons, same_zip l, Bool.and_true]
    unfold Instr.sameBits
    simp
theorem keyI : KeyOk 23 ekI where
  check e k w := by
    unfold Instr.checkKey
    rw [Sem.run_bind, run_underlying Tryz.underlying23]
    simp only [Result.andThen_ok]
    simp only [Std.Legacy.Range.forIn_eq_forIn_range', Std.Legacy.Range.size, Nat.sub_zero, Nat.add_one_sub_one, Nat.div_one]
    have each : ∀ j ∈ List.range' 0 32, j < 32 := fun j hj => by
      have := List.mem_range'_1.1 hj
      omega
    generalize List.range' 0 32 = is at each ⊢
    induction is with
    | nil => rfl
    | cons j is ih =>
      have hj := each j (by simp)
      have hp : (part 5 (encId k).toArray j).run Tryz.prog w = .ok (.int .u8 (k.1[j]'(by rw [k.2]; exact hj)).toNat) w := by
        unfold part
        rw [Sem.run_bind, Tryz.isAgg5]
        simp only [Result.andThen_ok]
        rw [List.getElem?_toArray, encId_get k j hj]
        rfl
      have hs := Tryz.sizeOf5 w
      simp only [List.forIn_cons, Sem.run_bind, hs, Nat.mul_one, hp, check_byte, Result.andThen_ok, Sem.run_pure]
      have := ih (fun y hy => each y (by simp [hy]))
      simp only [Sem.run_bind] at this
      exact this
  find k l w := by
    unfold Instr.findKey
    rw [Sem.run_bind, run_underlying Tryz.underlying23]
    simp only [Result.andThen_ok]
    cases l with
    | nil => rfl
    | cons e l =>
      have : Instr.findNow (.array 32 5) (ekI k) ((e :: l).map (enE ekI)) 0 = none := rfl
      rw [this]
      exact findAsking_id k w (e :: l) 0
  bits k := by
    unfold Instr.sameBits
    simp only [beq_self_eq_true, Bool.true_and]
    exact same_zip k.1


theorem map_eraseIdx {α β : Type} (f : α → β) : ∀ (l : List α) (i : Nat), (l.map f).eraseIdx i = (l.eraseIdx i).map f
  | [], _ => rfl
  | _ :: _, 0 => rfl
  | a :: l, i + 1 => by simp only [List.map_cons, List.eraseIdx_cons_succ, map_eraseIdx f l i]

section
variable {K : Type} [DecidableEq K] {ek : K → Value} {kt : TypeId} {mt et : TypeId}

omit [DecidableEq K] in
theorem getObj_map {w : World} {M : Nat} {l : List (KE K)} {c : Nat} (h : MapAt ek w M l c) : (getObj M).run Tryz.prog w = .ok (.map (l.map (enE ek)).toArray c) w := MapKept.run_getObj_map h

/-- m[k] and 'v, ok := m[k]'. -/
theorem look_any (hk : KeyOk kt ek) (hm : Tryz.prog.underlying mt = some (.map kt et)) (z : Value) (hz : ∀ w, (zeroValue et).run Tryz.prog w = .ok z w) (w : World) (M : Nat) (l : List (KE K)) (c : Nat) (h : MapAt ek w M l c) (k : K) :
    (Instr.lookup mt (.map (some M)) (ek k) false).run Tryz.prog w = .ok (((findK k l 0).map (·.2)).getD z) w := by
  unfold Instr.lookup
  rw [Sem.run_bind, run_underlying hm]
  simp only [Result.andThen_ok, Sem.run_bind, getObj_map h, hk.check, hk.find, Sem.run_pure]
  cases findK k l 0 with
  | none => simp only [Sem.run_bind, hz, Result.andThen_ok, Sem.run_pure]; rfl
  | some x => rfl
theorem look_ok (hk : KeyOk kt ek) (hm : Tryz.prog.underlying mt = some (.map kt et)) (z : Value) (hz : ∀ w, (zeroValue et).run Tryz.prog w = .ok z w) (w : World) (M : Nat) (l : List (KE K)) (c : Nat) (h : MapAt ek w M l c) (k : K) :
    (Instr.lookup mt (.map (some M)) (ek k) true).run Tryz.prog w = .ok (.tuple #[((findK k l 0).map (·.2)).getD z, .bool (findK k l 0).isSome]) w := by
  unfold Instr.lookup
  rw [Sem.run_bind, run_underlying hm]
  simp only [Result.andThen_ok, Sem.run_bind, getObj_map h, hk.check, hk.find, Sem.run_pure]
  cases findK k l 0 with
  | none => simp only [Sem.run_bind, hz, Result.andThen_ok, Sem.run_pure]; rfl
  | some x => rfl

/-- m[k] = v where k is new. -/
theorem put_new (hk : KeyOk kt ek) (hm : Tryz.prog.underlying mt = some (.map kt et)) (w : World) (M : Nat) (l : List (KE K)) (c : Nat) (h : MapAt ek w M l c) (k : K) (v : Value) (hn : findK k l 0 = none) :
    (Instr.mapUpdate mt (.map (some M)) (ek k) v).run Tryz.prog w = .ok () (w.putObj M (.map ((l ++ [(⟨k, v, c⟩ : KE K)]).map (enE ek)).toArray (c + 1))) := by
  unfold Instr.mapUpdate
  rw [Sem.run_bind, run_underlying hm]
  simp only [Result.andThen_ok, Sem.run_bind, getObj_map h, hk.check, hk.find, hn]
  rw [MapKept.run_setObj_map _ h]
  simp [World.putObj, enE]

/-- delete(m, k). -/
theorem del_any (hk : KeyOk kt ek) (hm : Tryz.prog.underlying mt = some (.map kt et)) (ty : TypeId) (w : World) (M : Nat) (l : List (KE K)) (c : Nat) (h : MapAt ek w M l c) (k : K) (i : Nat) (v : Value) (hf : findK k l 0 = some (i, v)) (hi : i < l.length) :
    (Builtin.delete_ #[mt, kt] ty #[.map (some M), ek k]).run Tryz.prog w = .ok (.tuple #[]) (w.putObj M (.map ((l.eraseIdx i).map (enE ek)).toArray c)) := by
  unfold Builtin.delete_
  simp only [List.getElem?_toArray, List.getElem?_cons_zero, List.getElem?_cons_succ]
  rw [Sem.run_bind, run_underlying hm]
  simp only [Result.andThen_ok, Sem.run_bind, getObj_map h, hk.check, hk.find, hf]
  rw [MapKept.run_setObj_map _ h]
  have he : (l.map (enE ek)).eraseIdx i = (l.eraseIdx i).map (enE ek) := map_eraseIdx (enE ek) l i
  simp [World.putObj, Array.eraseIdxIfInBounds, hi, he]
end

theorem MapAt.put {K : Type} {ek : K → Value} {w : World} {M : Nat} {l l' : List (KE K)} {c c' : Nat} (h : MapAt ek w M l c) : MapAt ek (w.putObj M (.map (l'.map (enE ek)).toArray c')) M l' c' := World.putObj_heap_same h.lt

end Go.Proofs.YtdjaphcelpchaaaGreatDoor

namespace Go.Proofs.YtdjaphcelpchaaaGreatDoor
open Go Go.RowKit Go.Proofs

attribute [local go_sem ↓] ex_load_id ex_store_id ex_load_line ex_store_line ex_alloc_line ex_build_line

attribute [local go_sem] ld_id st_id ld_line st_line guard_id okCells_drew rdCells_drew okCells_drewN rdCells_drewN rowOk_drew rowOk_cells okCells_cells rdCells_cells setRow_drew setRow_new setRow_past

/-- A group in memory. -/
structure MG where
  name : ByteArray
  born : Nat
  gb : Nat
  nb : Nat
  v : Value
  ms : List ML
  nl : List (KE Id32)
  nc : Nat
/-- The error of a line as plain data. -/
def pErr (p : PLine) : Int := lineErr (ML.g ⟨p, .slice none 0 0⟩) p.ids
structure GrpAt (B : Nat) (w : World) (G : MG) : Prop where
  blk : w.heap[G.gb]? = some (.cells #[G.v, .map (some G.nb)] 115 (0, 0))
  lines : LinesAt B w G.v G.ms
  nums : MapAt ekI w G.nb G.nl G.nc
  agree : (G.nl.map fun e => (e.k, e.v)).Perm (G.ms.map fun m => (m.p.id, Value.int .i64 m.p.number))
  ids : (G.ms.map fun m => m.p.id).Nodup
  sorted : (Go.Proofs.YtdjaphcelpchaaaGreatDoor.nums G.ms).Pairwise (· < ·)
  good : ∀ m ∈ G.ms, pErr m.p = 0
  named : nameErr G.name = 0
  some' : G.ms ≠ []
  gbB : B ≤ G.gb
  nbB : B ≤ G.nb

def MG.e (G : MG) : KE ByteArray := ⟨G.name, .pointer (some ⟨G.gb, 0, none⟩), G.born⟩
def MG.foot (G : MG) : List Nat := [G.gb, G.nb] ++ G.v.ownBlock.toList
def total (gs : List MG) : Nat := (gs.map fun G => G.ms.length).sum
def foot (ib M : Nat) (gs : List MG) : List Nat := ib :: M :: gs.flatMap MG.foot

structure IdxAt (B : Nat) (w : World) (ib M : Nat) (gs : List MG) (mc : Nat) : Prop where
  blk : w.heap[ib]? = some (.cells #[.map (some M), .int .i64 (total gs)] 104 (0, 0))
  map : MapAt ekS w M (gs.map MG.e) mc
  names : (gs.map fun G => G.name).Nodup
  grps : ∀ G ∈ gs, GrpAt B w G
  apart : (foot ib M gs).Nodup
  born : (gs.map fun G => G.born).Nodup
  young : ∀ G ∈ gs, G.born < mc
  few : total gs ≤ 65536
  ibB : B ≤ ib
  MB : B ≤ M

/-- The group of a name. -/
def groupOf (gs : List MG) (s : ByteArray) : Option MG := gs.find? fun G => decide (G.name = s)
def valueOf (gs : List MG) (s : ByteArray) : Value := match groupOf gs s with | some G => G.v | none => .slice none 0 0
def linesIn (gs : List MG) (s : ByteArray) : List ML := match groupOf gs s with | some G => G.ms | none => []

theorem groupOf_mem {gs : List MG} {s : ByteArray} {G : MG} (h : groupOf gs s = some G) : G ∈ gs ∧ G.name = s := by
  unfold groupOf at h
  exact ⟨List.mem_of_find?_eq_some h, by simpa using List.find?_some h⟩
theorem find_groups (s : ByteArray) : ∀ (gs : List MG) (i : Nat), (findK s (gs.map MG.e) i).map (·.2) = (groupOf gs s).map fun G => Value.pointer (some ⟨G.gb, 0, none⟩)
  | [], i => rfl
  | G :: gs, i => by
    unfold groupOf
    rw [List.map_cons]
    unfold findK
    by_cases h : s = G.name
    · have : decide (G.name = s) = true := by simp [h]
      rw [List.find?_cons, this]
      simp [MG.e, h]
    · have : decide (G.name = s) = false := by simp [Ne.symm h]
      rw [List.find?_cons, this]
      have hne : ¬ s = G.e.k := h
      simp only [hne, if_false]
      exact find_groups s gs (i + 1)
theorem zero_ptr (w : World) : (zeroValue 112).run Tryz.prog w = .ok (.pointer none) w := by kernel_rfl
theorem zero_int (w : World) : (zeroValue 3).run Tryz.prog w = .ok (.int .i64 0) w := by kernel_rfl

theorem IdxAt.look {B : Nat} {w : World} {ib M mc : Nat} {gs : List MG} (h : IdxAt B w ib M gs mc) (s : ByteArray) :
    (Instr.lookup 102 (.map (some M)) (.string s) false).run Tryz.prog w = .ok (((groupOf gs s).map fun G => Value.pointer (some ⟨G.gb, 0, none⟩)).getD (.pointer none)) w := by
  have := look_any keyS Tryz.underlying102 (.pointer none) zero_ptr w M _ mc h.map s
  rw [find_groups] at this
  exact this
theorem IdxAt.cell0 {B : Nat} {w : World} {ib M mc : Nat} {gs : List MG} (h : IdxAt B w ib M gs mc) : w.cell? ⟨ib, 0, none⟩ = some (.map (some M)) := cell_of_row w ib 0 _ _ _ h.blk
theorem IdxAt.cell1 {B : Nat} {w : World} {ib M mc : Nat} {gs : List MG} (h : IdxAt B w ib M gs mc) : w.cell? ⟨ib, 1, none⟩ = some (.int .i64 (total gs)) := cell_of_row w ib 1 _ _ _ h.blk

/-- The lines of a name, as a slice in memory. -/
theorem IdxAt.lines {B : Nat} {w : World} {ib M mc : Nat} {gs : List MG} (h : IdxAt B w ib M gs mc) (s : ByteArray) : LinesAt B w (valueOf gs s) (linesIn gs s) := by
  unfold valueOf linesIn
  cases hg : groupOf gs s with
  | none => exact ⟨World.ownsRow_nil _ _ _ _, fun m hm => by cases hm⟩
  | some G => exact (h.grps G (groupOf_mem hg).1).lines
theorem length_le_total : ∀ {gs : List MG} {G : MG}, G ∈ gs → G.ms.length ≤ total gs
  | H :: gs, G, hG => by
    unfold total
    rw [List.map_cons, List.sum_cons]
    rcases List.mem_cons.1 hG with rfl | hG
    · omega
    · have := length_le_total hG
      unfold total at this
      omega
theorem IdxAt.len {B : Nat} {w : World} {ib M mc : Nat} {gs : List MG} (h : IdxAt B w ib M gs mc) (s : ByteArray) : (linesIn gs s).length ≤ 65536 := by
  unfold linesIn
  cases hg : groupOf gs s with
  | none => simp
  | some G => exact Nat.le_trans (length_le_total (groupOf_mem hg).1) h.few
theorem IdxAt.sorted {B : Nat} {w : World} {ib M mc : Nat} {gs : List MG} (h : IdxAt B w ib M gs mc) (s : ByteArray) : (nums (linesIn gs s)).Pairwise (· < ·) := by
  unfold linesIn
  cases hg : groupOf gs s with
  | none => exact .nil
  | some G => exact (h.grps G (groupOf_mem hg).1).sorted

set_option maxHeartbeats 1000000 in
theorem linesOf_any (B ib M mc : Nat) (gs : List MG) (s : ByteArray) (w : World) (h : IdxAt B w ib M gs mc) :
    Calls Tryz.prog 68 #[.pointer (some ⟨ib, 0, none⟩), .string s] w fun r w' => r = .returned (valueOf gs s) ∧ w = w' := by
  have hc := h.cell0
  have hl := h.look s
  unfold valueOf
  cases hg : groupOf gs s with
  | none =>
    rw [hg] at hl
    clear h hg
    go_enter Tryz.func68, Tryz.ntmps68
    go_wp2
    go_ret
    exact ⟨rfl, rfl⟩
  | some G =>
    rw [hg] at hl
    have hgc : w.cell? ⟨G.gb, 0, none⟩ = some G.v := cell_of_row w G.gb 0 _ _ _ (h.grps G (groupOf_mem hg).1).blk
    have hv : ∃ a n c, G.v = .slice a n c := by
      rcases (h.grps G (groupOf_mem hg).1).lines.head with ⟨e, _⟩ | ⟨g, cap, e, _⟩
      · exact ⟨_, _, _, e⟩
      · exact ⟨_, _, _, e⟩
    obtain ⟨a, n, c, hv⟩ := hv
    simp only
    rw [hv] at hgc ⊢
    clear h hg hv
    go_enter Tryz.func68, Tryz.ntmps68
    go_wp2
    go_ret
    exact ⟨rfl, rfl⟩

theorem valueOf_slice {B : Nat} {w : World} {ib M mc : Nat} {gs : List MG} (h : IdxAt B w ib M gs mc) (s : ByteArray) : ∃ a c, valueOf gs s = .slice a (linesIn gs s).length c := by
  rcases (h.lines s).head with ⟨e, e2⟩ | ⟨g, cap, e, _⟩
  · exact ⟨none, 0, by rw [e, e2]; rfl⟩
  · exact ⟨_, _, e⟩

set_option maxHeartbeats 1000000 in
theorem len_any (B ib M mc : Nat) (gs : List MG) (s : ByteArray) (w : World) (h : IdxAt B w ib M gs mc) :
    Calls Tryz.prog 48 #[.pointer (some ⟨ib, 0, none⟩), .string s] w fun r w' => r = .returned (.int .i64 (linesIn gs s).length) ∧ w = w' := by
  have HL := Lib.hid (linesOf_any B ib M mc gs s w h)
  obtain ⟨a, c, hv⟩ := valueOf_slice h s
  have hn := h.len s
  rw [hv] at HL
  clear h hv
  generalize (linesIn gs s).length = n at HL hn ⊢
  go_enter Tryz.func48, Tryz.ntmps48
  go_wp2_with fail
  refine HL.out.mono ?_
  rintro r w' ⟨rfl, rfl⟩
  go_wp2
  go_ret
  exact ⟨rfl, rfl⟩

end Go.Proofs.YtdjaphcelpchaaaGreatDoor
