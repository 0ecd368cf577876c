/- Lines as composite literals; 'append' of nothing. -/
import Derived.Test.YtdjaphcelpchaaaGreatDoorRParse
namespace Go.Proofs.YtdjaphcelpchaaaGreatDoor
open Go Go.RowKit Go.Proofs

theorem fill_cons {place : Nat → Option (Nat × Nat)} {cells : Array Value} {i off size : Nat} {v : Value} {rest : List (Nat × Value)} (hp : place i = some (off, size)) (hs : v.cells.size = size) (hf : off + size ≤ cells.size) :
    Instr.fill place cells ((i, v) :: rest) = Instr.fill place (v.cells.zipIdx.foldl (fun cs (c, j) => cs.setIfInBounds (off + j) c) cells) rest := by
  rw [Instr.fill, hp]
  simp only [hs]
  rw [if_neg]
  simp; omega
theorem fill_one_cell {place : Nat → Option (Nat × Nat)} {cells cells' : Array Value} {i off : Nat} {v : Value} {rest : List (Nat × Value)} (hp : place i = some (off, 1)) (hs : v.cells = #[v]) (hf : off + 1 ≤ cells.size) (e : cells.setIfInBounds off v = cells') :
    Instr.fill place cells ((i, v) :: rest) = Instr.fill place cells' rest := by
  rw [fill_cons hp (by rw [hs]; rfl) hf, hs, ← e]
  rfl
theorem put_id (g : GLine) (x : Id32) : (encId x).toArray.zipIdx.foldl (fun cs (c, j) => cs.setIfInBounds (1 + j) c) (lineCells g) = lineCells { g with id := x } := by
  have h := put_list (encId x) 0 1 [.int .i64 g.number] (encId g.id) [.string g.name, .int .i64 g.date, .string g.subject, g.refs, .int .i64 g.bytes] rfl (by rw [encId_length, encId_length])
  rw [← Array.foldl_toList, Array.toList_zipIdx]
  exact h
theorem put_rid (s : ByteArray) (g : GLine) (x : Id32) : (encId x).toArray.zipIdx.foldl (fun cs (c, j) => cs.setIfInBounds (2 + j) c) (rlineCells s g) = rlineCells s { g with id := x } := by
  have h := put_list (encId x) 0 2 [.string s, .int .i64 g.number] (encId g.id) [.string g.name, .int .i64 g.date, .string g.subject, g.refs, .int .i64 g.bytes] rfl (by rw [encId_length, encId_length])
  rw [← Array.foldl_toList, Array.toList_zipIdx]
  exact h
def places34 (i : Nat) : Option (Nat × Nat) := #[(0, 1), (1, 32), (33, 1), (34, 1), (35, 1), (36, 1), (37, 1)][i]?
def places26 (i : Nat) : Option (Nat × Nat) := #[(0, 1), (1, 1), (2, 32), (34, 1), (35, 1), (36, 1), (37, 1), (38, 1)][i]?
theorem built34 (parts : List (Nat × Value)) : Tryz.prog.built 34 parts = Instr.fill places34 (lineCells zeroLine) parts := by kernel_rfl
theorem built26 (parts : List (Nat × Value)) : Tryz.prog.built 26 parts = Instr.fill places26 (rlineCells ⟨#[]⟩ zeroLine) parts := by kernel_rfl
theorem built_line (g : GLine) (hr : g.refs.cells = #[g.refs]) :
    Tryz.prog.built 34 [(0, .int .i64 g.number), (1, .agg (encId g.id).toArray), (2, .string g.name), (3, .int .i64 g.date), (4, .string g.subject), (5, g.refs), (6, .int .i64 g.bytes)] = some (lineCells g) := by
  rw [built34]
  rw [fill_one_cell (off := 0) rfl rfl (by rw [lineCells_size]; omega) (set_number _ _)]
  rw [fill_cons (off := 1) (size := 32) (v := .agg (encId g.id).toArray) rfl (encId_size _) (by rw [lineCells_size]; omega)]
  show Instr.fill _ ((encId g.id).toArray.zipIdx.foldl (fun cs (c, j) => cs.setIfInBounds (1 + j) c) _) _ = _
  rw [put_id]
  rw [fill_one_cell (off := 33) rfl rfl (by rw [lineCells_size]; omega) (set_name _ _)]
  rw [fill_one_cell (off := 34) rfl rfl (by rw [lineCells_size]; omega) (set_date _ _)]
  rw [fill_one_cell (off := 35) rfl rfl (by rw [lineCells_size]; omega) (set_subject _ _)]
  rw [fill_one_cell (off := 36) rfl hr (by rw [lineCells_size]; omega) (set_refs _ _)]
  rw [fill_one_cell (off := 37) rfl rfl (by rw [lineCells_size]; omega) (set_bytes _ _)]
  rfl
theorem set_rname (s s' : ByteArray) (g : GLine) : (rlineCells s g).setIfInBounds 0 (.string s') = rlineCells s' g := by simp [rlineCells]
theorem built_rline (s : ByteArray) (g : GLine) (hr : g.refs.cells = #[g.refs]) :
    Tryz.prog.built 26 [(0, .string s), (1, .int .i64 g.number), (2, .agg (encId g.id).toArray), (3, .string g.name), (4, .int .i64 g.date), (5, .string g.subject), (6, g.refs), (7, .int .i64 g.bytes)] = some (rlineCells s g) := by
  rw [built26]
  rw [fill_one_cell (off := 0) rfl rfl (by rw [rlineCells_size]; omega) (set_rname _ _ _)]
  rw [fill_one_cell (off := 1) rfl rfl (by rw [rlineCells_size]; omega) (rset_succ _ _ _ 0 _ (set_number _ _))]
  rw [fill_cons (off := 2) (size := 32) (v := .agg (encId g.id).toArray) rfl (encId_size _) (by rw [rlineCells_size]; omega)]
  show Instr.fill _ ((encId g.id).toArray.zipIdx.foldl (fun cs (c, j) => cs.setIfInBounds (2 + j) c) _) _ = _
  rw [put_rid]
  rw [fill_one_cell (off := 34) rfl rfl (by rw [rlineCells_size]; omega) (rset_succ _ _ _ 33 _ (set_name _ _))]
  rw [fill_one_cell (off := 35) rfl rfl (by rw [rlineCells_size]; omega) (rset_succ _ _ _ 34 _ (set_date _ _))]
  rw [fill_one_cell (off := 36) rfl rfl (by rw [rlineCells_size]; omega) (rset_succ _ _ _ 35 _ (set_subject _ _))]
  rw [fill_one_cell (off := 37) rfl hr (by rw [rlineCells_size]; omega) (rset_succ _ _ _ 36 _ (set_refs _ _))]
  rw [fill_one_cell (off := 38) rfl rfl (by rw [rlineCells_size]; omega) (rset_succ _ _ _ 37 _ (set_bytes _ _))]
  rfl

def blRes (P : Program) (t : Nat) (w : World) (parts : Array (Nat × Value)) : Result Next := Sem.run P (do pure (Next.value (← Instr.build t parts))) w
theorem blRes_of {P : Program} {t : Nat} {w : World} {parts : Array (Nat × Value)} {cells : Array Value} (h : P.built t parts.toList = some cells) : blRes P t w parts = .ok (.value (.agg cells)) w := by
  unfold blRes
  rw [Sem.run_bind, run_build w t parts cells h]; rfl
theorem ex_build_line7 (ρ : Operand → Value) (d : Option Tmp) (x0 x1 x2 x3 x4 x5 x6 : Operand) (ty : TypeId) (pos : String) (af : Array Edge) (gd : Option (Nat × Bool)) (w : World) :
    Sem.run Tryz.prog (execOp ρ ⟨d, .build 34 #[(0, x0), (1, x1), (2, x2), (3, x3), (4, x4), (5, x5), (6, x6)], ty, pos, af, gd⟩) w = blRes Tryz.prog 34 w #[(0, ρ x0), (1, ρ x1), (2, ρ x2), (3, ρ x3), (4, ρ x4), (5, ρ x5), (6, ρ x6)] := by kernel_rfl
theorem ex_build_rline8 (ρ : Operand → Value) (d : Option Tmp) (x0 x1 x2 x3 x4 x5 x6 x7 : Operand) (ty : TypeId) (pos : String) (af : Array Edge) (gd : Option (Nat × Bool)) (w : World) :
    Sem.run Tryz.prog (execOp ρ ⟨d, .build 26 #[(0, x0), (1, x1), (2, x2), (3, x3), (4, x4), (5, x5), (6, x6), (7, x7)], ty, pos, af, gd⟩) w = blRes Tryz.prog 26 w #[(0, ρ x0), (1, ρ x1), (2, ρ x2), (3, ρ x3), (4, ρ x4), (5, ρ x5), (6, ρ x6), (7, ρ x7)] := by kernel_rfl

/-- append(s, x...) of an x without elements onto a slice that has no room and no element: s itself. -/
theorem wpList_append_zero {ops : Array Oper} {rest : List Oper} {o : Oper} {a : Act} {w : World} {Q : Exit → Act → World → Prop} (hgd : o.guard = none) (s x : Operand)
    (ho : o.op = .call { callee := .builtin .append, args := #[s, x], argTypes := #[24, 24] }) (g c : Nat) (ad : Option Addr) (hs : a.eval s = .slice (some ⟨g, 0, none⟩) 0 0) (hx : a.eval x = .slice ad 0 c)
    (h : wpList Tryz.prog ops Q rest (a.put o.dst (.slice (some ⟨g, 0, none⟩) 0 0)) w) : wpList Tryz.prog ops Q (o :: rest) a w := by
  refine wpList_plain hgd fun K hK => ?_
  have hr : (Builtin.append_ #[24, 24] o.type #[.slice (some ⟨g, 0, none⟩) 0 0, .slice ad 0 c]).run Tryz.prog w = .ok (.slice (some ⟨g, 0, none⟩) 0 0) w := by
    cases ad with
    | none => kernel_rfl
    | some b => kernel_rfl
  unfold Oper.wp execOp
  simp only [ho, resolve, invoke, builtin, Sem.run_bind, Sem.run_pure, Result.andThen_ok, List.map_toArray, List.map_cons, List.map_nil, hs, hx, hr]
  exact hK _ _ h

end Go.Proofs.YtdjaphcelpchaaaGreatDoor
