/- Reading and writing whole aggregates in memory, as functions of the world: the walk reads an identity or a line by one equation. Identities: their cells, and '==' on them. -/
import Derived.Test.YtdjaphcelpchaaaGreatDoorShelf
import Derived.Test.YtdjaphcelpchaaaGreatDoorText
import Derived.Test.YtdjaphcelpchaaaGreatDoorRegion
import Derived.Laws.StructEq
import Derived.Laws.NewBlocks
import Derived.Shelf.SlicesE.Kit
namespace Go.Proofs.YtdjaphcelpchaaaGreatDoor
open Go Go.RowKit Go.Proofs

/-- An identity: 32 bytes. -/
def Id32 : Type := { l : List UInt8 // l.length = 32 }
instance : Inhabited Id32 := ⟨⟨List.replicate 32 0, by simp⟩⟩
instance : DecidableEq Id32 := inferInstanceAs (DecidableEq { l : List UInt8 // l.length = 32 })
def encId (x : Id32) : List Value := x.1.map fun b => .int .u8 b.toNat
theorem encId_length (x : Id32) : (encId x).length = 32 := by simp [encId, x.2]
theorem encId_get (x : Id32) (i : Nat) (h : i < 32) : (encId x)[i]? = some (.int .u8 (x.1[i]'(by rw [x.2]; exact h)).toNat) := by
  simp [encId, List.getElem?_eq_getElem (show i < x.1.length by rw [x.2]; exact h)]
theorem encId_oneCell (x : Id32) : ∀ v ∈ encId x, v.oneCell' = true := by
  intro v hv
  simp only [encId, List.mem_map] at hv
  obtain ⟨b, _, rfl⟩ := hv
  rfl

/-- What n cells from an address on hold; and whether they are there. -/
def rdCells (w : World) (a : Addr) (n : Nat) : Array Value := ((List.range n).map fun j => (w.cell? (a.add j)).getD undef).toArray
def okCells (w : World) (a : Addr) (n : Nat) : Bool := (List.range n).all fun j => (w.cell? (a.add j)).isSome

theorem okCells_iff (w : World) (a : Addr) (n : Nat) : okCells w a n = true ↔ ∀ j, j < n → ∃ v, w.cell? (a.add j) = some v := by
  simp [okCells, Option.isSome_iff_exists]

theorem run_loadCells_rd {P : Program} (w : World) (a : Addr) (n : Nat) (h : okCells w a n = true) : Sem.run P (loadCells a n) w = .ok (rdCells w a n) w := by
  have := run_loadCells_list (P := P) w a ((List.range n).map fun j => (w.cell? (a.add j)).getD undef) (fun j v hj => by
    rw [List.getElem?_map] at hj
    by_cases hlt : j < n
    · rw [List.getElem?_range hlt] at hj
      obtain ⟨u, hu⟩ := (okCells_iff w a n).1 h j hlt
      simp only [Option.map_some, hu, Option.getD_some, Option.some.injEq] at hj
      rw [hu, hj]
    · rw [List.getElem?_eq_none (by simp; omega)] at hj
      simp at hj)
  simpa [rdCells] using this

theorem run_loadAt_rd {P : Program} (t n : Nat) (hA : ∀ w, Sem.run P (isAgg t) w = .ok true w) (hs : ∀ w, Sem.run P (Go.sizeOf t) w = .ok n w) (w : World) (a : Addr) (h : okCells w a n = true) :
    Sem.run P (Instr.loadAt t (.pointer (some a))) w = .ok (.agg (rdCells w a n)) w := by
  simp [Instr.loadAt, Instr.sureAddr, loadVar, hA, hs, run_loadCells_rd w a n h]

theorem rd_of_cells {w : World} {a : Addr} {cs : List Value} (h : ∀ j v, cs[j]? = some v → w.cell? (a.add j) = some v) :
    okCells w a cs.length = true ∧ rdCells w a cs.length = cs.toArray := by
  have hj : ∀ j (hlt : j < cs.length), w.cell? (a.add j) = some cs[j] := fun j hlt => h j _ (List.getElem?_eq_getElem hlt)
  refine ⟨(okCells_iff _ _ _).2 fun j hlt => ⟨_, hj j hlt⟩, ?_⟩
  unfold rdCells
  congr 1
  apply List.ext_getElem
  · simp
  · intro i h1 h2
    simp [hj i h2]

@[simp] theorem okCells_drew (w : World) (a : Addr) (n : Nat) : okCells w.drew a n = okCells w a n := rfl
@[simp] theorem rdCells_drew (w : World) (a : Addr) (n : Nat) : rdCells w.drew a n = rdCells w a n := rfl
@[simp] theorem okCells_drewN (w : World) (a : Addr) (n k : Nat) : okCells (w.drewN k) a n = okCells w a n := by
  simp only [okCells, World.cell?_drewN]
@[simp] theorem rdCells_drewN (w : World) (a : Addr) (n k : Nat) : rdCells (w.drewN k) a n = rdCells w a n := by
  simp only [rdCells, World.cell?_drewN]

theorem rd_same {w w' : World} {a : Addr} {n : Nat} (hc : ∀ j, j < n → w'.cell? (a.add j) = w.cell? (a.add j)) : okCells w' a n = okCells w a n ∧ rdCells w' a n = rdCells w a n := by
  constructor
  · rw [Bool.eq_iff_iff, okCells_iff, okCells_iff]
    exact ⟨fun h j hj => by obtain ⟨v, hv⟩ := h j hj; exact ⟨v, by rw [← hc j hj]; exact hv⟩, fun h j hj => by obtain ⟨v, hv⟩ := h j hj; exact ⟨v, by rw [hc j hj]; exact hv⟩⟩
  · unfold rdCells
    congr 1
    apply List.map_congr_left
    intro j hj
    rw [hc j (by simpa using hj)]

theorem add_block (a : Addr) (j : Nat) : (a.add j).block = a.block := by unfold Addr.add; split <;> rfl

theorem ok_alloc {w : World} {a : Addr} {n : Nat} (o : Obj) (h : okCells w a n = true) : okCells (w.alloc o) a n = true := by
  rw [okCells_iff] at h ⊢
  intro j hj
  obtain ⟨v, hv⟩ := h j hj
  exact ⟨v, Lib.cell?_alloc_some _ hv⟩
theorem rd_alloc {w : World} {a : Addr} {n : Nat} (o : Obj) (h : okCells w a n = true) : rdCells (w.alloc o) a n = rdCells w a n := by
  rw [okCells_iff] at h
  unfold rdCells
  congr 1
  apply List.map_congr_left
  intro j hj
  obtain ⟨v, hv⟩ := h j (by simpa using hj)
  rw [hv, Lib.cell?_alloc_some _ hv]

theorem cells_new (w : World) (cs : Array Value) (t : Nat) (j : Nat) : (w.alloc (.cells cs t)).cell? ⟨w.heap.size, j, none⟩ = cs[j]? := World.cell?_alloc_mark w cs t (0, 0) j
theorem ok_new (w : World) (cs : Array Value) (t off n : Nat) (h : off + n ≤ cs.size) : okCells (w.alloc (.cells cs t)) ⟨w.heap.size, off, none⟩ n = true := by
  rw [okCells_iff]
  intro j hj
  rw [Addr.add_lit, cells_new]
  exact ⟨cs[off + j]'(by omega), Array.getElem?_eq_getElem (by omega)⟩
theorem rd_new (w : World) (cs : Array Value) (t off n : Nat) (h : off + n ≤ cs.size) : rdCells (w.alloc (.cells cs t)) ⟨w.heap.size, off, none⟩ n = cs.extract off (off + n) := by
  unfold rdCells
  apply Array.ext
  · simp; omega
  · intro i h1 h2
    have hi : i < n := by simpa using h1
    have hlt : off + i < cs.size := by omega
    simp only [List.getElem_toArray, List.getElem_map, List.getElem_range, Array.getElem_extract]
    rw [Addr.add_lit, cells_new, Array.getElem?_eq_getElem hlt]
    rfl

theorem Later.ok {w : World} {a : Addr} {n : Nat} (h : okCells w a n = true) (z : Later w) : okCells z.1 a n = true := by
  rw [okCells_iff] at h ⊢
  intro j hj
  obtain ⟨v, hv⟩ := h j hj
  exact ⟨v, z.cell hv⟩
theorem Later.rd {w : World} {a : Addr} {n : Nat} (h : okCells w a n = true) (z : Later w) : rdCells z.1 a n = rdCells w a n := by
  rw [okCells_iff] at h
  unfold rdCells
  congr 1
  apply List.map_congr_left
  intro j hj
  obtain ⟨v, hv⟩ := h j (by simpa using hj)
  rw [hv, z.cell hv]

/-- A block of n cells, none of them frozen; what a store of a whole aggregate into it makes. -/
def rowOk (w : World) (g n : Nat) : Bool := match w.heap[g]? with
  | some (.cells c _ fr) => c.size == n && fr == (0, 0)
  | _ => false
theorem rowOk_iff {w : World} {g n : Nat} (h : rowOk w g n = true) : ∃ c t, w.heap[g]? = some (.cells c t (0, 0)) ∧ c.size = n := by
  unfold rowOk at h
  split at h
  · rename_i c t fr hg
    simp only [Bool.and_eq_true, beq_iff_eq] at h
    obtain ⟨h1, rfl⟩ := h
    exact ⟨c, t, hg, h1⟩
  · simp at h

theorem run_storeAt_row {P : Program} (t n : Nat) (hi : (P.info? t).map (·.size) = some n) (w : World) (g : Nat) (cells : Array Value) (h : rowOk w g n = true) (hn : cells.size = n) (h1 : cells.all (·.oneCell') = true) :
    Sem.run P (Instr.storeAt t (.pointer (some ⟨g, 0, none⟩)) (.agg cells)) w = .ok () (w.setRow g cells) := by
  obtain ⟨c, t', hg, hc⟩ := rowOk_iff h
  simp [Instr.storeAt, Instr.sureAddr, run_storeVar_row w g t' t c cells hg (by rw [hn]; exact hi) (by omega) h1]

@[simp] theorem rowOk_drew (w : World) (g n : Nat) : rowOk w.drew g n = rowOk w g n := rfl
theorem rowOk_new (w : World) (c : Array Value) (t g n : Nat) (hg : g = w.heap.size) (hn : c.size = n) : rowOk (w.alloc (.cells c t)) g n = true := by
  subst hg
  unfold rowOk
  rw [heap_alloc_new]
  simp [hn]
theorem rowOk_alloc {w : World} {g n : Nat} (o : Obj) (h : rowOk w g n = true) : rowOk (w.alloc o) g n = true := by
  obtain ⟨c, t, hg, hc⟩ := rowOk_iff h
  have hlt : g < w.heap.size := (Array.getElem?_eq_some_iff.1 hg).1
  unfold rowOk
  rw [heap_alloc_old (w := w) (o := o) (h := hlt), hg]
  simp [hc]
@[simp] theorem setRow_drew (w : World) (g : Nat) (cs : Array Value) : w.drew.setRow g cs = (w.setRow g cs).drew := rfl
theorem setRow_new (w : World) (c cs : Array Value) (t g : Nat) (hg : g = w.heap.size) : (w.alloc (.cells c t)).setRow g cs = w.alloc (.cells cs t) := by
  subst hg
  unfold World.setRow World.alloc
  congr 1
  apply Array.ext_getElem?
  intro k
  simp only [Array.getElem?_modify, Array.getElem?_push]
  by_cases hk : k = w.heap.size
  · subst hk; simp
  · have hk' : ¬ w.heap.size = k := fun h => hk h.symm
    simp [hk, hk']
theorem setRow_past (w : World) (o : Obj) (cs : Array Value) (g : Nat) (hg : g < w.heap.size) : (w.alloc o).setRow g cs = (w.setRow g cs).alloc o := by
  unfold World.setRow World.alloc
  congr 1
  apply Array.ext_getElem?
  intro k
  simp only [Array.getElem?_modify, Array.getElem?_push, Array.size_modify]
  by_cases hk : k = w.heap.size
  · subst hk; simp [Nat.ne_of_lt hg]
  · simp [hk]

/-! ## '==' on identities -/

theorem map_u8_inj {a b : List UInt8} (h : a.map (fun c => Value.int .u8 c.toNat) = b.map (fun c => Value.int .u8 c.toNat)) : a = b := by
  induction a generalizing b with
  | nil => cases b with
    | nil => rfl
    | cons y b => simp at h
  | cons x a ih => cases b with
    | nil => simp at h
    | cons y b =>
      simp only [List.map_cons, List.cons.injEq, Value.int.injEq, true_and] at h
      have : x.toNat = y.toNat := by exact_mod_cast h.1
      rw [UInt8.toNat_inj.1 this, ih h.2]
theorem encId_inj {x y : Id32} (h : encId x = encId y) : x = y := Subtype.ext (map_u8_inj h)


theorem part_u8 (xs : List UInt8) (i : Nat) (h : i < xs.length) (w : World) : Sem.run Tryz.prog (part 5 (xs.map fun b => Value.int .u8 b.toNat).toArray i) w = .ok (.int .u8 (xs[i]'h).toNat) w := by
  simp [part, Tryz.isAgg5, h]

/-- The loop of '==' over two arrays of bytes, over whatever list of places: whether all agree. -/
theorem eqLoop (xs ys : List UInt8) (e : Nat) (hin : ∀ (a b : Int) (w : World), (Op.equalIn e 5 (.int .u8 a) (.int .u8 b)).run Tryz.prog w = .ok (a == b) w) :
    ∀ (l : List Nat) (w : World), (∀ i ∈ l, i < xs.length ∧ i < ys.length) →
    Sem.run Tryz.prog (forIn l ((none, ()) : Option Bool × Unit) fun i __s => do
      let a ← part 5 (xs.map fun b => Value.int .u8 b.toNat).toArray (i * 1)
      let b ← part 5 (ys.map fun b => Value.int .u8 b.toNat).toArray (i * 1)
      let r ← Op.equalIn e 5 a b
      if (!r) = true then pure (ForInStep.done (some false, ())) else pure (ForInStep.yield (none, ()))) w
    = .ok (if l.all (fun i => xs[i]! == ys[i]!) then (none, ()) else (some false, ())) w
  | [], w, _ => by simp
  | i :: l, w, h => by
    obtain ⟨h1, h2⟩ := h i (by simp)
    rw [List.forIn_cons]
    simp only [Sem.run_bind, Nat.mul_one, part_u8 xs i h1, part_u8 ys i h2, Result.andThen_ok, hin]
    have e1 : xs[i]! = xs[i] := by simp [h1]
    have e2 : ys[i]! = ys[i] := by simp [h2]
    by_cases hq : xs[i] = ys[i]
    · have ih := eqLoop xs ys e hin l w (fun j hj => h j (by simp [hj]))
      simp only [hq, beq_self_eq_true, Bool.not_true, Bool.false_eq_true, if_false, Sem.run_pure, Result.andThen_ok]
      simp only [Nat.mul_one] at ih
      rw [ih, List.all_cons, e1, e2, hq]
      simp
    · have hz : ((xs[i].toNat : Int) == (ys[i].toNat : Int)) = false := by
        rw [beq_eq_false_iff_ne]
        intro hh
        exact hq (UInt8.toNat_inj.1 (by exact_mod_cast hh))
      simp only [hz, Bool.not_false, if_true, Sem.run_pure, Result.andThen_ok]
      rw [List.all_cons, e1, e2]
      simp [hq]

theorem all_range_eq (xs ys : List UInt8) (hx : xs.length = 32) (hy : ys.length = 32) : ((List.range' 0 32 1).all (fun i => xs[i]! == ys[i]!)) = decide (xs = ys) := by
  rw [Bool.eq_iff_iff]
  simp only [List.all_eq_true, List.mem_range'_1, beq_iff_eq, decide_eq_true_eq]
  constructor
  · intro h
    apply List.ext_getElem (by omega)
    intro i h1 h2
    have := h i (by omega)
    simpa [h1, h2] using this
  · rintro rfl i _; rfl

theorem eqArr (xs ys : List UInt8) (hx : xs.length = 32) (hy : ys.length = 32) (e : Nat) (hin : ∀ (a b : Int) (w : World), (Op.equalIn e 5 (.int .u8 a) (.int .u8 b)).run Tryz.prog w = .ok (a == b) w) (w : World) :
    (Op.equalIn (e + 1) 23 (.agg (xs.map fun b => Value.int .u8 b.toNat).toArray) (.agg (ys.map fun b => Value.int .u8 b.toNat).toArray)).run Tryz.prog w = .ok (decide (xs = ys)) w := by
  have hu : Tryz.prog.underlying 23 = some (.array 32 5) := by kernel_rfl
  have := eqLoop xs ys e hin (List.range' 0 32 1) w (fun i hi => by simp only [List.mem_range'_1] at hi; omega)
  rw [all_range_eq xs ys hx hy] at this
  simp only [Op.equalIn, Sem.run_bind, run_underlying hu, Result.andThen_ok, Tryz.sizeOf5, Std.Legacy.Range.forIn_eq_forIn_range', Std.Legacy.Range.size]
  simp only [Nat.sub_zero, Nat.add_one_sub_one, Nat.div_one, Nat.reduceAdd]
  rw [this]
  by_cases h : xs = ys <;> simp [h]

theorem eqIn_id (x y : Id32) (w : World) : (Op.equalIn 10000 23 (.agg (encId x).toArray) (.agg (encId y).toArray)).run Tryz.prog w = .ok (decide (x = y)) w := by
  have hin : ∀ (a b : Int) (w : World), (Op.equalIn 9999 5 (.int .u8 a) (.int .u8 b)).run Tryz.prog w = .ok (a == b) w := fun a b w => run_equalIn_int w 9998 5 .u8 .u8 a b Tryz.underlying5
  have h := eqArr x.1 y.1 x.2 y.2 9999 hin w
  have hd : decide (x.1 = y.1) = decide (x = y) := decide_eq_decide.2 ⟨fun h => Subtype.ext h, fun h => congrArg _ h⟩
  rw [hd] at h
  exact h
/-- '==' and '!=' on identities. -/
theorem run_eql_id (x y : Id32) (w : World) : (binOp .eql 23 (.agg (encId x).toArray) (.agg (encId y).toArray)).run Tryz.prog w = .ok (.bool (decide (x = y))) w := by
  rw [run_eql_struct, eqIn_id]; rfl
theorem run_neq_id (x y : Id32) (w : World) : (binOp .neq 23 (.agg (encId x).toArray) (.agg (encId y).toArray)).run Tryz.prog w = .ok (.bool (!decide (x = y))) w := by
  rw [run_neq_struct, eqIn_id]; rfl
theorem guard_id : Tryz.prog.eqGuardType Tryz.prog.depth 23 = false := by kernel_rfl
theorem eqId : EqlAt Tryz.prog 23 (fun x : Id32 => .agg (encId x).toArray) (fun x y => decide (x = y)) := ⟨run_eql_id, GuardAt.agg _ guard_id⟩

/-! ## Loads and stores of aggregates, at the level of the whole operation -/

/-- What a load of an aggregate comes to, behind a name that the walk does not open. -/
def ldRes (P : Program) (t : Nat) (w : World) (v : Value) : Result Next := Sem.run P (do pure (Next.value (← Instr.loadAt t v))) w
def stRes (P : Program) (t : Nat) (w : World) (p v : Value) : Result Next := Sem.run P (do Instr.storeAt t p v; pure Next.skip) w
theorem exec_load (P : Program) (t : Nat) (ρ : Operand → Value) (d : Option Tmp) (x : Operand) (ty : TypeId) (pos : String) (af : Array Edge) (g : Option (Nat × Bool)) (w : World) :
    Sem.run P (execOp ρ ⟨d, .load t x, ty, pos, af, g⟩) w = ldRes P t w (ρ x) := rfl
theorem exec_store (P : Program) (t : Nat) (ρ : Operand → Value) (d : Option Tmp) (x y : Operand) (ty : TypeId) (pos : String) (af : Array Edge) (g : Option (Nat × Bool)) (w : World) :
    Sem.run P (execOp ρ ⟨d, .store t x y, ty, pos, af, g⟩) w = stRes P t w (ρ x) (ρ y) := rfl
theorem ldRes_agg {P : Program} {t n : Nat} (hA : ∀ w, Sem.run P (isAgg t) w = .ok true w) (hs : ∀ w, Sem.run P (Go.sizeOf t) w = .ok n w) (w : World) (a : Addr) (h : okCells w a n = true) :
    ldRes P t w (.pointer (some a)) = .ok (.value (.agg (rdCells w a n))) w := by
  unfold ldRes
  rw [Sem.run_bind, run_loadAt_rd t n hA hs w a h]
  rfl
/-- An aggregate of n cells. -/
def fitsRow (n : Nat) (cells : Array Value) : Bool := cells.size == n && cells.all (·.oneCell')
theorem fitsRow_mk {n : Nat} {cells : Array Value} (hn : cells.size = n) (h1 : cells.all (·.oneCell') = true) : fitsRow n cells = true := by
  unfold fitsRow; rw [h1, hn]; simp
theorem stRes_agg {P : Program} {t n : Nat} (hi : (P.info? t).map (·.size) = some n) (w : World) (g : Nat) (cells : Array Value) (h : rowOk w g n = true) (h2 : fitsRow n cells = true) :
    stRes P t w (.pointer (some ⟨g, 0, none⟩)) (.agg cells) = .ok .skip (w.setRow g cells) := by
  unfold stRes
  unfold fitsRow at h2
  rw [Bool.and_eq_true, beq_iff_eq] at h2
  rw [Sem.run_bind, run_storeAt_row t n hi w g cells h h2.1 h2.2]
  rfl

theorem ex_load_id (ρ : Operand → Value) (d : Option Tmp) (x : Operand) (ty : TypeId) (pos : String) (af : Array Edge) (g : Option (Nat × Bool)) (w : World) :
    Sem.run Tryz.prog (execOp ρ ⟨d, .load 23 x, ty, pos, af, g⟩) w = ldRes Tryz.prog 23 w (ρ x) := rfl
theorem ex_store_id (ρ : Operand → Value) (d : Option Tmp) (x y : Operand) (ty : TypeId) (pos : String) (af : Array Edge) (g : Option (Nat × Bool)) (w : World) :
    Sem.run Tryz.prog (execOp ρ ⟨d, .store 23 x y, ty, pos, af, g⟩) w = stRes Tryz.prog 23 w (ρ x) (ρ y) := rfl
theorem ld_id (w : World) (a : Addr) (h : okCells w a 32 = true) : ldRes Tryz.prog 23 w (.pointer (some a)) = .ok (.value (.agg (rdCells w a 32))) w :=
  ldRes_agg Tryz.isAgg23 Tryz.sizeOf23 w a h
theorem st_id (w : World) (g : Nat) (cells : Array Value) (h : rowOk w g 32 = true) (h2 : fitsRow 32 cells = true) :
    stRes Tryz.prog 23 w (.pointer (some ⟨g, 0, none⟩)) (.agg cells) = .ok .skip (w.setRow g cells) := stRes_agg (by kernel_rfl) w g cells h h2
theorem encId_size (x : Id32) : (encId x).toArray.size = 32 := by simp [encId_length]
theorem encId_all (x : Id32) : (encId x).toArray.all (·.oneCell') = true := by
  rw [Array.all_eq_true_iff_forall_mem]
  intro v hv
  exact encId_oneCell x v (by simpa using hv)

theorem fits_id (x : Id32) : fitsRow 32 (encId x).toArray = true := fitsRow_mk (encId_size x) (encId_all x)
/-- Reading back a whole block that holds an identity. -/
theorem rd_new_id (w : World) (x : Id32) (t : Nat) : rdCells (w.alloc (.cells (encId x).toArray t)) ⟨w.heap.size, 0, none⟩ 32 = (encId x).toArray := by
  rw [rd_new w _ t 0 32 (by rw [encId_size]; omega)]
  apply Array.ext'
  simp [List.take_of_length_le (Nat.le_of_eq (encId_length x))]
theorem ok_new_id (w : World) (x : Id32) (t : Nat) : okCells (w.alloc (.cells (encId x).toArray t)) ⟨w.heap.size, 0, none⟩ 32 = true := ok_new w _ t 0 32 (by rw [encId_size]; omega)

def zeroId : Id32 := ⟨List.replicate 32 0, by simp⟩
theorem ex_alloc_id (ρ : Operand → Value) (d : Option Tmp) (ty : TypeId) (pos : String) (af : Array Edge) (g : Option (Nat × Bool)) (w : World) :
    Sem.run Tryz.prog (execOp ρ ⟨d, .alloc 23, ty, pos, af, g⟩) w = .ok (.value (.pointer (some ⟨w.heap.size, 0, none⟩))) (w.alloc (.cells (encId zeroId).toArray 23)) := by kernel_rfl
theorem ex_build_id (ρ : Operand → Value) (d : Option Tmp) (ty : TypeId) (pos : String) (af : Array Edge) (g : Option (Nat × Bool)) (w : World) :
    Sem.run Tryz.prog (execOp ρ ⟨d, .build 23 #[], ty, pos, af, g⟩) w = .ok (.value (.agg (encId zeroId).toArray)) w := by kernel_rfl

/-! ## The same through any number of new blocks, without conditions -/

theorem rowOk_cells (w : World) (c : Array Value) (t g n : Nat) : rowOk (w.alloc (.cells c t)) g n = if g = w.heap.size then c.size == n else rowOk w g n := by
  by_cases h : g = w.heap.size
  · rw [if_pos h]; subst h; unfold rowOk; rw [heap_alloc_new]; simp
  · rw [if_neg h]
    have e : (w.alloc (.cells c t)).heap[g]? = w.heap[g]? := by
      show (w.heap.push _)[g]? = _
      rw [Array.getElem?_push, if_neg h]
    unfold rowOk
    rw [e]
/-- Cells of a block that is written out. -/
def rdArr (c : Array Value) (off n : Nat) : Array Value := ((List.range n).map fun j => (c[off + j]?).getD undef).toArray
def okArr (c : Array Value) (off n : Nat) : Bool := (List.range n).all fun j => (c[off + j]?).isSome
theorem okCells_cells (w : World) (c : Array Value) (t b off n : Nat) : okCells (w.alloc (.cells c t)) ⟨b, off, none⟩ n = if b = w.heap.size then okArr c off n else okCells w ⟨b, off, none⟩ n := by
  split
  · rename_i h; subst h
    unfold okCells okArr
    simp only [Addr.add_lit, cells_new]
  · rename_i h
    unfold okCells
    have e : ∀ j, (w.alloc (.cells c t)).cell? ⟨b, off + j, none⟩ = w.cell? ⟨b, off + j, none⟩ := fun j => by
      unfold World.cell?
      have e1 : (w.alloc (.cells c t)).heap[b]? = w.heap[b]? := by
        show (w.heap.push _)[b]? = _
        rw [Array.getElem?_push, if_neg h]
      rw [e1]
    simp only [Addr.add_lit, e]
theorem rdCells_cells (w : World) (c : Array Value) (t b off n : Nat) : rdCells (w.alloc (.cells c t)) ⟨b, off, none⟩ n = if b = w.heap.size then rdArr c off n else rdCells w ⟨b, off, none⟩ n := by
  split
  · rename_i h; subst h
    unfold rdCells rdArr
    simp only [Addr.add_lit, cells_new]
  · rename_i h
    unfold rdCells
    have e : ∀ j, (w.alloc (.cells c t)).cell? ⟨b, off + j, none⟩ = w.cell? ⟨b, off + j, none⟩ := fun j => by
      unfold World.cell?
      have e1 : (w.alloc (.cells c t)).heap[b]? = w.heap[b]? := by
        show (w.heap.push _)[b]? = _
        rw [Array.getElem?_push, if_neg h]
      rw [e1]
    simp only [Addr.add_lit, e]
theorem okArr_le {c : Array Value} {off n : Nat} (h : off + n ≤ c.size) : okArr c off n = true := by
  unfold okArr
  rw [List.all_eq_true]
  intro j hj
  rw [Array.getElem?_eq_getElem (by have := List.mem_range.1 hj; omega)]; rfl
theorem rdArr_extract {c : Array Value} {off n : Nat} (h : off + n ≤ c.size) : rdArr c off n = c.extract off (off + n) := by
  unfold rdArr
  apply Array.ext
  · simp; omega
  · intro i h1 h2
    have hi : i < n := by simpa using h1
    simp only [List.getElem_toArray, List.getElem_map, List.getElem_range, Array.getElem_extract]
    rw [Array.getElem?_eq_getElem (by omega)]; rfl
theorem okArr_id (x : Id32) : okArr (encId x).toArray 0 32 = true := okArr_le (by rw [encId_size]; omega)
theorem rdArr_id (x : Id32) : rdArr (encId x).toArray 0 32 = (encId x).toArray := by
  rw [rdArr_extract (by rw [encId_size]; omega)]
  apply Array.ext'
  simp [List.take_of_length_le (Nat.le_of_eq (encId_length x))]

end Go.Proofs.YtdjaphcelpchaaaGreatDoor
