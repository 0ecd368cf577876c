/- Parts of the proofs about bulletinlaw28: Get, InsertMid, AddLaw, Add, Delete, RemoveLaw. -/
import Derived.Test.YtdjaphcelpchaaaGreatDoorShelf
import Derived.Test.YtdjaphcelpchaaaGreatDoorK1
import Derived.Test.YtdjaphcelpchaaaGreatDoorK2
import Derived.Test.YtdjaphcelpchaaaGreatDoorShelf2
import Derived.Test.YtdjaphcelpchaaaGreatDoorClonesL1
import Derived.Shelf.Spec.SlicesInsertGrow
import Derived.Laws.CopyRow
import Derived.Maps.AppendAt

namespace Go.Proofs.YtdjaphcelpchaaaGreatDoor
open Go Go.RowKit Go.Proofs

attribute [local go_sem ↓] ex_load_id ex_store_id ex_load_line ex_store_line ex_alloc_line ex_build_line

attribute [local go_sem] ld_id st_id ld_line st_line guard_id okCells_drew rdCells_drew okCells_drewN rdCells_drewN rowOk_drew rowOk_cells okCells_cells rdCells_cells setRow_drew setRow_new setRow_past

theorem LinesAt.keep {B : Nat} {w w' : World} {v : Value} {ms : List ML} (h : LinesAt B w v ms) (hv : ∀ k, v.ownBlock = some k → w'.heap[k]? = w.heap[k]?) (hr : ∀ m ∈ ms, ∀ k, m.v.ownBlock = some k → w'.heap[k]? = w.heap[k]?) : LinesAt B w' v ms where
  row := by
    refine ⟨h.row.1, ?_⟩
    rcases h.row.2 with h0 | ⟨g, cap, cur, e, hg, hcur, hx⟩
    · exact .inl h0
    · exact .inr ⟨g, cap, cur, e, hg, (hv g (by rw [e]; rfl)).trans hcur, hx⟩
  refs m hm := (h.refs m hm).block (hr m hm)
theorem LinesAt.below {B : Nat} {w w' : World} {v : Value} {ms : List ML} (h : LinesAt B w v ms) (hb : Below w.heap.size w w') : LinesAt B w' v ms :=
  h.keep (fun k hk => hb.block k (World.ownsRow.lt h.row k hk).2) (fun m hm k hk => hb.block k ((h.refs m hm).lt hk).2)
theorem GrpAt.keep {B : Nat} {w w' : World} {G : MG} (h : GrpAt B w G) (hf : ∀ k ∈ G.foot, w'.heap[k]? = w.heap[k]?) (hr : ∀ m ∈ G.ms, ∀ k, m.v.ownBlock = some k → w'.heap[k]? = w.heap[k]?) : GrpAt B w' G where
  blk := (hf G.gb (by simp [MG.foot])).trans h.blk
  lines := h.lines.keep (fun k hk => hf k (by simp [MG.foot, hk])) hr
  nums := (hf G.nb (by simp [MG.foot])).trans h.nums
  agree := h.agree
  ids := h.ids
  sorted := h.sorted
  good := h.good
  named := h.named
  some' := h.some'
  gbB := h.gbB
  nbB := h.nbB
theorem IdxAt.keep {B : Nat} {w w' : World} {ib M mc : Nat} {gs : List MG} (h : IdxAt B w ib M gs mc) (hf : ∀ k ∈ foot ib M gs, w'.heap[k]? = w.heap[k]?) (hr : ∀ G ∈ gs, ∀ m ∈ G.ms, ∀ k, m.v.ownBlock = some k → w'.heap[k]? = w.heap[k]?) : IdxAt B w' ib M gs mc where
  blk := (hf ib (by simp [foot])).trans h.blk
  map := (hf M (by simp [foot])).trans h.map
  names := h.names
  grps G hG := (h.grps G hG).keep (fun k hk => hf k (by unfold foot; simp only [List.mem_cons, List.mem_flatMap]; exact .inr (.inr ⟨G, hG, hk⟩))) (hr G hG)
  apart := h.apart
  born := h.born
  young := h.young
  few := h.few
  ibB := h.ibB
  MB := h.MB
theorem GrpAt.foot_lt {B : Nat} {w : World} {G : MG} (h : GrpAt B w G) : ∀ k ∈ G.foot, B ≤ k ∧ k < w.heap.size := by
  intro k hk
  unfold MG.foot at hk
  simp only [List.mem_append, List.mem_cons, List.mem_nil_iff, or_false, Option.mem_toList] at hk
  rcases hk with (rfl | rfl) | hk
  · exact ⟨h.gbB, (Array.getElem?_eq_some_iff.1 h.blk).1⟩
  · exact ⟨h.nbB, h.nums.lt⟩
  · exact World.ownsRow.lt h.lines.row k hk
theorem IdxAt.foot_lt {B : Nat} {w : World} {ib M mc : Nat} {gs : List MG} (h : IdxAt B w ib M gs mc) : ∀ k ∈ foot ib M gs, B ≤ k ∧ k < w.heap.size := by
  intro k hk
  unfold foot at hk
  simp only [List.mem_cons, List.mem_flatMap] at hk
  rcases hk with rfl | rfl | ⟨G, hG, hk⟩
  · exact ⟨h.ibB, (Array.getElem?_eq_some_iff.1 h.blk).1⟩
  · exact ⟨h.MB, h.map.lt⟩
  · exact (h.grps G hG).foot_lt k hk
theorem IdxAt.below {B : Nat} {w w' : World} {ib M mc : Nat} {gs : List MG} (h : IdxAt B w ib M gs mc) (hb : Below w.heap.size w w') : IdxAt B w' ib M gs mc :=
  h.keep (fun k hk => hb.block k (h.foot_lt k hk).2) (fun G hG m hm k hk => hb.block k (((h.grps G hG).lines.refs m hm).lt hk).2)

theorem between_at {ns : List Int} {n : Int} {i j : Nat} (hs : ns.Pairwise (· < ·)) (h : Between ns n j j) (hi : ns[i]? = some n) : j = i := by
  obtain ⟨_, h2, h3, h4⟩ := h
  obtain ⟨hlt, hget⟩ := List.getElem?_eq_some_iff.1 hi
  rcases Nat.lt_trichotomy j i with hji | hji | hji
  · have h5 := h4 j (by omega) (Nat.le_refl _)
    have h6 := List.pairwise_iff_getElem.1 hs j i (by omega) hlt hji
    omega
  · exact hji
  · have := h3 i hlt hji
    omega
theorem nums_get {ms : List ML} {i : Nat} {m : ML} (h : ms[i]? = some m) : (nums ms)[i]? = some m.p.number := by
  unfold nums
  rw [List.getElem?_map, h]; rfl
theorem hasNum_of {ms : List ML} {i : Nat} {m : ML} {n : Int} (h : ms[i]? = some m) (hn : m.p.number = n) : hasNum ms n = true := by
  unfold hasNum
  rw [List.contains_iff_mem]
  exact List.mem_of_getElem? (hn ▸ nums_get h)
theorem refs_len {p : PLine} (h : pErr p = 0) : p.ids.length ≤ 20 := by
  have := (lineErr_zero h)
  obtain ⟨f1, f2, f3, f4, f5, f6⟩ := this
  exact f5

set_option maxRecDepth 100000 in
set_option maxHeartbeats 1000000 in
theorem get_yes (B ib M mc : Nat) (gs : List MG) (s : ByteArray) (n : Int) (i : Nat) (m : ML) (w : World) (h : IdxAt B w ib M gs mc) (hi : (linesIn gs s)[i]? = some m) (hn : m.p.number = n) (hg : pErr m.p = 0) :
    Calls Tryz.prog 37 #[.pointer (some ⟨ib, 0, none⟩), .string s, .int .i64 n] w fun r w' => ∃ v, r = .returned (.tuple #[.agg (lineCells { m.g with refs := v }), .bool true]) ∧ IdsOwn w.heap.size w' v m.p.ids ∧ Below w.heap.size w w' := by
  have hb0 : Below w.heap.size w (w.alloc (.cells (lineCells zeroLine) 34)) := (Below.refl _ _).alloc (Nat.le_refl _) _
  have hx0 := h.below hb0
  have hrl := refs_len hg
  have HL := Lib.hid (linesOf_any B ib M mc gs s _ hx0)
  have hso := hx0.sorted s
  have HS := Lib.hid (search_any B (valueOf gs s) (linesIn gs s) n _ (hx0.lines s) (hx0.len s) hso)
  rw [hasNum_of hi hn] at HS
  have HAT := Lib.hid (fun j (hj : Between (nums (linesIn gs s)) n j j) => between_at hso hj (hn ▸ nums_get hi))
  have HZ : Hid (LineVar (w.alloc (.cells (lineCells zeroLine) 34)) w.heap.size zeroLine) := Lib.hid (heap_alloc_new _ _)
  have HB := Lib.hid hb0
  have hln := hx0.len s
  obtain ⟨hil, hget⟩ := List.getElem?_eq_some_iff.1 hi
  rcases (hx0.lines s).head with ⟨_, e⟩ | ⟨g, cap, hv, hBg, hgl, hle, hmx, hcell⟩
  · rw [e] at hil; cases hil
  have hcell' := hcell i hil
  rw [hget] at hcell'
  have HC := Lib.hid hcell'
  have HI := Lib.hid ((hx0.lines s).refs m (List.mem_of_getElem? hi))
  rw [hv] at HL HS
  have hilz : (i : Int) < ((linesIn gs s).length : Int) := by omega
  clear hb0 hx0 h hcell hcell' hi hget hso hv
  generalize (linesIn gs s).length = len at HL HS hilz hln hle hil
  have hft : fitsRow 38 (lineCells zeroLine) = true := fits_line rfl
  have hzs : ((lineCells zeroLine).size == 38) = true := by rw [lineCells_size]; rfl
  go_enter Tryz.func37, Tryz.ntmps37
  go_wp2_with fail
  refine HL.out.mono ?_
  rintro r w' ⟨rfl, rfl⟩
  go_wp2_with fail
  refine HS.out.mono ?_
  rintro r w1 ⟨j, hj, rfl, hb1⟩
  obtain rfl := HAT.out j hj
  have hZ1 : LineVar w1 w.heap.size zeroLine := HZ.out.below hb1 HZ.out.lt
  obtain ⟨o1, d1⟩ := lineAt_rd (w := w1) (g := g) (off := j * 38) (l := m.g) (fun k u hk => (hb1.cell (p := ⟨g, j * 38 + k, none⟩) hgl).trans (HC.out k u hk))
  have HX := Lib.hid (clone_any B m.g m.p.ids w1 (HI.out.below hb1) (by omega))
  have HZ1 := Lib.hid hZ1
  have HB1 := Lib.hid (HB.out.trans (hb1.mono HB.out.size))
  have hs1 : w.heap.size < w1.heap.size := hZ1.lt
  clear hZ1 hb1 HZ HB HS HL HAT hj HC HI
  go_wp2_with fail
  refine HX.out.mono ?_
  rintro r w2 ⟨v, rfl, hI2, hb2⟩
  have hone := hI2.one
  have hZ2 : LineVar w2 w.heap.size zeroLine := HZ1.out.below hb2 hs1
  have hro := hZ2.row
  have hft2 := fits_line (g := { m.g with refs := v }) hone
  have HI2 := Lib.hid hI2
  have HZ2 := Lib.hid hZ2
  have HB2 := Lib.hid (HB1.out.trans (hb2.mono HB1.out.size))
  clear hZ2 hI2 hb2 HX HZ1 HB1
  go_wp2
  refine bodyPost_ret (v := .tuple #[.agg (lineCells { m.g with refs := v }), .bool true]) ?_ rfl ⟨v, rfl, ?_, below_grown HB2.out (grown_row _ _ _) HB2.out.size (Nat.le_refl _)⟩
  · exact results_agg2 rfl Tryz.isAgg34 Tryz.sizeOf34 _ _ ⟨w.heap.size, 0, none⟩ _ _ rfl rfl (HZ2.out.blk.setRow.rd.1) (HZ2.out.blk.setRow.rd.2)
  · refine (HI2.out.mono (by omega)).block fun k hk => (grown_row _ w.heap.size _).block k (HI2.out.lt hk).2 ?_
    intro e
    have := (HI2.out.lt hk).1
    cases e
    omega

theorem findK_none {K : Type} [DecidableEq K] {k : K} : ∀ {l : List (KE K)} {i : Nat}, (∀ e ∈ l, e.k ≠ k) → findK k l i = none
  | [], _, _ => rfl
  | e :: l, i, h => by
    unfold findK
    rw [if_neg (fun e' => h e (by simp) e'.symm)]
    exact findK_none (fun e he => h e (by simp [he]))
theorem findK_some {K : Type} [DecidableEq K] {e : KE K} : ∀ {l : List (KE K)} {i : Nat}, e ∈ l → (l.map fun e => e.k).Nodup → ∃ j, findK e.k l i = some (i + j, e.v) ∧ l[j]? = some e
  | d :: l, i, he, hn => by
    unfold findK
    by_cases h : e.k = d.k
    · have hed : e = d := by
        rcases List.mem_cons.1 he with h1 | h1
        · exact h1
        · exfalso
          rw [List.map_cons, List.nodup_cons] at hn
          exact hn.1 (by rw [← h]; exact List.mem_map.2 ⟨e, h1, rfl⟩)
      subst hed
      exact ⟨0, by rw [if_pos rfl]; rfl, rfl⟩
    · rw [if_neg h]
      have he' : e ∈ l := by
        rcases List.mem_cons.1 he with h1 | h1
        · exact absurd (by rw [h1]) h
        · exact h1
      rw [List.map_cons, List.nodup_cons] at hn
      obtain ⟨j, h1, h2⟩ := findK_some (i := i + 1) he' hn.2
      exact ⟨j + 1, by rw [h1]; congr 2; omega, h2⟩
theorem GrpAt.keys {B : Nat} {w : World} {G : MG} (h : GrpAt B w G) : (G.nl.map fun e => e.k).Nodup := by
  have h1 := h.agree.map Prod.fst
  rw [List.map_map, List.map_map] at h1
  exact h1.nodup_iff.2 h.ids
theorem GrpAt.find_no {B : Nat} {w : World} {G : MG} (h : GrpAt B w G) {x : Id32} (hno : ∀ m ∈ G.ms, m.p.id ≠ x) : findK x G.nl 0 = none := findK_none fun e he hx => by
  have : (e.k, e.v) ∈ G.ms.map fun m => (m.p.id, Value.int .i64 m.p.number) := h.agree.subset (List.mem_map.2 ⟨e, he, rfl⟩)
  obtain ⟨m, hm, e2⟩ := List.mem_map.1 this
  exact hno m hm ((Prod.mk.inj e2).1.trans hx)
theorem GrpAt.find_yes {B : Nat} {w : World} {G : MG} (h : GrpAt B w G) {m : ML} (hm : m ∈ G.ms) : ∃ j, findK m.p.id G.nl 0 = some (j, .int .i64 m.p.number) ∧ ∃ b, G.nl[j]? = some ⟨m.p.id, .int .i64 m.p.number, b⟩ := by
  have : (m.p.id, Value.int .i64 m.p.number) ∈ G.nl.map fun e => (e.k, e.v) := h.agree.symm.subset (List.mem_map.2 ⟨m, hm, rfl⟩)
  obtain ⟨e, he, e2⟩ := List.mem_map.1 this
  obtain ⟨e3, e4⟩ := Prod.mk.inj e2
  obtain ⟨j, h1, h2⟩ := findK_some (i := 0) he h.keys
  refine ⟨j, ?_, e.b, ?_⟩
  · rw [← e3, h1, e4, Nat.zero_add]
  · rw [h2, ← e3, ← e4]

theorem linesIn_ne {gs : List MG} {s : ByteArray} (h : linesIn gs s ≠ []) : ∃ G, groupOf gs s = some G ∧ linesIn gs s = G.ms ∧ valueOf gs s = G.v := by
  unfold linesIn valueOf at *
  cases hg : groupOf gs s with
  | none => rw [hg] at h; exact absurd rfl h
  | some G => exact ⟨G, rfl, rfl, rfl⟩

set_option maxRecDepth 100000 in
set_option maxHeartbeats 1000000 in
theorem find_empty (B ib M mc : Nat) (gs : List MG) (s : ByteArray) (x : Id32) (w : World) (h : IdxAt B w ib M gs mc) (hno : linesIn gs s = []) :
    Calls Tryz.prog 41 #[.pointer (some ⟨ib, 0, none⟩), .string s, .agg (encId x).toArray] w fun r w' => r = .returned (.tuple #[.agg (lineCells zeroLine), .bool false]) ∧ Below w.heap.size w w' := by
  have hb0 : Below w.heap.size w ((w.alloc (.cells (encId x).toArray 23)).alloc (.cells (lineCells zeroLine) 34)) := ((Below.refl _ _).alloc (Nat.le_refl _) _).alloc (by simp) _
  have hx0 := h.below hb0
  have HL := Lib.hid (linesOf_any B ib M mc gs s _ hx0)
  obtain ⟨a, c, hv⟩ := valueOf_slice hx0 s
  rw [hv, hno] at HL
  have HB := Lib.hid hb0
  have hft : fitsRow 38 (lineCells zeroLine) = true := fits_line rfl
  have hzs : ((lineCells zeroLine).size == 38) = true := by rw [lineCells_size]; rfl
  clear hb0 hx0 h hno hv
  go_enter Tryz.func41, Tryz.ntmps41
  go_wp2_with fail
  refine HL.out.mono ?_
  rintro r w' ⟨rfl, rfl⟩
  go_wp2
  refine bodyPost_ret (v := .tuple #[.agg (lineCells zeroLine), .bool false]) ?_ rfl ⟨rfl, HB.out⟩
  exact results_agg2 rfl Tryz.isAgg34 Tryz.sizeOf34 _ _ ⟨w.heap.size + 1, 0, none⟩ _ _ rfl rfl (by simpa using ok_new_line (w.alloc (.cells (encId x).toArray 23)) zeroLine _) (by simpa using rd_new_line (w.alloc (.cells (encId x).toArray 23)) zeroLine 34)

/-- What Find answers. -/
def FindPost (ms : List ML) (x : Id32) (w : World) (r : Ending) (w' : World) : Prop :=
  (((∀ m ∈ ms, m.p.id ≠ x) ∧ r = .returned (.tuple #[.agg (lineCells zeroLine), .bool false])) ∨ (∃ m ∈ ms, m.p.id = x ∧ ∃ v, r = .returned (.tuple #[.agg (lineCells { m.g with refs := v }), .bool true]) ∧ IdsOwn w.heap.size w' v m.p.ids)) ∧ Below w.heap.size w w'

set_option maxRecDepth 100000 in
set_option maxHeartbeats 2000000 in
theorem find_any (B ib M mc : Nat) (gs : List MG) (s : ByteArray) (x : Id32) (w : World) (h : IdxAt B w ib M gs mc) (hne : linesIn gs s ≠ []) :
    Calls Tryz.prog 41 #[.pointer (some ⟨ib, 0, none⟩), .string s, .agg (encId x).toArray] w fun r w' =>
      FindPost (linesIn gs s) x w r w' := by
  obtain ⟨G, hG, hms, hGv⟩ := linesIn_ne hne
  obtain ⟨W, hW⟩ : ∃ W, W = (w.alloc (.cells (encId x).toArray 23)).alloc (.cells (lineCells zeroLine) 34) := ⟨_, rfl⟩
  have hb0 : Below w.heap.size w W := by rw [hW]; exact ((Below.refl _ _).alloc (Nat.le_refl _) _).alloc (by simp) _
  have hs0 : W.heap.size = w.heap.size + 2 := by rw [hW]; simp
  have hx0 := h.below hb0
  have hgr := hx0.grps G (groupOf_mem hG).1
  have HL := Lib.hid (linesOf_any B ib M mc gs s _ hx0)
  obtain ⟨a, c, hv⟩ := valueOf_slice hx0 s
  rw [hv] at HL
  have hlen := hx0.len s
  have hpos : 0 < (linesIn gs s).length := List.length_pos_iff.2 hne
  have hnz : (((linesIn gs s).length : Int) == 0) = false := by rw [beq_eq_false_iff_ne]; omega
  have hid : okCells W ⟨w.heap.size, 0, none⟩ 32 = true ∧ rdCells W ⟨w.heap.size, 0, none⟩ 32 = (encId x).toArray := by
    rw [hW]
    have h1 := ok_new_id w x 23
    have h2 := rd_new_id w x 23
    exact ⟨ok_alloc _ h1, (rd_alloc _ h1).trans h2⟩
  have hZ : LineVar W (w.heap.size + 1) zeroLine := by
    unfold LineVar
    have := heap_alloc_new (w.alloc (.cells (encId x).toArray 23)) (.cells (lineCells zeroLine) 34)
    rw [hW]
    simpa using this
  have q1 : ∀ n, (W.drewN n).cell? ⟨ib, 0, none⟩ = some (.map (some M)) := fun n => by rw [World.cell?_drewN]; exact hx0.cell0
  have q2 : ∀ n, (Instr.lookup 102 (.map (some M)) (.string s) false).run Tryz.prog (W.drewN n) = .ok (.pointer (some ⟨G.gb, 0, none⟩)) (W.drewN n) := fun n => by
    have := (h.below (below_drewN' hb0 n)).look s
    rw [hG] at this
    exact this
  have q3 : ∀ n, (W.drewN n).cell? ⟨G.gb, 1, none⟩ = some (.map (some G.nb)) := fun n => by rw [World.cell?_drewN]; exact cell_of_row W G.gb 1 _ _ _ hgr.blk
  have q4 : ∀ n, (Instr.lookup 113 (.map (some G.nb)) (.agg (encId x).toArray) true).run Tryz.prog (W.drewN n) = .ok (.tuple #[((findK x G.nl 0).map (·.2)).getD (.int .i64 0), .bool (findK x G.nl 0).isSome]) (W.drewN n) := fun n =>
    look_ok keyI Tryz.underlying113 (.int .i64 0) zero_int (W.drewN n) G.nb G.nl G.nc hgr.nums x
  have q5 : ∀ n, okCells (W.drewN n) ⟨w.heap.size, 0, none⟩ 32 = true := fun n => by rw [okCells_drewN]; exact hid.1
  have q6 : ∀ n, rdCells (W.drewN n) ⟨w.heap.size, 0, none⟩ 32 = (encId x).toArray := fun n => by rw [rdCells_drewN]; exact hid.2
  have hft : fitsRow 38 (lineCells zeroLine) = true := fits_line rfl
  have hzs : ((lineCells zeroLine).size == 38) = true := by rw [lineCells_size]; rfl
  have HX := Lib.hid hx0
  have HB := Lib.hid hb0
  have HZ := Lib.hid hZ
  by_cases hin : ∃ m ∈ G.ms, m.p.id = x
  · obtain ⟨m, hm, rfl⟩ := hin
    obtain ⟨j, hj, _⟩ := hgr.find_yes hm
    rw [hj] at q4
    obtain ⟨i, hi, hgi⟩ := List.mem_iff_getElem.1 (hms ▸ hm)
    have hi' : (linesIn gs s)[i]? = some m := by rw [List.getElem?_eq_getElem hi, hgi]
    have hgood := hgr.good m hm
    have hmem : m ∈ linesIn gs s := hms ▸ hm
    have HMem := Lib.hid hmem
    have HI := Lib.hid hi'
    clear hj hx0 hb0 hZ hid hgr h hms hGv hv hi hgi hi' hG hm hmem hne
    generalize (linesIn gs s).length = len at HL hlen hpos hnz
    go_enter Tryz.func41, Tryz.ntmps41
    go_wp2_with fail
    rw [← hW]
    refine HL.out.mono ?_
    rintro r w' ⟨rfl, rfl⟩
    clear hW
    go_wp2_with fail
    go_quiet (fail)
    clear q1 q2 q3 q4 q5 q6
    have hZ1 : LineVar (W.drewN nq) (w.heap.size + 1) zeroLine := HZ.out
    have hB1 : Below w.heap.size w (W.drewN nq) := below_drewN' HB.out nq
    have hs1 : (W.drewN nq).heap.size = w.heap.size + 2 := hs0
    have hX1 : IdxAt B (W.drewN nq) ib M gs mc := HX.out.below (below_drewN' (Below.refl _ _) nq)
    generalize W.drewN nq = W1 at hZ1 hB1 hX1 hs1 ⊢
    have HG := Lib.hid (get_yes B ib M mc gs s m.p.number i m W1 hX1 HI.out rfl hgood)
    have HZ1 := Lib.hid hZ1
    have HB1 := Lib.hid hB1
    clear hZ1 hB1 hX1 HZ HB HX HI
    go_wp2_with fail
    refine HG.out.mono ?_
    rintro r W2 ⟨v, rfl, hI2, hb2⟩
    have hone := hI2.one
    have hZ2 : LineVar W2 (w.heap.size + 1) zeroLine := HZ1.out.below hb2 (by omega)
    have hro := hZ2.row
    have hft2 := fits_line (g := { m.g with refs := v }) hone
    have HI2 := Lib.hid hI2
    have HZ2 := Lib.hid hZ2
    have HB2 := Lib.hid (HB1.out.trans (hb2.mono HB1.out.size))
    clear hZ2 hI2 hb2 HG HZ1 HB1
    go_wp2
    refine bodyPost_ret (v := .tuple #[.agg (lineCells { m.g with refs := v }), .bool true]) ?_ rfl ⟨.inr ⟨m, HMem.out, rfl, v, rfl, ?_⟩, below_grown HB2.out (grown_row _ _ _) HB2.out.size (by omega)⟩
    · exact results_agg2 rfl Tryz.isAgg34 Tryz.sizeOf34 _ _ ⟨w.heap.size + 1, 0, none⟩ _ _ rfl rfl (HZ2.out.blk.setRow.rd.1) (HZ2.out.blk.setRow.rd.2)
    · refine (HI2.out.mono (by omega)).block fun k hk => (grown_row _ (w.heap.size + 1) _).block k (HI2.out.lt hk).2 ?_
      intro e
      have := (HI2.out.lt hk).1
      cases e
      omega
  · have hno : ∀ m ∈ G.ms, m.p.id ≠ x := fun m hm e => hin ⟨m, hm, e⟩
    rw [hgr.find_no hno] at q4
    have HNO := Lib.hid (hms.symm ▸ hno)
    clear hin hno hx0 hb0 hZ hid hgr h hms hGv hv hG hne
    generalize (linesIn gs s).length = len at HL hlen hpos hnz
    go_enter Tryz.func41, Tryz.ntmps41
    go_wp2_with fail
    rw [← hW]
    refine HL.out.mono ?_
    rintro r w' ⟨rfl, rfl⟩
    clear hW
    go_wp2_with fail
    go_quiet (fail)
    clear q1 q2 q3 q4 q5 q6
    have hZ1 : LineVar (W.drewN nq) (w.heap.size + 1) zeroLine := HZ.out
    have hB1 : Below w.heap.size w (W.drewN nq) := below_drewN' HB.out nq
    generalize W.drewN nq = W1 at hZ1 hB1 ⊢
    have hro := hZ1.row
    have HZ1 := Lib.hid hZ1
    have HB1 := Lib.hid hB1
    clear hZ1 hB1 HZ HB HX
    go_wp2
    refine bodyPost_ret (v := .tuple #[.agg (lineCells zeroLine), .bool false]) ?_ rfl ⟨.inl ⟨HNO.out, rfl⟩, below_grown HB1.out (grown_row _ _ _) HB1.out.size (by omega)⟩
    exact results_agg2 rfl Tryz.isAgg34 Tryz.sizeOf34 _ _ ⟨w.heap.size + 1, 0, none⟩ _ _ rfl rfl (HZ1.out.blk.setRow.rd.1) (HZ1.out.blk.setRow.rd.2)

end Go.Proofs.YtdjaphcelpchaaaGreatDoor

namespace Go.Proofs.YtdjaphcelpchaaaGreatDoor
open Go Go.RowKit Go.Proofs

theorem run_copy_line (w : World) (ty : TypeId) (g o dLen dCap : Nat) (a : Addr) (sLen sCap : Nat) (cur : Array Value) (t : TypeId) (cs : List Value)
    (hg : w.heap[g]? = some (.cells cur t (0, 0))) (hn : cs.length = Nat.min sLen dLen * 38)
    (hsrc : ∀ j v, cs[j]? = some v → w.cell? (a.add j) = some v) (hfit : o + cs.length ≤ cur.size) (h1 : ∀ v ∈ cs, v.oneCell' = true) :
    (Builtin.copy_ #[107, 107] ty #[.slice (some ⟨g, o, none⟩) dLen dCap, .slice (some a) sLen sCap]).run Tryz.prog w =
      .ok (goInt (Nat.min sLen dLen)) (w.setRow g (cur.toList.take o ++ cs ++ cur.toList.drop (o + cs.length)).toArray) := by
  have hl := run_loadCells_list (P := Tryz.prog) w a cs hsrc
  have hst := run_storeCells_at Tryz.prog g o t cs 0 cur w hg (by simpa using hfit) h1
  have hz := Tryz.sizeOf34 w
  rw [hn] at hl
  simp [Builtin.copy_, run_underlying Tryz.underlying107, Builtin.lenOf, Builtin.firstCells, hz, hl, hst]

theorem shape_of {w : World} {g t : Nat} {cur : Array Value} {fr : Nat × Nat} (h : w.heap[g]? = some (.cells cur t fr)) : w.shape? g = some (t, cur.size) := by
  unfold World.shape?
  rw [h]

/-- What stands in a row behind the two copies. -/
theorem row_shift (cur : List Value) (i n cap : Nat) (xs vs : List Value) (hc : cur.length = cap * 38) (hx : cur.take (n * 38) = xs) (hi : i < n) (hroom : n + 1 ≤ cap) :
    (((cur.take ((i + 1) * 38) ++ xs.drop (i * 38) ++ cur.drop ((n + 1) * 38)).take (i * 38)) ++ vs ++ (cur.take ((i + 1) * 38) ++ xs.drop (i * 38) ++ cur.drop ((n + 1) * 38)).drop ((i + 1) * 38)) = xs.take (i * 38) ++ vs ++ xs.drop (i * 38) ++ cur.drop ((n + 1) * 38) := by
  have h1 : (cur.take ((i + 1) * 38)).length = (i + 1) * 38 := by rw [List.length_take]; omega
  rw [List.append_assoc (cur.take ((i + 1) * 38)), List.take_append_of_le_length (by rw [h1]; omega), List.take_take, Nat.min_eq_left (by omega), List.drop_append_of_le_length (by rw [h1]; omega), List.drop_eq_nil_of_le (by rw [h1]; omega), List.nil_append]
  have h2 : xs.take (i * 38) = cur.take (i * 38) := by rw [← hx, List.take_take, Nat.min_eq_left (by omega)]
  rw [h2]
  simp [List.append_assoc]

set_option maxRecDepth 100000 in
set_option maxHeartbeats 4000000 in
theorem insert_shift (B : Nat) (g cap n i sb : Nat) (xs : List Value) (l : GLine) (w : World) (hone : refsOne l) (hxs : ∀ u ∈ xs, u.oneCell' = true) (hown : w.ownsRow B 34 38 (.slice (some ⟨g, 0, none⟩) n cap) n xs) (hn : n ≤ 65536) (hi : i < n) (hroom : n + 1 ≤ cap)
    (hsb : w.heap[sb]? = some (.cells (lineCells l) 34 (0, 0))) (hne : sb ≠ g) :
    Calls Tryz.prog 73 #[.slice (some ⟨g, 0, none⟩) n cap, .int .i64 i, .slice (some ⟨sb, 0, none⟩) 1 1] w fun r w' => ∃ v', r = .returned v' ∧ w'.ownsRow B 34 38 v' (n + 1) (xs.take (i * 38) ++ lineList l ++ xs.drop (i * 38)) ∧ w.grownBy w' (some g) ∧ (v'.ownBlock = some g ∨ v'.ownBlock = some w.heap.size) := by
  rcases hown.2 with ⟨e, _⟩ | ⟨g', cap', cur, e, hBg, hcur, hle, hmx, hcs, htk⟩
  · cases e
  cases e
  have hxl := hown.1
  unfold maxLen at hmx
  have hl38 := lineList_length l
  have hov : ∀ lb cb, (callFunc 109 #[.slice (some ⟨sb, 0, none⟩) 1 1, .slice (some ⟨g, (i + 1) * 38, none⟩) lb cb]).run Tryz.prog w = .ok (.value (.bool false)) w := fun lb cb => by
    rw [run_callFunc_extern Tryz.func109 (by kernel_rfl) (by kernel_rfl) (by kernel_rfl) (e := Extern.SlicesOverlaps.overlaps #[107, 107] #[4]) (by kernel_rfl),
      Lib.run_overlaps_apart w 107 4 34 Tryz.underlying107 38 Tryz.sizeOf34 ⟨sb, 0, none⟩ ⟨g, (i + 1) * 38, none⟩ 1 1 lb cb hne _ _ _ _ (shape_of hsb) (shape_of hcur) (by rw [hcs]; omega) (frozen_of_row w sb 0 _ _ hsb) (frozen_of_row w sb _ _ _ hsb)]
    rfl
  go_enter Tryz.func73, Tryz.ntmps73
  have hin : ((i : Int) == (n : Int)) = false := by rw [beq_eq_false_iff_ne]; omega
  have hle1 : (i : Int) ≤ (n : Int) := by omega
  have hroomz : ¬ (cap : Int) < (n : Int) + 1 := by omega
  have hci : ¬ cap = i := by omega
  have hci1 : ¬ cap = i + 1 := by omega
  go_wp2_with (simp only [hov])
  clear hov
  have hcp1 : ∀ ty dc sc, (Builtin.copy_ #[107, 107] ty #[.slice (some ⟨g, (i + 1) * 38, none⟩) (n - i) dc, .slice (some ⟨g, i * 38, none⟩) (n + 1 - i) sc]).run Tryz.prog w.drew = .ok (goInt (Nat.min (n + 1 - i) (n - i))) (w.drew.setRow g (cur.toList.take ((i + 1) * 38) ++ xs.drop (i * 38) ++ cur.toList.drop ((n + 1) * 38)).toArray) := fun ty dc sc => by
    have h1 : (xs.drop (i * 38)).length = (n - i) * 38 := by rw [List.length_drop, hxl]; omega
    have := run_copy_line w.drew ty g ((i + 1) * 38) (n - i) dc ⟨g, i * 38, none⟩ (n + 1 - i) sc cur 34 (xs.drop (i * 38)) hcur (by rw [h1, show Nat.min (n + 1 - i) (n - i) = n - i from Nat.min_eq_right (by omega)])
      (fun j u hj => by
        rw [List.getElem?_drop] at hj
        have h2 := World.ownsRow.cells hown (g := g) rfl (i * 38 + j) u hj
        rw [Addr.add_lit, Nat.zero_add] at h2
        rw [Addr.add_lit, World.cell?_drew]
        exact h2) (by rw [h1, hcs]; have : (n + 1) * 38 ≤ cap * 38 := Nat.mul_le_mul_right _ hroom; omega) (fun u hu => hxs u (List.mem_of_mem_drop hu))
    rw [this, h1, show (i + 1) * 38 + (n - i) * 38 = (n + 1) * 38 by omega]
  obtain ⟨W1, hW1⟩ : ∃ W1, W1 = w.drew.setRow g (cur.toList.take ((i + 1) * 38) ++ xs.drop (i * 38) ++ cur.toList.drop ((n + 1) * 38)).toArray := ⟨_, rfl⟩
  rw [← hW1] at hcp1
  have hg1 : w.grownBy W1 (some g) := by rw [hW1]; exact grown_trans (b := w.drew) ⟨rfl, rfl, rfl, Nat.le_refl _, fun _ _ _ => rfl⟩ (grown_row w.drew g _)
  have hr1 : W1.heap[g]? = some (.cells (cur.toList.take ((i + 1) * 38) ++ xs.drop (i * 38) ++ cur.toList.drop ((n + 1) * 38)).toArray 34 (0, 0)) := by rw [hW1]; exact setRow_heap w.drew g _ _ _ _ hcur
  have hs1 : W1.heap[sb]? = some (.cells (lineCells l) 34 (0, 0)) := (hg1.block sb (Array.getElem?_eq_some_iff.1 hsb).1 (fun e => hne (Option.some.inj e))).trans hsb
  have hk : (n + 1) * 38 ≤ cap * 38 := Nat.mul_le_mul_right _ hroom
  have hll : (cur.toList.take ((i + 1) * 38) ++ xs.drop (i * 38) ++ cur.toList.drop ((n + 1) * 38)).length = cap * 38 := by
    simp only [List.length_append, List.length_take, List.length_drop, hxl, Array.length_toList, hcs]
    omega
  have hcp2 : ∀ ty dc, (Builtin.copy_ #[107, 107] ty #[.slice (some ⟨g, i * 38, none⟩) (n + 1 - i) dc, .slice (some ⟨sb, 0, none⟩) 1 1]).run Tryz.prog W1 = .ok (goInt (Nat.min 1 (n + 1 - i))) (W1.setRow g (xs.take (i * 38) ++ lineList l ++ xs.drop (i * 38) ++ cur.toList.drop ((n + 1) * 38)).toArray) := fun ty dc => by
    have := run_copy_line W1 ty g (i * 38) (n + 1 - i) dc ⟨sb, 0, none⟩ 1 1 _ 34 (lineList l) hr1 (by rw [hl38, show Nat.min 1 (n + 1 - i) = 1 from Nat.min_eq_left (by omega)])
      (fun j u hj => by rw [Addr.add_lit, Nat.zero_add, cell_of_row W1 sb j _ _ _ hs1]; simpa [lineCells] using hj) (by rw [hl38, List.size_toArray, hll]; omega) (lineList_one hone)
    rw [this, hl38]
    simp only
    rw [show i * 38 + 38 = (i + 1) * 38 by omega, row_shift cur.toList i n cap xs (lineList l) (by rw [Array.length_toList, hcs]) htk hi hroom]
  have hfin : (W1.setRow g (xs.take (i * 38) ++ lineList l ++ xs.drop (i * 38) ++ cur.toList.drop ((n + 1) * 38)).toArray).ownsRow B 34 38 (.slice (some ⟨g, 0, none⟩) (n + 1) cap) (n + 1) (xs.take (i * 38) ++ lineList l ++ xs.drop (i * 38)) := by
    have h5 : (xs.take (i * 38) ++ lineList l ++ xs.drop (i * 38)).length = (n + 1) * 38 := by
      simp only [List.length_append, List.length_take, List.length_drop, hxl, hl38]
      omega
    refine ⟨h5, .inr ⟨g, cap, _, rfl, hBg, setRow_heap W1 g _ _ _ _ hr1, hroom, by unfold maxLen; omega, ?_, ?_⟩⟩
    · rw [List.size_toArray, List.length_append, h5, List.length_drop, Array.length_toList, hcs]; omega
    · rw [List.take_append_of_le_length (by rw [h5]; exact Nat.le_refl _), List.take_of_length_le (by rw [h5]; exact Nat.le_refl _)]
  have hgf : w.grownBy (W1.setRow g (xs.take (i * 38) ++ lineList l ++ xs.drop (i * 38) ++ cur.toList.drop ((n + 1) * 38)).toArray) (some g) := grown_trans hg1 (grown_row W1 g _)
  have HF := Lib.hid hfin
  have HG := Lib.hid hgf
  generalize hW2 : W1.setRow g (xs.take (i * 38) ++ lineList l ++ xs.drop (i * 38) ++ cur.toList.drop ((n + 1) * 38)).toArray = W2 at hcp2 HF HG
  clear hfin hgf hW2 hll hk hs1 hr1 hg1 hW1 hown hxs hxl hcs hsb hcur htk
  refine wp_region_mix0 [0, 1, 2, 3, 4, 5, 6, 7] [8] (fun w' => ∃ z : Later w, w' = z.1) (by kernel_rfl) (by kernel_rfl) (by kernel_rfl) ⟨⟨_, (Below.refl _ _).drew⟩, rfl⟩ ?_
  simp only [opsAt, List.map_cons, List.map_nil, Array.getD_eq_getD_getElem?, List.getElem?_toArray, List.getElem?_cons_zero, List.getElem?_cons_succ, Option.getD_some]
  repeat (go_big_quiet_step (fail))
  refine wpQuiet_nil ?_
  refine wpR_list [8] _ _ (by kernel_rfl) ?_
  simp only [opsAt, List.map_cons, List.map_nil, Array.getD_eq_getD_getElem?, List.getElem?_toArray, List.getElem?_cons_zero, List.getElem?_cons_succ, Option.getD_some]
  refine wpList_copy_runI _ rfl (.tmp 73) (.tmp 76) 107 107 rfl _ _ rfl rfl (hcp1 _ _ _) ?_
  go_wp2
  refine NoPanic.normal ?_
  go_wp2_with (refine wpList_copy_runI _ rfl (.tmp 80) (.tmp 81) 107 107 rfl _ _ rfl rfl (hcp2 _ _) ?_)
  go_ret
  exact ⟨_, rfl, HF.out, HG.out, .inl rfl⟩


theorem zero_line_size (k : Nat) : (Builtin.zeroCells (Value.agg (lineCells zeroLine)).cells k).size = k * 38 := by
  have h : (Value.agg (lineCells zeroLine)).cells.size = 38 := lineCells_size _
  simp [Builtin.zeroCells, h]

/-- What stands in a new row behind the two copies. -/
theorem row_grow (xs vs Z : List Value) (i n : Nat) (hxl : xs.length = n * 38) (hv : vs.length = 38) (hi : i < n) :
    let R1 := (xs.take (i * 38) ++ Z).take (i * 38) ++ vs ++ (xs.take (i * 38) ++ Z).drop (i * 38 + 38)
    R1.take ((i + 1) * 38) ++ xs.drop (i * 38) ++ R1.drop ((i + 1) * 38 + (n - i) * 38) = xs.take (i * 38) ++ vs ++ xs.drop (i * 38) ++ Z.drop ((n + 1 - i) * 38) := by
  have h1 : (xs.take (i * 38)).length = i * 38 := by rw [List.length_take, hxl]; omega
  have e1 : (xs.take (i * 38) ++ Z).take (i * 38) = xs.take (i * 38) := by rw [List.take_append_of_le_length (by rw [h1]; exact Nat.le_refl _), List.take_of_length_le (by rw [h1]; exact Nat.le_refl _)]
  have e2 : (xs.take (i * 38) ++ Z).drop (i * 38 + 38) = Z.drop 38 := by
    rw [List.drop_append, h1, List.drop_eq_nil_of_le (by rw [h1]; omega), List.nil_append, show i * 38 + 38 - i * 38 = 38 by omega]
  simp only
  rw [e1, e2]
  have h2 : (xs.take (i * 38) ++ vs).length = (i + 1) * 38 := by rw [List.length_append, h1, hv]; omega
  have e3 : (xs.take (i * 38) ++ vs ++ Z.drop 38).take ((i + 1) * 38) = xs.take (i * 38) ++ vs := by
    rw [List.take_append_of_le_length (by rw [h2]; exact Nat.le_refl _), List.take_of_length_le (by rw [h2]; exact Nat.le_refl _)]
  have e4 : (xs.take (i * 38) ++ vs ++ Z.drop 38).drop ((i + 1) * 38 + (n - i) * 38) = Z.drop ((n + 1 - i) * 38) := by
    rw [List.drop_append, h2, List.drop_eq_nil_of_le (by rw [h2]; omega), List.nil_append, List.drop_drop]
    congr 1
    omega
  rw [e3, e4]

set_option maxRecDepth 100000 in
set_option maxHeartbeats 4000000 in
theorem insert_grow (B : Nat) (g cap n i sb : Nat) (xs : List Value) (l : GLine) (w : World) (hone : refsOne l) (hxs : ∀ u ∈ xs, u.oneCell' = true) (hown : w.ownsRow B 34 38 (.slice (some ⟨g, 0, none⟩) n cap) n xs) (hB : B ≤ w.heap.size) (hn : n ≤ 65536) (hi : i < n) (hroom : cap < n + 1)
    (hsb : w.heap[sb]? = some (.cells (lineCells l) 34 (0, 0))) :
    Calls Tryz.prog 73 #[.slice (some ⟨g, 0, none⟩) n cap, .int .i64 i, .slice (some ⟨sb, 0, none⟩) 1 1] w fun r w' => ∃ v', r = .returned v' ∧ w'.ownsRow B 34 38 v' (n + 1) (xs.take (i * 38) ++ lineList l ++ xs.drop (i * 38)) ∧ w.grownBy w' (some g) ∧ (v'.ownBlock = some g ∨ v'.ownBlock = some w.heap.size) := by
  obtain ⟨i0, hi0, hz0, hz1, hz2⟩ := info_parts Tryz.info_line
  rcases hown.2 with ⟨e, _⟩ | ⟨g', cap', cur, e, hBg, hcur, hle, hmx, hcs, htk⟩
  · cases e
  cases e
  have hxl := hown.1
  obtain rfl : cap = n := by omega
  have hl38 := lineList_length l
  have hglt : g < w.heap.size := (Array.getElem?_eq_some_iff.1 hcur).1
  have hold : (Builtin.firstCells i0.size i (.slice (some ⟨g, 0, none⟩) i cap)).run Tryz.prog w.drew = .ok (xs.take (i * 38)).toArray w.drew := by
    rw [hz1]
    refine run_firstCells_some w.drew 38 i ⟨g, 0, none⟩ i cap (xs.take (i * 38)) (by rw [List.length_take, hxl]; omega) (fun j u hj => ?_)
    rw [List.getElem?_take] at hj
    split at hj
    · have h2 := World.ownsRow.cells hown (g := g) rfl j u hj
      rw [World.cell?_drew]; exact h2
    · cases hj
  obtain ⟨G, hG⟩ : ∃ G, G = grownCap w (cap + 1) cap 34 := ⟨_, rfl⟩
  have hGn : cap + 1 ≤ G := by rw [hG]; exact grownCap_ge w _ _ _
  have hG63 : G ≤ maxLen := by rw [hG]; exact grownCap_le_maxLen w (cap + 1) cap _ (by unfold maxLen; omega)
  obtain ⟨Z, hZ⟩ : ∃ Z : Array Value, Z = Builtin.zeroCells (Value.agg (lineCells zeroLine)).cells (cap + 1 - i) ++ Builtin.zeroCells (Value.agg (lineCells zeroLine)).cells (G - (cap + 1)) := ⟨_, rfl⟩
  have hZs : Z.size = (G - i) * 38 := by rw [hZ, Array.size_append, zero_line_size, zero_line_size]; omega
  have hkk : (cap : Int) + 1 - (i : Int) = ((cap + 1 - i : Nat) : Int) := by omega
  obtain ⟨W1, hW1⟩ : ∃ W1, W1 = w.drew.alloc (.cells ((xs.take (i * 38)).toArray ++ Z) 34) := ⟨_, rfl⟩
  have hrz : ∀ ty, (Builtin.append_ #[107, 3] ty #[.slice (some ⟨g, 0, none⟩) i cap, .int .i64 ((cap : Int) + 1 - (i : Int))]).run Tryz.prog w = .ok (.slice (some ⟨w.heap.size, 0, none⟩) (cap + 1) G) W1 := fun ty => by
    have h := Lib.run_append_grow_zeros w 107 3 ty 34 i0 _ .i64 .i64 Tryz.underlying107 Tryz.underlying3 hi0 hz0 (some ⟨g, 0, none⟩) i cap (xs.take (i * 38)) hold (cap + 1 - i) (by omega) (by rw [hz1]; omega) (by omega) (by omega) (by rw [hz2]; omega) (by rw [hz2, show i + (cap + 1 - i) = cap + 1 by omega]; exact growslice_fits (by omega) (by omega))
    rw [show i + (cap + 1 - i) = cap + 1 by omega, ← hG, Array.append_assoc, ← hZ, ← hW1] at h
    rw [hkk]
    exact h
  obtain ⟨N, hN⟩ : ∃ N, N = w.heap.size := ⟨_, rfl⟩
  rw [← hN] at hrz
  have hN1 : W1.heap[N]? = some (.cells ((xs.take (i * 38)).toArray ++ Z) 34 (0, 0)) := by rw [hW1, hN]; exact heap_alloc_new w.drew _
  have hb1 : Below w.heap.size w W1 := by rw [hW1]; exact ((Below.refl _ _).drew).alloc (Nat.le_refl _) _
  have hs1 : W1.heap[sb]? = some (.cells (lineCells l) 34 (0, 0)) := (hb1.block sb (Array.getElem?_eq_some_iff.1 hsb).1).trans hsb
  have hxt : (xs.take (i * 38)).length = i * 38 := by rw [List.length_take, hxl]; omega
  have hR0 : ((xs.take (i * 38)).toArray ++ Z).size = G * 38 := by rw [Array.size_append, List.size_toArray, hxt, hZs]; omega
  have hGk : (cap + 1) * 38 ≤ G * 38 := Nat.mul_le_mul_right _ hGn
  obtain ⟨R1, hR1⟩ : ∃ R1 : List Value, R1 = (xs.take (i * 38) ++ Z.toList).take (i * 38) ++ lineList l ++ (xs.take (i * 38) ++ Z.toList).drop (i * 38 + 38) := ⟨_, rfl⟩
  have hR1l : R1.length = G * 38 := by
    rw [hR1]
    simp only [List.length_append, List.length_take, List.length_drop, hxl, hl38, Array.length_toList, hZs]
    omega
  obtain ⟨W2, hW2⟩ : ∃ W2, W2 = W1.setRow N R1.toArray := ⟨_, rfl⟩
  have hcp1 : ∀ ty dc, (Builtin.copy_ #[107, 107] ty #[.slice (some ⟨N, i * 38, none⟩) (cap + 1 - i) dc, .slice (some ⟨sb, 0, none⟩) 1 1]).run Tryz.prog W1 = .ok (goInt (Nat.min 1 (cap + 1 - i))) W2 := fun ty dc => by
    have := run_copy_line W1 ty N (i * 38) (cap + 1 - i) dc ⟨sb, 0, none⟩ 1 1 _ 34 (lineList l) hN1 (by rw [hl38, show Nat.min 1 (cap + 1 - i) = 1 from Nat.min_eq_left (by omega)])
      (fun j u hj => by rw [Addr.add_lit, Nat.zero_add, cell_of_row W1 sb j _ _ _ hs1]; simpa [lineCells] using hj) (by rw [hl38, hR0]; omega) (lineList_one hone)
    rw [this, hl38, hW2, hR1]
    simp
  have hN2 : W2.heap[N]? = some (.cells R1.toArray 34 (0, 0)) := by rw [hW2]; exact setRow_heap W1 N _ _ _ _ hN1
  have hb2 : Below w.heap.size w W2 := by rw [hW2]; exact below_grown hb1 (grown_row W1 N _) hb1.size (by omega)
  obtain ⟨W3, hW3⟩ : ∃ W3, W3 = W2.drew.setRow N (xs.take (i * 38) ++ lineList l ++ xs.drop (i * 38) ++ Z.toList.drop ((cap + 1 - i) * 38)).toArray := ⟨_, rfl⟩
  have hcp2 : ∀ ty dc sc, (Builtin.copy_ #[107, 107] ty #[.slice (some ⟨N, (i + 1) * 38, none⟩) (cap - i) dc, .slice (some ⟨g, i * 38, none⟩) (cap - i) sc]).run Tryz.prog W2.drew = .ok (goInt (Nat.min (cap - i) (cap - i))) W3 := fun ty dc sc => by
    have h1 : (xs.drop (i * 38)).length = (cap - i) * 38 := by rw [List.length_drop, hxl]; omega
    have := run_copy_line W2.drew ty N ((i + 1) * 38) (cap - i) dc ⟨g, i * 38, none⟩ (cap - i) sc _ 34 (xs.drop (i * 38)) hN2 (by rw [h1, show Nat.min (cap - i) (cap - i) = cap - i from Nat.min_self _])
      (fun j u hj => by
        rw [List.getElem?_drop] at hj
        have h2 := World.ownsRow.cells hown (g := g) rfl (i * 38 + j) u hj
        rw [Addr.add_lit, Nat.zero_add] at h2
        rw [Addr.add_lit, World.cell?_drew, hb2.cell (p := ⟨g, i * 38 + j, none⟩) hglt]
        exact h2) (by rw [h1, List.size_toArray, hR1l]; omega) (fun u hu => hxs u (List.mem_of_mem_drop hu))
    rw [this, h1, hW3]
    have h6 := row_grow xs (lineList l) Z.toList i cap hxl hl38 hi
    simp only at h6
    rw [← hR1] at h6
    simp only
    rw [h6]
  have hfin : W3.ownsRow B 34 38 (.slice (some ⟨N, 0, none⟩) (cap + 1) G) (cap + 1) (xs.take (i * 38) ++ lineList l ++ xs.drop (i * 38)) := by
    have h5 : (xs.take (i * 38) ++ lineList l ++ xs.drop (i * 38)).length = (cap + 1) * 38 := by
      simp only [List.length_append, List.length_take, List.length_drop, hxl, hl38]
      omega
    refine ⟨h5, .inr ⟨N, G, _, rfl, by omega, by rw [hW3]; exact setRow_heap W2.drew N _ _ _ _ hN2, hGn, hG63, ?_, ?_⟩⟩
    · rw [List.size_toArray, List.length_append, h5, List.length_drop, Array.length_toList, hZs]; omega
    · rw [List.take_append_of_le_length (by rw [h5]; exact Nat.le_refl _), List.take_of_length_le (by rw [h5]; exact Nat.le_refl _)]
  have hb3 : Below w.heap.size w W3 := by rw [hW3]; exact below_grown (hb2.drew) (grown_row W2.drew N _) hb2.size (by omega)
  have HN := Lib.hid hN
  have HF := Lib.hid hfin
  have HG := Lib.hid (grown_below hb3 (some g))
  have hin : ((i : Int) == (cap : Int)) = false := by rw [beq_eq_false_iff_ne]; omega
  have hle1 : (i : Int) ≤ (cap : Int) := by omega
  have hci : ¬ cap = i := by omega
  have hGi : ¬ G = i := by omega
  have hGi1 : ¬ G = i + 1 := by omega
  have hG63z : G ≤ 9223372036854775807 := by unfold maxLen at hG63; omega
  have hGz : (cap : Int) + 1 ≤ (G : Int) := by omega
  clear hfin hb3 hW3 hb2 hN2 hW2 hR1l hR1 hR0 hxt hs1 hb1 hN1 hN hW1 hZs hZ hG hold hown hxs hsb hcur hcs htk hxl hGk hz0 hz1 hz2 hi0 hkk
  go_enter Tryz.func73, Tryz.ntmps73
  go_wp2_with (first
    | (at_builtin; refine Lib.wpList_append_run _ rfl _ _ _ _ rfl _ _ rfl rfl _ _ (hrz _) ?_)
    | (refine wpList_copy_runI _ rfl (.tmp 43) (.tmp 44) 107 107 rfl _ _ rfl rfl (hcp1 _ _) ?_))
  generalize goInt ((Nat.min 1 (cap + 1 - i) : Nat) : Int) = vmin
  go_simp
  refine wp_region_mix0 [0, 1, 2, 3, 4, 5, 6, 7] [8] (fun w' => ∃ z : Later W2, w' = z.1) (by kernel_rfl) (by kernel_rfl) (by kernel_rfl) ⟨⟨_, (Below.refl _ _).drew⟩, rfl⟩ ?_
  simp only [opsAt, List.map_cons, List.map_nil, Array.getD_eq_getD_getElem?, List.getElem?_toArray, List.getElem?_cons_zero, List.getElem?_cons_succ, Option.getD_some]
  repeat (go_big_quiet_step (fail))
  refine wpQuiet_nil ?_
  refine wpR_list [8] _ _ (by kernel_rfl) ?_
  simp only [opsAt, List.map_cons, List.map_nil, Array.getD_eq_getD_getElem?, List.getElem?_toArray, List.getElem?_cons_zero, List.getElem?_cons_succ, Option.getD_some]
  refine wpList_copy_runI _ rfl (.tmp 50) (.tmp 53) 107 107 rfl _ _ rfl rfl (hcp2 _ _ _) ?_
  go_wp2
  refine NoPanic.normal ?_
  go_wp2
  go_ret
  exact ⟨_, rfl, HF.out, HG.out, .inr (by rw [← HN.out]; rfl)⟩

set_option maxRecDepth 100000 in
set_option maxHeartbeats 1000000 in
theorem insert_end_at (B : Nat) (v : Value) (n sb : Nat) (xs : List Value) (g : GLine) (w : World) (hone : refsOne g) (hown : w.ownsRow B 34 38 v n xs) (hB : B ≤ w.heap.size) (hn : n ≤ 65536) (hsb : ∀ j u, (lineList g)[j]? = some u → w.cell? ((⟨sb, 0, none⟩ : Addr).add j) = some u) :
    Calls Tryz.prog 73 #[v, .int .i64 n, .slice (some ⟨sb, 0, none⟩) 1 1] w fun r w' => ∃ v', r = .returned v' ∧ w'.ownsRow B 34 38 v' (n + 1) (xs ++ lineList g) ∧ w.grownBy w' v.ownBlock ∧ (v'.ownBlock = v.ownBlock ∨ v'.ownBlock = some w.heap.size) := by
  obtain ⟨i0, hi, hz0, hz1, hz2⟩ := info_parts Tryz.info_line
  have HS := Lib.hid hsb
  clear hsb
  have hone2 := Lib.hid (lineList_one hone)
  have hl1 := lineList_length g
  have HW := Lib.hid hown
  rcases hown.2 with ⟨rfl, rfl⟩ | ⟨gb, cap, cur, rfl, hg, hcur, hle, hmx, hcs, htk⟩
  · clear hown
    go_enter Tryz.func73, Tryz.ntmps73
    go_wp2_with (at_builtin; refine wpList_append_own_at _ rfl (.tmp 23) (.tmp 24) 107 rfl B 34 i0 (.agg (lineCells zeroLine)) 38 112 Tryz.underlying107 hi hz0 hz1 hz2 (lineCells_size _) (by decide) _ _ _ rfl HW.out ⟨sb, 0, none⟩ 1 1 (lineList g) rfl hl1 HS.out hone2.out ?c3 ?c4 hB ?_)
    case c3 => unfold maxLen; omega
    case c4 => omega
    intro v' w2 hown' hgrow _ hat
    go_wp2
    go_ret
    exact ⟨v', rfl, hown', hgrow, hat⟩
  · clear hown
    unfold maxLen at hmx
    have heq : ((n : Int) == (n : Int)) = true := by simp
    have hle' : (n : Int) ≤ (cap : Int) := by omega
    by_cases hcn : cap = n
    · subst hcn
      go_enter Tryz.func73, Tryz.ntmps73
      go_wp2_with (at_builtin; refine wpList_append_own_at _ rfl (.tmp 23) (.tmp 24) 107 rfl B 34 i0 (.agg (lineCells zeroLine)) 38 112 Tryz.underlying107 hi hz0 hz1 hz2 (lineCells_size _) (by decide) _ _ _ rfl HW.out ⟨sb, 0, none⟩ 1 1 (lineList g) rfl hl1 HS.out hone2.out (by unfold maxLen; omega) (by omega) hB ?_)
      intro v' w2 hown' hgrow _ hat
      go_wp2
      go_ret
      exact ⟨v', rfl, hown', hgrow, hat⟩
    · have hcz : ¬ (cap : Int) = (n : Int) := by omega
      go_enter Tryz.func73, Tryz.ntmps73
      go_wp2_with (at_builtin; refine wpList_append_own_at _ rfl (.tmp 23) (.tmp 24) 107 rfl B 34 i0 (.agg (lineCells zeroLine)) 38 112 Tryz.underlying107 hi hz0 hz1 hz2 (lineCells_size _) (by decide) _ _ _ rfl HW.out ⟨sb, 0, none⟩ 1 1 (lineList g) rfl hl1 HS.out hone2.out (by unfold maxLen; omega) (by omega) hB ?_)
      intro v' w2 hown' hgrow _ hat
      go_wp2
      go_ret
      exact ⟨v', rfl, hown', hgrow, hat⟩


/-- slices.Insert of one line at any place. -/
theorem insert_any (B : Nat) (v : Value) (n i sb : Nat) (xs : List Value) (l : GLine) (w : World) (hone : refsOne l) (hxs : ∀ u ∈ xs, u.oneCell' = true) (hown : w.ownsRow B 34 38 v n xs) (hB : B ≤ w.heap.size) (hn : n ≤ 65536) (hi : i ≤ n)
    (hsb : w.heap[sb]? = some (.cells (lineCells l) 34 (0, 0))) (hne : v.ownBlock ≠ some sb) :
    Calls Tryz.prog 73 #[v, .int .i64 i, .slice (some ⟨sb, 0, none⟩) 1 1] w fun r w' => ∃ v', r = .returned v' ∧ w'.ownsRow B 34 38 v' (n + 1) (xs.take (i * 38) ++ lineList l ++ xs.drop (i * 38)) ∧ w.grownBy w' v.ownBlock ∧ (v'.ownBlock = v.ownBlock ∨ v'.ownBlock = some w.heap.size) := by
  by_cases h : i = n
  · subst h
    rw [List.take_of_length_le (by rw [hown.1]; exact Nat.le_refl _), List.drop_eq_nil_of_le (by rw [hown.1]; exact Nat.le_refl _), List.append_nil]
    exact insert_end_at B v i sb xs l w hone hown hB hn (fun j u hj => by rw [Addr.add_lit, Nat.zero_add, cell_of_row w sb j _ _ _ hsb]; simpa [lineCells] using hj)
  · rcases hown.2 with ⟨_, h0⟩ | ⟨g, cap, cur, rfl, hrest⟩
    · omega
    · by_cases hroom : n + 1 ≤ cap
      · exact insert_shift B g cap n i sb xs l w hone hxs hown hn (by omega) hroom hsb (fun e => hne (by rw [e]; rfl))
      · exact insert_grow B g cap n i sb xs l w hone hxs hown hB hn (by omega) (by omega) hsb

end Go.Proofs.YtdjaphcelpchaaaGreatDoor

namespace Go.Proofs.YtdjaphcelpchaaaGreatDoor
open Go Go.RowKit Go.Proofs

/-- The place of a number among numbers in order. -/
def posN (ns : List Int) (n : Int) : Nat := ns.countP fun k => decide (k < n)
theorem pos_between {ns : List Int} {n : Int} {i : Nat} (h : Between ns n i i) : i = posN ns n := by
  obtain ⟨_, h2, h3, h4⟩ := h
  unfold posN
  rw [← List.take_append_drop i ns, List.countP_append]
  have e1 : (ns.take i).countP (fun k => decide (k < n)) = (ns.take i).length := by
    rw [List.countP_eq_length]
    intro k hk
    obtain ⟨j, hj, rfl⟩ := List.mem_iff_getElem.1 hk
    rw [List.length_take] at hj
    rw [List.getElem_take]
    simpa using h3 j (by omega) (by omega)
  have e2 : (ns.drop i).countP (fun k => decide (k < n)) = 0 := by
    rw [List.countP_eq_zero]
    intro k hk
    obtain ⟨j, hj, rfl⟩ := List.mem_iff_getElem.1 hk
    rw [List.length_drop] at hj
    rw [List.getElem_drop]
    have := h4 (i + j) (by omega) (by omega)
    simp
    omega
  rw [e1, e2, List.length_take]
  omega

/-- A line put in at a place. -/
def addMs (ms : List ML) (i : Nat) (m : ML) : List ML := ms.take i ++ m :: ms.drop i
theorem flat_append (a b : List ML) : flatLines (a ++ b) = flatLines a ++ flatLines b := by simp [flatLines]
theorem flat_take (ms : List ML) (i : Nat) : (flatLines ms).take (i * 38) = flatLines (ms.take i) := by
  by_cases h : i ≤ ms.length
  · conv => lhs; rw [← List.take_append_drop i ms, flat_append]
    rw [List.take_append_of_le_length (by rw [flatLines_length, List.length_take]; omega), List.take_of_length_le (by rw [flatLines_length, List.length_take]; omega)]
  · rw [List.take_of_length_le (by rw [flatLines_length]; omega), List.take_of_length_le (by omega)]
theorem flat_drop (ms : List ML) (i : Nat) : (flatLines ms).drop (i * 38) = flatLines (ms.drop i) := by
  by_cases h : i ≤ ms.length
  · conv => lhs; rw [← List.take_append_drop i ms, flat_append]
    rw [List.drop_append_of_le_length (by rw [flatLines_length, List.length_take]; omega), List.drop_eq_nil_of_le (by rw [flatLines_length, List.length_take]; omega), List.nil_append]
  · rw [List.drop_eq_nil_of_le (by rw [flatLines_length]; omega), List.drop_eq_nil_of_le (by omega)]
    rfl
theorem flat_add (ms : List ML) (i : Nat) (m : ML) : flatLines (addMs ms i m) = (flatLines ms).take (i * 38) ++ lineList m.g ++ (flatLines ms).drop (i * 38) := by
  unfold addMs
  rw [flat_append, flat_take, flat_drop, List.append_assoc]
  rfl
theorem addMs_length {ms : List ML} {i : Nat} {m : ML} (h : i ≤ ms.length) : (addMs ms i m).length = ms.length + 1 := by
  unfold addMs
  simp only [List.length_append, List.length_take, List.length_cons, List.length_drop]
  omega
theorem addMs_perm (ms : List ML) (i : Nat) (m : ML) : (addMs ms i m).Perm (m :: ms) := by
  unfold addMs
  refine List.perm_middle.trans ?_
  rw [List.take_append_drop]
theorem addMs_mem {ms : List ML} {i : Nat} {m x : ML} : x ∈ addMs ms i m ↔ x = m ∨ x ∈ ms := by rw [(addMs_perm ms i m).mem_iff, List.mem_cons]

/-- What a group's data obeys, memory aside. -/
structure GrpPure (ms : List ML) (nl : List (KE Id32)) : Prop where
  agree : (nl.map fun e => (e.k, e.v)).Perm (ms.map fun m => (m.p.id, Value.int .i64 m.p.number))
  ids : (ms.map fun m => m.p.id).Nodup
  sorted : (nums ms).Pairwise (· < ·)
  good : ∀ m ∈ ms, pErr m.p = 0
theorem GrpAt.pure {B : Nat} {w : World} {G : MG} (h : GrpAt B w G) : GrpPure G.ms G.nl := ⟨h.agree, h.ids, h.sorted, h.good⟩
theorem GrpPure.nil : GrpPure [] [] := ⟨.nil, .nil, .nil, fun _ h => by cases h⟩
theorem GrpPure.add {ms : List ML} {nl : List (KE Id32)} (h : GrpPure ms nl) {i : Nat} {m : ML} (c : Nat) (hb : Between (nums ms) m.p.number i i) (hn : hasNum ms m.p.number = false) (hi : ∀ x ∈ ms, x.p.id ≠ m.p.id) (hg : pErr m.p = 0) :
    GrpPure (addMs ms i m) (nl ++ [⟨m.p.id, .int .i64 m.p.number, c⟩]) where
  agree := by
    rw [List.map_append]
    refine (List.perm_append_comm).trans ?_
    refine List.Perm.trans ?_ ((addMs_perm ms i m).symm.map _)
    simp only [List.map_cons, List.map_nil, List.singleton_append]
    exact h.agree.cons _
  ids := by
    rw [((addMs_perm ms i m).map _).nodup_iff, List.map_cons, List.nodup_cons]
    refine ⟨fun hm => ?_, h.ids⟩
    obtain ⟨x, hx, e⟩ := List.mem_map.1 hm
    exact hi x hx e
  sorted := by
    obtain ⟨_, h2, h3, h4⟩ := hb
    have hs := h.sorted
    have e : nums (addMs ms i m) = (nums ms).take i ++ m.p.number :: (nums ms).drop i := by simp [nums, addMs, List.map_take, List.map_drop]
    have hnm : m.p.number ∉ nums ms := fun hm => by
      unfold hasNum at hn
      rw [List.contains_iff_mem.2 hm] at hn
      cases hn
    have ht : ∀ a ∈ (nums ms).take i, a < m.p.number := fun a ha => by
      obtain ⟨j, hj, rfl⟩ := List.mem_iff_getElem.1 ha
      rw [List.length_take] at hj
      rw [List.getElem_take]
      exact h3 j (by omega) (by omega)
    have hd : ∀ a ∈ (nums ms).drop i, m.p.number < a := fun a ha => by
      have hne : a ≠ m.p.number := fun e => hnm (e ▸ List.mem_of_mem_drop ha)
      obtain ⟨j, hj, rfl⟩ := List.mem_iff_getElem.1 ha
      rw [List.length_drop] at hj
      rw [List.getElem_drop] at hne ⊢
      have := h4 (i + j) (by omega) (by omega)
      omega
    rw [e, List.pairwise_append, List.pairwise_cons]
    exact ⟨hs.sublist (List.take_sublist _ _), ⟨hd, hs.sublist (List.drop_sublist _ _)⟩, fun a ha b hb => by
      have h5 := ht a ha
      rcases List.mem_cons.1 hb with rfl | hb
      · exact h5
      · have := hd b hb
        omega⟩
  good x hx := by
    rcases addMs_mem.1 hx with rfl | hx
    · exact hg
    · exact h.good x hx

theorem apart_iff {ib M : Nat} {gs : List MG} : (foot ib M gs).Nodup ↔ ib ≠ M ∧ (∀ G ∈ gs, ib ∉ G.foot ∧ M ∉ G.foot ∧ G.foot.Nodup) ∧ gs.Pairwise (fun G H => ∀ x ∈ G.foot, ∀ y ∈ H.foot, x ≠ y) := by
  unfold foot
  rw [List.nodup_cons, List.nodup_cons, List.mem_cons, List.mem_flatMap, List.mem_flatMap]
  unfold List.Nodup
  rw [List.pairwise_flatMap]
  constructor
  · rintro ⟨h1, h2, h3, h4⟩
    exact ⟨fun e => h1 (.inl e), fun G hG => ⟨fun hx => h1 (.inr ⟨G, hG, hx⟩), fun hx => h2 ⟨G, hG, hx⟩, h3 G hG⟩, h4⟩
  · rintro ⟨h1, h2, h3⟩
    refine ⟨?_, ?_, fun G hG => (h2 G hG).2.2, h3⟩
    · rintro (e | ⟨G, hG, hx⟩)
      · exact h1 e
      · exact (h2 G hG).1 hx
    · rintro ⟨G, hG, hx⟩
      exact (h2 G hG).2.1 hx

/-- A group in the place of that with its name. -/
def swapG (gs : List MG) (s : ByteArray) (G' : MG) : List MG := gs.map fun H => if H.name = s then G' else H

theorem ownsRow_typed {B : Nat} {w : World} {t size n : Nat} {v : Value} {xs : List Value} (h : w.ownsRow B t size v n xs) {k : Nat} (hk : v.ownBlock = some k) : ∃ cur, w.heap[k]? = some (.cells cur t (0, 0)) := by
  rcases h.2 with ⟨rfl, _⟩ | ⟨g, cap, cur, rfl, _, hcur, _⟩
  · cases hk
  · cases hk
    exact ⟨cur, hcur⟩
theorem GrpAt.not_id {B : Nat} {w : World} {G : MG} (h : GrpAt B w G) {k : Nat} {cur : Array Value} (hk : w.heap[k]? = some (.cells cur 23 (0, 0))) : k ∉ G.foot := by
  intro hf
  unfold MG.foot at hf
  simp only [List.mem_append, List.mem_cons, List.mem_nil_iff, or_false, Option.mem_toList] at hf
  rcases hf with (rfl | rfl) | hf
  · rw [h.blk] at hk; cases hk
  · have := h.nums; unfold MapAt at this; rw [this] at hk; cases hk
  · obtain ⟨c2, h2⟩ := ownsRow_typed h.lines.row hf
    rw [h2] at hk; cases hk
theorem IdxAt.not_id {B : Nat} {w : World} {ib M mc : Nat} {gs : List MG} (h : IdxAt B w ib M gs mc) {k : Nat} {cur : Array Value} (hk : w.heap[k]? = some (.cells cur 23 (0, 0))) : k ∉ foot ib M gs := by
  intro hf
  unfold foot at hf
  simp only [List.mem_cons, List.mem_flatMap] at hf
  rcases hf with rfl | rfl | ⟨G, hG, hf⟩
  · rw [h.blk] at hk; cases hk
  · have := h.map; unfold MapAt at this; rw [this] at hk; cases hk
  · exact (h.grps G hG).not_id hk hf
theorem IdxAt.refs_out {B : Nat} {w : World} {ib M mc : Nat} {gs : List MG} (h : IdxAt B w ib M gs mc) {G : MG} (hG : G ∈ gs) {m : ML} (hm : m ∈ G.ms) {k : Nat} (hk : m.v.ownBlock = some k) : k < w.heap.size ∧ k ∉ foot ib M gs := by
  have h1 := (h.grps G hG).lines.refs m hm
  obtain ⟨cur, h2⟩ := ownsRow_typed h1 hk
  exact ⟨(h1.lt hk).2, h.not_id h2⟩

/-- All that lies outside a list of blocks stays. -/
structure Kept (F : List Nat) (w w' : World) : Prop where
  os : w'.os = w.os
  tape : w'.tape = w.tape
  output : w'.output = w.output
  size : w.heap.size ≤ w'.heap.size
  block : ∀ k, k < w.heap.size → k ∉ F → w'.heap[k]? = w.heap[k]?
theorem Kept.mono {F F' : List Nat} {w w' : World} (h : Kept F w w') (hs : ∀ k ∈ F, k < w.heap.size → k ∈ F') : Kept F' w w' := ⟨h.os, h.tape, h.output, h.size, fun k hk hn => h.block k hk fun hf => hn (hs k hf hk)⟩
theorem Kept.of_below {F : List Nat} {w w' : World} (h : Below w.heap.size w w') : Kept F w w' := ⟨h.os, h.tape, h.output, h.size, fun k hk _ => h.block k hk⟩
theorem Kept.trans {F F' : List Nat} {a b c : World} (h : Kept F a b) (h' : Kept F' b c) (hs : ∀ k ∈ F', k ∈ F ∨ a.heap.size ≤ k) : Kept F a c :=
  ⟨h'.os.trans h.os, h'.tape.trans h.tape, h'.output.trans h.output, Nat.le_trans h.size h'.size, fun k hk hn => (h'.block k (Nat.lt_of_lt_of_le hk h.size) fun hf => by rcases hs k hf with h1 | h1; exact hn h1; omega).trans (h.block k hk hn)⟩
theorem Kept.below {F : List Nat} {w w' : World} {B : Nat} (h : Kept F w w') (hB : B ≤ w.heap.size) (hF : ∀ k ∈ F, B ≤ k) : Below B w w' := ⟨h.os, h.tape, h.output, h.size, fun k hk => h.block k (by omega) fun hf => by have := hF k hf; omega⟩

/-- The new footprint: of the old one, or new. -/
def FootOk (F F' : List Nat) (w : World) : Prop := ∀ k ∈ F', k ∈ F ∨ w.heap.size ≤ k

theorem total_swapG : ∀ {gs : List MG} {s : ByteArray} {G G' : MG}, (gs.map fun G => G.name).Nodup → groupOf gs s = some G → total (swapG gs s G') + G.ms.length = total gs + G'.ms.length
  | H :: gs, s, G, G', hn, hg => by
    unfold groupOf at hg
    rw [List.find?_cons] at hg
    rw [List.map_cons, List.nodup_cons] at hn
    by_cases h : H.name = s
    · rw [decide_eq_true h] at hg
      cases hg
      have : swapG gs s G' = gs := by
        unfold swapG
        conv => rhs; rw [← List.map_id gs]
        refine List.map_congr_left fun K hK => ?_
        have : ¬ K.name = s := fun e => hn.1 (h ▸ e ▸ List.mem_map.2 ⟨K, hK, rfl⟩)
        rw [if_neg this]; rfl
      unfold total swapG at *
      rw [List.map_cons, if_pos h, List.map_cons, List.sum_cons, this, List.map_cons, List.sum_cons]
      omega
    · rw [decide_eq_false h] at hg
      have ih := total_swapG (G' := G') hn.2 hg
      unfold total swapG at *
      rw [List.map_cons, if_neg h, List.map_cons, List.sum_cons, List.map_cons, List.sum_cons]
      omega

theorem groupOf_swapG : ∀ {gs : List MG} {s : ByteArray} {G G' : MG} (t : ByteArray), groupOf gs s = some G → G'.name = s → groupOf (swapG gs s G') t = if t = s then some G' else groupOf gs t
  | H :: gs, s, G, G', t, hg, hn => by
    unfold groupOf at hg ⊢
    unfold swapG
    rw [List.find?_cons] at hg
    rw [List.map_cons, List.find?_cons]
    by_cases h : H.name = s
    · rw [decide_eq_true h] at hg
      rw [if_pos h]
      by_cases ht : t = s
      · rw [if_pos ht, decide_eq_true (hn.trans ht.symm)]
      · rw [if_neg ht, decide_eq_false (fun e => ht (e.symm.trans hn)), List.find?_cons, decide_eq_false (fun e => ht (e.symm.trans h))]
        simp only
        clear hg
        induction gs with
        | nil => rfl
        | cons K gs ih =>
          rw [List.map_cons, List.find?_cons, List.find?_cons]
          by_cases hK : K.name = s
          · rw [if_pos hK, decide_eq_false (fun e => ht (e.symm.trans hn)), decide_eq_false (fun e => ht (e.symm.trans hK))]
            exact ih
          · rw [if_neg hK]
            cases decide (K.name = t) with
            | true => rfl
            | false => exact ih
    · rw [decide_eq_false h] at hg
      rw [if_neg h, List.find?_cons]
      have ih := groupOf_swapG (gs := gs) t hg hn
      unfold groupOf swapG at ih
      by_cases ht : t = s
      · rw [if_pos ht] at ih ⊢
        rw [decide_eq_false (fun e => h (e.trans ht))]
        exact ih
      · rw [if_neg ht] at ih ⊢
        cases decide (H.name = t) with
        | true => rfl
        | false => exact ih
theorem linesIn_swapG {gs : List MG} {s : ByteArray} {G G' : MG} (t : ByteArray) (hg : groupOf gs s = some G) (hn : G'.name = s) : linesIn (swapG gs s G') t = if t = s then G'.ms else linesIn gs t := by
  unfold linesIn
  rw [groupOf_swapG t hg hn]
  by_cases h : t = s
  · rw [if_pos h, if_pos h]
  · rw [if_neg h, if_neg h]

theorem name_inj : ∀ {l : List MG}, (l.map fun G => G.name).Nodup → ∀ A ∈ l, ∀ C ∈ l, A.name = C.name → A = C := by
  intro l hl
  induction l with
  | nil => intro A hA; cases hA
  | cons D l ih =>
    rw [List.map_cons, List.nodup_cons] at hl
    intro A hA C hC he
    rcases List.mem_cons.1 hA with hA' | hA'
    · rcases List.mem_cons.1 hC with hC' | hC'
      · rw [hA', hC']
      · exact absurd (hA' ▸ he ▸ List.mem_map.2 ⟨C, hC', rfl⟩) hl.1
    · rcases List.mem_cons.1 hC with hC' | hC'
      · exact absurd (hC' ▸ List.mem_map.2 ⟨A, hA', he⟩) hl.1
      · exact ih hl.2 A hA' C hC' he

/-- A group changed in place. -/
theorem IdxAt.upd {B : Nat} {w w' : World} {ib M mc : Nat} {gs : List MG} (h : IdxAt B w ib M gs mc) {s : ByteArray} {G G' : MG} (hG : groupOf gs s = some G) (h1 : G'.name = G.name) (h2 : G'.born = G.born) (h3 : G'.gb = G.gb) (h4 : G'.nb = G.nb)
    (h5 : G'.v.ownBlock = G.v.ownBlock ∨ ∃ k, G'.v.ownBlock = some k ∧ w.heap.size ≤ k) (hG' : GrpAt B w' G') (hib : w'.heap[ib]? = some (.cells #[.map (some M), .int .i64 (total (swapG gs s G'))] 104 (0, 0)))
    (hk : Kept (ib :: G.foot) w w') (hfew : total (swapG gs s G') ≤ 65536) : IdxAt B w' ib M (swapG gs s G') mc ∧ FootOk (foot ib M gs) (foot ib M (swapG gs s G')) w := by
  obtain ⟨hGm, hGs⟩ := groupOf_mem hG
  obtain ⟨a1, a2, a3⟩ := apart_iff.1 h.apart
  have hnm : gs.Pairwise (fun G H => G.name ≠ H.name) := by
    have := h.names
    unfold List.Nodup at this
    rwa [List.pairwise_map] at this
  have hf' : ∀ k ∈ G'.foot, k ∈ G.foot ∨ w.heap.size ≤ k := by
    intro k hk'
    unfold MG.foot at hk' ⊢
    rw [h3, h4] at hk'
    simp only [List.mem_append, List.mem_cons, List.mem_nil_iff, or_false, Option.mem_toList] at hk' ⊢
    rcases hk' with hk' | hk'
    · exact .inl (.inl hk')
    · rcases h5 with h5 | ⟨k', h5, h6⟩
      · rw [h5] at hk'; exact .inl (.inr hk')
      · rw [h5] at hk'; cases hk'; exact .inr h6
  have hmem : ∀ H ∈ swapG gs s G', H = G' ∨ (H ∈ gs ∧ H.name ≠ s) := by
    intro H hH
    obtain ⟨K, hK, rfl⟩ := List.mem_map.1 hH
    by_cases e : K.name = s
    · rw [if_pos e]; exact .inl rfl
    · rw [if_neg e]; exact .inr ⟨hK, e⟩
  -- two groups of different names lie apart
  have hap : ∀ H ∈ gs, H.name ≠ s → ∀ x ∈ H.foot, x ∉ G.foot := by
    intro H hH hHs x hx hxG
    have hpw : ∀ {l : List MG}, l.Pairwise (fun G H => ∀ x ∈ G.foot, ∀ y ∈ H.foot, x ≠ y) → ∀ A ∈ l, ∀ C ∈ l, A.name ≠ C.name → ∀ x ∈ A.foot, x ∉ C.foot := by
      intro l hl
      induction l with
      | nil => intro A hA; cases hA
      | cons D l ih =>
        rw [List.pairwise_cons] at hl
        intro A hA C hC hne x hxA hxC
        rcases List.mem_cons.1 hA with hA' | hA'
        · rcases List.mem_cons.1 hC with hC' | hC'
          · exact hne (by rw [hA', hC'])
          · exact hl.1 C hC' x (hA' ▸ hxA) x hxC rfl
        · rcases List.mem_cons.1 hC with hC' | hC'
          · exact hl.1 A hA' x (hC' ▸ hxC) x hxA rfl
          · exact ih hl.2 A hA' C hC' hne x hxA hxC
    exact hpw a3 H hH G hGm (by rw [hGs]; exact hHs) x hx hxG
  have hG'ib : ib ∉ G'.foot := fun hx => by
    rcases hf' ib hx with h6 | h6
    · exact (a2 G hGm).1 h6
    · have := (h.foot_lt ib (by simp [foot])).2; omega
  have hG'M : M ∉ G'.foot := fun hx => by
    rcases hf' M hx with h6 | h6
    · exact (a2 G hGm).2.1 h6
    · have := (h.foot_lt M (by simp [foot])).2; omega
  have hG'n : G'.foot.Nodup := by
    have h6 := (a2 G hGm).2.2
    unfold MG.foot at h6 ⊢
    rw [h3, h4]
    rcases h5 with h5 | ⟨k', h5, h7⟩
    · rw [h5]; exact h6
    · rw [h5]
      have g1 := (Array.getElem?_eq_some_iff.1 (h.grps G hGm).blk).1
      have g2 := (h.grps G hGm).nums.lt
      simp only [List.cons_append, List.nil_append, List.nodup_cons, List.mem_cons, Option.mem_toList, Option.toList_some, List.mem_nil_iff, or_false, not_or] at h6 ⊢
      exact ⟨⟨h6.1.1, by omega⟩, by omega, by simp⟩
  refine ⟨{ blk := hib, map := ?_, names := ?_, grps := ?_, apart := ?_, born := ?_, young := ?_, few := hfew, ibB := h.ibB, MB := h.MB }, ?_⟩
  · have e : (swapG gs s G').map MG.e = gs.map MG.e := by
      unfold swapG
      rw [List.map_map]
      refine List.map_congr_left fun H hH => ?_
      simp only [Function.comp]
      by_cases e : H.name = s
      · rw [if_pos e]
        have : H = G := by
          exact name_inj h.names H hH G hGm (e.trans hGs.symm)
        subst this
        simp only [MG.e, h1, h2, h3]
      · rw [if_neg e]
    unfold MapAt
    rw [e, hk.block M h.map.lt (by rw [List.mem_cons, not_or]; exact ⟨fun e => a1 e.symm, (a2 G hGm).2.1⟩)]
    exact h.map
  · have e : (swapG gs s G').map (fun G => G.name) = gs.map (fun G => G.name) := by
      unfold swapG
      rw [List.map_map]
      refine List.map_congr_left fun H hH => ?_
      simp only [Function.comp]
      by_cases e : H.name = s
      · rw [if_pos e, h1, hGs, e]
      · rw [if_neg e]
    rw [e]; exact h.names
  · intro H hH
    rcases hmem H hH with rfl | ⟨hH, hHs⟩
    · exact hG'
    · refine (h.grps H hH).keep (fun k hkf => hk.block k ((h.grps H hH).foot_lt k hkf).2 ?_) (fun m hm k hkm => ?_)
      · rw [List.mem_cons, not_or]
        exact ⟨fun e => (a2 H hH).1 (e ▸ hkf), hap H hH hHs k hkf⟩
      · obtain ⟨g1, g2⟩ := h.refs_out hH hm hkm
        refine hk.block k g1 fun hx => g2 ?_
        unfold foot
        rw [List.mem_cons] at hx ⊢
        rcases hx with hx | hx
        · exact .inl hx
        · exact .inr (List.mem_cons.2 (.inr (List.mem_flatMap.2 ⟨G, hGm, hx⟩)))
  · rw [apart_iff]
    refine ⟨a1, fun H hH => ?_, ?_⟩
    · rcases hmem H hH with rfl | ⟨hH, hHs⟩
      · exact ⟨hG'ib, hG'M, hG'n⟩
      · exact a2 H hH
    · unfold swapG
      rw [List.pairwise_map]
      refine (List.Pairwise.and a3 hnm).imp_of_mem fun {A C} hA hC hAC => ?_
      obtain ⟨hAC, hne⟩ := hAC
      by_cases eA : A.name = s
      · by_cases eC : C.name = s
        · exact absurd (eA.trans eC.symm) hne
        · rw [if_pos eA, if_neg eC]
          intro x hx y hy e
          subst e
          rcases hf' x hx with h6 | h6
          · exact hap C hC eC x hy h6
          · have := ((h.grps C hC).foot_lt x hy).2; omega
      · by_cases eC : C.name = s
        · rw [if_neg eA, if_pos eC]
          intro x hx y hy e
          subst e
          rcases hf' x hy with h6 | h6
          · exact hap A hA eA x hx h6
          · have := ((h.grps A hA).foot_lt x hx).2; omega
        · rw [if_neg eA, if_neg eC]
          exact hAC
  · have e : (swapG gs s G').map (fun G => G.born) = gs.map (fun G => G.born) := by
      unfold swapG
      rw [List.map_map]
      refine List.map_congr_left fun H hH => ?_
      simp only [Function.comp]
      by_cases e : H.name = s
      · rw [if_pos e, h2]
        exact (congrArg MG.born (name_inj h.names H hH G hGm (e.trans hGs.symm))).symm
      · rw [if_neg e]
    rw [e]; exact h.born
  · intro H hH
    rcases hmem H hH with rfl | ⟨hH, hHs⟩
    · rw [h2]; exact h.young G hGm
    · exact h.young H hH
  · intro k hk'
    unfold foot at hk'
    simp only [List.mem_cons, List.mem_flatMap] at hk'
    rcases hk' with rfl | rfl | ⟨H, hH, hk'⟩
    · exact .inl (by simp [foot])
    · exact .inl (by simp [foot])
    · have hin : ∀ K ∈ gs, ∀ x ∈ K.foot, x ∈ foot ib M gs := fun K hK x hx => by
        unfold foot
        exact List.mem_cons.2 (.inr (List.mem_cons.2 (.inr (List.mem_flatMap.2 ⟨K, hK, hx⟩))))
      rcases hmem H hH with rfl | ⟨hH, hHs⟩
      · rcases hf' k hk' with h6 | h6
        · exact .inl (hin G hGm k h6)
        · exact .inr h6
      · exact .inl (hin H hH k hk')

theorem groupOf_none {gs : List MG} {s : ByteArray} (h : groupOf gs s = none) : ∀ G ∈ gs, G.name ≠ s := by
  intro G hG e
  unfold groupOf at h
  rw [List.find?_eq_none] at h
  exact h G hG (by simpa using e)
theorem linesIn_new {gs : List MG} {s : ByteArray} {G' : MG} (t : ByteArray) (hg : groupOf gs s = none) (hn : G'.name = s) : linesIn (gs ++ [G']) t = if t = s then G'.ms else linesIn gs t := by
  unfold linesIn groupOf at *
  rw [List.find?_append]
  by_cases h : t = s
  · rw [if_pos h, h, hg]
    simp [hn]
  · rw [if_neg h]
    cases hx : gs.find? (fun G => decide (G.name = t)) with
    | some K => rfl
    | none =>
      have : decide (G'.name = t) = false := decide_eq_false (fun e => h (e.symm.trans hn))
      simp [this]

/-- A group more. -/
theorem IdxAt.new {B : Nat} {w w' : World} {ib M mc : Nat} {gs : List MG} (h : IdxAt B w ib M gs mc) {s : ByteArray} {G' : MG} (hG : groupOf gs s = none) (h1 : G'.name = s) (h2 : G'.born = mc)
    (h5 : ∀ k ∈ G'.foot, w.heap.size ≤ k) (h6 : G'.foot.Nodup) (hG' : GrpAt B w' G') (hib : w'.heap[ib]? = some (.cells #[.map (some M), .int .i64 (total (gs ++ [G']))] 104 (0, 0)))
    (hM : MapAt ekS w' M ((gs ++ [G']).map MG.e) (mc + 1))
    (hk : Kept [ib, M] w w') (hfew : total (gs ++ [G']) ≤ 65536) : IdxAt B w' ib M (gs ++ [G']) (mc + 1) ∧ FootOk (foot ib M gs) (foot ib M (gs ++ [G'])) w := by
  obtain ⟨a1, a2, a3⟩ := apart_iff.1 h.apart
  have hno := groupOf_none hG
  have hib' := (h.foot_lt ib (by simp [foot])).2
  have hM' := (h.foot_lt M (by simp [foot])).2
  refine ⟨{ blk := hib, map := hM, names := ?_, grps := ?_, apart := ?_, born := ?_, young := ?_, few := hfew, ibB := h.ibB, MB := h.MB }, ?_⟩
  · rw [List.map_append]
    refine List.nodup_append.2 ⟨h.names, by simp, ?_⟩
    intro a ha b hb e
    obtain ⟨G, hG, rfl⟩ := List.mem_map.1 ha
    simp only [List.map_cons, List.map_nil, List.mem_singleton] at hb
    exact hno G hG (e.trans (hb.trans h1))
  · intro H hH
    rcases List.mem_append.1 hH with hH | hH
    · refine (h.grps H hH).keep (fun k hkf => hk.block k ((h.grps H hH).foot_lt k hkf).2 ?_) (fun m hm k hkm => ?_)
      · simp only [List.mem_cons, List.mem_nil_iff, or_false, not_or]
        exact ⟨fun e => (a2 H hH).1 (e ▸ hkf), fun e => (a2 H hH).2.1 (e ▸ hkf)⟩
      · obtain ⟨g1, g2⟩ := h.refs_out hH hm hkm
        refine hk.block k g1 fun hx => g2 ?_
        simp only [List.mem_cons, List.mem_nil_iff, or_false] at hx
        unfold foot
        rcases hx with rfl | rfl
        · simp
        · simp
    · cases List.mem_singleton.1 hH
      exact hG'
  · rw [apart_iff]
    refine ⟨a1, fun H hH => ?_, ?_⟩
    · rcases List.mem_append.1 hH with hH | hH
      · exact a2 H hH
      · cases List.mem_singleton.1 hH
        exact ⟨fun hx => by have := h5 ib hx; omega, fun hx => by have := h5 M hx; omega, h6⟩
    · rw [List.pairwise_append]
      refine ⟨a3, List.pairwise_singleton _ _, fun A hA C hC x hx y hy e => ?_⟩
      cases List.mem_singleton.1 hC
      have := ((h.grps A hA).foot_lt x hx).2
      have := h5 y hy
      omega
  · rw [List.map_append]
    refine List.nodup_append.2 ⟨h.born, by simp, ?_⟩
    intro a ha b hb e
    obtain ⟨G, hG, rfl⟩ := List.mem_map.1 ha
    simp only [List.map_cons, List.map_nil, List.mem_singleton] at hb
    have := h.young G hG
    omega
  · intro H hH
    rcases List.mem_append.1 hH with hH | hH
    · have := h.young H hH; omega
    · cases List.mem_singleton.1 hH
      omega
  · intro k hk'
    unfold foot at hk'
    simp only [List.mem_cons, List.mem_flatMap] at hk'
    rcases hk' with rfl | rfl | ⟨H, hH, hk'⟩
    · exact .inl (by simp [foot])
    · exact .inl (by simp [foot])
    · rcases List.mem_append.1 hH with hH | hH
      · left
        unfold foot
        exact List.mem_cons.2 (.inr (List.mem_cons.2 (.inr (List.mem_flatMap.2 ⟨H, hH, hk'⟩))))
      · cases List.mem_singleton.1 hH
        exact .inr (h5 k hk')
theorem total_new (gs : List MG) (G' : MG) : total (gs ++ [G']) = total gs + G'.ms.length := by
  unfold total
  simp

end Go.Proofs.YtdjaphcelpchaaaGreatDoor

namespace Go.Proofs.YtdjaphcelpchaaaGreatDoor
open Go Go.RowKit Go.Proofs

attribute [local go_sem ↓] ex_load_id ex_store_id ex_load_line ex_store_line ex_alloc_line ex_build_line

attribute [local go_sem] ld_id st_id ld_line st_line guard_id okCells_drew rdCells_drew okCells_drewN rdCells_drewN rowOk_drew rowOk_cells okCells_cells rdCells_cells setRow_drew setRow_new setRow_past

theorem search_at (B : Nat) (v : Value) (ms : List ML) (n : Int) (w : World) (h : LinesAt B w v ms) (hn : ms.length ≤ 65536) (hs : (nums ms).Pairwise (· < ·)) :
    Calls Tryz.prog 69 #[v, .int .i64 n] w fun r w' => r = .returned (.tuple #[.int .i64 (posN (nums ms) n), .bool (hasNum ms n)]) ∧ Below w.heap.size w w' := by
  refine (search_any B v ms n w h hn hs).mono ?_
  rintro r w' ⟨i, hi, rfl, hb⟩
  rw [pos_between hi]
  exact ⟨rfl, hb⟩
theorem between_pos {ns : List Int} (hs : ns.Pairwise (· < ·)) (n : Int) : Between ns n (posN ns n) (posN ns n) := by
  unfold posN
  induction ns with
  | nil => exact ⟨Nat.le_refl _, Nat.le_refl _, fun k h => absurd h (by simp), fun k h => absurd h (by simp)⟩
  | cons a ns ih =>
    rw [List.pairwise_cons] at hs
    obtain ⟨_, h2, h3, h4⟩ := ih hs.2
    by_cases ha : a < n
    · rw [List.countP_cons_of_pos (by simpa using ha)]
      refine ⟨Nat.le_refl _, by simpa using h2, fun k hk hki => ?_, fun k hk hki => ?_⟩
      · cases k with
        | zero => exact ha
        | succ k => exact h3 k (by simpa using hk) (by omega)
      · cases k with
        | zero => omega
        | succ k => exact h4 k (by simpa using hk) (by omega)
    · rw [List.countP_cons_of_neg (by simpa using ha)]
      have h0 : ns.countP (fun k => decide (k < n)) = 0 := by
        rw [List.countP_eq_zero]
        intro k hk
        have := hs.1 k hk
        simp
        omega
      rw [h0]
      refine ⟨Nat.le_refl _, Nat.zero_le _, fun k _ hk => absurd hk (Nat.not_lt_zero _), fun k hk _ => ?_⟩
      cases k with
      | zero => simp; omega
      | succ k =>
        have := hs.1 (ns[k]'(by simpa using hk)) (List.getElem_mem _)
        simp
        omega

theorem find_all (B ib M mc : Nat) (gs : List MG) (s : ByteArray) (x : Id32) (w : World) (h : IdxAt B w ib M gs mc) :
    Calls Tryz.prog 41 #[.pointer (some ⟨ib, 0, none⟩), .string s, .agg (encId x).toArray] w fun r w' => FindPost (linesIn gs s) x w r w' := by
  by_cases hne : linesIn gs s = []
  · refine (find_empty B ib M mc gs s x w h hne).mono ?_
    rintro r w' ⟨rfl, hb⟩
    exact ⟨.inl ⟨fun m hm => absurd (hne ▸ hm) (by simp), rfl⟩, hb⟩
  · exact find_any B ib M mc gs s x w h hne

/-- The error of Add. -/
def hasId (ms : List ML) (x : Id32) : Bool := ms.any fun m => decide (m.p.id = x)
def addErr (ms : List ML) (s : ByteArray) (p : PLine) : Int := if nameErr s ≠ 0 then nameErr s else if pErr p ≠ 0 then pErr p else if hasNum ms p.number || hasId ms p.id then 7 else 0

/-- What Add does. -/
structure Added (B ib M : Nat) (gs : List MG) (s : ByteArray) (p : PLine) (w w' : World) (gs' : List MG) (mc' : Nat) : Prop where
  idx : IdxAt B w' ib M gs' mc'
  kept : Kept (foot ib M gs) w w'
  foot : FootOk (Go.Proofs.YtdjaphcelpchaaaGreatDoor.foot ib M gs) (Go.Proofs.YtdjaphcelpchaaaGreatDoor.foot ib M gs') w
  lines : ∃ v, (∀ k, v.ownBlock = some k → w.heap.size ≤ k) ∧ ∀ t, linesIn gs' t = if t = s then addMs (linesIn gs s) (posN (nums (linesIn gs s)) p.number) ⟨p, v⟩ else linesIn gs t
  tot : total gs' = total gs + 1
def AddPost (B ib M : Nat) (gs : List MG) (s : ByteArray) (p : PLine) (w : World) (r : Ending) (w' : World) : Prop :=
  r = .returned (.int .i64 (addErr (linesIn gs s) s p)) ∧ ((addErr (linesIn gs s) s p ≠ 0 ∧ Below w.heap.size w w') ∨ (addErr (linesIn gs s) s p = 0 ∧ ∃ gs' mc', Added B ib M gs s p w w' gs' mc'))


theorem flat_cells {ms : List ML} (h : ∀ m ∈ ms, m.v.oneCell' = true) : ∀ u ∈ flatLines ms, u.oneCell' = true := by
  intro u hu
  unfold flatLines at hu
  obtain ⟨m, hm, hu⟩ := List.mem_flatMap.1 hu
  exact lineList_one (g := m.g) (h m hm) u hu

/-- What Add knows ahead of the insertion. -/
structure S21 (B ib gb nb lb tot M : Nat) (vL : Value) (ms : List ML) (nl : List (KE Id32)) (nc : Nat) (g : GLine) (ids : List Id32) (w : World) : Prop where
  grp : w.heap[gb]? = some (.cells #[vL, .map (some nb)] 115 (0, 0))
  num : MapAt ekI w nb nl nc
  lines : LinesAt B w vL ms
  line : LineVar w lb g
  idx : w.heap[ib]? = some (.cells #[.map (some M), .int .i64 tot] 104 (0, 0))
  vlb : vL.ownBlock ≠ some lb
  refs : IdsOwn 0 w g.refs ids
/-- The worlds between the reads and the store of region 21. -/
def Cls (gb lb : Nat) (vL : Value) (g : GLine) : Type := { w : World // w.cell? ⟨gb, 0, none⟩ = some vL ∧ LineVar w lb g }

theorem cells_ty {a b : Array Value} {s t : TypeId} {f f' : Nat × Nat} (h : some (Obj.cells a s f) = some (.cells b t f')) : s = t := by cases h; rfl
theorem S21.lts {B ib gb nb lb tot M : Nat} {vL : Value} {ms : List ML} {nl : List (KE Id32)} {nc : Nat} {g : GLine} {ids : List Id32} {w : World} (h : S21 B ib gb nb lb tot M vL ms nl nc g ids w) : gb < w.heap.size ∧ nb < w.heap.size ∧ lb < w.heap.size ∧ ib < w.heap.size :=
  ⟨(Array.getElem?_eq_some_iff.1 h.grp).1, h.num.lt, h.line.lt, (Array.getElem?_eq_some_iff.1 h.idx).1⟩
theorem S21.cls {B ib gb nb lb tot M : Nat} {vL : Value} {ms : List ML} {nl : List (KE Id32)} {nc : Nat} {g : GLine} {ids : List Id32} {w w' : World} (h : S21 B ib gb nb lb tot M vL ms nl nc g ids w) (hb : Below w.heap.size w w') : w'.cell? ⟨gb, 0, none⟩ = some vL ∧ LineVar w' lb g :=
  ⟨cell_of_row w' gb 0 _ _ _ ((hb.block gb h.lts.1).trans h.grp), h.line.below hb h.lts.2.2.1⟩
theorem S21.apart {B ib gb nb lb tot M : Nat} {vL : Value} {ms : List ML} {nl : List (KE Id32)} {nc : Nat} {g : GLine} {ids : List Id32} {w : World} (h : S21 B ib gb nb lb tot M vL ms nl nc g ids w) :
    vL.ownBlock ≠ some gb ∧ nb ≠ gb ∧ lb ≠ gb ∧ lb ≠ nb ∧ vL.ownBlock ≠ some nb ∧ vL.ownBlock ≠ some ib ∧ ib ≠ gb ∧ ib ≠ nb ∧ lb ≠ ib := by
  have hn := h.num
  have hl := h.line
  unfold MapAt at hn
  unfold LineVar at hl
  refine ⟨fun e => ?_, fun e => ?_, fun e => ?_, fun e => ?_, fun e => ?_, fun e => ?_, fun e => ?_, fun e => ?_, fun e => ?_⟩
  · obtain ⟨c, h1⟩ := ownsRow_typed h.lines.row e
    rw [h.grp] at h1; cases h1
  · rw [e, h.grp] at hn; cases hn
  · rw [e, h.grp] at hl; exact absurd (cells_ty hl) (by decide)
  · rw [e, hn] at hl; cases hl
  · obtain ⟨c, h1⟩ := ownsRow_typed h.lines.row e
    rw [hn] at h1; cases h1
  · obtain ⟨c, h1⟩ := ownsRow_typed h.lines.row e
    rw [h.idx] at h1; cases h1
  · have := h.idx; rw [e, h.grp] at this; cases this
  · have := h.idx; rw [e, hn] at this; cases this
  · rw [e, h.idx] at hl; exact absurd (cells_ty hl) (by decide)

/-- What Add leaves. -/
structure S24 (B ib gb nb tot M : Nat) (vL v' : Value) (ms' : List ML) (nl : List (KE Id32)) (nc : Nat) (w6 w' : World) : Prop where
  grp : w'.heap[gb]? = some (.cells #[v', .map (some nb)] 115 (0, 0))
  num : MapAt ekI w' nb nl nc
  lines : LinesAt B w' v' ms'
  idx : w'.heap[ib]? = some (.cells #[.map (some M), .int .i64 ((tot + 1 : Nat) : Int)] 104 (0, 0))
  own : v'.ownBlock = vL.ownBlock ∨ ∃ k, v'.ownBlock = some k ∧ w6.heap.size ≤ k
  kept : Kept (ib :: ([gb, nb] ++ vL.ownBlock.toList)) w6 w'
theorem IdsOwn.typed {B : Nat} {w : World} {v : Value} {ids : List Id32} (h : IdsOwn B w v ids) {k : Nat} (hk : v.ownBlock = some k) : ∃ cur, w.heap[k]? = some (.cells cur 23 (0, 0)) := ownsRow_typed h hk

/-- Where the group was there. -/
theorem added_old {B ib M mc : Nat} {gs : List MG} {s : ByteArray} {p : PLine} {w w6 w' : World} (h : IdxAt B w ib M gs mc) (hb : Below w.heap.size w w6) {G : MG} (hG : groupOf gs s = some G) {v' v : Value} (hv : ∀ k, v.ownBlock = some k → w.heap.size ≤ k) (hn : hasNum (linesIn gs s) p.number = false) (hi : hasId (linesIn gs s) p.id = false) (hp : pErr p = 0) (hfew : total gs < 65536)
    (hs : S24 B ib G.gb G.nb (total gs) M G.v v' (addMs G.ms (posN (nums (linesIn gs s)) p.number) ⟨p, v⟩) (G.nl ++ [⟨p.id, .int .i64 p.number, G.nc⟩]) (G.nc + 1) w6 w') : ∃ gs' mc', Added B ib M gs s p w w' gs' mc' := by
  obtain ⟨hGm, hGs⟩ := groupOf_mem hG
  have hms : linesIn gs s = G.ms := by unfold linesIn; rw [hG]
  have hgr := h.grps G hGm
  have hpos := between_pos (h.sorted s) p.number
  rw [hms] at hn hi hpos hs
  have hle : posN (nums G.ms) p.number ≤ G.ms.length := by have := hpos.2.1; rwa [nums_length] at this
  have hpure := hgr.pure.add (i := posN (nums G.ms) p.number) (m := ⟨p, v⟩) G.nc hpos hn (fun x hx e => by
    unfold hasId at hi
    rw [List.any_eq_false] at hi
    exact hi x hx (by simpa using e)) hp
  obtain ⟨G', hG'⟩ : ∃ G' : MG, G' = ⟨G.name, G.born, G.gb, G.nb, v', addMs G.ms (posN (nums G.ms) p.number) ⟨p, v⟩, G.nl ++ [⟨p.id, .int .i64 p.number, G.nc⟩], G.nc + 1⟩ := ⟨_, rfl⟩
  have hat : GrpAt B w' G' := by
    rw [hG']
    exact ⟨hs.grp, hs.lines, hs.num, hpure.agree, hpure.ids, hpure.sorted, hpure.good, hgr.named, by unfold addMs; simp, hgr.gbB, hgr.nbB⟩
  have ht := total_swapG (G' := G') h.names hG
  have hlen : G'.ms.length = G.ms.length + 1 := by rw [hG']; exact addMs_length hle
  have ht' : total (swapG gs s G') = total gs + 1 := by omega
  have hk : Kept (ib :: G.foot) w w' := by
    refine Kept.trans (F := ib :: G.foot) (F' := ib :: G.foot) (Kept.of_below hb) ?_ (fun k hk => .inl hk)
    exact hs.kept
  have := h.upd (w' := w') (G' := G') hG (by rw [hG']) (by rw [hG']) (by rw [hG']) (by rw [hG']) (by
      rw [hG']
      rcases hs.own with h1 | ⟨k, h1, h2⟩
      · exact .inl h1
      · exact .inr ⟨k, h1, by have := hb.size; omega⟩) hat (by rw [ht']; exact hs.idx) hk (by omega)
  refine ⟨_, mc, this.1, hk.mono fun k hk _ => ?_, this.2, ⟨v, hv, fun t => ?_⟩, ht'⟩
  · unfold foot
    rcases List.mem_cons.1 hk with rfl | hk
    · simp
    · exact List.mem_cons.2 (.inr (List.mem_cons.2 (.inr (List.mem_flatMap.2 ⟨G, hGm, hk⟩))))
  · rw [linesIn_swapG t hG (by rw [hG']; exact hGs), hms, hG']

/-- Where it was not. -/
theorem added_new {B ib M mc gb nb : Nat} {gs : List MG} {s : ByteArray} {p : PLine} {w w6 w' : World} (h : IdxAt B w ib M gs mc) (hG : groupOf gs s = none) {v' v : Value} (hv : ∀ k, v.ownBlock = some k → w.heap.size ≤ k) (hn : nameErr s = 0) (hp : pErr p = 0) (hfew : total gs < 65536)
    (hk6 : Kept [M] w w6) (hM6 : MapAt ekS w6 M (gs.map MG.e ++ [⟨s, .pointer (some ⟨gb, 0, none⟩), mc⟩]) (mc + 1)) (hgb : w.heap.size ≤ gb) (hnb : w.heap.size ≤ nb) (hgn : gb ≠ nb) (hgl : gb < w6.heap.size) (hnl : nb < w6.heap.size) (hib : ib ≠ M)
    (hs : S24 B ib gb nb (total gs) M (.slice none 0 0) v' (addMs [] (posN (nums (linesIn gs s)) p.number) ⟨p, v⟩) ([] ++ [⟨p.id, .int .i64 p.number, 0⟩]) (0 + 1) w6 w') : ∃ gs' mc', Added B ib M gs s p w w' gs' mc' := by
  have hms : linesIn gs s = [] := by unfold linesIn; rw [hG]
  have hB : B ≤ w.heap.size := by have := h.foot_lt ib (by simp [foot]); omega
  have hMl := h.map.lt
  rw [hms] at hs
  have hpure := GrpPure.nil.add (i := 0) (m := ⟨p, v⟩) 0 ⟨Nat.le_refl _, Nat.le_refl _, fun k h => absurd h (by simp [nums]), fun k h => absurd h (by simp [nums])⟩ rfl (fun x hx => by cases hx) hp
  obtain ⟨G', hG'⟩ : ∃ G' : MG, G' = ⟨s, mc, gb, nb, v', addMs [] (posN (nums []) p.number) ⟨p, v⟩, [] ++ [⟨p.id, .int .i64 p.number, 0⟩], 0 + 1⟩ := ⟨_, rfl⟩
  have hat : GrpAt B w' G' := by
    rw [hG']
    exact ⟨hs.grp, hs.lines, hs.num, hpure.agree, hpure.ids, hpure.sorted, hpure.good, hn, by unfold addMs; simp, by simp; omega, by simp; omega⟩
  have hown : ∀ k, v'.ownBlock = some k → w6.heap.size ≤ k := by
    intro k hk
    rcases hs.own with h1 | ⟨k', h1, h2⟩
    · rw [h1] at hk; cases hk
    · rw [h1] at hk; cases hk; exact h2
  have hfoot : ∀ k ∈ G'.foot, w.heap.size ≤ k := by
    intro k hk
    rw [hG'] at hk
    unfold MG.foot at hk
    simp only [List.mem_append, List.mem_cons, List.mem_nil_iff, or_false, Option.mem_toList] at hk
    rcases hk with (rfl | rfl) | hk
    · exact hgb
    · exact hnb
    · have := hown k hk; have := hk6.size; omega
  have hnod : G'.foot.Nodup := by
    rw [hG']
    unfold MG.foot
    cases hv : v'.ownBlock with
    | none => simp [hgn]
    | some k =>
      have := hown k hv
      simp [hgn]
      omega
  have ht' : total (gs ++ [G']) = total gs + 1 := by rw [total_new, hG']; rfl
  have hk : Kept [ib, M] w w' := by
    refine Kept.trans (F := [ib, M]) (hk6.mono fun k hk _ => by simp at hk ⊢; exact .inr hk) hs.kept (fun k hk => ?_)
    simp only [Value.ownBlock, Option.toList_none, List.append_nil, List.mem_cons, List.mem_nil_iff, or_false] at hk
    rcases hk with rfl | rfl | rfl
    · simp
    · exact .inr hgb
    · exact .inr hnb
  have hM' : MapAt ekS w' M ((gs ++ [G']).map MG.e) (mc + 1) := by
    unfold MapAt at hM6 ⊢
    rw [hs.kept.block M (by have := hk6.size; omega) (by simp [Value.ownBlock]; exact ⟨fun e => hib e.symm, by omega, by omega⟩), hM6, hG']
    simp only [List.map_append]
    rfl
  have := h.new (w' := w') (G' := G') hG (by rw [hG']) (by rw [hG']) hfoot hnod hat (by rw [ht']; exact hs.idx) hM' hk (by omega)
  refine ⟨_, mc + 1, this.1, hk.mono fun k hk _ => ?_, this.2, ⟨v, hv, fun t => ?_⟩, ht'⟩
  · unfold foot
    simp only [List.mem_cons, List.mem_nil_iff, or_false] at hk
    rcases hk with rfl | rfl
    · simp
    · simp
  · rw [linesIn_new t hG (by rw [hG']), hms, hG']

set_option maxRecDepth 100000 in
set_option maxHeartbeats 8000000 in
theorem add_any (B ib M mc : Nat) (gs : List MG) (s : ByteArray) (p : PLine) (v0 : Value) (w : World) (hG : Gl w) (h : IdxAt B w ib M gs mc) (hs : s.size ≤ maxLen) (hO : LineOk w (ML.g ⟨p, v0⟩) p.ids) (hI : IdsOwn 0 w v0 p.ids) (hfew : total gs < 65536) :
    Calls Tryz.prog 32 #[.pointer (some ⟨ib, 0, none⟩), .string s, .agg (lineCells (ML.g ⟨p, v0⟩))] w fun r w' => AddPost B ib M gs s p w r w' := by
  obtain ⟨g, hg⟩ : ∃ g, g = ML.g ⟨p, v0⟩ := ⟨_, rfl⟩
  have hgn : g.number = p.number := by rw [hg]; rfl
  have hgi : g.id = p.id := by rw [hg]; rfl
  have hgr : g.refs = v0 := by rw [hg]; rfl
  have hge : lineErr g p.ids = pErr p := by rw [hg]; rfl
  have hgv : ∀ v, { g with refs := v } = ML.g ⟨p, v⟩ := fun v => by rw [hg]; rfl
  rw [← hg] at hO ⊢
  rw [← hgr] at hI
  have hb0 : Below w.heap.size w (w.alloc (.cells (lineCells g) 34)) := (Below.refl _ _).alloc (Nat.le_refl _) _
  have hL0 : LineVar (w.alloc (.cells (lineCells g) 34)) w.heap.size g := heap_alloc_new _ _
  have HL0 := Lib.hid hL0
  have HB0 := Lib.hid hb0
  have HX := Lib.hid h
  have HO := Lib.hid hO
  have HI := Lib.hid hI
  have HGV := Lib.hid hgv
  have HGN := Lib.hid hgn
  have HGI := Lib.hid hgi
  have HGE := Lib.hid hge
  clear hL0 hb0 h hO hI hgv hgn hgi hge hg hgr
  go_enter Tryz.func32, Tryz.ntmps32
  go_wp2_with fail
  refine (nameCheck_any s _ (hG.later HB0.out) hs).mono ?_
  rintro r w1 ⟨rfl, hb1⟩
  have hL1 : LineVar w1 w.heap.size g := HL0.out.below hb1 (by simp)
  have hB1 : Below w.heap.size w w1 := HB0.out.trans (hb1.mono (by simp))
  have hs1 : w.heap.size < w1.heap.size := hL1.lt
  by_cases hne : nameErr s = 0
  case neg =>
    have HA : Hid (addErr (linesIn gs s) s p = nameErr s) := Lib.hid (by unfold addErr; rw [if_pos hne])
    have HB1 := Lib.hid hB1
    clear hb1 hL1 hB1 HL0 HB0
    generalize nameErr s = e at hne HA ⊢
    have hbe : (e != 0) = true := by simpa using hne
    have hbe2 : (e == 0) = false := by simpa using hne
    go_wp2
    go_ret
    exact ⟨by rw [HA.out]; try rfl, .inl ⟨by rw [HA.out]; exact hne, HB1.out⟩⟩
  have HNE := Lib.hid hne
  rw [hne]
  obtain ⟨o1, d1⟩ := hL1.rd
  have HL1 := Lib.hid hL1
  have HB1 := Lib.hid hB1
  clear hb1 hL1 hB1 HL0 HB0
  go_wp2_with fail
  refine (lineCheck_any g p.ids w1 (HO.out.below HB1.out)).mono ?_
  rintro r w2 ⟨rfl, hb2⟩
  rw [HGE.out]
  have hL2 : LineVar w2 w.heap.size g := HL1.out.below hb2 hs1
  have hB2 : Below w.heap.size w w2 := HB1.out.trans (hb2.mono HB1.out.size)
  have hs2 : w.heap.size < w2.heap.size := hL2.lt
  clear o1 d1 hb2 HL1 HB1 hs1
  by_cases hpe : pErr p = 0
  case neg =>
    have HA : Hid (addErr (linesIn gs s) s p = pErr p) := Lib.hid (by unfold addErr; rw [if_neg (by simpa using HNE.out), if_pos hpe])
    have HB2 := Lib.hid hB2
    clear hL2 hB2
    clear hne
    generalize pErr p = e at hpe HA ⊢
    have hbe : (e != 0) = true := by simpa using hpe
    have hbe2 : (e == 0) = false := by simpa using hpe
    go_wp2
    go_ret
    exact ⟨by rw [HA.out]; try rfl, .inl ⟨by rw [HA.out]; exact hpe, HB2.out⟩⟩
  have HPE := Lib.hid hpe
  rw [hpe]
  clear hpe hne
  have hX2 := HX.out.below hB2
  have n2 : ∀ z : Later w2, z.1.cell? ⟨w.heap.size, 0, none⟩ = some (.int .i64 g.number) := fun z => z.cell ((hL2.cell 0).trans (lc0 g))
  have HL2 := Lib.hid hL2
  have HB2 := Lib.hid hB2
  have c1 : ∀ z : Later w2, Calls Tryz.prog 68 #[.pointer (some ⟨ib, 0, none⟩), .string s] z.1 fun r w' => r = .returned (valueOf gs s) ∧ ∃ z' : Later w2, w' = z'.1 := fun z => Later.call ((linesOf_any B ib M mc gs s z.1 (hX2.below z.2)).mono fun _ _ ⟨a, b⟩ => ⟨a, b ▸ Below.refl _ _⟩)
  have c2 : ∀ z : Later w2, Calls Tryz.prog 69 #[valueOf gs s, .int .i64 g.number] z.1 fun r w' => r = .returned (.tuple #[.int .i64 (posN (nums (linesIn gs s)) g.number), .bool (hasNum (linesIn gs s) g.number)]) ∧ ∃ z' : Later w2, w' = z'.1 := fun z => Later.call (search_at B _ _ _ z.1 ((hX2.below z.2).lines s) (hX2.len s) (hX2.sorted s))
  obtain ⟨va, vc, hval⟩ := valueOf_slice hX2 s
  have HVAL := Lib.hid hval
  have C1 := Lib.hid c1
  have C2 := Lib.hid c2
  clear c1 c2 hL2 hB2 hX2 hval
  rw [HVAL.out] at C1 C2
  obtain ⟨pos, hpos⟩ : ∃ i : Nat, i = posN (nums (linesIn gs s)) g.number := ⟨_, rfl⟩
  rw [← hpos] at C2
  have HPOS := Lib.hid hpos
  clear hpos
  generalize (linesIn gs s).length = len at C1 C2 HVAL
  go_wp2_with fail
  refine wp_region_ht 10 (fun w' => ∃ z : Later w2, w' = z.1) (by kernel_rfl) (by kernel_rfl) ⟨⟨_, (Below.refl _ _).drew⟩, rfl⟩ ?_
  simp only [List.take_succ_cons, List.take_zero, List.drop_succ_cons, List.drop_zero]
  repeat (go_big_quiet_step (first | (go_at_call 68; exact C1.out _) | (go_at_call 69; exact C2.out _)))
  refine wpQuiet_nil ?_
  rintro _ ⟨z, rfl⟩
  clear n2 C1 C2
  obtain ⟨w3, hb3⟩ := z
  simp only
  have hL3 : LineVar w3 w.heap.size g := HL2.out.below hb3 hs2
  have hB3 : Below w.heap.size w w3 := HB2.out.trans (hb3.mono HB2.out.size)
  have hs3 : w.heap.size < w3.heap.size := hL3.lt
  clear HL2 HB2 hs2 hb3
  obtain ⟨o3, d3⟩ := hL3.idAt
  have HF := Lib.hid (find_all B ib M mc gs s g.id w3 (HX.out.below hB3))
  have HL3 := Lib.hid hL3
  have HB3 := Lib.hid hB3
  have hft : fitsRow 38 (lineCells zeroLine) = true := fits_line rfl
  have hzs : ((lineCells zeroLine).size == 38) = true := by rw [lineCells_size]; rfl
  clear hL3 hB3
  go_wp2_with fail
  refine HF.out.mono ?_
  rintro r w4 ⟨hres, hb4⟩
  have hL4 : LineVar w4 w.heap.size g := HL3.out.below hb4 hs3
  have hB4 : Below w.heap.size w w4 := HB3.out.trans (hb4.mono HB3.out.size)
  have hs4 : w.heap.size < w4.heap.size := hL4.lt
  clear o3 d3 HF HL3 HB3 hb4 hs3
  have hfound : ∃ fl : GLine, refsOne fl ∧ r = .returned (.tuple #[.agg (lineCells fl), .bool (hasId (linesIn gs s) p.id)]) := by
    rcases hres with ⟨hno, rfl⟩ | ⟨m, hm, hid, v, rfl, hIv⟩
    · refine ⟨zeroLine, rfl, ?_⟩
      have : hasId (linesIn gs s) p.id = false := by
        unfold hasId
        rw [List.any_eq_false]
        intro m hm
        have := hno m hm
        rw [HGI.out] at this
        simpa using this
      rw [this]
    · refine ⟨{ m.g with refs := v }, hIv.one, ?_⟩
      have : hasId (linesIn gs s) p.id = true := by
        unfold hasId
        rw [List.any_eq_true]
        exact ⟨m, hm, by rw [← HGI.out]; simpa using hid⟩
      rw [this]
  obtain ⟨fl, hfl, rfl⟩ := hfound
  clear hres
  have hb5 : Below w4.heap.size w4 (w4.alloc (.cells (lineCells fl) 34)) := (Below.refl _ _).alloc (Nat.le_refl _) _
  have hL5 : LineVar (w4.alloc (.cells (lineCells fl) 34)) w.heap.size g := hL4.below hb5 hs4
  have hB5 : Below w.heap.size w (w4.alloc (.cells (lineCells fl) 34)) := hB4.trans (hb5.mono hB4.size)
  have hs5 : w.heap.size < (w4.alloc (.cells (lineCells fl) 34)).heap.size := hL5.lt
  have HL5 := Lib.hid hL5
  have HB5 := Lib.hid hB5
  have hft2 := fits_line (g := fl) hfl
  have hzs2 : ((lineCells fl).size == 38) = true := by rw [lineCells_size]; rfl
  clear hb5 hL5 hB5 hL4 hB4 hs4
  rw [HGN.out]
  go_upto_region 11 with (fail)
  generalize w4.alloc (.cells (lineCells fl) 34) = w5 at HL5 HB5 hs5 ⊢
  clear hft hzs hft2 hzs2
  by_cases hdup : (hasNum (linesIn gs s) p.number || hasId (linesIn gs s) p.id) = true
  · have HA : Hid (addErr (linesIn gs s) s p = 7) := Lib.hid (by unfold addErr; rw [if_neg (by simpa using HNE.out), if_neg (by simpa using HPE.out), if_pos hdup])
    generalize hasNum (linesIn gs s) p.number = b1 at hdup ⊢
    generalize hasId (linesIn gs s) p.id = b2 at hdup ⊢
    cases b1 with
    | true =>
      go_wp2
      go_ret
      exact ⟨by rw [HA.out]; try rfl, .inl ⟨by rw [HA.out]; decide, HB5.out⟩⟩
    | false =>
      obtain rfl : b2 = true := by simpa using hdup
      go_wp2
      go_ret
      exact ⟨by rw [HA.out]; try rfl, .inl ⟨by rw [HA.out]; decide, HB5.out⟩⟩
  have HA : Hid (addErr (linesIn gs s) s p = 0) := Lib.hid (by unfold addErr; rw [if_neg (by simpa using HNE.out), if_neg (by simpa using HPE.out), if_neg hdup])
  obtain ⟨hn1, hn2⟩ : hasNum (linesIn gs s) p.number = false ∧ hasId (linesIn gs s) p.id = false := by simpa using hdup
  have HN1 := Lib.hid hn1
  have HN2 := Lib.hid hn2
  rw [hn1, hn2]
  clear hdup hn1 hn2
  have hX5 := HX.out.below HB5.out
  have hc0 := hX5.cell0
  have hc1 := hX5.cell1
  have hlk := hX5.look s
  have hlim : ¬ (65536 : Int) ≤ (total gs : Int) := by omega
  have hlim2 : decide ((total gs : Int) ≥ 65536) = false := by simp; omega
  have hmn := fun (u : World) => run_eql_map_nil (P := Tryz.prog) u 102 9 112 (some M) Tryz.underlying102
  cases hgo : groupOf gs s with
  | some G =>
    rw [hgo] at hlk
    simp only [Option.map_some, Option.getD_some] at hlk
    obtain ⟨hGm, hGs⟩ := groupOf_mem hgo
    have hgr := hX5.grps G hGm
    have hms : linesIn gs s = G.ms := by unfold linesIn; rw [hgo]
    have HS : Hid (S21 B ib G.gb G.nb w.heap.size (total gs) M G.v G.ms G.nl G.nc g p.ids w5) := Lib.hid {
      grp := hgr.blk
      num := hgr.nums
      lines := hgr.lines
      line := HL5.out
      idx := hX5.blk
      vlb := fun e => by have := (World.ownsRow.lt (HX.out.grps G hGm).lines.row _ e).2; omega
      refs := HI.out.below HB5.out }
    have HWS : Hid (w.heap.size ≤ w5.heap.size) := Lib.hid HB5.out.size
    have HEND : Hid (∀ w' v' v, (∀ k, v.ownBlock = some k → w.heap.size ≤ k) → S24 B ib G.gb G.nb (total gs) M G.v v' (addMs G.ms pos ⟨p, v⟩) (G.nl ++ [⟨p.id, .int .i64 p.number, G.nc⟩]) (G.nc + 1) w5 w' → ∃ gs' mc', Added B ib M gs s p w w' gs' mc') := Lib.hid (fun w' v' v hv h24 => added_old HX.out HB5.out hgo hv HN1.out HN2.out HPE.out hfew (by rw [← HGN.out, ← HPOS.out]; rw [HGN.out]; exact h24))
    have HKEY : Hid (findK p.id G.nl 0 = none) := Lib.hid (hgr.find_no fun m hm e => by
      have := HN2.out
      unfold hasId at this
      rw [List.any_eq_false] at this
      exact this m (hms ▸ hm) (by simpa using e))
    have HPL : Hid (pos ≤ G.ms.length) := Lib.hid (by
      have := (between_pos (hX5.sorted s) g.number).2.1
      rw [nums_length, hms] at this
      rw [HPOS.out, hms]; exact this)
    have HLEN : Hid (G.ms.length ≤ 65536) := Lib.hid (by rw [← hms]; exact hX5.len s)
    have HBB : Hid (B ≤ w5.heap.size) := Lib.hid (by have := (hX5.foot_lt ib (by simp [foot])); omega)
    clear hX5 hgr hms hGm hGs
    generalize G.gb = gb at hlk HS HEND
    generalize G.nb = nb at HS HEND
    generalize G.v = vL at HS HEND
    generalize G.ms = ms at HS HEND HPL HLEN
    generalize G.nl = nl at HS HEND HKEY
    generalize G.nc = nc at HS HEND
    go_upto_region 21 with (fail)
    clear hgo hlk hc0 hc1 hlim hlim2 hmn HL5 HB5 HX HN1 HN2 HVAL HPOS hs5 G
    obtain ⟨vla, vln, vlc, hvl⟩ : ∃ a n c, vL = .slice a n c := by
      rcases HS.out.lines.head with ⟨e, _⟩ | ⟨_, cap, e, _⟩
      · exact ⟨_, _, _, e⟩
      · exact ⟨_, _, _, e⟩
    have HVL := Lib.hid hvl
    haveI : Nonempty (Cls gb w.heap.size vL g) := ⟨⟨w5, HS.out.cls (Below.refl _ _)⟩⟩
    have q1 : ∀ z : Cls gb w.heap.size vL g, z.1.cell? ⟨gb, 0, none⟩ = some (.slice vla vln vlc) := fun z => hvl ▸ z.2.1
    have q2 : ∀ z : Cls gb w.heap.size vL g, okCells z.1 ⟨w.heap.size, 0, none⟩ 38 = true := fun z => z.2.2.rd.1
    have q3 : ∀ z : Cls gb w.heap.size vL g, rdCells z.1 ⟨w.heap.size, 0, none⟩ 38 = lineCells g := fun z => z.2.2.rd.2
    clear hvl
    refine wp_region_mix0 [0, 1, 2, 3, 4, 5, 6] [7, 8, 9, 10, 11, 12] (fun w' => ∃ z : Cls gb w.heap.size vL g, w' = z.1) (by kernel_rfl) (by kernel_rfl) (by kernel_rfl) ⟨⟨_, HS.out.cls (Below.refl _ _).drew⟩, rfl⟩ ?_
    simp only [opsAt, List.map_cons, List.map_nil, Array.getD_eq_getD_getElem?, List.getElem?_toArray, List.getElem?_cons_zero, List.getElem?_cons_succ, Option.getD_some]
    repeat (go_big_quiet_step (fail))
    refine wpQuiet_nil ?_
    clear q1 q2 q3
    have hbd : Below w5.heap.size w5 w5.drew := (Below.refl _ _).drew
    generalize w5.drew = w7 at hbd ⊢
    refine wpR_cons true rfl (by kernel_rfl) ?_
    go_wp2_with fail
    refine (clone_any 0 g p.ids w7 (HS.out.refs.below hbd) (by have := refs_len HPE.out; omega)).mono ?_
    rintro r w8 ⟨v, rfl, hI8, hb8⟩
    have hone := hI8.one
    have hb8' : Below w5.heap.size w5 w8 := hbd.trans (hb8.mono hbd.size)
    have hc8 := HS.out.cls hb8'
    obtain ⟨g8, hg8⟩ : ∃ g8 : GLine, g8 = ML.g ⟨p, v⟩ := ⟨_, rfl⟩
    have hone8 : refsOne g8 := by rw [hg8]; exact hone
    rw [HGV.out v, ← hg8]
    have HG8 := Lib.hid hg8
    clear hg8
    have HI8 := Lib.hid (hI8.mono hbd.size)
    obtain ⟨i0, hi, hz0, hz1, hz2⟩ := info_parts Tryz.info_line
    go_wp2_with fail
    refine ⟨fun _ => ⟨⟨_, hc8⟩, rfl⟩, wpR_cons true rfl (by kernel_rfl) ?_⟩
    refine wpList_buildSlice rfl 107 34 1 _ rfl (lineCells g8) i0 _ Tryz.underlying107 hi hz0 (by rw [hz1]; decide) (by rw [hz1]; decide) (by rw [hz1]; simp only [List.map_toArray, List.map_cons, List.map_nil]; refine fill_one _ _ 38 (lineCells_size _) ?_; rw [Array.size_map, Array.size_range]) ?_
    obtain ⟨w9, hw9⟩ : ∃ w9, w9 = w8.alloc (.cells (lineCells g8) 34) := ⟨_, rfl⟩
    have hb89 : Below w8.heap.size w8 w9 := by rw [hw9]; exact (Below.refl _ _).alloc (Nat.le_refl _) _
    have hb9 : Below w5.heap.size w5 w9 := hb8'.trans (hb89.mono hb8'.size)
    have hn9 : w9.heap[w8.heap.size]? = some (.cells (lineCells g8) 34 (0, 0)) := by rw [hw9]; exact heap_alloc_new _ _
    have hL9 := HS.out.lines.below hb9
    have hIns : Calls Tryz.prog 73 #[.slice vla vln vlc, .int .i64 pos, .slice (some ⟨w8.heap.size, 0, none⟩) 1 1] w9 fun r w' => ∃ v', r = .returned v' ∧ w'.ownsRow B 34 38 v' (ms.length + 1) ((flatLines ms).take (pos * 38) ++ lineList g8 ++ (flatLines ms).drop (pos * 38)) ∧ w9.grownBy w' vL.ownBlock ∧ (v'.ownBlock = vL.ownBlock ∨ v'.ownBlock = some w9.heap.size) := by
      have := insert_any B vL ms.length pos w8.heap.size (flatLines ms) g8 w9 hone8 (flat_cells fun m hm => (hL9.refs m hm).one) hL9.row (by have := HBB.out; have := hb9.size; omega) HLEN.out HPL.out hn9 (fun e => by have := (World.ownsRow.lt HS.out.lines.row _ e).2; have := hb8'.size; omega)
      rw [HVL.out] at this ⊢
      exact this
    rw [← hw9]
    have HIns := Lib.hid hIns
    have HB9 := Lib.hid hb9
    have HI9 := Lib.hid (HI8.out.below hb89)
    have hc9 := HS.out.cls hb9
    clear hIns hb9 hb89 hw9 hL9 hn9 HI8 hI8 hb8 hb8' hc8 hbd
    go_wp2_with fail
    refine ⟨fun _ => ⟨⟨_, hc9⟩, rfl⟩, wpR_cons true rfl (by kernel_rfl) ?_⟩
    clear hc9
    go_wp2_with fail
    refine HIns.out.mono ?_
    rintro r w10 ⟨v', rfl, hown, hgrow, hat⟩
    have e10 : ∀ k, k < w5.heap.size → vL.ownBlock ≠ some k → w10.heap[k]? = w5.heap[k]? := fun k hk hv => (hgrow.block k (by have := HB9.out.size; omega) (fun e => hv e.symm)).trans (HB9.out.block k hk)
    obtain ⟨d1, d2, d3, d4, d5, d6, d7, d8, d9⟩ := HS.out.apart
    obtain ⟨l1, l2, l3, l4⟩ := HS.out.lts
    have hg10 := (e10 gb l1 d1).trans HS.out.grp
    have hc10 : w10.cell? ⟨gb, 0, none⟩ = some vL ∧ LineVar w10 w.heap.size g := ⟨cell_of_row w10 gb 0 _ _ _ hg10, (e10 _ l3 HS.out.vlb).trans HS.out.line⟩
    obtain ⟨va, vc, hv'⟩ : ∃ va vc, v' = .slice (some ⟨va, 0, none⟩) (ms.length + 1) vc := by
      rcases hown.2 with ⟨_, h0⟩ | ⟨g', cap', _, e, _⟩
      · omega
      · exact ⟨g', cap', e⟩
    go_wp2_with fail
    refine ⟨fun _ => ⟨⟨_, hc10⟩, rfl⟩, wpR_list [10, 11, 12] _ _ (by kernel_rfl) ?_⟩
    simp only [opsAt, List.map_cons, List.map_nil, Array.getD_eq_getD_getElem?, List.getElem?_toArray, List.getElem?_cons_zero, List.getElem?_cons_succ, Option.getD_some]
    have hcg := hc10.1
    rw [HVL.out] at hcg
    have hfg := frozen_of_row w10 gb 0 _ _ hg10
    obtain ⟨w11, hw11⟩ : ∃ w11, w11 = w10.setCell ⟨gb, 0, none⟩ v' := ⟨_, rfl⟩
    have hg11 : w11.heap[gb]? = some (.cells #[v', .map (some nb)] 115 (0, 0)) := by rw [hw11]; exact heap_setCell_same w10 gb 0 _ _ v' hg10
    have e11 : ∀ k, k ≠ gb → w11.heap[k]? = w10.heap[k]? := fun k hk => by rw [hw11]; exact heap_setCell_other w10 ⟨gb, 0, none⟩ k _ hk
    have hs11 : w11.heap.size = w10.heap.size := by rw [hw11]; simp [World.setCell]
    have ho11 : w11.os = w10.os ∧ w11.tape = w10.tape ∧ w11.output = w10.output := by rw [hw11]; exact ⟨rfl, rfl, rfl⟩
    have HOWN := Lib.hid hown
    have HGROW := Lib.hid hgrow
    have HAT := Lib.hid hat
    have HE10 := Lib.hid e10
    have HG11 := Lib.hid hg11
    have HE11 := Lib.hid e11
    have HO11 := Lib.hid ho11
    have HC10 := Lib.hid hc10
    have HV' := Lib.hid hv'
    have HW11 := Lib.hid hw11
    have HS11 := Lib.hid hs11
    clear hown hgrow hat e10 hg11 e11 ho11 hg10 hc10 hw11 hs11
    subst hv'
    go_wp2
    refine NoPanic.normal ?_
    go_upto_region 22 with (fail)
    rw [← HW11.out]
    clear hcg hfg HW11 HIns
    have hL11 : LineVar w11 w.heap.size g := (HE11.out _ d3).trans HC10.out.2
    have hN11 : MapAt ekI w11 nb nl nc := ((HE11.out _ d2).trans (HE10.out nb l2 d5)).trans HS.out.num
    have hL11s := hL11.lt
    have q1 : ∀ z : Later w11, z.1.cell? ⟨gb, 1, none⟩ = some (.map (some nb)) := fun z => z.cell (cell_of_row w11 gb 1 _ _ _ HG11.out)
    have q2 : ∀ z : Later w11, okCells z.1 ⟨w.heap.size, 1, none⟩ 32 = true := fun z => (hL11.below z.2 hL11s).idAt.1
    have q3 : ∀ z : Later w11, rdCells z.1 ⟨w.heap.size, 1, none⟩ 32 = (encId p.id).toArray := fun z => (hL11.below z.2 hL11s).idAt.2.trans (by rw [HGI.out])
    have q4 : ∀ z : Later w11, z.1.cell? ⟨w.heap.size, 0, none⟩ = some (.int .i64 p.number) := fun z => ((hL11.below z.2 hL11s).cell 0).trans ((lc0 g).trans (by rw [HGN.out]))
    have HN11 := Lib.hid hN11
    clear hN11 hL11 hL11s
    refine wp_region_mix0 [0, 1, 2, 3, 4, 5, 6, 7] [8] (fun w' => ∃ z : Later w11, w' = z.1) (by kernel_rfl) (by kernel_rfl) (by kernel_rfl) ⟨⟨_, (Below.refl _ _).drew⟩, rfl⟩ ?_
    simp only [opsAt, List.map_cons, List.map_nil, Array.getD_eq_getD_getElem?, List.getElem?_toArray, List.getElem?_cons_zero, List.getElem?_cons_succ, Option.getD_some]
    repeat (go_big_quiet_step (fail))
    refine wpQuiet_nil ?_
    clear q1 q2 q3 q4
    have hup : (Instr.mapUpdate 113 (.map (some nb)) (.agg (encId p.id).toArray) (.int .i64 p.number)).run Tryz.prog w11.drew = .ok () (w11.drew.putObj nb (.map ((nl ++ [(⟨p.id, .int .i64 p.number, nc⟩ : KE Id32)]).map (enE ekI)).toArray (nc + 1))) :=
      put_new keyI Tryz.underlying113 w11.drew nb nl nc HN11.out p.id _ HKEY.out
    obtain ⟨w12, hw12⟩ : ∃ w12, w12 = w11.drew.putObj nb (.map ((nl ++ [(⟨p.id, .int .i64 p.number, nc⟩ : KE Id32)]).map (enE ekI)).toArray (nc + 1)) := ⟨_, rfl⟩
    have e12 : ∀ k, k ≠ nb → w12.heap[k]? = w11.heap[k]? := fun k hk => by rw [hw12, World.putObj_heap_other hk]; rfl
    have hs12 : w12.heap.size = w11.heap.size := by rw [hw12]; simp only [World.putObj, Array.size_setIfInBounds]; rfl
    have hN12 : MapAt ekI w12 nb (nl ++ [⟨p.id, .int .i64 p.number, nc⟩]) (nc + 1) := by rw [hw12]; exact MapAt.put (w := w11.drew) HN11.out
    have ho12 : w12.os = w11.os ∧ w12.tape = w11.tape ∧ w12.output = w11.output := by rw [hw12]; exact ⟨rfl, rfl, rfl⟩
    rw [← hw12] at hup
    have HE12 := Lib.hid e12
    have HS12 := Lib.hid hs12
    have HN12 := Lib.hid hN12
    have HO12 := Lib.hid ho12
    have hI12 := (e12 ib d8).trans ((HE11.out ib d7).trans ((HE10.out ib l4 d6).trans HS.out.idx))
    have HI12 := Lib.hid hI12
    clear hw12 e12 hs12 hN12 ho12 hI12
    refine wpR_list [8] _ _ (by kernel_rfl) ?_
    simp only [opsAt, List.map_cons, List.map_nil, Array.getD_eq_getD_getElem?, List.getElem?_toArray, List.getElem?_cons_zero, List.getElem?_cons_succ, Option.getD_some]
    go_wp2
    refine NoPanic.normal ?_
    have hci := cell_of_row w12 ib 1 _ _ _ HI12.out
    have hfi := frozen_of_row w12 ib 1 _ _ HI12.out
    clear hup
    go_wp2
    obtain ⟨w13, hw13⟩ : ∃ w13, w13 = w12.setCell ⟨ib, 1, none⟩ (.int .i64 ((total gs : Int) + 1)) := ⟨_, rfl⟩
    have hI13 : w13.heap[ib]? = some (.cells #[.map (some M), .int .i64 ((total gs + 1 : Nat) : Int)] 104 (0, 0)) := by
      rw [hw13]
      have := heap_setCell_same w12 ib 1 _ _ (.int .i64 ((total gs : Int) + 1)) HI12.out
      rw [this]
      rfl
    have e13 : ∀ k, k ≠ ib → w13.heap[k]? = w12.heap[k]? := fun k hk => by rw [hw13]; exact heap_setCell_other w12 ⟨ib, 1, none⟩ k _ hk
    have hs13 : w13.heap.size = w12.heap.size := by rw [hw13]; simp [World.setCell]
    have ho13 : w13.os = w12.os ∧ w13.tape = w12.tape ∧ w13.output = w12.output := by rw [hw13]; exact ⟨rfl, rfl, rfl⟩
    rw [← hw13]
    have eAll : ∀ k, k ≠ ib → k ≠ gb → k ≠ nb → w13.heap[k]? = w10.heap[k]? := fun k k1 k2 k3 => (e13 k k1).trans ((HE12.out k k3).trans (HE11.out k k2))
    have h24 : S24 B ib gb nb (total gs) M vL (.slice (some ⟨va, 0, none⟩) (ms.length + 1) vc) (addMs ms pos ⟨p, v⟩) (nl ++ [⟨p.id, .int .i64 p.number, nc⟩]) (nc + 1) w5 w13 := by
      have hid : ∀ {k : Nat} {cur : Array Value}, w10.heap[k]? = some (Obj.cells cur 23 (0, 0)) → w13.heap[k]? = w10.heap[k]? := fun {k cur} hk => eAll k
        (fun e => by rw [e, HE10.out ib l4 d6, HS.out.idx] at hk; cases hk) (fun e => by rw [e, HE10.out gb l1 d1, HS.out.grp] at hk; cases hk)
        (fun e => by have h1 := HS.out.num; unfold MapAt at h1; rw [e, HE10.out nb l2 d5, h1] at hk; cases hk)
      refine ⟨(e13 gb (fun e => d7 e.symm)).trans ((HE12.out gb (fun e => d2 e.symm)).trans HG11.out), (e13 nb (fun e => d8 e.symm)).trans HN12.out, ⟨?_, ?_⟩, hI13, ?_, ?_⟩
      · have h1 := HOWN.out
        rw [HG8.out, ← flat_add, ← addMs_length HPL.out] at h1
        have h2 : (addMs ms pos ⟨p, v⟩).length = ms.length + 1 := addMs_length HPL.out
        rw [← h2]
        rw [h2] at h1 ⊢
        refine ⟨h1.1, ?_⟩
        rcases h1.2 with h0 | ⟨g', cap', cur, e, hg, hcur, hx⟩
        · exact .inl h0
        · refine .inr ⟨g', cap', cur, e, hg, (eAll g' (fun e => ?_) (fun e => ?_) (fun e => ?_)).trans hcur, hx⟩
          · rw [e, HE10.out ib l4 d6, HS.out.idx] at hcur; cases hcur
          · rw [e, HE10.out gb l1 d1, HS.out.grp] at hcur; cases hcur
          · have h3 := HS.out.num; unfold MapAt at h3; rw [e, HE10.out nb l2 d5, h3] at hcur; cases hcur
      · intro m hm
        rcases addMs_mem.1 hm with rfl | hm
        · have h1 := HI9.out
          refine (h1.mono (B' := B) HBB.out).block fun k hk => ?_
          obtain ⟨cur, h2⟩ := h1.typed hk
          have h3 : w10.heap[k]? = w9.heap[k]? := HGROW.out.block k (h1.lt hk).2 (fun e => by
            have h4 := (h1.lt hk).1
            have h5 := (World.ownsRow.lt HS.out.lines.row k e.symm).2
            omega)
          rw [hid (h3.trans h2), h3]
        · have h1 := HS.out.lines.refs m hm
          refine h1.block fun k hk => ?_
          obtain ⟨cur, h2⟩ := h1.typed hk
          have h3 : w10.heap[k]? = w5.heap[k]? := HE10.out k (h1.lt hk).2 (fun e => by
            obtain ⟨c3, h4⟩ := ownsRow_typed HS.out.lines.row e
            rw [h4] at h2; cases h2)
          rw [hid (h3.trans h2), h3]
      · rcases HAT.out with h1 | h1
        · exact .inl h1
        · exact .inr ⟨_, h1, HB9.out.size⟩
      · refine ⟨?_, ?_, ?_, ?_, fun k hk hn => ?_⟩
        · exact ho13.1.trans (HO12.out.1.trans (HO11.out.1.trans (HGROW.out.os.trans HB9.out.os)))
        · exact ho13.2.1.trans (HO12.out.2.1.trans (HO11.out.2.1.trans (HGROW.out.tape.trans HB9.out.tape)))
        · exact ho13.2.2.trans (HO12.out.2.2.trans (HO11.out.2.2.trans (HGROW.out.output.trans HB9.out.output)))
        · have h1 := HS12.out
          have h2 := HS11.out
          have h3 := HGROW.out.size
          have h4 := HB9.out.size
          omega
        · simp only [List.mem_cons, List.mem_append, List.mem_nil_iff, or_false, Option.mem_toList, not_or] at hn
          exact (eAll k hn.1 hn.2.1.1 hn.2.1.2).trans (HE10.out k hk hn.2.2)
    clear hw13 hI13 e13 hs13 ho13 eAll hci hfi
    go_ret
    exact ⟨by rw [HA.out]; try rfl, .inr ⟨HA.out, HEND.out _ _ v (fun k hk => Nat.le_trans HWS.out (HI9.out.lt hk).1) h24⟩⟩
  | none =>
    rw [hgo] at hlk
    simp only [Option.map_none, Option.getD_none] at hlk
    have hms : linesIn gs s = [] := by unfold linesIn; rw [hgo]
    have hMl := hX5.map.lt
    have hIl := (Array.getElem?_eq_some_iff.1 hX5.blk).1
    have hMw := HX.out.map.lt
    have hIw := (Array.getElem?_eq_some_iff.1 HX.out.blk).1
    have hib : ib ≠ M := (apart_iff.1 HX.out.apart).1
    have hmm := @run_makeMap Tryz.prog
    obtain ⟨W, hW⟩ : ∃ W, W = (w5.alloc (.map #[] 0)).alloc (.cells #[.slice none 0 0, .map (some w5.heap.size)] 115) := ⟨_, rfl⟩
    have hWM : MapAt ekS W M (gs.map MG.e) mc := by
      unfold MapAt
      rw [hW, heap_alloc_old _ _ (by simp; omega), heap_alloc_old _ _ hMl]
      exact hX5.map
    have hfk : findK s (gs.map MG.e) 0 = none := findK_none fun e he => by
      obtain ⟨G, hG, rfl⟩ := List.mem_map.1 he
      exact groupOf_none hgo G hG
    obtain ⟨arr, harr⟩ : ∃ arr : Value → Array MapEntry, ∀ v, arr v = ((gs.map MG.e ++ [(⟨s, v, mc⟩ : KE ByteArray)]).map (enE ekS)).toArray := ⟨_, fun _ => rfl⟩
    have hup : ∀ v, (Instr.mapUpdate 102 (.map (some M)) (.string s) v).run Tryz.prog ((w5.alloc (.map #[] 0)).alloc (.cells #[.slice none 0 0, .map (some w5.heap.size)] 115)) = .ok () (((w5.alloc (.map #[] 0)).alloc (.cells #[.slice none 0 0, .map (some w5.heap.size)] 115)).putObj M (.map (arr v) (mc + 1))) := fun v => by
      rw [← hW, harr]
      exact put_new keyS Tryz.underlying102 W M (gs.map MG.e) mc hWM s v hfk
    have hc6 : ((w5.alloc (.map #[] 0)).alloc (.cells #[.slice none 0 0, .map (some w5.heap.size)] 115)).cell? ⟨ib, 0, none⟩ = some (.map (some M)) := Lib.cell?_alloc_some _ (Lib.cell?_alloc_some _ hc0)
    have HX5 := Lib.hid hX5
    have HWM := Lib.hid hWM
    have HARR := Lib.hid harr
    clear hX5 hWM harr
    go_upto_region 21 with (fail)
    obtain ⟨gb, hgb⟩ : ∃ gb, gb = w5.heap.size + 1 := ⟨_, rfl⟩
    obtain ⟨nb, hnb⟩ : ∃ nb, nb = w5.heap.size := ⟨_, rfl⟩
    obtain ⟨w6, hw6⟩ : ∃ w6, w6 = ((w5.alloc (.map #[] 0)).alloc (.cells #[.slice none 0 0, .map (some w5.heap.size)] 115)).putObj M (.map (arr (.pointer (some ⟨w5.heap.size + 1, 0, none⟩))) (mc + 1)) := ⟨_, rfl⟩
    have hs6 : w6.heap.size = w5.heap.size + 2 := by rw [hw6]; simp [World.putObj]
    have blk6 : ∀ k, k < w5.heap.size → k ≠ M → w6.heap[k]? = w5.heap[k]? := fun k hk hkM => by
      rw [hw6, World.putObj_heap_other hkM, heap_alloc_old _ _ (by simp; omega), heap_alloc_old _ _ hk]
    have hM6 : MapAt ekS w6 M (gs.map MG.e ++ [⟨s, .pointer (some ⟨gb, 0, none⟩), mc⟩]) (mc + 1) := by
      rw [hw6, hgb, ← hW, HARR.out]
      exact HWM.out.put
    have hg6 : w6.heap[gb]? = some (.cells #[.slice none 0 0, .map (some nb)] 115 (0, 0)) := by
      rw [hw6, World.putObj_heap_other (by omega), hgb, hnb]
      have := heap_alloc_new (w5.alloc (.map #[] 0)) (.cells #[.slice none 0 0, .map (some w5.heap.size)] 115)
      simpa using this
    have hn6 : MapAt ekI w6 nb [] 0 := by
      unfold MapAt
      rw [hw6, World.putObj_heap_other (by omega), heap_alloc_old _ _ (by simp; omega), hnb, heap_alloc_new]
      rfl
    have hk6 : Kept [M] w w6 := by
      have h1 := HB5.out
      refine ⟨?_, ?_, ?_, by have := h1.size; omega, fun k hk hkM => (blk6 k (by have := h1.size; omega) (by simpa using hkM)).trans (h1.block k hk)⟩
      · rw [hw6]; exact h1.os
      · rw [hw6]; exact h1.tape
      · rw [hw6]; exact h1.output
    have HS : Hid (S21 B ib gb nb w.heap.size (total gs) M (.slice none 0 0) [] [] 0 g p.ids w6) := Lib.hid {
      grp := hg6
      num := hn6
      lines := ⟨World.ownsRow_nil _ _ _ _, fun m hm => by cases hm⟩
      line := (blk6 _ hs5 (by omega)).trans HL5.out
      idx := (blk6 _ hIl hib).trans HX5.out.blk
      vlb := by simp [Value.ownBlock]
      refs := (HI.out.below HB5.out).block fun k hk => by
        have h1 := HI.out.below HB5.out
        obtain ⟨cur, h2⟩ := h1.typed hk
        refine blk6 k (h1.lt hk).2 ?_
        rintro rfl
        have h3 := HX5.out.map
        unfold MapAt at h3
        rw [h3] at h2
        cases h2 }
    have hsz := HB5.out.size
    obtain ⟨nl, hnlz⟩ : ∃ nl : List (KE Id32), nl = [] := ⟨_, rfl⟩
    have HWS : Hid (w.heap.size ≤ w6.heap.size) := Lib.hid hk6.size
    have HEND : Hid (∀ w' v' v, (∀ k, v.ownBlock = some k → w.heap.size ≤ k) → S24 B ib gb nb (total gs) M (.slice none 0 0) v' (addMs [] pos ⟨p, v⟩) (nl ++ [⟨p.id, .int .i64 p.number, 0⟩]) (0 + 1) w6 w' → ∃ gs' mc', Added B ib M gs s p w w' gs' mc') := by
      rw [hnlz]
      exact Lib.hid (fun w' v' v hv h24 => added_new (nb := nb) HX.out hgo hv HNE.out HPE.out hfew hk6 hM6 (by omega) (by omega) (by omega) (by omega) (by omega) hib (by rw [← HGN.out, ← HPOS.out]; rw [HGN.out]; exact h24))
    have HKEY : Hid (findK p.id [] 0 = none) := Lib.hid rfl
    have HPL : Hid (pos ≤ ([] : List ML).length) := Lib.hid (by
      have := (between_pos (HX5.out.sorted s) g.number).2.1
      rw [nums_length, hms] at this
      rw [HPOS.out, hms]; exact this)
    have HLEN : Hid (([] : List ML).length ≤ 65536) := Lib.hid (by simp)
    have HBB : Hid (B ≤ w6.heap.size) := Lib.hid (by have := (HX5.out.foot_lt ib (by simp [foot])); omega)
    rw [← hw6, ← hgb, ← hnb]
    clear hw6 hgb hnb hs6 blk6 hM6 hg6 hn6 hk6 hgo hlk hc0 hc1 hlim hlim2 hmn HL5 HB5 HX HX5 HN1 HN2 HVAL HPOS hs5 hsz hms hMl hIl hMw hIw hib hmm hW hfk hup hc6 HWM HARR
    clear W arr
    obtain ⟨vL, hvL⟩ : ∃ v : Value, v = .slice none 0 0 := ⟨_, rfl⟩
    rw [← hvL] at HS HEND
    clear hvL
    obtain ⟨ms, hmsz⟩ : ∃ ms : List ML, ms = [] := ⟨_, rfl⟩
    rw [← hmsz] at HS HEND HPL HLEN
    clear hmsz
    rw [← hnlz] at HS HKEY
    clear hnlz
    obtain ⟨nc, hncz⟩ : ∃ nc : Nat, nc = 0 := ⟨_, rfl⟩
    rw [← hncz] at HS HEND
    clear hncz
    obtain ⟨vla, vln, vlc, hvl⟩ : ∃ a n c, vL = .slice a n c := by
      rcases HS.out.lines.head with ⟨e, _⟩ | ⟨_, cap, e, _⟩
      · exact ⟨_, _, _, e⟩
      · exact ⟨_, _, _, e⟩
    have HVL := Lib.hid hvl
    haveI : Nonempty (Cls gb w.heap.size vL g) := ⟨⟨w6, HS.out.cls (Below.refl _ _)⟩⟩
    have q1 : ∀ z : Cls gb w.heap.size vL g, z.1.cell? ⟨gb, 0, none⟩ = some (.slice vla vln vlc) := fun z => hvl ▸ z.2.1
    have q2 : ∀ z : Cls gb w.heap.size vL g, okCells z.1 ⟨w.heap.size, 0, none⟩ 38 = true := fun z => z.2.2.rd.1
    have q3 : ∀ z : Cls gb w.heap.size vL g, rdCells z.1 ⟨w.heap.size, 0, none⟩ 38 = lineCells g := fun z => z.2.2.rd.2
    clear hvl
    refine wp_region_mix0 [0, 1, 2, 3, 4, 5, 6] [7, 8, 9, 10, 11, 12] (fun w' => ∃ z : Cls gb w.heap.size vL g, w' = z.1) (by kernel_rfl) (by kernel_rfl) (by kernel_rfl) ⟨⟨_, HS.out.cls (Below.refl _ _).drew⟩, rfl⟩ ?_
    simp only [opsAt, List.map_cons, List.map_nil, Array.getD_eq_getD_getElem?, List.getElem?_toArray, List.getElem?_cons_zero, List.getElem?_cons_succ, Option.getD_some]
    repeat (go_big_quiet_step (fail))
    refine wpQuiet_nil ?_
    clear q1 q2 q3
    have hbd : Below w6.heap.size w6 w6.drew := (Below.refl _ _).drew
    generalize w6.drew = w7 at hbd ⊢
    refine wpR_cons true rfl (by kernel_rfl) ?_
    go_wp2_with fail
    refine (clone_any 0 g p.ids w7 (HS.out.refs.below hbd) (by have := refs_len HPE.out; omega)).mono ?_
    rintro r w8 ⟨v, rfl, hI8, hb8⟩
    have hone := hI8.one
    have hb8' : Below w6.heap.size w6 w8 := hbd.trans (hb8.mono hbd.size)
    have hc8 := HS.out.cls hb8'
    obtain ⟨g8, hg8⟩ : ∃ g8 : GLine, g8 = ML.g ⟨p, v⟩ := ⟨_, rfl⟩
    have hone8 : refsOne g8 := by rw [hg8]; exact hone
    rw [HGV.out v, ← hg8]
    have HG8 := Lib.hid hg8
    clear hg8
    have HI8 := Lib.hid (hI8.mono hbd.size)
    obtain ⟨i0, hi, hz0, hz1, hz2⟩ := info_parts Tryz.info_line
    go_wp2_with fail
    refine ⟨fun _ => ⟨⟨_, hc8⟩, rfl⟩, wpR_cons true rfl (by kernel_rfl) ?_⟩
    refine wpList_buildSlice rfl 107 34 1 _ rfl (lineCells g8) i0 _ Tryz.underlying107 hi hz0 (by rw [hz1]; decide) (by rw [hz1]; decide) (by rw [hz1]; simp only [List.map_toArray, List.map_cons, List.map_nil]; refine fill_one _ _ 38 (lineCells_size _) ?_; rw [Array.size_map, Array.size_range]) ?_
    obtain ⟨w9, hw9⟩ : ∃ w9, w9 = w8.alloc (.cells (lineCells g8) 34) := ⟨_, rfl⟩
    have hb89 : Below w8.heap.size w8 w9 := by rw [hw9]; exact (Below.refl _ _).alloc (Nat.le_refl _) _
    have hb9 : Below w6.heap.size w6 w9 := hb8'.trans (hb89.mono hb8'.size)
    have hn9 : w9.heap[w8.heap.size]? = some (.cells (lineCells g8) 34 (0, 0)) := by rw [hw9]; exact heap_alloc_new _ _
    have hL9 := HS.out.lines.below hb9
    have hIns : Calls Tryz.prog 73 #[.slice vla vln vlc, .int .i64 pos, .slice (some ⟨w8.heap.size, 0, none⟩) 1 1] w9 fun r w' => ∃ v', r = .returned v' ∧ w'.ownsRow B 34 38 v' (ms.length + 1) ((flatLines ms).take (pos * 38) ++ lineList g8 ++ (flatLines ms).drop (pos * 38)) ∧ w9.grownBy w' vL.ownBlock ∧ (v'.ownBlock = vL.ownBlock ∨ v'.ownBlock = some w9.heap.size) := by
      have := insert_any B vL ms.length pos w8.heap.size (flatLines ms) g8 w9 hone8 (flat_cells fun m hm => (hL9.refs m hm).one) hL9.row (by have := HBB.out; have := hb9.size; omega) HLEN.out HPL.out hn9 (fun e => by have := (World.ownsRow.lt HS.out.lines.row _ e).2; have := hb8'.size; omega)
      rw [HVL.out] at this ⊢
      exact this
    rw [← hw9]
    have HIns := Lib.hid hIns
    have HB9 := Lib.hid hb9
    have HI9 := Lib.hid (HI8.out.below hb89)
    have hc9 := HS.out.cls hb9
    clear hIns hb9 hb89 hw9 hL9 hn9 HI8 hI8 hb8 hb8' hc8 hbd
    go_wp2_with fail
    refine ⟨fun _ => ⟨⟨_, hc9⟩, rfl⟩, wpR_cons true rfl (by kernel_rfl) ?_⟩
    clear hc9
    go_wp2_with fail
    refine HIns.out.mono ?_
    rintro r w10 ⟨v', rfl, hown, hgrow, hat⟩
    have e10 : ∀ k, k < w6.heap.size → vL.ownBlock ≠ some k → w10.heap[k]? = w6.heap[k]? := fun k hk hv => (hgrow.block k (by have := HB9.out.size; omega) (fun e => hv e.symm)).trans (HB9.out.block k hk)
    obtain ⟨d1, d2, d3, d4, d5, d6, d7, d8, d9⟩ := HS.out.apart
    obtain ⟨l1, l2, l3, l4⟩ := HS.out.lts
    have hg10 := (e10 gb l1 d1).trans HS.out.grp
    have hc10 : w10.cell? ⟨gb, 0, none⟩ = some vL ∧ LineVar w10 w.heap.size g := ⟨cell_of_row w10 gb 0 _ _ _ hg10, (e10 _ l3 HS.out.vlb).trans HS.out.line⟩
    obtain ⟨va, vc, hv'⟩ : ∃ va vc, v' = .slice (some ⟨va, 0, none⟩) (ms.length + 1) vc := by
      rcases hown.2 with ⟨_, h0⟩ | ⟨g', cap', _, e, _⟩
      · omega
      · exact ⟨g', cap', e⟩
    go_wp2_with fail
    refine ⟨fun _ => ⟨⟨_, hc10⟩, rfl⟩, wpR_list [10, 11, 12] _ _ (by kernel_rfl) ?_⟩
    simp only [opsAt, List.map_cons, List.map_nil, Array.getD_eq_getD_getElem?, List.getElem?_toArray, List.getElem?_cons_zero, List.getElem?_cons_succ, Option.getD_some]
    have hcg := hc10.1
    rw [HVL.out] at hcg
    have hfg := frozen_of_row w10 gb 0 _ _ hg10
    obtain ⟨w11, hw11⟩ : ∃ w11, w11 = w10.setCell ⟨gb, 0, none⟩ v' := ⟨_, rfl⟩
    have hg11 : w11.heap[gb]? = some (.cells #[v', .map (some nb)] 115 (0, 0)) := by rw [hw11]; exact heap_setCell_same w10 gb 0 _ _ v' hg10
    have e11 : ∀ k, k ≠ gb → w11.heap[k]? = w10.heap[k]? := fun k hk => by rw [hw11]; exact heap_setCell_other w10 ⟨gb, 0, none⟩ k _ hk
    have hs11 : w11.heap.size = w10.heap.size := by rw [hw11]; simp [World.setCell]
    have ho11 : w11.os = w10.os ∧ w11.tape = w10.tape ∧ w11.output = w10.output := by rw [hw11]; exact ⟨rfl, rfl, rfl⟩
    have HOWN := Lib.hid hown
    have HGROW := Lib.hid hgrow
    have HAT := Lib.hid hat
    have HE10 := Lib.hid e10
    have HG11 := Lib.hid hg11
    have HE11 := Lib.hid e11
    have HO11 := Lib.hid ho11
    have HC10 := Lib.hid hc10
    have HV' := Lib.hid hv'
    have HW11 := Lib.hid hw11
    have HS11 := Lib.hid hs11
    clear hown hgrow hat e10 hg11 e11 ho11 hg10 hc10 hw11 hs11
    subst hv'
    go_wp2
    refine NoPanic.normal ?_
    go_upto_region 22 with (fail)
    rw [← HW11.out]
    clear hcg hfg HW11 HIns
    have hL11 : LineVar w11 w.heap.size g := (HE11.out _ d3).trans HC10.out.2
    have hN11 : MapAt ekI w11 nb nl nc := ((HE11.out _ d2).trans (HE10.out nb l2 d5)).trans HS.out.num
    have hL11s := hL11.lt
    have q1 : ∀ z : Later w11, z.1.cell? ⟨gb, 1, none⟩ = some (.map (some nb)) := fun z => z.cell (cell_of_row w11 gb 1 _ _ _ HG11.out)
    have q2 : ∀ z : Later w11, okCells z.1 ⟨w.heap.size, 1, none⟩ 32 = true := fun z => (hL11.below z.2 hL11s).idAt.1
    have q3 : ∀ z : Later w11, rdCells z.1 ⟨w.heap.size, 1, none⟩ 32 = (encId p.id).toArray := fun z => (hL11.below z.2 hL11s).idAt.2.trans (by rw [HGI.out])
    have q4 : ∀ z : Later w11, z.1.cell? ⟨w.heap.size, 0, none⟩ = some (.int .i64 p.number) := fun z => ((hL11.below z.2 hL11s).cell 0).trans ((lc0 g).trans (by rw [HGN.out]))
    have HN11 := Lib.hid hN11
    clear hN11 hL11 hL11s
    refine wp_region_mix0 [0, 1, 2, 3, 4, 5, 6, 7] [8] (fun w' => ∃ z : Later w11, w' = z.1) (by kernel_rfl) (by kernel_rfl) (by kernel_rfl) ⟨⟨_, (Below.refl _ _).drew⟩, rfl⟩ ?_
    simp only [opsAt, List.map_cons, List.map_nil, Array.getD_eq_getD_getElem?, List.getElem?_toArray, List.getElem?_cons_zero, List.getElem?_cons_succ, Option.getD_some]
    repeat (go_big_quiet_step (fail))
    refine wpQuiet_nil ?_
    clear q1 q2 q3 q4
    have hup : (Instr.mapUpdate 113 (.map (some nb)) (.agg (encId p.id).toArray) (.int .i64 p.number)).run Tryz.prog w11.drew = .ok () (w11.drew.putObj nb (.map ((nl ++ [(⟨p.id, .int .i64 p.number, nc⟩ : KE Id32)]).map (enE ekI)).toArray (nc + 1))) :=
      put_new keyI Tryz.underlying113 w11.drew nb nl nc HN11.out p.id _ HKEY.out
    obtain ⟨w12, hw12⟩ : ∃ w12, w12 = w11.drew.putObj nb (.map ((nl ++ [(⟨p.id, .int .i64 p.number, nc⟩ : KE Id32)]).map (enE ekI)).toArray (nc + 1)) := ⟨_, rfl⟩
    have e12 : ∀ k, k ≠ nb → w12.heap[k]? = w11.heap[k]? := fun k hk => by rw [hw12, World.putObj_heap_other hk]; rfl
    have hs12 : w12.heap.size = w11.heap.size := by rw [hw12]; simp only [World.putObj, Array.size_setIfInBounds]; rfl
    have hN12 : MapAt ekI w12 nb (nl ++ [⟨p.id, .int .i64 p.number, nc⟩]) (nc + 1) := by rw [hw12]; exact MapAt.put (w := w11.drew) HN11.out
    have ho12 : w12.os = w11.os ∧ w12.tape = w11.tape ∧ w12.output = w11.output := by rw [hw12]; exact ⟨rfl, rfl, rfl⟩
    rw [← hw12] at hup
    have HE12 := Lib.hid e12
    have HS12 := Lib.hid hs12
    have HN12 := Lib.hid hN12
    have HO12 := Lib.hid ho12
    have hI12 := (e12 ib d8).trans ((HE11.out ib d7).trans ((HE10.out ib l4 d6).trans HS.out.idx))
    have HI12 := Lib.hid hI12
    clear hw12 e12 hs12 hN12 ho12 hI12
    refine wpR_list [8] _ _ (by kernel_rfl) ?_
    simp only [opsAt, List.map_cons, List.map_nil, Array.getD_eq_getD_getElem?, List.getElem?_toArray, List.getElem?_cons_zero, List.getElem?_cons_succ, Option.getD_some]
    go_wp2
    refine NoPanic.normal ?_
    have hci := cell_of_row w12 ib 1 _ _ _ HI12.out
    have hfi := frozen_of_row w12 ib 1 _ _ HI12.out
    clear hup
    go_wp2
    obtain ⟨w13, hw13⟩ : ∃ w13, w13 = w12.setCell ⟨ib, 1, none⟩ (.int .i64 ((total gs : Int) + 1)) := ⟨_, rfl⟩
    have hI13 : w13.heap[ib]? = some (.cells #[.map (some M), .int .i64 ((total gs + 1 : Nat) : Int)] 104 (0, 0)) := by
      rw [hw13]
      have := heap_setCell_same w12 ib 1 _ _ (.int .i64 ((total gs : Int) + 1)) HI12.out
      rw [this]
      rfl
    have e13 : ∀ k, k ≠ ib → w13.heap[k]? = w12.heap[k]? := fun k hk => by rw [hw13]; exact heap_setCell_other w12 ⟨ib, 1, none⟩ k _ hk
    have hs13 : w13.heap.size = w12.heap.size := by rw [hw13]; simp [World.setCell]
    have ho13 : w13.os = w12.os ∧ w13.tape = w12.tape ∧ w13.output = w12.output := by rw [hw13]; exact ⟨rfl, rfl, rfl⟩
    rw [← hw13]
    have eAll : ∀ k, k ≠ ib → k ≠ gb → k ≠ nb → w13.heap[k]? = w10.heap[k]? := fun k k1 k2 k3 => (e13 k k1).trans ((HE12.out k k3).trans (HE11.out k k2))
    have h24 : S24 B ib gb nb (total gs) M vL (.slice (some ⟨va, 0, none⟩) (ms.length + 1) vc) (addMs ms pos ⟨p, v⟩) (nl ++ [⟨p.id, .int .i64 p.number, nc⟩]) (nc + 1) w6 w13 := by
      have hid : ∀ {k : Nat} {cur : Array Value}, w10.heap[k]? = some (Obj.cells cur 23 (0, 0)) → w13.heap[k]? = w10.heap[k]? := fun {k cur} hk => eAll k
        (fun e => by rw [e, HE10.out ib l4 d6, HS.out.idx] at hk; cases hk) (fun e => by rw [e, HE10.out gb l1 d1, HS.out.grp] at hk; cases hk)
        (fun e => by have h1 := HS.out.num; unfold MapAt at h1; rw [e, HE10.out nb l2 d5, h1] at hk; cases hk)
      refine ⟨(e13 gb (fun e => d7 e.symm)).trans ((HE12.out gb (fun e => d2 e.symm)).trans HG11.out), (e13 nb (fun e => d8 e.symm)).trans HN12.out, ⟨?_, ?_⟩, hI13, ?_, ?_⟩
      · have h1 := HOWN.out
        rw [HG8.out, ← flat_add, ← addMs_length HPL.out] at h1
        have h2 : (addMs ms pos ⟨p, v⟩).length = ms.length + 1 := addMs_length HPL.out
        rw [← h2]
        rw [h2] at h1 ⊢
        refine ⟨h1.1, ?_⟩
        rcases h1.2 with h0 | ⟨g', cap', cur, e, hg, hcur, hx⟩
        · exact .inl h0
        · refine .inr ⟨g', cap', cur, e, hg, (eAll g' (fun e => ?_) (fun e => ?_) (fun e => ?_)).trans hcur, hx⟩
          · rw [e, HE10.out ib l4 d6, HS.out.idx] at hcur; cases hcur
          · rw [e, HE10.out gb l1 d1, HS.out.grp] at hcur; cases hcur
          · have h3 := HS.out.num; unfold MapAt at h3; rw [e, HE10.out nb l2 d5, h3] at hcur; cases hcur
      · intro m hm
        rcases addMs_mem.1 hm with rfl | hm
        · have h1 := HI9.out
          refine (h1.mono (B' := B) HBB.out).block fun k hk => ?_
          obtain ⟨cur, h2⟩ := h1.typed hk
          have h3 : w10.heap[k]? = w9.heap[k]? := HGROW.out.block k (h1.lt hk).2 (fun e => by
            have h4 := (h1.lt hk).1
            have h5 := (World.ownsRow.lt HS.out.lines.row k e.symm).2
            omega)
          rw [hid (h3.trans h2), h3]
        · have h1 := HS.out.lines.refs m hm
          refine h1.block fun k hk => ?_
          obtain ⟨cur, h2⟩ := h1.typed hk
          have h3 : w10.heap[k]? = w6.heap[k]? := HE10.out k (h1.lt hk).2 (fun e => by
            obtain ⟨c3, h4⟩ := ownsRow_typed HS.out.lines.row e
            rw [h4] at h2; cases h2)
          rw [hid (h3.trans h2), h3]
      · rcases HAT.out with h1 | h1
        · exact .inl h1
        · exact .inr ⟨_, h1, HB9.out.size⟩
      · refine ⟨?_, ?_, ?_, ?_, fun k hk hn => ?_⟩
        · exact ho13.1.trans (HO12.out.1.trans (HO11.out.1.trans (HGROW.out.os.trans HB9.out.os)))
        · exact ho13.2.1.trans (HO12.out.2.1.trans (HO11.out.2.1.trans (HGROW.out.tape.trans HB9.out.tape)))
        · exact ho13.2.2.trans (HO12.out.2.2.trans (HO11.out.2.2.trans (HGROW.out.output.trans HB9.out.output)))
        · have h1 := HS12.out
          have h2 := HS11.out
          have h3 := HGROW.out.size
          have h4 := HB9.out.size
          omega
        · simp only [List.mem_cons, List.mem_append, List.mem_nil_iff, or_false, Option.mem_toList, not_or] at hn
          exact (eAll k hn.1 hn.2.1.1 hn.2.1.2).trans (HE10.out k hk hn.2.2)
    clear hw13 hI13 e13 hs13 ho13 eAll hci hfi
    go_ret
    exact ⟨by rw [HA.out]; try rfl, .inr ⟨HA.out, HEND.out _ _ v (fun k hk => Nat.le_trans HWS.out (HI9.out.lt hk).1) h24⟩⟩

end Go.Proofs.YtdjaphcelpchaaaGreatDoor

namespace Go.Proofs.YtdjaphcelpchaaaGreatDoor
open Go Go.RowKit Go.Proofs

theorem zero_line (w : World) : (zeroValue 34).run Tryz.prog w = .ok (.agg (lineCells zeroLine)) w := by kernel_rfl
theorem zero_one : (Builtin.zeroCells (lineCells zeroLine) 1).toList = lineList zeroLine := by kernel_rfl
theorem run_clear_one (z : Value) (cs : List Value) (hv : ∀ w, (zeroValue 34).run Tryz.prog w = .ok z w) (hz : (Builtin.zeroCells z.cells 1).toList = cs) (hl : cs.length = 38) (h1 : ∀ u ∈ cs, u.oneCell' = true) (w : World) (ty : TypeId) (g o c : Nat) (cur : Array Value) (t : TypeId) (hg : w.heap[g]? = some (.cells cur t (0, 0))) (hfit : o + 38 ≤ cur.size) :
    (Builtin.clear_ #[107] ty #[.slice (some ⟨g, o, none⟩) 1 c]).run Tryz.prog w = .ok (.tuple #[]) (w.setRow g (cur.toList.take o ++ cs ++ cur.toList.drop (o + 38)).toArray) := by
  have hst := run_storeCells_at Tryz.prog g o t cs 0 cur w hg (by rw [hl]; simpa using hfit) h1
  rw [hl] at hst
  simp only [Nat.add_zero] at hst
  simp [Builtin.clear_, run_underlying Tryz.underlying107, hv, hz, hst]
theorem run_clear_line (w : World) (ty : TypeId) (g o c : Nat) (cur : Array Value) (t : TypeId) (hg : w.heap[g]? = some (.cells cur t (0, 0))) (hfit : o + 38 ≤ cur.size) :
    (Builtin.clear_ #[107] ty #[.slice (some ⟨g, o, none⟩) 1 c]).run Tryz.prog w = .ok (.tuple #[]) (w.setRow g (cur.toList.take o ++ lineList zeroLine ++ cur.toList.drop (o + 38)).toArray) :=
  run_clear_one (.agg (lineCells zeroLine)) (lineList zeroLine) zero_line zero_one (lineList_length _) (lineList_one rfl) w ty g o c cur t hg hfit

theorem wpList_clear_run {P : Program} (w : World) {ops : Array Oper} {rest : List Oper} {o : Oper} {a : Act} {Q : Exit → Act → World → Prop} (hgd : o.guard = none) (x : Operand) (t : TypeId)
    (ho : o.op = .call { callee := .builtin .clear, args := #[x], argTypes := #[t] }) (v : Value) (hx : a.eval x = v) {v' : Value} {w' : World}
    (hr : (Builtin.clear_ #[t] o.type #[v]).run P w = .ok v' w') (h : wpList P ops Q rest (a.put o.dst v') w') : wpList P ops Q (o :: rest) a w := by
  refine wpList_plain hgd fun K hK => ?_
  unfold Oper.wp execOp
  simp only [ho, resolve, invoke, builtin, Sem.run_bind, Sem.run_pure, Result.andThen_ok, List.map_toArray, List.map_cons, List.map_nil, hx, hr]
  exact hK _ _ h

set_option maxRecDepth 100000 in
set_option maxHeartbeats 4000000 in
theorem delete_one (B : Nat) (g cap n i : Nat) (xs : List Value) (w : World) (hxs : ∀ u ∈ xs, u.oneCell' = true) (hown : w.ownsRow B 34 38 (.slice (some ⟨g, 0, none⟩) n cap) n xs) (hn : n ≤ 65536) (hi : i < n) :
    Calls Tryz.prog 71 #[.slice (some ⟨g, 0, none⟩) n cap, .int .i64 i, .int .i64 ((i : Int) + 1)] w fun r w' => r = .returned (.slice (some ⟨g, 0, none⟩) (n - 1) cap) ∧ w'.ownsRow B 34 38 (.slice (some ⟨g, 0, none⟩) (n - 1) cap) (n - 1) (xs.take (i * 38) ++ xs.drop ((i + 1) * 38)) ∧ w.grownBy w' (some g) := by
  obtain ⟨i0, hi0, hz0, hz1, hz2⟩ := info_parts Tryz.info_line
  rcases hown.2 with ⟨e, _⟩ | ⟨g', cap', cur, e, hBg, hcur, hle, hmx, hcs, htk⟩
  · cases e
  cases e
  have hxl := hown.1
  unfold maxLen at hmx
  have hk : n * 38 ≤ cap * 38 := Nat.mul_le_mul_right _ hle
  obtain ⟨news, hnews⟩ : ∃ news, news = xs.drop ((i + 1) * 38) := ⟨_, rfl⟩
  have hnl : news.length = (n - (i + 1)) * 38 := by rw [hnews, List.length_drop, hxl]; omega
  have hn1 : ∀ u ∈ news, u.oneCell' = true := fun u hu => hxs u (List.mem_of_mem_drop (hnews ▸ hu))
  obtain ⟨A, hA, hsrc⟩ : ∃ A : Addr, (if cap = i + 1 then (⟨g, 0, none⟩ : Addr) else ⟨g, (i + 1) * 38, none⟩) = A ∧ ∀ t u, news[t]? = some u → w.drew.cell? (A.add t) = some u := by
    by_cases h : cap = i + 1
    · refine ⟨⟨g, 0, none⟩, by simp [h], fun t u hu => ?_⟩
      have h0 : news.length = 0 := by rw [hnl]; omega
      rw [List.length_eq_zero_iff.1 h0] at hu
      simp at hu
    · refine ⟨⟨g, (i + 1) * 38, none⟩, by simp [h], fun t u hu => ?_⟩
      rw [hnews, List.getElem?_drop] at hu
      have h2 := World.ownsRow.cells hown (g := g) rfl ((i + 1) * 38 + t) u hu
      rw [Addr.add_lit, Nat.zero_add] at h2
      rw [Addr.add_lit, World.cell?_drew]
      exact h2
  obtain ⟨R1, hR1⟩ : ∃ R1 : List Value, R1 = cur.toList.take (i * 38) ++ news ++ cur.toList.drop (i * 38 + news.length) := ⟨_, rfl⟩
  have hR1l : R1.length = cap * 38 := by
    rw [hR1]
    simp only [List.length_append, List.length_take, List.length_drop, Array.length_toList, hcs, hnl]
    omega
  obtain ⟨W1, hW1⟩ : ∃ W1, W1 = w.drew.setRow g R1.toArray := ⟨_, rfl⟩
  obtain ⟨m, hm⟩ : ∃ m, m = n - 1 := ⟨_, rfl⟩
  have hap : ∀ ty sc, (Builtin.append_ #[107, 107] ty #[.slice (some ⟨g, 0, none⟩) i cap, .slice (some A) (n - (i + 1)) sc]).run Tryz.prog w.drew = .ok (.slice (some ⟨g, 0, none⟩) m cap) W1 := fun ty sc => by
    have h := run_append_room (P := Tryz.prog) w.drew 107 ty 34 i0 Tryz.underlying107 hi0 g i cap cur hcur A (n - (i + 1)) sc news (by rw [hz1]; exact hnl) hsrc hn1 (by omega) (by rw [hz1, hnl, hcs]; omega)
    rw [h, hW1, hR1, hz1, hm, show i + (n - (i + 1)) = n - 1 by omega]
  have hr1 : W1.heap[g]? = some (.cells R1.toArray 34 (0, 0)) := by rw [hW1]; exact setRow_heap w.drew g _ _ _ _ hcur
  have hg1 : w.grownBy W1 (some g) := by rw [hW1]; exact grown_trans (b := w.drew) ⟨rfl, rfl, rfl, Nat.le_refl _, fun _ _ _ => rfl⟩ (grown_row w.drew g _)
  obtain ⟨W2, hW2⟩ : ∃ W2, W2 = W1.setRow g (R1.take ((n - 1) * 38) ++ lineList zeroLine ++ R1.drop ((n - 1) * 38 + 38)).toArray := ⟨_, rfl⟩
  have hcl : ∀ ty sc, (Builtin.clear_ #[107] ty #[.slice (some ⟨g, (n - 1) * 38, none⟩) 1 sc]).run Tryz.prog W1 = .ok (.tuple #[]) W2 := fun ty sc => by
    rw [run_clear_line W1 ty g ((n - 1) * 38) sc _ _ hr1 (by rw [List.size_toArray, hR1l]; omega), hW2]
  have hr2 : W2.heap[g]? = some (.cells (R1.take ((n - 1) * 38) ++ lineList zeroLine ++ R1.drop ((n - 1) * 38 + 38)).toArray 34 (0, 0)) := by rw [hW2]; exact setRow_heap W1 g _ _ _ _ hr1
  have hg2 : w.grownBy W2 (some g) := by rw [hW2]; exact grown_trans hg1 (grown_row W1 g _)
  have hR1t : R1.take ((n - 1) * 38) = xs.take (i * 38) ++ xs.drop ((i + 1) * 38) := by
    have h1 : (cur.toList.take (i * 38)).length = i * 38 := by rw [List.length_take, Array.length_toList, hcs]; omega
    have h2 : xs.take (i * 38) = cur.toList.take (i * 38) := by rw [← htk, List.take_take, Nat.min_eq_left (by omega)]
    have h3 : (cur.toList.take (i * 38) ++ news).length = (n - 1) * 38 := by rw [List.length_append, h1, hnl]; omega
    rw [hR1, List.take_append_of_le_length (by rw [h3]; exact Nat.le_refl _), List.take_of_length_le (by rw [h3]; exact Nat.le_refl _), h2, hnews]
  have hfin : W2.ownsRow B 34 38 (.slice (some ⟨g, 0, none⟩) (n - 1) cap) (n - 1) (xs.take (i * 38) ++ xs.drop ((i + 1) * 38)) := by
    refine ⟨by rw [← hR1t, List.length_take, hR1l]; omega, .inr ⟨g, cap, _, rfl, hBg, hr2, by omega, by unfold maxLen; omega, ?_, ?_⟩⟩
    · simp only [List.size_toArray, List.length_append, List.length_take, List.length_drop, lineList_length, hR1l]; omega
    · have h4 : (R1.take ((n - 1) * 38)).length = (n - 1) * 38 := by rw [List.length_take, hR1l]; omega
      simp only [List.append_assoc]
      rw [List.take_append_of_le_length (by rw [h4]; exact Nat.le_refl _), List.take_of_length_le (by rw [h4]; exact Nat.le_refl _), hR1t]
  have HF := Lib.hid hfin
  have HG := Lib.hid hg2
  have hcl' : ∀ ty sc, (Builtin.clear_ #[107] ty #[.slice (some ⟨g, m * 38, none⟩) (n - m) sc]).run Tryz.prog W1 = .ok (.tuple #[]) W2 := fun ty sc => by
    rw [show n - m = 1 by omega, hm]
    exact hcl ty sc
  rw [← hm] at HF ⊢
  have hmz : (m : Int) ≤ (n : Int) := by omega
  have hmn : m ≤ n := by omega
  have hcm : ¬ cap = m := by omega
  clear hm
  have h1 : (i : Int) ≤ (i : Int) + 1 := by omega
  have h2 : (i : Int) + 1 ≤ (n : Int) := by omega
  have h3 : (n : Int) ≤ (cap : Int) := by omega
  have h4 : ((i : Int) == (i : Int) + 1) = false := by rw [beq_eq_false_iff_ne]; omega
  clear hfin hg2 hr2 hW2 hg1 hr1 hW1 hR1l hR1 hR1t hsrc hn1 hnl hnews hown hxs hxl hcs hcur htk hz0 hz1 hz2 hi0 hk hcl
  go_enter Tryz.func71, Tryz.ntmps71
  go_wp2_with fail
  refine wp_region_mix0 [0, 1, 2, 3, 4, 5] [6, 7] (fun w' => ∃ z : Later w, w' = z.1) (by kernel_rfl) (by kernel_rfl) (by kernel_rfl) ⟨⟨_, (Below.refl _ _).drew⟩, rfl⟩ ?_
  simp only [opsAt, List.map_cons, List.map_nil, Array.getD_eq_getD_getElem?, List.getElem?_toArray, List.getElem?_cons_zero, List.getElem?_cons_succ, Option.getD_some]
  by_cases hcj : cap = i + 1
  · rw [if_pos hcj] at hA
    subst hA
    subst hcj
    have hap0 := fun ty => hap ty 0
    rw [show n - (i + 1) = 0 by omega] at hap0
    clear hap
    repeat (go_big_quiet_step (fail))
    refine wpQuiet_nil ?_
    refine wpR_list [6, 7] _ _ (by kernel_rfl) ?_
    simp only [opsAt, List.map_cons, List.map_nil, Array.getD_eq_getD_getElem?, List.getElem?_toArray, List.getElem?_cons_zero, List.getElem?_cons_succ, Option.getD_some]
    go_wp2_with (at_builtin; refine Lib.wpList_append_run _ rfl _ _ _ _ rfl _ _ rfl rfl _ _ (hap0 _) ?_)
    refine NoPanic.normal ?_
    go_wp2_with (at_builtin; refine wpList_clear_run _ rfl (.tmp 31) 107 rfl _ rfl (hcl' _ _) ?_)
    go_ret
    exact ⟨rfl, HF.out, HG.out⟩
  · rw [if_neg hcj] at hA
    subst hA
    have hci : ¬ cap = i := by omega
    repeat (go_big_quiet_step (fail))
    refine wpQuiet_nil ?_
    refine wpR_list [6, 7] _ _ (by kernel_rfl) ?_
    simp only [opsAt, List.map_cons, List.map_nil, Array.getD_eq_getD_getElem?, List.getElem?_toArray, List.getElem?_cons_zero, List.getElem?_cons_succ, Option.getD_some]
    go_wp2_with (at_builtin; refine Lib.wpList_append_run _ rfl _ _ _ _ rfl _ _ rfl rfl _ _ (hap _ _) ?_)
    refine NoPanic.normal ?_
    go_wp2_with (at_builtin; refine wpList_clear_run _ rfl (.tmp 31) 107 rfl _ rfl (hcl' _ _) ?_)
    go_ret
    exact ⟨rfl, HF.out, HG.out⟩

end Go.Proofs.YtdjaphcelpchaaaGreatDoor

namespace Go.Proofs.YtdjaphcelpchaaaGreatDoor
open Go Go.RowKit Go.Proofs

theorem perm_erase {α : Type} : ∀ {l : List α} {i : Nat} {x : α}, l[i]? = some x → l.Perm (x :: l.eraseIdx i)
  | a :: l, 0, x, h => by cases h; exact .refl _
  | a :: l, i + 1, x, h => by
    rw [List.eraseIdx_cons_succ]
    exact ((perm_erase (l := l) (i := i) (by simpa using h)).cons a).trans (List.Perm.swap x a _)
theorem mem_erase {α : Type} {l : List α} {i : Nat} {x : α} (h : x ∈ l.eraseIdx i) : x ∈ l := List.mem_of_mem_eraseIdx h
theorem flat_erase (ms : List ML) (i : Nat) : flatLines (ms.eraseIdx i) = (flatLines ms).take (i * 38) ++ (flatLines ms).drop ((i + 1) * 38) := by
  rw [flat_take, flat_drop, ← flat_append, List.eraseIdx_eq_take_drop_succ]

theorem GrpPure.del {ms : List ML} {nl : List (KE Id32)} (h : GrpPure ms nl) {i j b : Nat} {m : ML} (hi : ms[i]? = some m) (hj : nl[j]? = some ⟨m.p.id, .int .i64 m.p.number, b⟩) : GrpPure (ms.eraseIdx i) (nl.eraseIdx j) where
  agree := by
    have h1 := (perm_erase hj).map fun e => (e.k, e.v)
    have h2 := (perm_erase hi).map fun m => (m.p.id, Value.int .i64 m.p.number)
    rw [List.map_cons] at h1 h2
    exact (h1.symm.trans (h.agree.trans h2)).cons_inv
  ids := h.ids.sublist ((List.eraseIdx_sublist ms i).map _)
  sorted := h.sorted.sublist ((List.eraseIdx_sublist ms i).map _)
  good x hx := h.good x (mem_erase hx)

/-- The groups but that of a name. -/
def dropG (gs : List MG) (s : ByteArray) : List MG := gs.filter fun H => decide (H.name ≠ s)
theorem linesIn_dropG (gs : List MG) (s t : ByteArray) : linesIn (dropG gs s) t = if t = s then [] else linesIn gs t := by
  unfold linesIn groupOf dropG
  rw [List.find?_filter]
  by_cases h : t = s
  · rw [if_pos h]
    have : gs.find? (fun a => decide (decide (a.name ≠ s) = true ∧ decide (a.name = t) = true)) = none := by
      rw [List.find?_eq_none]
      intro G _ hG
      simp at hG
      exact hG.1 (hG.2.trans h)
    rw [this]
  · rw [if_neg h]
    have : (fun a : MG => decide (decide (a.name ≠ s) = true ∧ decide (a.name = t) = true)) = fun a => decide (a.name = t) := by
      funext a
      by_cases ha : a.name = t
      · have : a.name ≠ s := fun e => h (ha.symm.trans e)
        simp [ha, h]
      · simp [ha]
    rw [this]
theorem find_at (s : ByteArray) : ∀ {gs : List MG} {G : MG} (i : Nat), groupOf gs s = some G → (gs.map fun G => G.name).Nodup → ∃ j, findK s (gs.map MG.e) i = some (i + j, .pointer (some ⟨G.gb, 0, none⟩)) ∧ j < gs.length ∧ (gs.map MG.e).eraseIdx j = (dropG gs s).map MG.e
  | H :: gs, G, i, hg, hn => by
    unfold groupOf at hg
    rw [List.find?_cons] at hg
    rw [List.map_cons, List.nodup_cons] at hn
    rw [List.map_cons]
    unfold findK
    by_cases h : H.name = s
    · rw [decide_eq_true h] at hg
      cases hg
      have h2 : s = H.e.k := h.symm
      refine ⟨0, by rw [if_pos h2]; rfl, by simp, ?_⟩
      have : dropG (H :: gs) s = gs := by
        unfold dropG
        rw [List.filter_cons_of_neg (by simpa using h), List.filter_eq_self.2]
        intro K hK
        have : K.name ≠ s := fun e => hn.1 (h ▸ e ▸ List.mem_map.2 ⟨K, hK, rfl⟩)
        simpa using this
      rw [this]
      rfl
    · rw [decide_eq_false h] at hg
      have h2 : ¬ s = H.e.k := fun e => h e.symm
      obtain ⟨j, h3, h4, h5⟩ := find_at s (i + 1) hg hn.2
      refine ⟨j + 1, by rw [if_neg h2, h3]; congr 2; omega, by simpa using h4, ?_⟩
      have : dropG (H :: gs) s = H :: dropG gs s := by
        unfold dropG
        rw [List.filter_cons_of_pos (by simpa using h)]
      rw [this, List.eraseIdx_cons_succ, h5]
      rfl
theorem total_dropG : ∀ {gs : List MG} {s : ByteArray} {G : MG}, (gs.map fun G => G.name).Nodup → groupOf gs s = some G → total (dropG gs s) + G.ms.length = total gs
  | H :: gs, s, G, hn, hg => by
    unfold groupOf at hg
    rw [List.find?_cons] at hg
    rw [List.map_cons, List.nodup_cons] at hn
    by_cases h : H.name = s
    · rw [decide_eq_true h] at hg
      cases hg
      have : dropG (H :: gs) s = gs := by
        unfold dropG
        rw [List.filter_cons_of_neg (by simpa using h), List.filter_eq_self.2]
        intro K hK
        have : K.name ≠ s := fun e => hn.1 (h ▸ e ▸ List.mem_map.2 ⟨K, hK, rfl⟩)
        simpa using this
      rw [this]
      unfold total
      rw [List.map_cons, List.sum_cons]
      omega
    · rw [decide_eq_false h] at hg
      have ih := total_dropG hn.2 hg
      have : dropG (H :: gs) s = H :: dropG gs s := by
        unfold dropG
        rw [List.filter_cons_of_pos (by simpa using h)]
      rw [this]
      unfold total at *
      rw [List.map_cons, List.sum_cons, List.map_cons, List.sum_cons]
      omega

/-- A group taken away. -/
theorem IdxAt.cut {B : Nat} {w w' : World} {ib M mc : Nat} {gs : List MG} (h : IdxAt B w ib M gs mc) {s : ByteArray} {G : MG} (hG : groupOf gs s = some G)
    (hib : w'.heap[ib]? = some (.cells #[.map (some M), .int .i64 (total (dropG gs s))] 104 (0, 0))) (hM : MapAt ekS w' M ((dropG gs s).map MG.e) mc)
    (hk : Kept (ib :: M :: G.foot) w w') : IdxAt B w' ib M (dropG gs s) mc ∧ FootOk (foot ib M gs) (foot ib M (dropG gs s)) w := by
  obtain ⟨hGm, hGs⟩ := groupOf_mem hG
  obtain ⟨a1, a2, a3⟩ := apart_iff.1 h.apart
  have hsub : (dropG gs s).Sublist gs := List.filter_sublist
  have hmem : ∀ H ∈ dropG gs s, H ∈ gs ∧ H.name ≠ s := fun H hH => by
    unfold dropG at hH
    rw [List.mem_filter] at hH
    exact ⟨hH.1, by simpa using hH.2⟩
  have hap : ∀ H ∈ gs, H.name ≠ s → ∀ x ∈ H.foot, x ∉ G.foot := by
    intro H hH hHs x hx hxG
    have hpw : ∀ {l : List MG}, l.Pairwise (fun G H => ∀ x ∈ G.foot, ∀ y ∈ H.foot, x ≠ y) → ∀ A ∈ l, ∀ C ∈ l, A.name ≠ C.name → ∀ x ∈ A.foot, x ∉ C.foot := by
      intro l hl
      induction l with
      | nil => intro A hA; cases hA
      | cons D l ih =>
        rw [List.pairwise_cons] at hl
        intro A hA C hC hne x hxA hxC
        rcases List.mem_cons.1 hA with hA' | hA'
        · rcases List.mem_cons.1 hC with hC' | hC'
          · exact hne (by rw [hA', hC'])
          · exact hl.1 C hC' x (hA' ▸ hxA) x hxC rfl
        · rcases List.mem_cons.1 hC with hC' | hC'
          · exact hl.1 A hA' x (hC' ▸ hxC) x hxA rfl
          · exact ih hl.2 A hA' C hC' hne x hxA hxC
    exact hpw a3 H hH G hGm (by rw [hGs]; exact hHs) x hx hxG
  refine ⟨{ blk := hib, map := hM, names := h.names.sublist (hsub.map _), grps := ?_, apart := ?_, born := h.born.sublist (hsub.map _), young := fun H hH => h.young H (hmem H hH).1, few := ?_, ibB := h.ibB, MB := h.MB }, ?_⟩
  · intro H hH
    obtain ⟨hH, hHs⟩ := hmem H hH
    refine (h.grps H hH).keep (fun k hkf => hk.block k ((h.grps H hH).foot_lt k hkf).2 ?_) (fun m hm k hkm => ?_)
    · rw [List.mem_cons, List.mem_cons, not_or, not_or]
      exact ⟨fun e => (a2 H hH).1 (e ▸ hkf), fun e => (a2 H hH).2.1 (e ▸ hkf), hap H hH hHs k hkf⟩
    · obtain ⟨g1, g2⟩ := h.refs_out hH hm hkm
      refine hk.block k g1 fun hx => g2 ?_
      unfold foot
      rw [List.mem_cons, List.mem_cons] at hx ⊢
      rcases hx with hx | hx | hx
      · exact .inl hx
      · exact .inr (.inl hx)
      · exact .inr (.inr (List.mem_flatMap.2 ⟨G, hGm, hx⟩))
  · rw [apart_iff]
    exact ⟨a1, fun H hH => a2 H (hmem H hH).1, a3.sublist hsub⟩
  · have := total_dropG h.names hG
    have := h.few
    omega
  · intro k hk'
    left
    unfold foot at hk' ⊢
    simp only [List.mem_cons, List.mem_flatMap] at hk' ⊢
    rcases hk' with rfl | rfl | ⟨H, hH, hk'⟩
    · exact .inl rfl
    · exact .inr (.inl rfl)
    · exact .inr (.inr ⟨H, (hmem H hH).1, hk'⟩)

end Go.Proofs.YtdjaphcelpchaaaGreatDoor
