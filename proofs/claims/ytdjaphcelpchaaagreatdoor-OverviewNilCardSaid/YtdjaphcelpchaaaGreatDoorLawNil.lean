/- bulletinlaw28.OverviewNil: the walk. -/
import Derived.Test.YtdjaphcelpchaaaGreatDoorNil
import Derived.Test.YtdjaphcelpchaaaGreatDoorStage
import Derived.RangeFuncNested
import Derived.RangeFuncBound
import Derived.RangeFuncCalls
import Derived.RangeFuncLeaves
import Derived.Shelf.Abstract
import Derived.Shelf.RegionOpen
import Derived.OwnWalkIn
import Derived.TacticsInMore
import Derived.LoopNIn
import Derived.LoopIn
namespace Go.Proofs.YtdjaphcelpchaaaGreatDoor
open Go Go.RowKit Go.Proofs

attribute [local go_sem ↓] ex_load_id ex_store_id ex_load_line ex_store_line ex_load_rline ex_store_rline ex_alloc_line ex_build_line ex_alloc_rline ex_build_rline
attribute [local go_sem] ld_id st_id ld_line st_line ld_rline st_rline guard_id okCells_drew rdCells_drew okCells_drewN rdCells_drewN rowOk_drew rowOk_cells okCells_cells rdCells_cells setRow_drew setRow_new setRow_past

set_option maxHeartbeats 1000000 in
theorem range_any (p : Option Addr) (s : ByteArray) (lo hi : Int) (w : World) : Calls Tryz.prog 30 #[.pointer p, .string s, .int .i64 lo, .int .i64 hi] w fun r w' =>
    r = .returned (.func (.func 67) #[] #[.pointer (some ⟨w.heap.size, 0, none⟩), .pointer (some ⟨w.heap.size + 1, 0, none⟩), .pointer (some ⟨w.heap.size + 1 + 1, 0, none⟩), .pointer (some ⟨w.heap.size + 1 + 1 + 1, 0, none⟩)]) ∧
    (((w.alloc (.cells #[.pointer p] 47)).alloc (.cells #[.string s] 9)).alloc (.cells #[.int .i64 lo] 3)).alloc (.cells #[.int .i64 hi] 3) = w' := by
  go_enter Tryz.func30, Tryz.ntmps30
  go_wp2
  go_ret
  exact ⟨rfl, rfl⟩

set_option maxRecDepth 100000 in
set_option maxHeartbeats 1000000 in
/-- The iterator of a nil index yields nothing. -/
theorem rangeSeq_nil (b0 b1 b2 b3 : Nat) (s : ByteArray) (lo : Int) (w : World) (h0 : w.cell? ⟨b0, 0, none⟩ = some (.pointer none)) (h1 : w.cell? ⟨b1, 0, none⟩ = some (.string s)) (h2 : w.cell? ⟨b2, 0, none⟩ = some (.int .i64 lo)) :
    SeqStopsK Fence.wide 2 Tryz.prog 67 #[.pointer (some ⟨b0, 0, none⟩), .pointer (some ⟨b1, 0, none⟩), .pointer (some ⟨b2, 0, none⟩), .pointer (some ⟨b3, 0, none⟩)]
      (fun _ : Unit => #[.agg (lineCells zeroLine)]) (Below w.heap.size) (fun xs => xs = []) (fun _ => False) 0 w := fun l J Jx W hW hJ hJx hY hj => by
  have c0 : W.cell? ⟨b0, 0, none⟩ = some (.pointer none) := (hW.cell (block_lt_of_cell h0)).trans h0
  have c1 : W.cell? ⟨b1, 0, none⟩ = some (.string s) := (hW.cell (block_lt_of_cell h1)).trans h1
  have c2 : W.cell? ⟨b2, 0, none⟩ = some (.int .i64 lo) := (hW.cell (block_lt_of_cell h2)).trans h2
  clear hW hY h0 h1 h2
  refine callsIn_wide.2 ?_
  have HJ := Lib.hid hj
  clear hj
  go_enter Tryz.func67, Tryz.ntmps67
  go_wp2_with fail
  refine (linesOf_nil s _).mono ?_
  rintro r w' ⟨rfl, rfl⟩
  go_wp2_with fail
  refine (search_none lo _).mono ?_
  rintro r w' ⟨rfl, rfl⟩
  go_wp2
  go_loop [6, 27] (fun p a => p = .slice none 0 0 ∧ a = .int .i64 0) (fun _ _ => 0)
  case atStart => exact ⟨rfl, rfl⟩
  case round =>
    obtain ⟨rfl, rfl⟩ := hrel
    go_wp2
    go_loop [43] (fun a => a = .int .i64 0) (fun _ => 0)
    case atStart => exact rfl
    case round =>
      obtain rfl := hrel
      go_wp2
      go_end0
      exact ⟨⟨_, rfl⟩, HJ.out⟩


theorem RVar.idAt {w : World} {lb : Nat} {s : ByteArray} {g : GLine} (h : RVar w lb s g) : okCells w ⟨lb, 2, none⟩ 32 = true ∧ rdCells w ⟨lb, 2, none⟩ 32 = (encId g.id).toArray := by
  have := rd_of_cells (w := w) (a := ⟨lb, 2, none⟩) (cs := encId g.id) (fun j v hj => by
    have hj32 : j < 32 := by have := (List.getElem?_eq_some_iff.1 hj).1; rwa [encId_length] at this
    rw [Addr.add_lit, h.cell, show 2 + j = (1 + j) + 1 by omega, rc_succ, ← hj]
    simp only [lineCells, lineList, List.getElem?_toArray]
    rw [show 1 + j = j + 1 by omega, List.getElem?_cons_succ, List.getElem?_append_left (by rw [encId_length]; exact hj32)])
  rwa [encId_length] at this

theorem results_cell1 {P : Program} {fn : Func} {p : Tmp} {ty : Nat} (h : fn.results = #[.cell p ty]) (hA : ∀ w, Sem.run P (isAgg ty) w = .ok false w) (tmps : Array Value) (w : World) (a : Addr) (v : Value) (hp : tmps.getD p undef = .pointer (some a)) (hc : w.cell? a = some v) :
    (results fn tmps).run P w = .ok v w := by
  have hp' : tmps[p]?.getD undef = .pointer (some a) := by simpa using hp
  simp [results, h, asAddr, hp', loadVar, hA, hc]

/-- What the walk of OverviewNil keeps: the line's variable, the result's cell, the mark of the loop's deferred calls; nothing old has turned. -/
structure NilSt (w : World) (s : ByteArray) (g : GLine) (D : Nat) (W : World) : Prop where
  rv : RVar W w.heap.size s g
  rc : W.heap[w.heap.size + 1]? = some (.cells #[.bool false] 4 (0, 0))
  df : W.heap[D]? = some (.deferred (some []))
  bl : Below w.heap.size w W
theorem NilSt.step {w : World} {s : ByteArray} {g : GLine} {D : Nat} {W W' : World} (h : NilSt w s g D W) (hb : Below W.heap.size W W') : NilSt w s g D W' where
  rv := h.rv.below hb (Array.getElem?_eq_some_iff.1 h.rv).1
  rc := (hb.block _ (Array.getElem?_eq_some_iff.1 h.rc).1).trans h.rc
  df := (hb.block _ (Array.getElem?_eq_some_iff.1 h.df).1).trans h.df
  bl := h.bl.trans (hb.mono h.bl.size)

set_option maxRecDepth 100000 in
set_option maxHeartbeats 4000000 in
theorem law_nil (s : ByteArray) (g : GLine) (ids : List Id32) (w : World) (hG : Gl w) (hI : IdsAt w g.refs ids) (hn : ids.length ≤ maxLen) (h1 : s.size ≤ maxLen / 4) (h2 : g.name.size ≤ maxLen / 4) (h3 : g.subject.size ≤ maxLen / 4) :
    Calls Tryz.prog 10 #[.agg (rlineCells s g)] w fun r w' => r = .returned (.bool true) ∧ Below w.heap.size w w' := by
  obtain ⟨W0, hW0⟩ : ∃ W0, W0 = (w.alloc (.cells (rlineCells s g) 26)).alloc (.cells #[.bool false] 4) := ⟨_, rfl⟩
  have hs0 : W0.heap.size = w.heap.size + 2 := by rw [hW0]; simp
  have hb0 : Below w.heap.size w W0 := by rw [hW0]; exact ((Below.refl _ _).alloc (Nat.le_refl _) _).alloc (by simp) _
  have hR0 : RVar W0 w.heap.size s g := by
    unfold RVar
    rw [hW0, heap_alloc_old _ _ (by simp), heap_alloc_new]
  have hC0 : W0.heap[w.heap.size + 1]? = some (.cells #[.bool false] 4 (0, 0)) := by
    have := heap_alloc_new (w.alloc (.cells (rlineCells s g) 26)) (.cells #[.bool false] 4)
    rw [hW0]
    simpa using this
  have HR0 := Lib.hid hR0
  have HC0 := Lib.hid hC0
  have HB0 := Lib.hid hb0
  clear hR0 hC0 hb0
  refine (callsIn_wide (n := 3)).1 (callsIn_of_wp_marks Tryz.func10 rfl trivial ?_ rfl)
  simp only [Tryz.ntmps10, List.size_toArray, List.length_cons, List.length_nil, Nat.reduceAdd, Nat.reduceSub, Array.replicate_succ, Array.replicate_zero, List.push_toArray, List.append_toArray, List.nil_append, List.cons_append]
  refine wpIn_wide.2 ?_
  go_wp2_with fail
  rw [← hW0]
  clear hW0
  refine (knows W0 (hG.later HB0.out)).mono ?_
  rintro r w1 ⟨rfl, hb1⟩
  have hR1 : RVar w1 w.heap.size s g := HR0.out.below hb1 (by omega)
  have hC1 : w1.heap[w.heap.size + 1]? = some (.cells #[.bool false] 4 (0, 0)) := (hb1.block _ (by omega)).trans HC0.out
  have hB1 : Below w.heap.size w w1 := HB0.out.trans (hb1.mono HB0.out.size)
  have hs1 : w.heap.size + 1 < w1.heap.size := by have := hb1.size; omega
  obtain ⟨o1, d1⟩ := hR1.rd
  have HR1 := Lib.hid hR1
  have HC1 := Lib.hid hC1
  have HB1 := Lib.hid hB1
  clear hb1 hR1 hC1 hB1 HR0 HC0 HB0
  go_wp2_with fail
  obtain ⟨ra, rc, hrefs, hrc, hrow⟩ := hI
  have hIw : IdsAt w g.refs ids := ⟨ra, rc, hrefs, hrc, hrow⟩
  refine (small_any s g w1 ra ids.length rc hrefs hn h1 h2 h3).mono ?_
  rintro r w2 ⟨rfl, hb2⟩
  have hR2 : RVar w2 w.heap.size s g := HR1.out.below hb2 (by omega)
  have hC2 : w2.heap[w.heap.size + 1]? = some (.cells #[.bool false] 4 (0, 0)) := (hb2.block _ (by omega)).trans HC1.out
  have hB2 : Below w.heap.size w w2 := HB1.out.trans (hb2.mono HB1.out.size)
  have hs2 : w.heap.size + 1 < w2.heap.size := by have := hb2.size; omega
  clear hb2 HR1 HC1 HB1 o1 d1 hrow
  by_cases hsm : (decide (ids.length ≤ 30) && decide (s.size + g.name.size + g.subject.size ≤ 600)) = true
  · rw [hsm]
    simp only [Bool.and_eq_true, decide_eq_true_eq] at hsm
    have q0 := (hR2.cell 0).trans (rc0 s g)
    have q1 := (hR2.cell 1).trans (rc1 s g)
    have HR2 := Lib.hid hR2
    have HC2 := Lib.hid hC2
    have HB2 := Lib.hid hB2
    clear hR2 hC2 hB2
    go_wp2_with fail
    refine (range_any none s 0 g.number w2).mono ?_
    rintro r w3 ⟨rfl, hw3⟩
    have hb3 : Below w2.heap.size w2 w3 := by rw [← hw3]; exact ((((Below.refl _ _).alloc (Nat.le_refl _) _).alloc (by simp) _).alloc (by simp; omega) _).alloc (by simp; omega) _
    have k0 : w3.cell? ⟨w2.heap.size, 0, none⟩ = some (.pointer none) := by
      rw [← hw3]; exact Lib.cell?_alloc_some _ (Lib.cell?_alloc_some _ (Lib.cell?_alloc_some _ (cells_new w2 _ _ 0)))
    have k1 : w3.cell? ⟨w2.heap.size + 1, 0, none⟩ = some (.string s) := by
      rw [← hw3]; exact Lib.cell?_alloc_some _ (Lib.cell?_alloc_some _ (by simp))
    have k2 : w3.cell? ⟨w2.heap.size + 1 + 1, 0, none⟩ = some (.int .i64 0) := by
      rw [← hw3]; exact Lib.cell?_alloc_some _ (by simpa using cells_new ((w2.alloc (.cells #[.pointer none] 47)).alloc (.cells #[.string s] 9)) #[.int .i64 0] 3 0)
    have HSq := Lib.hid (rangeSeq_nil _ _ _ (w2.heap.size + 1 + 1 + 1) s 0 w3 k0 k1 k2)
    have hB3 : Below w.heap.size w w3 := HB2.out.trans (hb3.mono HB2.out.size)
    have hR3 : RVar w3 w.heap.size s g := HR2.out.below hb3 (by omega)
    have hC3 := (hb3.block _ hs2).trans HC2.out
    have hs3 : w.heap.size + 1 < w3.heap.size := by have := hb3.size; omega
    have HB3 := Lib.hid hB3
    have HR3 := Lib.hid hR3
    have HC3 := Lib.hid hC3
    clear hw3 k0 k1 k2 hb3 hB3 hR3 hC3 HR2 HC2 HB2 q0 q1
    go_wp2_with fail
    refine (wpIn_wide (n := 3)).1 (wpIn_rangeFunc_ownG rfl (by omega) (gf := 67) rfl trivial (enters_of Tryz.func67 (by kernel_rfl) rfl) HSq.out belowK_t (belowK_b (Nat.le_refl _)) (Below.refl _ _) (fun _ => rfl)
      (fun _ W => RVar W w.heap.size s g ∧ W.heap[w.heap.size + 1]? = some (.cells #[.bool false] 4 (0, 0)) ∧ Below w.heap.size w W) (fun _ _ _ => False) ?own (fun _ _ _ _ _ hs _ _ => hs) ⟨HR3.out, HC3.out, HB3.out⟩ _ (fun _ _ _ _ hK => wpIn_skip hK) ?body ?done ?stop)
    case own =>
      rintro _ A B row ⟨x1, x2, x3⟩ hg hr
      have key : ∀ (k : Nat) (o : Obj), A.heap[k]? = some o → o.isCells = true → B.heap[k]? = A.heap[k]? := fun k o hk ho => hg.block k (Array.getElem?_eq_some_iff.1 hk).1 (fun e => by
        obtain ⟨_, o', ho', hc'⟩ := hr k e.symm
        rw [hk] at ho'
        cases ho'
        rw [ho] at hc'
        cases hc')
      refine ⟨(key _ _ x1 rfl).trans x1, (key _ _ x2 rfl).trans x2, x3.grown hg x3.size (fun k e => by have := (hr k e).1; omega)⟩
    case body => exact fun l pre x W _ hlt => absurd hlt (Nat.not_lt_zero _)
    case stop => exact fun D c pre W _ _ h _ => h.elim
    case done =>
      rintro D xs W4 hD rfl ⟨hR4, hC4, hB4⟩ hK4
      have hSt : NilSt w s g D W4 := ⟨hR4, hC4, hK4, hB4⟩
      have HS4 := Lib.hid hSt
      clear hR4 hC4 hB4 hK4 hSt HR3 HC3 HB3 HSq
      have hft : fitsRow 38 (lineCells zeroLine) = true := fits_line rfl
      have hzs : ((lineCells zeroLine).size == 38) = true := by rw [lineCells_size]; rfl
      have q0 := (HS4.out.rv.cell 0).trans (rc0 s g)
      have q1 := (HS4.out.rv.cell 1).trans (rc1 s g)
      obtain ⟨q2, q3⟩ := HS4.out.rv.idAt
      obtain ⟨q4, q5⟩ := HS4.out.rv.rd
      go_wp2_with fail
      refine (get_nil s g.number W4).mono ?_
      rintro r W5 ⟨rfl, hb⟩
      clear q0 q1 q2 q3 q4 q5
      have HS5 := Lib.hid (HS4.out.step hb)
      clear hb HS4
      obtain ⟨bA, hbA⟩ : ∃ bA, bA = W5.heap.size := ⟨_, rfl⟩
      go_upto_region 7 with (fail)
      have hb : Below W5.heap.size W5 (W5.alloc (.cells (lineCells zeroLine) 34)) := (Below.refl _ _).alloc (Nat.le_refl _) _
      have hl : LineVar (W5.alloc (.cells (lineCells zeroLine) 34)) bA zeroLine := by rw [hbA]; exact heap_alloc_new _ _
      rw [← hbA]
      generalize W5.alloc (.cells (lineCells zeroLine) 34) = W6 at hb hl ⊢
      clear hbA
      have HS6 := Lib.hid (HS5.out.step hb)
      clear hb HS5
      have HA6 := Lib.hid hl
      clear hl
      have q0 := (HS6.out.rv.cell 0).trans (rc0 s g)
      have q1 := (HS6.out.rv.cell 1).trans (rc1 s g)
      obtain ⟨q2, q3⟩ := HS6.out.rv.idAt
      obtain ⟨q4, q5⟩ := HS6.out.rv.rd
      go_wp2_with fail
      refine (next_nil s g.number W6).mono ?_
      rintro r W7 ⟨rfl, hb⟩
      clear q0 q1 q2 q3 q4 q5
      have HS7 := Lib.hid (HS6.out.step hb)
      have HA7 := Lib.hid (HA6.out.below hb HA6.out.lt)
      clear hb HS6 HA6
      obtain ⟨bB, hbB⟩ : ∃ bB, bB = W7.heap.size := ⟨_, rfl⟩
      go_upto_region 8 with (fail)
      have hb : Below W7.heap.size W7 (W7.alloc (.cells (lineCells zeroLine) 34)) := (Below.refl _ _).alloc (Nat.le_refl _) _
      have hl : LineVar (W7.alloc (.cells (lineCells zeroLine) 34)) bB zeroLine := by rw [hbB]; exact heap_alloc_new _ _
      rw [← hbB]
      generalize W7.alloc (.cells (lineCells zeroLine) 34) = W8 at hb hl ⊢
      clear hbB
      have HS8 := Lib.hid (HS7.out.step hb)
      have HA8 := Lib.hid (HA7.out.below hb HA7.out.lt)
      clear hb HS7 HA7
      have HB8 := Lib.hid hl
      clear hl
      have q0 := (HS8.out.rv.cell 0).trans (rc0 s g)
      have q1 := (HS8.out.rv.cell 1).trans (rc1 s g)
      obtain ⟨q2, q3⟩ := HS8.out.rv.idAt
      obtain ⟨q4, q5⟩ := HS8.out.rv.rd
      go_wp2_with fail
      refine (find_nil s g.id W8).mono ?_
      rintro r W9 ⟨rfl, hb⟩
      clear q0 q1 q2 q3 q4 q5
      have HS9 := Lib.hid (HS8.out.step hb)
      have HA9 := Lib.hid (HA8.out.below hb HA8.out.lt)
      have HB9 := Lib.hid (HB8.out.below hb HB8.out.lt)
      clear hb HS8 HA8 HB8
      obtain ⟨bC, hbC⟩ : ∃ bC, bC = W9.heap.size := ⟨_, rfl⟩
      go_upto_region 9 with (fail)
      have hb : Below W9.heap.size W9 (W9.alloc (.cells (lineCells zeroLine) 34)) := (Below.refl _ _).alloc (Nat.le_refl _) _
      have hl : LineVar (W9.alloc (.cells (lineCells zeroLine) 34)) bC zeroLine := by rw [hbC]; exact heap_alloc_new _ _
      rw [← hbC]
      generalize W9.alloc (.cells (lineCells zeroLine) 34) = W10 at hb hl ⊢
      clear hbC
      have HS10 := Lib.hid (HS9.out.step hb)
      have HA10 := Lib.hid (HA9.out.below hb HA9.out.lt)
      have HB10 := Lib.hid (HB9.out.below hb HB9.out.lt)
      clear hb HS9 HA9 HB9
      have HC10 := Lib.hid hl
      clear hl
      have q0 := (HS10.out.rv.cell 0).trans (rc0 s g)
      have q1 := (HS10.out.rv.cell 1).trans (rc1 s g)
      obtain ⟨q2, q3⟩ := HS10.out.rv.idAt
      obtain ⟨q4, q5⟩ := HS10.out.rv.rd
      go_wp2_with fail
      refine (prev_nil s g.number W10).mono ?_
      rintro r W11 ⟨rfl, hb⟩
      clear q0 q1 q2 q3 q4 q5
      have HS11 := Lib.hid (HS10.out.step hb)
      have HA11 := Lib.hid (HA10.out.below hb HA10.out.lt)
      have HB11 := Lib.hid (HB10.out.below hb HB10.out.lt)
      have HC11 := Lib.hid (HC10.out.below hb HC10.out.lt)
      clear hb HS10 HA10 HB10 HC10
      obtain ⟨bE, hbE⟩ : ∃ bE, bE = W11.heap.size := ⟨_, rfl⟩
      go_upto_region 10 with (fail)
      have hb : Below W11.heap.size W11 (W11.alloc (.cells (lineCells zeroLine) 34)) := (Below.refl _ _).alloc (Nat.le_refl _) _
      have hl : LineVar (W11.alloc (.cells (lineCells zeroLine) 34)) bE zeroLine := by rw [hbE]; exact heap_alloc_new _ _
      rw [← hbE]
      generalize W11.alloc (.cells (lineCells zeroLine) 34) = W12 at hb hl ⊢
      clear hbE
      have HS12 := Lib.hid (HS11.out.step hb)
      have HA12 := Lib.hid (HA11.out.below hb HA11.out.lt)
      have HB12 := Lib.hid (HB11.out.below hb HB11.out.lt)
      have HC12 := Lib.hid (HC11.out.below hb HC11.out.lt)
      clear hb HS11 HA11 HB11 HC11
      have HE12 := Lib.hid hl
      clear hl
      obtain ⟨p1, p2⟩ := HA12.out.rd
      go_wp2_with fail
      refine (zero_true W12).mono ?_
      rintro r W13 ⟨rfl, hb⟩
      clear p1 p2
      have HS13 := Lib.hid (HS12.out.step hb)
      have HA13 := Lib.hid (HA12.out.below hb HA12.out.lt)
      have HB13 := Lib.hid (HB12.out.below hb HB12.out.lt)
      have HC13 := Lib.hid (HC12.out.below hb HC12.out.lt)
      have HE13 := Lib.hid (HE12.out.below hb HE12.out.lt)
      clear hb HS12 HA12 HB12 HC12 HE12
      obtain ⟨p1, p2⟩ := HB13.out.rd
      go_wp2_with fail
      refine (zero_true W13).mono ?_
      rintro r W14 ⟨rfl, hb⟩
      clear p1 p2
      have HS14 := Lib.hid (HS13.out.step hb)
      have HA14 := Lib.hid (HA13.out.below hb HA13.out.lt)
      have HB14 := Lib.hid (HB13.out.below hb HB13.out.lt)
      have HC14 := Lib.hid (HC13.out.below hb HC13.out.lt)
      have HE14 := Lib.hid (HE13.out.below hb HE13.out.lt)
      clear hb HS13 HA13 HB13 HC13 HE13
      obtain ⟨p1, p2⟩ := HC14.out.rd
      go_wp2_with fail
      refine (zero_true W14).mono ?_
      rintro r W15 ⟨rfl, hb⟩
      clear p1 p2
      have HS15 := Lib.hid (HS14.out.step hb)
      have HA15 := Lib.hid (HA14.out.below hb HA14.out.lt)
      have HB15 := Lib.hid (HB14.out.below hb HB14.out.lt)
      have HC15 := Lib.hid (HC14.out.below hb HC14.out.lt)
      have HE15 := Lib.hid (HE14.out.below hb HE14.out.lt)
      clear hb HS14 HA14 HB14 HC14 HE14
      obtain ⟨p1, p2⟩ := HE15.out.rd
      go_wp2_with fail
      refine (zero_true W15).mono ?_
      rintro r W16 ⟨rfl, hb⟩
      clear p1 p2
      have HS16 := Lib.hid (HS15.out.step hb)
      have HA16 := Lib.hid (HA15.out.below hb HA15.out.lt)
      have HB16 := Lib.hid (HB15.out.below hb HB15.out.lt)
      have HC16 := Lib.hid (HC15.out.below hb HC15.out.lt)
      have HE16 := Lib.hid (HE15.out.below hb HE15.out.lt)
      clear hb HS15 HA15 HB15 HC15 HE15
      clear HA16 HB16 HC16 HE16
      go_wp2_with fail
      simp only [List.append_eq, List.cons_append, List.nil_append]
      refine wp_region_stages (by kernel_rfl) ?_
      have HS17 := Lib.hid (HS16.out.step (Below.refl _ _).drew)
      clear HS16
      generalize W16.drew = W17 at HS17 ⊢
      have hq0 : ∀ (W : World), NilSt w s g D W → ∀ z : Later W, z.1.cell? ⟨w.heap.size, 0, none⟩ = some (.string s) := fun W h z => ((h.step z.2).rv.cell 0).trans (rc0 s g)
      have hq1 : ∀ (W : World), NilSt w s g D W → ∀ z : Later W, z.1.cell? ⟨w.heap.size, 1, none⟩ = some (.int .i64 g.number) := fun W h z => ((h.step z.2).rv.cell 1).trans (rc1 s g)
      have hq2 : ∀ (W : World), NilSt w s g D W → ∀ z : Later W, okCells z.1 ⟨w.heap.size, 2, none⟩ 32 = true := fun W h z => (h.step z.2).rv.idAt.1
      have hq3 : ∀ (W : World), NilSt w s g D W → ∀ z : Later W, rdCells z.1 ⟨w.heap.size, 2, none⟩ 32 = (encId g.id).toArray := fun W h z => (h.step z.2).rv.idAt.2
      have hq4 : ∀ (W : World), NilSt w s g D W → ∀ z : Later W, okCells z.1 ⟨w.heap.size, 0, none⟩ 39 = true := fun W h z => (h.step z.2).rv.rd.1
      have hq5 : ∀ (W : World), NilSt w s g D W → ∀ z : Later W, rdCells z.1 ⟨w.heap.size, 0, none⟩ 39 = rlineCells s g := fun W h z => (h.step z.2).rv.rd.2
      have HQ0 := Lib.hid hq0
      have HQ1 := Lib.hid hq1
      have HQ2 := Lib.hid hq2
      have HQ3 := Lib.hid hq3
      have HQ4 := Lib.hid hq4
      have HQ5 := Lib.hid hq5
      clear hq0 hq1 hq2 hq3 hq4 hq5
      have q0 := HQ0.out W17 HS17.out
      have q1 := HQ1.out W17 HS17.out
      have q2 := HQ2.out W17 HS17.out
      have q3 := HQ3.out W17 HS17.out
      have q4 := HQ4.out W17 HS17.out
      have q5 := HQ5.out W17 HS17.out
      refine wp_stage [0, 1, 2, 3] [4, 5, 6, 7] 62 (fun w' => ∃ z : Later W17, w' = z.1) (by kernel_rfl) (by kernel_rfl) (by kernel_rfl) rfl rfl ⟨⟨_, Below.refl _ _⟩, rfl⟩ ?_
      simp only [opsAt, List.map_cons, List.map_nil, Array.getD_eq_getD_getElem?, List.getElem?_toArray, List.getElem?_cons_zero, List.getElem?_cons_succ, Option.getD_some]
      repeat (go_big_quiet_step (fail))
      refine wpQuiet_nil ?_
      clear q0 q1 q2 q3 q4 q5
      refine wpN_cons true rfl (by kernel_rfl) ?_
      go_wp2_with fail
      refine (own_any s g ids W17 (hIw.below HS17.out.bl) (by omega)).mono ?_
      rintro r W18 ⟨bo, co, rfl, -, hb⟩
      have HS18 := Lib.hid (HS17.out.step hb)
      go_wp2_with fail
      refine ⟨fun _ => ⟨⟨_, hb⟩, rfl⟩, wpN_list [5, 6, 7] _ _ (by kernel_rfl) ?_⟩
      clear hb HS17
      simp only [opsAt, List.map_cons, List.map_nil, Array.getD_eq_getD_getElem?, List.getElem?_toArray, List.getElem?_cons_zero, List.getElem?_cons_succ, Option.getD_some]
      go_wp2_with fail
      refine (add_nil s _ W18).mono ?_
      rintro r W19 ⟨rfl, hb⟩
      have HS19 := Lib.hid (HS18.out.step hb)
      clear hb HS18
      go_wp2
      refine NoPanic.normal ?_
      rw [QS_normal]
      have q0 := HQ0.out W19 HS19.out
      have q1 := HQ1.out W19 HS19.out
      have q2 := HQ2.out W19 HS19.out
      have q3 := HQ3.out W19 HS19.out
      have q4 := HQ4.out W19 HS19.out
      have q5 := HQ5.out W19 HS19.out
      refine wp_stage [8, 9, 10, 11, 12] [13, 14, 15, 16] 53 (fun w' => ∃ z : Later W19, w' = z.1) (by kernel_rfl) (by kernel_rfl) (by kernel_rfl) rfl rfl ⟨⟨_, Below.refl _ _⟩, rfl⟩ ?_
      simp only [opsAt, List.map_cons, List.map_nil, Array.getD_eq_getD_getElem?, List.getElem?_toArray, List.getElem?_cons_zero, List.getElem?_cons_succ, Option.getD_some]
      repeat (go_big_quiet_step (fail))
      refine wpQuiet_nil ?_
      clear q0 q1 q2 q3 q4 q5
      refine wpN_list [13, 14, 15, 16] _ _ (by kernel_rfl) ?_
      simp only [opsAt, List.map_cons, List.map_nil, Array.getD_eq_getD_getElem?, List.getElem?_toArray, List.getElem?_cons_zero, List.getElem?_cons_succ, Option.getD_some]
      go_wp2_with fail
      refine (remove_nil s g.number W19).mono ?_
      rintro r w' ⟨rfl, rfl⟩
      go_wp2
      refine NoPanic.normal ?_
      rw [QS_normal]
      have q0 := HQ0.out W19 HS19.out
      have q1 := HQ1.out W19 HS19.out
      have q2 := HQ2.out W19 HS19.out
      have q3 := HQ3.out W19 HS19.out
      have q4 := HQ4.out W19 HS19.out
      have q5 := HQ5.out W19 HS19.out
      refine wp_stage [17, 18, 19] [20, 21, 22, 23] 46 (fun w' => ∃ z : Later W19, w' = z.1) (by kernel_rfl) (by kernel_rfl) (by kernel_rfl) rfl rfl ⟨⟨_, Below.refl _ _⟩, rfl⟩ ?_
      simp only [opsAt, List.map_cons, List.map_nil, Array.getD_eq_getD_getElem?, List.getElem?_toArray, List.getElem?_cons_zero, List.getElem?_cons_succ, Option.getD_some]
      repeat (go_big_quiet_step (fail))
      refine wpQuiet_nil ?_
      clear q0 q1 q2 q3 q4 q5
      refine wpN_list [20, 21, 22, 23] _ _ (by kernel_rfl) ?_
      simp only [opsAt, List.map_cons, List.map_nil, Array.getD_eq_getD_getElem?, List.getElem?_toArray, List.getElem?_cons_zero, List.getElem?_cons_succ, Option.getD_some]
      go_wp2_with fail
      refine (removeId_nil g.id W19).mono ?_
      rintro r W20 ⟨rfl, hb⟩
      have HS20 := Lib.hid (HS19.out.step hb)
      clear hb HS19
      go_wp2
      refine NoPanic.normal ?_
      rw [QS_normal]
      have q0 := HQ0.out W20 HS20.out
      have q1 := HQ1.out W20 HS20.out
      have q2 := HQ2.out W20 HS20.out
      have q3 := HQ3.out W20 HS20.out
      have q4 := HQ4.out W20 HS20.out
      have q5 := HQ5.out W20 HS20.out
      refine wp_stage [24, 25, 26] [27, 28, 29, 30, 31] 38 (fun w' => ∃ z : Later W20, w' = z.1) (by kernel_rfl) (by kernel_rfl) (by kernel_rfl) rfl rfl ⟨⟨_, Below.refl _ _⟩, rfl⟩ ?_
      simp only [opsAt, List.map_cons, List.map_nil, Array.getD_eq_getD_getElem?, List.getElem?_toArray, List.getElem?_cons_zero, List.getElem?_cons_succ, Option.getD_some]
      repeat (go_big_quiet_step (fail))
      refine wpQuiet_nil ?_
      clear q0 q1 q2 q3 q4 q5
      refine wpN_list [27, 28, 29, 30, 31] _ _ (by kernel_rfl) ?_
      simp only [opsAt, List.map_cons, List.map_nil, Array.getD_eq_getD_getElem?, List.getElem?_toArray, List.getElem?_cons_zero, List.getElem?_cons_succ, Option.getD_some]
      go_wp2_with fail
      refine (where_nil g.id W20).mono ?_
      rintro r w' ⟨rfl, rfl⟩
      have hb : Below W20.heap.size W20 (W20.alloc (.cells (encId g.id).toArray 23)) := (Below.refl _ _).alloc (Nat.le_refl _) _
      generalize W20.alloc (.cells (encId g.id).toArray 23) = W21 at hb ⊢
      have HS21 := Lib.hid (HS20.out.step hb)
      clear hb HS20
      go_wp2
      refine NoPanic.normal ?_
      rw [QS_normal]
      have q0 := HQ0.out W21 HS21.out
      have q1 := HQ1.out W21 HS21.out
      have q2 := HQ2.out W21 HS21.out
      have q3 := HQ3.out W21 HS21.out
      have q4 := HQ4.out W21 HS21.out
      have q5 := HQ5.out W21 HS21.out
      refine wp_stage [32] [33, 34, 35, 36, 37] 32 (fun w' => ∃ z : Later W21, w' = z.1) (by kernel_rfl) (by kernel_rfl) (by kernel_rfl) rfl rfl ⟨⟨_, Below.refl _ _⟩, rfl⟩ ?_
      simp only [opsAt, List.map_cons, List.map_nil, Array.getD_eq_getD_getElem?, List.getElem?_toArray, List.getElem?_cons_zero, List.getElem?_cons_succ, Option.getD_some]
      repeat (go_big_quiet_step (fail))
      refine wpQuiet_nil ?_
      clear q0 q1 q2 q3 q4 q5
      refine wpN_list [33, 34, 35, 36, 37] _ _ (by kernel_rfl) ?_
      simp only [opsAt, List.map_cons, List.map_nil, Array.getD_eq_getD_getElem?, List.getElem?_toArray, List.getElem?_cons_zero, List.getElem?_cons_succ, Option.getD_some]
      go_wp2_with fail
      refine (groups_nil W21).mono ?_
      rintro r w' ⟨rfl, rfl⟩
      go_wp2
      refine NoPanic.normal ?_
      rw [QS_normal]
      have q0 := HQ0.out W21 HS21.out
      have q1 := HQ1.out W21 HS21.out
      have q2 := HQ2.out W21 HS21.out
      have q3 := HQ3.out W21 HS21.out
      have q4 := HQ4.out W21 HS21.out
      have q5 := HQ5.out W21 HS21.out
      refine wp_stage [38, 39, 40] [41, 42, 43, 44] 25 (fun w' => ∃ z : Later W21, w' = z.1) (by kernel_rfl) (by kernel_rfl) (by kernel_rfl) rfl rfl ⟨⟨_, Below.refl _ _⟩, rfl⟩ ?_
      simp only [opsAt, List.map_cons, List.map_nil, Array.getD_eq_getD_getElem?, List.getElem?_toArray, List.getElem?_cons_zero, List.getElem?_cons_succ, Option.getD_some]
      repeat (go_big_quiet_step (fail))
      refine wpQuiet_nil ?_
      clear q0 q1 q2 q3 q4 q5
      refine wpN_list [41, 42, 43, 44] _ _ (by kernel_rfl) ?_
      simp only [opsAt, List.map_cons, List.map_nil, Array.getD_eq_getD_getElem?, List.getElem?_toArray, List.getElem?_cons_zero, List.getElem?_cons_succ, Option.getD_some]
      go_wp2_with fail
      refine (len_nil s W21).mono ?_
      rintro r w' ⟨rfl, rfl⟩
      go_wp2
      refine NoPanic.normal ?_
      rw [QS_normal]
      have q0 := HQ0.out W21 HS21.out
      have q1 := HQ1.out W21 HS21.out
      have q2 := HQ2.out W21 HS21.out
      have q3 := HQ3.out W21 HS21.out
      have q4 := HQ4.out W21 HS21.out
      have q5 := HQ5.out W21 HS21.out
      refine wp_stage [45] [46, 47, 48, 49] 20 (fun w' => ∃ z : Later W21, w' = z.1) (by kernel_rfl) (by kernel_rfl) (by kernel_rfl) rfl rfl ⟨⟨_, Below.refl _ _⟩, rfl⟩ ?_
      simp only [opsAt, List.map_cons, List.map_nil, Array.getD_eq_getD_getElem?, List.getElem?_toArray, List.getElem?_cons_zero, List.getElem?_cons_succ, Option.getD_some]
      repeat (go_big_quiet_step (fail))
      refine wpQuiet_nil ?_
      clear q0 q1 q2 q3 q4 q5
      refine wpN_list [46, 47, 48, 49] _ _ (by kernel_rfl) ?_
      simp only [opsAt, List.map_cons, List.map_nil, Array.getD_eq_getD_getElem?, List.getElem?_toArray, List.getElem?_cons_zero, List.getElem?_cons_succ, Option.getD_some]
      go_wp2_with fail
      refine (encode_nil W21).mono ?_
      rintro r W22 ⟨rfl, hb⟩
      have HS22 := Lib.hid (HS21.out.step hb)
      clear hb HS21
      go_wp2
      refine NoPanic.normal ?_
      rw [QS_normal]
      have q0 := HQ0.out W22 HS22.out
      have q1 := HQ1.out W22 HS22.out
      have q2 := HQ2.out W22 HS22.out
      have q3 := HQ3.out W22 HS22.out
      have q4 := HQ4.out W22 HS22.out
      have q5 := HQ5.out W22 HS22.out
      refine wp_stage [50] [51, 52, 53, 54] 15 (fun w' => ∃ z : Later W22, w' = z.1) (by kernel_rfl) (by kernel_rfl) (by kernel_rfl) rfl rfl ⟨⟨_, Below.refl _ _⟩, rfl⟩ ?_
      simp only [opsAt, List.map_cons, List.map_nil, Array.getD_eq_getD_getElem?, List.getElem?_toArray, List.getElem?_cons_zero, List.getElem?_cons_succ, Option.getD_some]
      repeat (go_big_quiet_step (fail))
      refine wpQuiet_nil ?_
      clear q0 q1 q2 q3 q4 q5
      refine wpN_list [51, 52, 53, 54] _ _ (by kernel_rfl) ?_
      simp only [opsAt, List.map_cons, List.map_nil, Array.getD_eq_getD_getElem?, List.getElem?_toArray, List.getElem?_cons_zero, List.getElem?_cons_succ, Option.getD_some]
      go_wp2_with fail
      refine (clone_nil W22).mono ?_
      rintro r w' ⟨rfl, rfl⟩
      go_wp2
      refine NoPanic.normal ?_
      rw [QS_normal]
      have q0 := HQ0.out W22 HS22.out
      have q1 := HQ1.out W22 HS22.out
      have q2 := HQ2.out W22 HS22.out
      have q3 := HQ3.out W22 HS22.out
      have q4 := HQ4.out W22 HS22.out
      have q5 := HQ5.out W22 HS22.out
      refine wp_stage [55] [56, 57, 58] 11 (fun w' => ∃ z : Later W22, w' = z.1) (by kernel_rfl) (by kernel_rfl) (by kernel_rfl) rfl rfl ⟨⟨_, Below.refl _ _⟩, rfl⟩ ?_
      simp only [opsAt, List.map_cons, List.map_nil, Array.getD_eq_getD_getElem?, List.getElem?_toArray, List.getElem?_cons_zero, List.getElem?_cons_succ, Option.getD_some]
      repeat (go_big_quiet_step (fail))
      refine wpQuiet_nil ?_
      clear q0 q1 q2 q3 q4 q5
      refine wpN_list [56, 57, 58] _ _ (by kernel_rfl) ?_
      simp only [opsAt, List.map_cons, List.map_nil, Array.getD_eq_getD_getElem?, List.getElem?_toArray, List.getElem?_cons_zero, List.getElem?_cons_succ, Option.getD_some]
      go_wp2_with fail
      refine (equal_nil_nil W22).mono ?_
      rintro r w' ⟨rfl, rfl⟩
      go_wp2
      refine NoPanic.normal ?_
      rw [QS_normal]
      have q0 := HQ0.out W22 HS22.out
      have q1 := HQ1.out W22 HS22.out
      have q2 := HQ2.out W22 HS22.out
      have q3 := HQ3.out W22 HS22.out
      have q4 := HQ4.out W22 HS22.out
      have q5 := HQ5.out W22 HS22.out
      refine wp_stage [59] [60, 61, 62, 63, 64] 5 (fun w' => ∃ z : Later W22, w' = z.1) (by kernel_rfl) (by kernel_rfl) (by kernel_rfl) rfl rfl ⟨⟨_, Below.refl _ _⟩, rfl⟩ ?_
      simp only [opsAt, List.map_cons, List.map_nil, Array.getD_eq_getD_getElem?, List.getElem?_toArray, List.getElem?_cons_zero, List.getElem?_cons_succ, Option.getD_some]
      repeat (go_big_quiet_step (fail))
      refine wpQuiet_nil ?_
      clear q0 q1 q2 q3 q4 q5
      refine wpN_cons true rfl (by kernel_rfl) ?_
      go_wp2_with fail
      refine (new_any W22).mono ?_
      rintro r w' ⟨rfl, rfl⟩
      have hb : Below W22.heap.size W22 ((W22.alloc (.map #[] 0)).alloc (.cells #[.map (some W22.heap.size), .int .i64 0] 104)) := ((Below.refl _ _).alloc (Nat.le_refl _) _).alloc (by simp) _
      generalize (W22.alloc (.map #[] 0)).alloc (.cells #[.map (some W22.heap.size), .int .i64 0] 104) = W23 at hb ⊢
      have HS23 := Lib.hid (HS22.out.step hb)
      clear HS22
      go_wp2_with fail
      refine ⟨fun _ => ⟨⟨_, hb⟩, rfl⟩, wpN_list [61, 62, 63, 64] _ _ (by kernel_rfl) ?_⟩
      clear hb
      simp only [opsAt, List.map_cons, List.map_nil, Array.getD_eq_getD_getElem?, List.getElem?_toArray, List.getElem?_cons_zero, List.getElem?_cons_succ, Option.getD_some]
      go_wp2_with fail
      refine (equal_nil_some _ W23).mono ?_
      rintro r w' ⟨rfl, rfl⟩
      go_wp2
      refine NoPanic.normal ?_
      rw [QS_normal]
      refine wp_stage [] [65, 66, 67, 68, 69] 0 (fun w' => ∃ z : Later W23, w' = z.1) (by kernel_rfl) (by kernel_rfl) (by kernel_rfl) rfl rfl ⟨⟨_, Below.refl _ _⟩, rfl⟩ ?_
      refine wpQuiet_nil ?_
      refine wpN_list [65, 66, 67, 68, 69] _ _ (by kernel_rfl) ?_
      simp only [opsAt, List.map_cons, List.map_nil, Array.getD_eq_getD_getElem?, List.getElem?_toArray, List.getElem?_cons_zero, List.getElem?_cons_succ, Option.getD_some]
      go_wp2_with fail
      refine (new_any W23).mono ?_
      rintro r w' ⟨rfl, rfl⟩
      have hb : Below W23.heap.size W23 ((W23.alloc (.map #[] 0)).alloc (.cells #[.map (some W23.heap.size), .int .i64 0] 104)) := ((Below.refl _ _).alloc (Nat.le_refl _) _).alloc (by simp) _
      generalize (W23.alloc (.map #[] 0)).alloc (.cells #[.map (some W23.heap.size), .int .i64 0] 104) = W24 at hb ⊢
      have HS24 := Lib.hid (HS23.out.step hb)
      clear HS23
      clear hb
      go_wp2_with fail
      refine (equal_some_nil _ W24).mono ?_
      rintro r w' ⟨rfl, rfl⟩
      have hcr := cell_of_row W24 (w.heap.size + 1) 0 _ _ _ HS24.out.rc
      have hfr := frozen_of_row W24 (w.heap.size + 1) 0 _ _ HS24.out.rc
      go_wp2
      refine NoPanic.normal ?_
      rw [QS_normal]
      refine wpSt_end (by kernel_rfl) ?_
      go_wp2
      have hRD : w.heap.size + 1 ≠ D := by
        intro e
        have h1 := HS24.out.rc
        rw [e, HS24.out.df] at h1
        cases h1
      have hK := (heap_setCell_other W24 ⟨w.heap.size + 1, 0, none⟩ D (.bool true) (Ne.symm hRD)).trans HS24.out.df
      have hC := heap_setCell_same W24 (w.heap.size + 1) 0 _ _ (.bool true) HS24.out.rc
      refine ⟨by simp, .inl ⟨_, _, rfl, run_takeDeferred hK, ?_⟩⟩
      have hC5 := (World.putObj_heap_other (o := .deferred none) hRD).trans hC
      have hc5 := cell_of_row _ (w.heap.size + 1) 0 _ _ _ hC5
      refine ⟨.bool true, ?_, rfl, (HS24.out.bl.setCell (p := ⟨w.heap.size + 1, 0, none⟩) (by simp) _).trans (belowK_b (w := w) (Nat.le_refl _) _ D _ _ (by omega) hK rfl rfl)⟩
      exact results_cell1 Tryz.results10 Tryz.isAgg4 _ _ ⟨w.heap.size + 1, 0, none⟩ _ rfl hc5
  · have hsm' : (decide (ids.length ≤ 30) && decide (s.size + g.name.size + g.subject.size ≤ 600)) = false := by simpa using hsm
    rw [hsm']
    have HC2 := Lib.hid hC2
    have HB2 := Lib.hid hB2
    clear hsm hsm' hR2 hC2 hB2
    go_wp2_with fail
    refine (knows w2 (hG.later HB2.out)).mono ?_
    rintro r w3 ⟨rfl, hb3⟩
    have hC3 := (hb3.block _ hs2).trans HC2.out
    have hB3 : Below w.heap.size w w3 := HB2.out.trans (hb3.mono HB2.out.size)
    have hcr := cell_of_row w3 (w.heap.size + 1) 0 _ _ _ hC3
    have hfr := frozen_of_row w3 (w.heap.size + 1) 0 _ _ hC3
    have HC3 := Lib.hid hC3
    have HB3 := Lib.hid hB3
    clear hC3 hB3 hb3
    go_wp2
    have hC := heap_setCell_same w3 (w.heap.size + 1) 0 _ _ (.bool true) HC3.out
    have hc5 := cell_of_row _ (w.heap.size + 1) 0 _ _ _ hC
    refine ⟨.bool true, ?_, rfl, HB3.out.setCell (p := ⟨w.heap.size + 1, 0, none⟩) (by simp) _⟩
    exact results_cell1 Tryz.results10 Tryz.isAgg4 _ _ ⟨w.heap.size + 1, 0, none⟩ _ rfl hc5

end Go.Proofs.YtdjaphcelpchaaaGreatDoor
