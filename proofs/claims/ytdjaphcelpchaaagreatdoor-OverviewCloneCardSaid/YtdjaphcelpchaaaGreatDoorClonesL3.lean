/- Parts of the proofs about bulletinlaw28: Remove, NameOrd, Names, RNames, Stage, Round, GroupsA, Groups, Where. -/
import Derived.Test.YtdjaphcelpchaaaGreatDoorShelf
import Derived.Test.YtdjaphcelpchaaaGreatDoorK1
import Derived.Test.YtdjaphcelpchaaaGreatDoorK2
import Derived.Test.YtdjaphcelpchaaaGreatDoorShelf2
import Derived.Test.YtdjaphcelpchaaaGreatDoorClonesL1
import Derived.Test.YtdjaphcelpchaaaGreatDoorClonesL2
import Derived.Deep.LoopGhost
import Derived.Deep.RegionWith
import Derived.RangeFuncNested
import Derived.RangeFuncBound
import Derived.RangeFuncCalls
import Derived.RangeFuncLeaves
import Derived.OwnWalkIn
import Derived.TacticsInMore
import Derived.LoopNIn
import Derived.LoopIn

namespace Go.Proofs.YtdjaphcelpchaaaGreatDoor
open Go Go.RowKit Go.Proofs

attribute [local go_sem ↓] ex_load_id ex_store_id ex_load_line ex_store_line ex_alloc_line ex_build_line

attribute [local go_sem] ld_id st_id ld_line st_line guard_id okCells_drew rdCells_drew okCells_drewN rdCells_drewN rowOk_drew rowOk_cells okCells_cells rdCells_cells setRow_drew setRow_new setRow_past

theorem lineAt_id {w : World} {g off : Nat} {l : GLine} (h : ∀ i u, (lineList l)[i]? = some u → w.cell? ⟨g, off + i, none⟩ = some u) : okCells w ⟨g, off + 1, none⟩ 32 = true ∧ rdCells w ⟨g, off + 1, none⟩ 32 = (encId l.id).toArray := by
  have := rd_of_cells (w := w) (a := ⟨g, off + 1, none⟩) (cs := encId l.id) (fun j v hj => by
    have hj32 : j < 32 := by have := (List.getElem?_eq_some_iff.1 hj).1; rwa [encId_length] at this
    rw [Addr.add_lit, show off + 1 + j = off + (j + 1) by omega]
    refine h (j + 1) v ?_
    simp only [lineList]
    rw [List.getElem?_cons_succ, List.getElem?_append_left (by rw [encId_length]; exact hj32), hj])
  rwa [encId_length] at this

theorem wpList_delete_run {P : Program} (w : World) {ops : Array Oper} {rest : List Oper} {o : Oper} {a : Act} {Q : Exit → Act → World → Prop} (hgd : o.guard = none) (x y : Operand) (t t' : TypeId)
    (ho : o.op = .call { callee := .builtin .delete, args := #[x, y], argTypes := #[t, t'] }) (v u : Value) (hx : a.eval x = v) (hy : a.eval y = u) {v' : Value} {w' : World}
    (hr : (Builtin.delete_ #[t, t'] o.type #[v, u]).run P w = .ok v' w') (h : wpList P ops Q rest (a.put o.dst v') w') : wpList P ops Q (o :: rest) a w := by
  refine wpList_plain hgd fun K hK => ?_
  unfold Oper.wp execOp
  simp only [ho, resolve, invoke, builtin, Sem.run_bind, Sem.run_pure, Result.andThen_ok, List.map_toArray, List.map_cons, List.map_nil, hx, hy, hr]
  exact hK _ _ h

/-- What Remove does. -/
structure Removed (B ib M : Nat) (gs : List MG) (s : ByteArray) (i : Nat) (w w' : World) (gs' : List MG) (mc' : Nat) : Prop where
  idx : IdxAt B w' ib M gs' mc'
  kept : Kept (foot ib M gs) w w'
  foot : FootOk (Go.Proofs.YtdjaphcelpchaaaGreatDoor.foot ib M gs) (Go.Proofs.YtdjaphcelpchaaaGreatDoor.foot ib M gs') w
  lines : ∀ t, linesIn gs' t = if t = s then (linesIn gs s).eraseIdx i else linesIn gs t
  tot : total gs' + 1 = total gs
def RemovePost (B ib M : Nat) (gs : List MG) (s : ByteArray) (n : Int) (w : World) (r : Ending) (w' : World) : Prop :=
  (hasNum (linesIn gs s) n = false ∧ r = .returned (.int .i64 8) ∧ Below w.heap.size w w') ∨ (∃ i m, (linesIn gs s)[i]? = some m ∧ m.p.number = n ∧ r = .returned (.int .i64 0) ∧ ∃ gs' mc', Removed B ib M gs s i w w' gs' mc')

set_option maxRecDepth 100000 in
set_option maxHeartbeats 8000000 in
theorem remove_any (B ib M mc : Nat) (gs : List MG) (s : ByteArray) (n : Int) (w : World) (h : IdxAt B w ib M gs mc) :
    Calls Tryz.prog 31 #[.pointer (some ⟨ib, 0, none⟩), .string s, .int .i64 n] w fun r w' => RemovePost B ib M gs s n w r w' := by
  have HX := Lib.hid h
  have HL := Lib.hid (linesOf_any B ib M mc gs s w h)
  have HS := Lib.hid (search_at B (valueOf gs s) (linesIn gs s) n w (h.lines s) (h.len s) (h.sorted s))
  obtain ⟨va, vc, hval⟩ := valueOf_slice h s
  have HVAL := Lib.hid hval
  rw [hval] at HL HS
  clear hval h
  cases hhas : hasNum (linesIn gs s) n with
  | false =>
    rw [hhas] at HS
    have HH := Lib.hid hhas
    clear hhas
    generalize (linesIn gs s).length = len at HL HS HVAL
    generalize posN (nums (linesIn gs s)) n = pos at HS
    go_enter Tryz.func31, Tryz.ntmps31
    go_wp2_with fail
    refine HL.out.mono ?_
    rintro r w' ⟨rfl, rfl⟩
    go_wp2_with fail
    refine HS.out.mono ?_
    rintro r w1 ⟨rfl, hb1⟩
    have HB1 := Lib.hid hb1
    clear hb1 HS HL
    go_wp2
    go_ret
    exact .inl ⟨HH.out, rfl, HB1.out⟩
  | true =>
    have HH := Lib.hid hhas
    rw [hhas] at HS
    have h := HX.out
    have hne : linesIn gs s ≠ [] := fun e => by rw [e] at hhas; cases hhas
    obtain ⟨G, hG, hms, hGv⟩ := linesIn_ne hne
    obtain ⟨hGm, hGs⟩ := groupOf_mem hG
    have hpos := between_pos (h.sorted s) n
    obtain ⟨pos, hpe⟩ : ∃ i, i = posN (nums (linesIn gs s)) n := ⟨_, rfl⟩
    rw [← hpe] at HS hpos
    have hhas2 : (nums (linesIn gs s)).contains n = true := hhas
    rw [between_has (h.sorted s) hpos] at hhas2
    obtain ⟨m, him, hmn⟩ : ∃ m, (linesIn gs s)[pos]? = some m ∧ m.p.number = n := by
      split at hhas2
      · rename_i hlt
        rw [nums_length] at hlt
        rw [cmpZ_zero, decide_eq_true_eq] at hhas2
        refine ⟨(linesIn gs s)[pos], List.getElem?_eq_getElem hlt, ?_⟩
        simpa [nums] using hhas2
      · cases hhas2
    have hlt : pos < (linesIn gs s).length := (List.getElem?_eq_some_iff.1 him).1
    have hgr := h.grps G hGm
    have hmG : G.ms[pos]? = some m := hms ▸ him
    obtain ⟨j, hfj, b, hjb⟩ := hgr.find_yes (List.mem_of_getElem? hmG)
    have hjl : j < G.nl.length := (List.getElem?_eq_some_iff.1 hjb).1
    have hpure := hgr.pure.del hmG hjb
    obtain ⟨lb, cap, hv, hBl, hll, hle, hmx, hcell⟩ : ∃ lb cap, G.v = .slice (some ⟨lb, 0, none⟩) G.ms.length cap ∧ B ≤ lb ∧ lb < w.heap.size ∧ G.ms.length ≤ cap ∧ cap ≤ maxLen ∧ ∀ j (hj : j < G.ms.length) i u, (lineList G.ms[j].g)[i]? = some u → w.cell? ⟨lb, j * 38 + i, none⟩ = some u := by
      rcases hgr.lines.head with ⟨_, e⟩ | ⟨g, cap, hx⟩
      · exact absurd e hgr.some'
      · exact ⟨g, cap, hx⟩
    have hcm : ∀ i u, (lineList m.g)[i]? = some u → w.cell? ⟨lb, pos * 38 + i, none⟩ = some u := by
      obtain ⟨h1, h2⟩ := List.getElem?_eq_some_iff.1 hmG
      have := hcell pos h1
      rwa [h2] at this
    have hva : va = some ⟨lb, 0, none⟩ ∧ vc = cap := by
      have := HVAL.out
      rw [hGv, hv, hms] at this
      cases this
      exact ⟨rfl, rfl⟩
    obtain ⟨rfl, rfl⟩ := hva
    have hlen := h.len s
    rw [hms] at HL HS hlt hlen
    obtain ⟨a1, a2, a3⟩ := apart_iff.1 h.apart
    obtain ⟨f1, f2, f3⟩ := a2 G hGm
    have hd : lb ≠ G.gb ∧ lb ≠ G.nb ∧ G.gb ≠ G.nb ∧ ib ≠ G.gb ∧ ib ≠ G.nb ∧ ib ≠ lb ∧ M ≠ G.gb ∧ M ≠ G.nb ∧ M ≠ lb := by
      unfold MG.foot at f1 f2 f3
      rw [hv] at f1 f2 f3
      simp [Value.ownBlock] at f1 f2 f3
      exact ⟨fun e => f3.1.2 e.symm, fun e => f3.2 e.symm, f3.1.1, f1.1, f1.2.1, f1.2.2, f2.1, f2.2.1, f2.2.2⟩
    obtain ⟨d1, d2, d3, d4, d5, d6, d7, d8, d9⟩ := hd
    have HHX := Lib.hid hgr
    have HPURE := Lib.hid hpure
    have HFJ := Lib.hid hfj
    have HCM := Lib.hid hcm
    have HG := Lib.hid hG
    have HMS := Lib.hid hms
    have HV := Lib.hid hv
    have HIM := Lib.hid him
    have HMN := Lib.hid hmn
    have hltz : (pos : Int) < (G.ms.length : Int) := by omega
    clear hgr hpure hfj hcm hG hms hv him hmn h hhas hhas2 hpos hpe hne hGv hcell HVAL a1 a2 a3 f1 f2 f3 hmG hjb HH
    obtain ⟨len, hlenE⟩ : ∃ k, k = G.ms.length := ⟨_, rfl⟩
    rw [← hlenE] at HL HS hlt hlen hltz hle
    have HLE := Lib.hid hlenE
    clear hlenE
    go_enter Tryz.func31, Tryz.ntmps31
    go_wp2_with fail
    refine HL.out.mono ?_
    rintro r w' ⟨rfl, rfl⟩
    go_wp2_with fail
    refine HS.out.mono ?_
    rintro r w1 ⟨rfl, hb1⟩
    have hX1 := HX.out.below hb1
    have hgr1 := hX1.grps G hGm
    have hc0 := hX1.cell0
    have hlk := hX1.look s
    rw [HG.out] at hlk
    simp only [Option.map_some, Option.getD_some] at hlk
    have HB1 := Lib.hid hb1
    have HX1 := Lib.hid hX1
    have HG1 := Lib.hid hgr1
    clear hb1 hX1 hgr1 HS HL
    go_upto_region 7 with (fail)
    clear hc0 hlk
    have q1 : ∀ z : Later w1, z.1.cell? ⟨G.gb, 1, none⟩ = some (.map (some G.nb)) := fun z => z.cell (cell_of_row w1 G.gb 1 _ _ _ HG1.out.blk)
    have q2 : ∀ z : Later w1, z.1.cell? ⟨G.gb, 0, none⟩ = some (.slice (some ⟨lb, 0, none⟩) len vc) := fun z => z.cell ((cell_of_row w1 G.gb 0 _ _ _ HG1.out.blk).trans (by rw [HV.out, HLE.out]; rfl))
    have hid : okCells w1 ⟨lb, pos * 38 + 1, none⟩ 32 = true ∧ rdCells w1 ⟨lb, pos * 38 + 1, none⟩ 32 = (encId m.p.id).toArray := lineAt_id (l := m.g) fun i u hu => (HB1.out.cell (p := ⟨lb, pos * 38 + i, none⟩) hll).trans (HCM.out i u hu)
    have q3 : ∀ z : Later w1, okCells z.1 ⟨lb, pos * 38 + 1, none⟩ 32 = true := fun z => z.ok hid.1
    have q4 : ∀ z : Later w1, rdCells z.1 ⟨lb, pos * 38 + 1, none⟩ 32 = (encId m.p.id).toArray := fun z => (z.rd hid.1).trans hid.2
    clear hid
    refine wp_region_mix0 [0, 1, 2, 3, 4, 5, 6, 7, 8, 9, 10, 11] [12] (fun w' => ∃ z : Later w1, w' = z.1) (by kernel_rfl) (by kernel_rfl) (by kernel_rfl) ⟨⟨_, (Below.refl _ _).drew⟩, rfl⟩ ?_
    simp only [opsAt, List.map_cons, List.map_nil, Array.getD_eq_getD_getElem?, List.getElem?_toArray, List.getElem?_cons_zero, List.getElem?_cons_succ, Option.getD_some]
    repeat (go_big_quiet_step (fail))
    refine wpQuiet_nil ?_
    clear q1 q2 q3 q4
    obtain ⟨w2, hw2⟩ : ∃ w2, w2 = w1.drew.putObj G.nb (.map ((G.nl.eraseIdx j).map (enE ekI)).toArray G.nc) := ⟨_, rfl⟩
    have hdel : ∀ ty, (Builtin.delete_ #[113, 23] ty #[.map (some G.nb), .agg (encId m.p.id).toArray]).run Tryz.prog w1.drew = .ok (.tuple #[]) w2 := fun ty => by
      rw [hw2]
      exact del_any keyI Tryz.underlying113 ty w1.drew G.nb G.nl G.nc HG1.out.nums m.p.id j _ HFJ.out hjl
    have e2 : ∀ k, k ≠ G.nb → w2.heap[k]? = w1.heap[k]? := fun k hk => by rw [hw2, World.putObj_heap_other hk]; rfl
    have hs2 : w2.heap.size = w1.heap.size := by rw [hw2]; simp only [World.putObj, Array.size_setIfInBounds]; rfl
    have hN2 : MapAt ekI w2 G.nb (G.nl.eraseIdx j) G.nc := by rw [hw2]; exact MapAt.put (w := w1.drew) HG1.out.nums
    have ho2 : w2.os = w1.os ∧ w2.tape = w1.tape ∧ w2.output = w1.output := by rw [hw2]; exact ⟨rfl, rfl, rfl⟩
    have hg2 := (e2 G.gb d3).trans HG1.out.blk
    have hL2 : LinesAt B w2 (.slice (some ⟨lb, 0, none⟩) len vc) G.ms := by
      have h1 := HG1.out.lines
      rw [HV.out, ← HLE.out] at h1
      refine h1.keep (fun k hk => e2 k ?_) (fun x hx k hk => e2 k ?_)
      · cases hk; exact d2
      · rintro rfl
        obtain ⟨cur, h2⟩ := (h1.refs x hx).typed hk
        have h3 := HG1.out.nums
        unfold MapAt at h3
        rw [h3] at h2
        cases h2
    have hc2 : w2.cell? ⟨G.gb, 0, none⟩ = some (.slice (some ⟨lb, 0, none⟩) len vc) := (cell_of_row w2 G.gb 0 _ _ _ hg2).trans (by rw [HV.out, HLE.out]; rfl)
    have hfg2 := frozen_of_row w2 G.gb 0 _ _ hg2
    have HDel := Lib.hid (delete_one B lb vc len pos (flatLines G.ms) w2 (flat_cells fun x hx => (hL2.refs x hx).one) (by rw [HLE.out]; rw [HLE.out] at hL2; exact hL2.row) hlen hlt)
    have HE2 := Lib.hid e2
    have HS2 := Lib.hid hs2
    have HN2 := Lib.hid hN2
    have HO2 := Lib.hid ho2
    have HG2 := Lib.hid hg2
    have HL2 := Lib.hid hL2
    clear e2 hs2 hN2 ho2 hg2 hL2 hw2
    refine wpR_list [12] _ _ (by kernel_rfl) ?_
    simp only [opsAt, List.map_cons, List.map_nil, Array.getD_eq_getD_getElem?, List.getElem?_toArray, List.getElem?_cons_zero, List.getElem?_cons_succ, Option.getD_some]
    refine wpList_delete_run _ rfl (.tmp 31) (.tmp 39) 113 23 rfl _ _ rfl rfl (hdel _) ?_
    go_wp2
    refine NoPanic.normal ?_
    clear hdel
    go_wp2_with fail
    refine HDel.out.mono ?_
    rintro r w3 ⟨rfl, hown, hgrow⟩
    have l1 : G.gb < w1.heap.size := (Array.getElem?_eq_some_iff.1 HG1.out.blk).1
    have l2 : ib < w1.heap.size := (Array.getElem?_eq_some_iff.1 HX1.out.blk).1
    have l3 : M < w1.heap.size := HX1.out.map.lt
    have l4 : G.nb < w1.heap.size := HG1.out.nums.lt
    have hs2 := HS2.out
    have e3 : ∀ k, k < w1.heap.size → k ≠ lb → w3.heap[k]? = w2.heap[k]? := fun k hk hkl => hgrow.block k (by omega) (fun e => hkl (Option.some.inj e))
    have hg3 := (e3 G.gb l1 (fun e => d1 e.symm)).trans HG2.out
    have hc3 : w3.cell? ⟨G.gb, 0, none⟩ = some (.slice (some ⟨lb, 0, none⟩) len vc) := (cell_of_row w3 G.gb 0 _ _ _ hg3).trans (by rw [HV.out, HLE.out]; rfl)
    have hfg3 := frozen_of_row w3 G.gb 0 _ _ hg3
    obtain ⟨w4, hw4⟩ : ∃ w4, w4 = w3.setCell ⟨G.gb, 0, none⟩ (.slice (some ⟨lb, 0, none⟩) (len - 1) vc) := ⟨_, rfl⟩
    have hg4 : w4.heap[G.gb]? = some (.cells #[.slice (some ⟨lb, 0, none⟩) (len - 1) vc, .map (some G.nb)] 115 (0, 0)) := by rw [hw4]; exact heap_setCell_same w3 G.gb 0 _ _ _ hg3
    have e4 : ∀ k, k ≠ G.gb → w4.heap[k]? = w3.heap[k]? := fun k hk => by rw [hw4]; exact heap_setCell_other w3 ⟨G.gb, 0, none⟩ k _ hk
    have hs4 : w4.heap.size = w3.heap.size := by rw [hw4]; simp [World.setCell]
    have ho4 : w4.os = w3.os ∧ w4.tape = w3.tape ∧ w4.output = w3.output := by rw [hw4]; exact ⟨rfl, rfl, rfl⟩
    have hc4 : w4.cell? ⟨G.gb, 0, none⟩ = some (.slice (some ⟨lb, 0, none⟩) (len - 1) vc) := cell_of_row w4 G.gb 0 _ _ _ hg4
    have hI4 : w4.heap[ib]? = some (.cells #[.map (some M), .int .i64 (total gs)] 104 (0, 0)) := (e4 ib d4).trans ((e3 ib l2 d6).trans ((HE2.out ib d5).trans HX1.out.blk))
    have hM4 : MapAt ekS w4 M (gs.map MG.e) mc := (e4 M d7).trans ((e3 M l3 d9).trans ((HE2.out M d8).trans HX1.out.map))
    have hN4 : MapAt ekI w4 G.nb (G.nl.eraseIdx j) G.nc := (e4 G.nb (fun e => d3 e.symm)).trans ((e3 G.nb l4 (fun e => d2 e.symm)).trans HN2.out)
    have hfew := HX.out.few
    have htp : 1 ≤ total gs := by have := length_le_total hGm; rw [← HLE.out] at this; omega
    have hL4 : LinesAt B w4 (.slice (some ⟨lb, 0, none⟩) (len - 1) vc) (G.ms.eraseIdx pos) := by
      have hel : (G.ms.eraseIdx pos).length = len - 1 := by rw [List.length_eraseIdx, ← HLE.out, if_pos hlt]
      refine ⟨?_, fun x hx => ?_⟩
      · rw [hel, flat_erase]
        refine ⟨hown.1, ?_⟩
        rcases hown.2 with h0 | ⟨g', cap', cur, e, hg, hcur, hx⟩
        · exact .inl h0
        · refine .inr ⟨g', cap', cur, e, hg, (e4 g' ?_).trans hcur, hx⟩
          cases e
          exact d1
      · have h1 := HL2.out.refs x (mem_erase hx)
        refine h1.block fun k hk => ?_
        obtain ⟨cur, h2⟩ := h1.typed hk
        have hkl : k ≠ lb := fun e => by
          obtain ⟨c3, h4⟩ := ownsRow_typed HL2.out.row (k := lb) rfl
          rw [e, h4] at h2; cases h2
        have hkg : k ≠ G.gb := fun e => by rw [e, HG2.out] at h2; cases h2
        rw [e4 k hkg, e3 k (by have := (h1.lt hk).2; omega) hkl]
    have hk4 : Kept G.foot w w4 := by
      have h1 := HB1.out
      refine ⟨?_, ?_, ?_, ?_, fun k hk hn => ?_⟩
      · exact ho4.1.trans (hgrow.os.trans (HO2.out.1.trans h1.os))
      · exact ho4.2.1.trans (hgrow.tape.trans (HO2.out.2.1.trans h1.tape))
      · exact ho4.2.2.trans (hgrow.output.trans (HO2.out.2.2.trans h1.output))
      · have := hgrow.size; have := h1.size; omega
      · unfold MG.foot at hn
        rw [HV.out] at hn
        simp [Value.ownBlock] at hn
        have := h1.size
        exact (e4 k hn.1).trans ((e3 k (by omega) hn.2.2).trans ((HE2.out k hn.2.1).trans (h1.block k hk)))
    have HG4 := Lib.hid hg4
    have HI4 := Lib.hid hI4
    have HM4 := Lib.hid hM4
    have HN4 := Lib.hid hN4
    have HL4 := Lib.hid hL4
    have HK4 := Lib.hid hk4
    have HW4 := Lib.hid hw4
    have hc40 := cell_of_row w4 ib 0 _ _ _ hI4
    clear hg3 e3 hg4 e4 hs4 ho4 hI4 hM4 hN4 hL4 hk4 hw4 hown hgrow hc2 hfg2 hs2
    by_cases h1 : len = 1
    · obtain ⟨jm, hf1, hf2, hf3⟩ := find_at s 0 HG.out HX.out.names
      rw [Nat.zero_add] at hf1
      obtain ⟨w5, hw5⟩ : ∃ w5, w5 = w4.putObj M (.map (((gs.map MG.e).eraseIdx jm).map (enE ekS)).toArray mc) := ⟨_, rfl⟩
      have hdel2 : ∀ ty, (Builtin.delete_ #[102, 9] ty #[.map (some M), .string s]).run Tryz.prog w4 = .ok (.tuple #[]) w5 := fun ty => by
        rw [hw5]
        exact del_any keyS Tryz.underlying102 ty w4 M (gs.map MG.e) mc HM4.out s jm _ hf1 (by simpa using hf2)
      have hM5 : MapAt ekS w5 M ((dropG gs s).map MG.e) mc := by rw [hw5, hf3]; exact HM4.out.put
      have e5 : ∀ k, k ≠ M → w5.heap[k]? = w4.heap[k]? := fun k hk => by rw [hw5, World.putObj_heap_other hk]
      have hs5 : w5.heap.size = w4.heap.size := by rw [hw5]; simp only [World.putObj, Array.size_setIfInBounds]
      have ho5 : w5.os = w4.os ∧ w5.tape = w4.tape ∧ w5.output = w4.output := by rw [hw5]; exact ⟨rfl, rfl, rfl⟩
      have hib : ib ≠ M := (apart_iff.1 HX.out.apart).1
      have hI5 := (e5 ib hib).trans HI4.out
      have hci := cell_of_row w5 ib 1 _ _ _ hI5
      have hfi := frozen_of_row w5 ib 1 _ _ hI5
      have HI5 := Lib.hid hI5
      have HM5 := Lib.hid hM5
      have HE5 := Lib.hid e5
      have HS5 := Lib.hid hs5
      have HO5 := Lib.hid ho5
      have hlz : (((len - 1 : Nat) : Int) == 0) = true := by rw [h1]; rfl
      have H1 := Lib.hid h1
      clear hI5 hM5 e5 hs5 ho5 hw5 hf1 hf2 hf3 h1
      go_upto_region 9 with (fail)
      rw [← HW4.out]
      go_wp2_with (at_builtin; refine wpList_delete_run _ rfl (.tmp 60) (.tmp 61) 102 9 rfl _ _ rfl rfl (hdel2 _) ?_)
      have ht := total_dropG HX.out.names HG.out
      rw [← HLE.out, H1.out] at ht
      have hI6 : (w5.setCell ⟨ib, 1, none⟩ (.int .i64 ((total gs : Int) - 1))).heap[ib]? = some (.cells #[.map (some M), .int .i64 (total (dropG gs s))] 104 (0, 0)) := by
        have h2 := heap_setCell_same w5 ib 1 _ _ (.int .i64 ((total gs : Int) - 1)) HI5.out
        rw [h2, show ((total gs : Int) - 1) = ((total (dropG gs s) : Nat) : Int) by omega]
        rfl
      have e6 : ∀ k, k ≠ ib → (w5.setCell ⟨ib, 1, none⟩ (.int .i64 ((total gs : Int) - 1))).heap[k]? = w5.heap[k]? := fun k hk => heap_setCell_other w5 ⟨ib, 1, none⟩ k _ hk
      have hs6 : (w5.setCell ⟨ib, 1, none⟩ (.int .i64 ((total gs : Int) - 1))).heap.size = w5.heap.size := by simp [World.setCell]
      generalize hw6 : w5.setCell ⟨ib, 1, none⟩ (.int .i64 ((total gs : Int) - 1)) = w6 at hI6 e6 hs6 ⊢
      have ho6 : w6.os = w5.os ∧ w6.tape = w5.tape ∧ w6.output = w5.output := by rw [← hw6]; exact ⟨rfl, rfl, rfl⟩
      have hk6 : Kept (ib :: M :: G.foot) w w6 := by
        have h2 := HK4.out
        refine ⟨ho6.1.trans (HO5.out.1.trans h2.os), ho6.2.1.trans (HO5.out.2.1.trans h2.tape), ho6.2.2.trans (HO5.out.2.2.trans h2.output), by have := HS5.out; have := h2.size; omega, fun k hk hn => ?_⟩
        rw [List.mem_cons, List.mem_cons, not_or, not_or] at hn
        exact (e6 k hn.1).trans ((HE5.out k hn.2.1).trans (h2.block k hk hn.2.2))
      have hcut := HX.out.cut HG.out hI6 ((e6 M (fun e => hib e.symm)).trans HM5.out) hk6
      clear hI6 e6 hs6 hw6 ho6 hci hfi
      go_ret
      refine .inr ⟨pos, m, HIM.out, HMN.out, rfl, _, mc, hcut.1, hk6.mono fun k hk _ => ?_, hcut.2, fun t => ?_, by omega⟩
      · unfold foot
        rw [List.mem_cons, List.mem_cons] at hk ⊢
        rcases hk with hk | hk | hk
        · exact .inl hk
        · exact .inr (.inl hk)
        · exact .inr (.inr (List.mem_flatMap.2 ⟨G, hGm, hk⟩))
      · rw [linesIn_dropG]
        by_cases hts : t = s
        · rw [if_pos hts, if_pos hts]
          have h2 : (linesIn gs s).length = 1 := by rw [HMS.out, ← HLE.out, H1.out]
          symm
          rw [← List.length_eq_zero_iff, List.length_eraseIdx, h2, if_pos (by rw [H1.out] at hlt; exact hlt)]
        · rw [if_neg hts, if_neg hts]
    · have hlz : (((len - 1 : Nat) : Int) == 0) = false := by rw [beq_eq_false_iff_ne]; omega
      go_upto_region 9 with (fail)
      rw [← HW4.out]
      have hci := cell_of_row w4 ib 1 _ _ _ HI4.out
      have hfi := frozen_of_row w4 ib 1 _ _ HI4.out
      have H1 := Lib.hid h1
      clear h1
      go_wp2
      obtain ⟨G', hG'⟩ : ∃ G' : MG, G' = ⟨G.name, G.born, G.gb, G.nb, .slice (some ⟨lb, 0, none⟩) (len - 1) vc, G.ms.eraseIdx pos, G.nl.eraseIdx j, G.nc⟩ := ⟨_, rfl⟩
      have ht := total_swapG (G' := G') HX.out.names HG.out
      have hel : G'.ms.length = len - 1 := by rw [hG']; show (G.ms.eraseIdx pos).length = _; rw [List.length_eraseIdx, ← HLE.out, if_pos hlt]
      rw [hel, ← HLE.out] at ht
      have hI6 : (w4.setCell ⟨ib, 1, none⟩ (.int .i64 ((total gs : Int) - 1))).heap[ib]? = some (.cells #[.map (some M), .int .i64 (total (swapG gs s G'))] 104 (0, 0)) := by
        have h2 := heap_setCell_same w4 ib 1 _ _ (.int .i64 ((total gs : Int) - 1)) HI4.out
        rw [h2, show ((total gs : Int) - 1) = ((total (swapG gs s G') : Nat) : Int) by omega]
        rfl
      have e6 : ∀ k, k ≠ ib → (w4.setCell ⟨ib, 1, none⟩ (.int .i64 ((total gs : Int) - 1))).heap[k]? = w4.heap[k]? := fun k hk => heap_setCell_other w4 ⟨ib, 1, none⟩ k _ hk
      have hs6 : (w4.setCell ⟨ib, 1, none⟩ (.int .i64 ((total gs : Int) - 1))).heap.size = w4.heap.size := by simp [World.setCell]
      generalize hw6 : w4.setCell ⟨ib, 1, none⟩ (.int .i64 ((total gs : Int) - 1)) = w6 at hI6 e6 hs6 ⊢
      have ho6 : w6.os = w4.os ∧ w6.tape = w4.tape ∧ w6.output = w4.output := by rw [← hw6]; exact ⟨rfl, rfl, rfl⟩
      have hk6 : Kept (ib :: G.foot) w w6 := by
        have h2 := HK4.out
        refine ⟨ho6.1.trans h2.os, ho6.2.1.trans h2.tape, ho6.2.2.trans h2.output, by have := h2.size; omega, fun k hk hn => ?_⟩
        rw [List.mem_cons, not_or] at hn
        exact (e6 k hn.1).trans (h2.block k hk hn.2)
      have hat : GrpAt B w6 G' := by
        rw [hG']
        have hp := HPURE.out
        refine ⟨(e6 G.gb (fun e => d4 e.symm)).trans HG4.out, ?_, (e6 G.nb (fun e => d5 e.symm)).trans HN4.out, hp.agree, hp.ids, hp.sorted, hp.good, HHX.out.named, ?_, HHX.out.gbB, HHX.out.nbB⟩
        · refine HL4.out.keep (fun k hk => e6 k ?_) (fun x hx k hk => e6 k ?_)
          · cases hk; exact fun e => d6 e.symm
          · rintro rfl
            obtain ⟨cur, h2⟩ := (HL4.out.refs x hx).typed hk
            rw [HI4.out] at h2; cases h2
        · intro e
          have h2 : (G.ms.eraseIdx pos).length = 0 := List.length_eq_zero_iff.2 e
          have h3 := H1.out
          rw [hG'] at hel
          have : (G.ms.eraseIdx pos).length = len - 1 := hel
          omega
      have hupd := HX.out.upd (w' := w6) (G' := G') HG.out (by rw [hG']) (by rw [hG']) (by rw [hG']) (by rw [hG']) (.inl (by rw [hG', HV.out]; rfl)) hat hI6 hk6 (by omega)
      clear hI6 e6 hs6 hw6 ho6 hci hfi
      go_ret
      refine .inr ⟨pos, m, HIM.out, HMN.out, rfl, _, mc, hupd.1, hk6.mono fun k hk _ => ?_, hupd.2, fun t => ?_, by omega⟩
      · unfold foot
        rcases List.mem_cons.1 hk with rfl | hk
        · simp
        · exact List.mem_cons.2 (.inr (List.mem_cons.2 (.inr (List.mem_flatMap.2 ⟨G, hGm, hk⟩))))
      · rw [linesIn_swapG t HG.out (by rw [hG']; exact hGs), HMS.out, hG']

end Go.Proofs.YtdjaphcelpchaaaGreatDoor

namespace Go.Proofs.YtdjaphcelpchaaaGreatDoor
open Go Go.RowKit Go.Proofs

theorem less_irr : ∀ a : List UInt8, Op.bytesLess a a = false
  | [] => rfl
  | a :: x => by
    unfold Op.bytesLess
    rw [less_irr x]
    simp
theorem less_trans : ∀ a b c : List UInt8, Op.bytesLess a b = true → Op.bytesLess b c = true → Op.bytesLess a c = true
  | _, _, [], _, h => by cases ‹List UInt8› <;> simp [Op.bytesLess] at h
  | [], _, _ :: _, _, _ => rfl
  | _ :: _, [], _ :: _, h, _ => by simp [Op.bytesLess] at h
  | a :: x, b :: y, c :: z, h1, h2 => by
    unfold Op.bytesLess at h1 h2 ⊢
    simp only [Bool.or_eq_true, decide_eq_true_eq, Bool.and_eq_true, beq_iff_eq] at h1 h2 ⊢
    rcases h1 with h1 | ⟨h1, g1⟩
    · rcases h2 with h2 | ⟨h2, g2⟩
      · exact .inl (by rw [UInt8.lt_iff_toNat_lt] at *; omega)
      · exact .inl (h2 ▸ h1)
    · rcases h2 with h2 | ⟨h2, g2⟩
      · exact .inl (h1 ▸ h2)
      · exact .inr ⟨h1.trans h2, less_trans x y z g1 g2⟩
theorem less_total : ∀ a b : List UInt8, Op.bytesLess a b = false → Op.bytesLess b a = false → a = b
  | [], [], _, _ => rfl
  | [], _ :: _, h, _ => by simp [Op.bytesLess] at h
  | _ :: _, [], _, h => by simp [Op.bytesLess] at h
  | a :: x, b :: y, h1, h2 => by
    unfold Op.bytesLess at h1 h2
    simp only [Bool.or_eq_false_iff, decide_eq_false_iff_not] at h1 h2
    have e : a = b := by
      apply UInt8.toNat_inj.1
      have := h1.1
      have := h2.1
      rw [UInt8.lt_iff_toNat_lt] at *
      omega
    subst e
    simp only [beq_self_eq_true, Bool.true_and] at h1 h2
    rw [less_total x y h1.2 h2.2]
theorem less_asymm {a b : List UInt8} (h : Op.bytesLess a b = true) : Op.bytesLess b a = false := by
  cases h2 : Op.bytesLess b a with
  | false => rfl
  | true =>
    have := less_trans a b a h h2
    rw [less_irr] at this
    cases this

/-- How two lists of parts compare. -/
def cmpL : List (List UInt8) → List (List UInt8) → Int
  | [], [] => 0
  | [], _ :: _ => -1
  | _ :: _, [] => 1
  | a :: x, b :: y => if Op.bytesLess a b then -1 else if Op.bytesLess b a then 1 else cmpL x y
/-- How two names compare. -/
def cmpN (a b : ByteArray) : Int := cmpL (splitL 46 a.data.toList) (splitL 46 b.data.toList)

theorem cmpL_range : ∀ x y, cmpL x y = -1 ∨ cmpL x y = 0 ∨ cmpL x y = 1
  | [], [] => .inr (.inl rfl)
  | [], _ :: _ => .inl rfl
  | _ :: _, [] => .inr (.inr rfl)
  | a :: x, b :: y => by
    unfold cmpL
    split
    · exact .inl rfl
    · split
      · exact .inr (.inr rfl)
      · exact cmpL_range x y
theorem cmpL_swap : ∀ x y, cmpL y x = - cmpL x y
  | [], [] => rfl
  | [], _ :: _ => rfl
  | _ :: _, [] => rfl
  | a :: x, b :: y => by
    unfold cmpL
    cases h1 : Op.bytesLess a b with
    | true => simp [less_asymm h1]
    | false =>
      cases h2 : Op.bytesLess b a with
      | true => simp
      | false => simpa using cmpL_swap x y
theorem cmpL_refl (x : List (List UInt8)) : cmpL x x = 0 := by have := cmpL_swap x x; omega
theorem cmpL_zero : ∀ x y, cmpL x y = 0 → x = y
  | [], [], _ => rfl
  | [], _ :: _, h => by simp [cmpL] at h
  | _ :: _, [], h => by simp [cmpL] at h
  | a :: x, b :: y, h => by
    unfold cmpL at h
    cases h1 : Op.bytesLess a b with
    | true => simp [h1] at h
    | false =>
      cases h2 : Op.bytesLess b a with
      | true => simp [h1, h2] at h
      | false =>
        simp [h1, h2] at h
        rw [less_total a b h1 h2, cmpL_zero x y h]
theorem cmpL_trans : ∀ x y z, cmpL x y < 0 → cmpL y z < 0 → cmpL x z < 0
  | [], [], _, h, _ => by simp [cmpL] at h
  | _ :: _, [], _, h, _ => by simp [cmpL] at h
  | _, _ :: _, [], _, h => by simp [cmpL] at h
  | [], _ :: _, _ :: _, _, _ => by simp [cmpL]
  | a :: x, b :: y, c :: z, h1, h2 => by
    unfold cmpL at h1 h2 ⊢
    cases ab : Op.bytesLess a b with
    | true =>
      cases bc : Op.bytesLess b c with
      | true => simp [less_trans a b c ab bc]
      | false =>
        cases cb : Op.bytesLess c b with
        | true => simp [bc, cb] at h2
        | false =>
          obtain rfl := less_total b c bc cb
          simp [ab]
    | false =>
      cases ba : Op.bytesLess b a with
      | true => simp [ab, ba] at h1
      | false =>
        obtain rfl := less_total a b ab ba
        cases bc : Op.bytesLess a c with
        | true => simp
        | false =>
          cases cb : Op.bytesLess c a with
          | true => simp [bc, cb] at h2
          | false =>
            simp [ab] at h1
            simp [bc, cb] at h2
            simpa using cmpL_trans x y z h1 h2

theorem cmpN_swap (a b : ByteArray) : cmpN b a = - cmpN a b := cmpL_swap _ _
theorem cmpN_refl (a : ByteArray) : cmpN a a = 0 := cmpL_refl _
theorem cmpN_zero {a b : ByteArray} (h : cmpN a b = 0) : a = b := by
  have := cmpL_zero _ _ h
  have h2 := congrArg (fun l => Lib.join l [46]) this
  simp only [join_split] at h2
  cases a; cases b
  simp only [Array.toList_inj] at h2
  rw [h2]
theorem cmpN_trans {a b c : ByteArray} (h1 : cmpN a b < 0) (h2 : cmpN b c < 0) : cmpN a c < 0 := cmpL_trans _ _ _ h1 h2
theorem cmpN_total {a b : ByteArray} (h1 : ¬ cmpN a b < 0) (h2 : ¬ cmpN b a < 0) : a = b := by
  have := cmpN_swap a b
  exact cmpN_zero (by omega)

/-- Two lists in strict order with the same members are equal. -/
theorem sorted_ext {α : Type} {R : α → α → Prop} (irr : ∀ a, ¬ R a a) (tr : ∀ a b c, R a b → R b c → R a c) : ∀ {l1 l2 : List α}, l1.Pairwise R → l2.Pairwise R → (∀ x, x ∈ l1 ↔ x ∈ l2) → l1 = l2
  | [], [], _, _, _ => rfl
  | [], b :: y, _, _, h => by have := (h b).2 (by simp); cases this
  | a :: x, [], _, _, h => by have := (h a).1 (by simp); cases this
  | a :: x, b :: y, h1, h2, h => by
    rw [List.pairwise_cons] at h1 h2
    have e : a = b := by
      rcases List.mem_cons.1 ((h a).1 (by simp)) with e | ha
      · exact e
      · rcases List.mem_cons.1 ((h b).2 (by simp)) with e | hb
        · exact e.symm
        · exact absurd (tr a b a (h1.1 b hb) (h2.1 a ha)) (irr a)
    subst e
    rw [sorted_ext irr tr h1.2 h2.2 fun z => ?_]
    constructor
    · intro hz
      rcases List.mem_cons.1 ((h z).1 (by simp [hz])) with e | h3
      · subst e; exact absurd (h1.1 z hz) (irr z)
      · exact h3
    · intro hz
      rcases List.mem_cons.1 ((h z).2 (by simp [hz])) with e | h3
      · subst e; exact absurd (h2.1 z hz) (irr z)
      · exact h3

/-- Names in strict order. -/
def ordN (l : List ByteArray) : Prop := l.Pairwise fun a b => cmpN a b < 0
theorem ordN_ext {l1 l2 : List ByteArray} (h1 : ordN l1) (h2 : ordN l2) (h : ∀ x, x ∈ l1 ↔ x ∈ l2) : l1 = l2 :=
  sorted_ext (R := fun a b => cmpN a b < 0) (fun a ha => by rw [cmpN_refl] at ha; omega) (fun _ _ _ => cmpN_trans) h1 h2 h

/-- A line of the reference in memory: its group; the line. -/
structure MR where
  s : ByteArray
  m : ML
/-- The order of the reference's lines. -/
def ltR (a b : MR) : Prop := cmpN a.s b.s < 0 ∨ (a.s = b.s ∧ a.m.p.number < b.m.p.number)
theorem ltR_irr (a : MR) : ¬ ltR a a := by
  rintro (h | ⟨_, h⟩)
  · rw [cmpN_refl] at h; omega
  · omega
theorem ltR_trans (a b c : MR) (h1 : ltR a b) (h2 : ltR b c) : ltR a c := by
  rcases h1 with h1 | ⟨e1, h1⟩ <;> rcases h2 with h2 | ⟨e2, h2⟩
  · exact .inl (cmpN_trans h1 h2)
  · exact .inl (e2 ▸ h1)
  · exact .inl (e1 ▸ h2)
  · exact .inr ⟨e1.trans e2, by omega⟩
theorem ltR_total {a b : MR} (h1 : ¬ ltR a b) (h2 : ¬ ltR b a) : a.s = b.s ∧ a.m.p.number = b.m.p.number := by
  unfold ltR at h1 h2
  rw [not_or, not_and] at h1 h2
  have e := cmpN_total h1.1 h2.1
  have := h1.2 e
  have := h2.2 e.symm
  exact ⟨e, by omega⟩
/-- What 'before' of the reference answers. -/
def beforeB (a b : MR) : Bool := decide (cmpN a.s b.s < 0) || (decide (cmpN a.s b.s = 0) && decide (a.m.p.number < b.m.p.number))
theorem beforeB_iff (a b : MR) : beforeB a b = true ↔ ltR a b := by
  unfold beforeB ltR
  simp only [Bool.or_eq_true, decide_eq_true_eq, Bool.and_eq_true]
  constructor
  · rintro (h | ⟨h, h2⟩)
    · exact .inl h
    · exact .inr ⟨cmpN_zero h, h2⟩
  · rintro (h | ⟨h, h2⟩)
    · exact .inl h
    · exact .inr ⟨by rw [h, cmpN_refl], h2⟩

/-- The reference's lists are in this order. -/
def ordR (rs : List MR) : Prop := rs.Pairwise ltR
/-- The place that the reference's Add finds. -/
def atR : List MR → MR → Nat → Nat → Nat
  | [], _, _, at' => at'
  | a :: rs, r, i, at' => atR rs r (i + 1) (if beforeB a r then i + 1 else at')
theorem atR_stay : ∀ (rs : List MR) (r : MR) (i k : Nat), (∀ a ∈ rs, ¬ ltR a r) → atR rs r i k = k
  | [], _, _, _, _ => rfl
  | a :: rs, r, i, k, h => by
    unfold atR
    have hf : beforeB a r = false := by
      rw [Bool.eq_false_iff]
      exact fun e => h a (by simp) ((beforeB_iff a r).1 e)
    rw [hf]
    exact atR_stay rs r (i + 1) k fun b hb => h b (by simp [hb])
theorem atR_split : ∀ (rs : List MR) (r : MR) (i k : Nat), ordR rs → k ≤ i → ∃ x y, rs = x ++ y ∧ (∀ a ∈ x, ltR a r) ∧ (∀ a ∈ y, ¬ ltR a r) ∧ atR rs r i k = if x = [] then k else i + x.length
  | [], r, i, k, _, hk => ⟨[], [], rfl, by simp, by simp, by simp [atR]⟩
  | a :: rs, r, i, k, ho, hk => by
    unfold ordR at ho
    rw [List.pairwise_cons] at ho
    by_cases h : ltR a r
    · obtain ⟨x, y, e, hx, hy, ha⟩ := atR_split rs r (i + 1) (i + 1) ho.2 (Nat.le_refl _)
      refine ⟨a :: x, y, by rw [e]; rfl, fun b hb => ?_, hy, ?_⟩
      · rcases List.mem_cons.1 hb with rfl | hb
        · exact h
        · exact hx b hb
      · unfold atR
        rw [(beforeB_iff a r).2 h]
        simp only [if_true]
        rw [ha]
        by_cases hxe : x = []
        · simp [hxe]
        · simp [hxe]; omega
    · refine ⟨[], a :: rs, rfl, by simp, fun b hb => ?_, ?_⟩
      · rcases List.mem_cons.1 hb with rfl | hb
        · exact h
        · exact fun hb2 => h (ltR_trans a b r (ho.1 b hb) hb2)
      · rw [atR_stay (a :: rs) r i k]
        · simp
        · intro b hb
          rcases List.mem_cons.1 hb with rfl | hb
          · exact h
          · exact fun hb2 => h (ltR_trans a b r (ho.1 b hb) hb2)
/-- A line put in. -/
def addR (rs : List MR) (r : MR) : List MR := rs.take (atR rs r 0 0) ++ r :: rs.drop (atR rs r 0 0)
theorem addR_mem {rs : List MR} {r a : MR} : a ∈ addR rs r ↔ a = r ∨ a ∈ rs := by
  unfold addR
  rw [List.perm_middle.mem_iff, List.mem_cons, List.take_append_drop]
theorem addR_ord {rs : List MR} (ho : ordR rs) {r : MR} (hn : ∀ a ∈ rs, ¬ (a.s = r.s ∧ a.m.p.number = r.m.p.number)) : ordR (addR rs r) := by
  obtain ⟨x, y, e, hx, hy, ha⟩ := atR_split rs r 0 0 ho (Nat.le_refl _)
  have ha' : atR rs r 0 0 = x.length := by
    rw [ha]
    split
    · rename_i h; rw [h]; rfl
    · omega
  unfold addR
  rw [ha', e, List.take_left, List.drop_left]
  have ho' : ordR (x ++ y) := e ▸ ho
  unfold ordR at ho' ⊢
  rw [List.pairwise_append] at ho' ⊢
  have hry : ∀ a ∈ y, ltR r a := fun a hay => Classical.byContradiction fun h => hn a (by rw [e]; simp [hay]) (ltR_total (hy a hay) h)
  refine ⟨ho'.1, List.pairwise_cons.2 ⟨hry, ho'.2.1⟩, fun a hax b hb => ?_⟩
  rcases List.mem_cons.1 hb with rfl | hb
  · exact hx a hax
  · exact ho'.2.2 a hax b hb

/-- The lines of a group. -/
def ofR (rs : List MR) (t : ByteArray) : List MR := rs.filter fun r => decide (r.s = t)
theorem ofR_mem {rs : List MR} {t : ByteArray} {r : MR} : r ∈ ofR rs t ↔ r ∈ rs ∧ r.s = t := by
  unfold ofR
  rw [List.mem_filter, decide_eq_true_eq]
/-- The groups, as the reference counts them. -/
def stepG (out : List ByteArray) (s : ByteArray) : List ByteArray := if out.getLast? = some s then out else out ++ [s]
def groupsR (rs : List MR) : List ByteArray := rs.foldl (fun o r => stepG o r.s) []
theorem groupsR_snoc (rs : List MR) (r : MR) : groupsR (rs ++ [r]) = stepG (groupsR rs) r.s := by
  unfold groupsR
  rw [List.foldl_append]; rfl
theorem snoc_ind {α : Type} {p : List α → Prop} (h0 : p []) (h1 : ∀ l a, p l → p (l ++ [a])) (l : List α) : p l := by
  have : ∀ n (l : List α), l.length = n → p l := by
    intro n
    induction n with
    | zero => intro l hl; rw [List.length_eq_zero_iff.1 hl]; exact h0
    | succ n ih =>
      intro l hl
      have hne : l ≠ [] := fun e => by rw [e] at hl; cases hl
      rw [← List.dropLast_concat_getLast hne]
      exact h1 _ _ (ih _ (by rw [List.length_dropLast]; omega))
  exact this _ l rfl
theorem groupsR_ok (rs : List MR) : ordR rs → ordN (groupsR rs) ∧ (∀ t, t ∈ groupsR rs ↔ ∃ r ∈ rs, r.s = t) ∧ (groupsR rs).getLast? = (rs.getLast?).map (·.s) := by
  refine snoc_ind (p := fun rs => ordR rs → ordN (groupsR rs) ∧ (∀ t, t ∈ groupsR rs ↔ ∃ r ∈ rs, r.s = t) ∧ (groupsR rs).getLast? = (rs.getLast?).map (·.s)) ?_ ?_ rs
  · intro _
    exact ⟨.nil, fun t => by simp [groupsR], rfl⟩
  · intro l a ih ho
    unfold ordR at ho
    rw [List.pairwise_append] at ho
    obtain ⟨h1, h2, h3⟩ := ih ho.1
    rw [groupsR_snoc]
    unfold stepG
    split
    · rename_i hl
      refine ⟨h1, fun t => ?_, ?_⟩
      · rw [h2 t]
        constructor
        · rintro ⟨r, hr, e⟩; exact ⟨r, by simp [hr], e⟩
        · rintro ⟨r, hr, e⟩
          rcases List.mem_append.1 hr with hr | hr
          · exact ⟨r, hr, e⟩
          · obtain rfl := List.mem_singleton.1 hr
            have := List.mem_of_getLast? hl
            rw [h2] at this
            obtain ⟨r', hr', e'⟩ := this
            exact ⟨r', hr', e'.trans e⟩
      · rw [hl]; simp
    · rename_i hl
      refine ⟨?_, fun t => ?_, by simp⟩
      · unfold ordN
        rw [List.pairwise_append]
        refine ⟨h1, List.pairwise_singleton _ _, fun x hx b hb => ?_⟩
        obtain rfl := List.mem_singleton.1 hb
        obtain ⟨r, hr, e⟩ := (h2 x).1 hx
        rcases ho.2.2 r hr a (by simp) with h | ⟨h, _⟩
        · exact e ▸ h
        · exfalso
          apply hl
          rw [h3]
          have hne : l ≠ [] := fun e => by rw [e] at hr; cases hr
          have hla := List.getLast?_eq_some_getLast hne
          rw [hla]
          simp only [Option.map_some, Option.some.injEq]
          by_cases hrl : r = l.getLast hne
          · rw [← hrl]; exact h
          · have hlt : ltR r (l.getLast hne) := by
              have hp := ho.1
              rw [← List.dropLast_concat_getLast hne, List.pairwise_append] at hp
              rw [← List.dropLast_concat_getLast hne] at hr
              rcases List.mem_append.1 hr with hr' | hr'
              · exact hp.2.2 r hr' _ (by simp)
              · exact absurd (List.mem_singleton.1 hr') hrl
            have hlt2 := ho.2.2 (l.getLast hne) (List.getLast_mem hne) a (by simp)
            rcases hlt2 with h5 | ⟨h5, _⟩
            · rcases hlt with h6 | ⟨h6, _⟩
              · have := cmpN_trans h6 h5
                rw [h, cmpN_refl] at this
                omega
              · rw [← h6, h, cmpN_refl] at h5
                omega
            · exact h5
      · rw [List.mem_append, List.mem_singleton, h2 t]
        constructor
        · rintro (⟨r, hr, e⟩ | e)
          · exact ⟨r, by simp [hr], e⟩
          · exact ⟨a, by simp, e.symm⟩
        · rintro ⟨r, hr, e⟩
          rcases List.mem_append.1 hr with hr | hr
          · exact .inl ⟨r, hr, e⟩
          · obtain rfl := List.mem_singleton.1 hr
            exact .inr e.symm
/-- The list is its groups' lines in a row. -/
theorem flat_groups {rs : List MR} (ho : ordR rs) : rs = (groupsR rs).flatMap (ofR rs) := by
  obtain ⟨h1, h2, _⟩ := groupsR_ok rs ho
  refine sorted_ext ltR_irr ltR_trans ho ?_ fun r => ?_
  · rw [List.pairwise_flatMap]
    refine ⟨fun t _ => ho.sublist List.filter_sublist, h1.imp fun {a b} hab x hx y hy => ?_⟩
    exact .inl (by rw [(ofR_mem.1 hx).2, (ofR_mem.1 hy).2]; exact hab)
  · rw [List.mem_flatMap]
    constructor
    · intro hr; exact ⟨r.s, (h2 r.s).2 ⟨r, hr, rfl⟩, ofR_mem.2 ⟨hr, rfl⟩⟩
    · rintro ⟨t, _, hr⟩; exact (ofR_mem.1 hr).1

end Go.Proofs.YtdjaphcelpchaaaGreatDoor

namespace Go.Proofs.YtdjaphcelpchaaaGreatDoor
open Go Go.RowKit Go.Proofs

theorem str_eq_iff (a b : ByteArray) : (a.toList == b.toList) = decide (a = b) := by
  rw [ByteArray.toList_eq, ByteArray.toList_eq, Bool.eq_iff_iff, decide_eq_true_eq, beq_iff_eq]
  constructor
  · intro h; cases a; cases b; simp only [Array.toList_inj] at h; rw [h]
  · intro h; rw [h]

set_option maxHeartbeats 1000000 in
theorem isNaN_str (a : ByteArray) (w : World) : Calls Tryz.prog 167 #[.string a] w fun r w' => r = .returned (.bool false) ∧ w = w' := by
  have h : (a.toList == a.toList) = true := by simp
  go_enter Tryz.func167, Tryz.ntmps167
  go_wp2
  go_ret
  exact ⟨rfl, rfl⟩

/-- How two strings compare. -/
def cmpS (a b : ByteArray) : Int := if Op.bytesLess a.toList b.toList then -1 else if Op.bytesLess b.toList a.toList then 1 else 0
theorem gtr_str (a b : ByteArray) : (!(Op.bytesLess a.toList b.toList || a.toList == b.toList)) = (Op.bytesLess b.toList a.toList) := by
  cases h1 : Op.bytesLess a.toList b.toList with
  | true => rw [less_asymm h1]; rfl
  | false =>
    cases h2 : Op.bytesLess b.toList a.toList with
    | true =>
      have : (a.toList == b.toList) = false := by
        rw [beq_eq_false_iff_ne]
        intro e
        rw [e, less_irr] at h2
        cases h2
      rw [this]; rfl
    | false =>
      rw [less_total _ _ h1 h2]
      simp
set_option maxHeartbeats 1000000 in
theorem cmpStr_any (a b : ByteArray) (w : World) : Calls Tryz.prog 143 #[.string a, .string b] w fun r w' => r = .returned (.int .i64 (cmpS a b)) ∧ w = w' := by
  have hg := gtr_str a b
  unfold cmpS
  generalize h1 : Op.bytesLess a.toList b.toList = x at hg
  generalize h2 : Op.bytesLess b.toList a.toList = y at hg
  generalize h3 : (a.toList == b.toList) = z at hg
  cases x with
  | true =>
    go_enter Tryz.func143, Tryz.ntmps143
    go_wp2_with fail
    refine (isNaN_str a w).mono ?_
    rintro r w' ⟨rfl, rfl⟩
    go_wp2_with fail
    refine (isNaN_str b w).mono ?_
    rintro r w' ⟨rfl, rfl⟩
    go_wp2
    go_ret
    exact ⟨rfl, rfl⟩
  | false =>
    cases y with
    | true =>
      obtain rfl : z = false := by cases z with | false => rfl | true => simp at hg
      clear hg
      go_enter Tryz.func143, Tryz.ntmps143
      go_wp2_with fail
      refine (isNaN_str a w).mono ?_
      rintro r w' ⟨rfl, rfl⟩
      go_wp2_with fail
      refine (isNaN_str b w).mono ?_
      rintro r w' ⟨rfl, rfl⟩
      go_wp2
      go_ret
      exact ⟨rfl, rfl⟩
    | false =>
      obtain rfl : z = true := by cases z with | true => rfl | false => simp at hg
      clear hg
      go_enter Tryz.func143, Tryz.ntmps143
      go_wp2_with fail
      refine (isNaN_str a w).mono ?_
      rintro r w' ⟨rfl, rfl⟩
      go_wp2_with fail
      refine (isNaN_str b w).mono ?_
      rintro r w' ⟨rfl, rfl⟩
      go_wp2
      go_ret
      exact ⟨rfl, rfl⟩

theorem drop_all {α : Type} (l : List α) (k : Nat) (h : l.length ≤ k) : l.drop k = [] := List.drop_eq_nil_of_le h
/-- Lists of strings compare. -/
def cmpB (xs ys : List ByteArray) : Int := cmpL (xs.map (·.data.toList)) (ys.map (·.data.toList))
theorem cmpB_step {xs ys : List ByteArray} {k : Nat} (hx : k < xs.length) (hy : k < ys.length) : cmpB (xs.drop k) (ys.drop k) = if cmpS xs[k] ys[k] ≠ 0 then cmpS xs[k] ys[k] else cmpB (xs.drop (k + 1)) (ys.drop (k + 1)) := by
  rw [List.drop_eq_getElem_cons hx, List.drop_eq_getElem_cons hy]
  unfold cmpB cmpS
  simp only [List.map_cons, ByteArray.toList_eq]
  conv => lhs; unfold cmpL
  cases Op.bytesLess xs[k].data.toList ys[k].data.toList with
  | true => simp
  | false => cases Op.bytesLess ys[k].data.toList xs[k].data.toList <;> simp
theorem cmpN_eq (a b : ByteArray) : cmpN a b = cmpB (splitS 46 a) (splitS 46 b) := by
  unfold cmpN cmpB splitS
  simp only [List.map_map]
  have : ((fun x : ByteArray => x.data.toList) ∘ str) = id := by funext l; simp [str_data]
  rw [this, List.map_id, List.map_id]

set_option maxRecDepth 100000 in
set_option maxHeartbeats 2000000 in
theorem cmpList_any (b1 b2 c1 c2 : Nat) (xs ys : List ByteArray) (w : World) (hx : StrRow w b1 0 xs) (hy : StrRow w b2 0 ys) (h1 : xs.length ≤ 1000000) (h2 : ys.length ≤ 1000000) :
    Calls Tryz.prog 120 #[.slice (some ⟨b1, 0, none⟩) xs.length c1, .slice (some ⟨b2, 0, none⟩) ys.length c2] w fun r w' => r = .returned (.int .i64 (cmpB xs ys)) ∧ w = w' := by
  have HX := Lib.hid hx
  have HY := Lib.hid hy
  clear hx hy
  go_enter Tryz.func120, Tryz.ntmps120
  go_wp2
  go_loop [11] (fun i => ∃ k : Nat, k ≤ xs.length ∧ k ≤ ys.length ∧ i = .int .i64 k ∧ Hid (cmpB xs ys = cmpB (xs.drop k) (ys.drop k))) (fun i => xs.length - (intOf i).toNat)
  case atStart => exact ⟨0, by omega, by omega, rfl, Lib.hid rfl⟩
  case round =>
    obtain ⟨k, hk, hk2, rfl, HB⟩ := hrel
    by_cases hlt : k < xs.length
    · have hltz : (k : Int) < (xs.length : Int) := by omega
      have hc1 := HX.out k _ (List.getElem?_eq_getElem hlt)
      rw [Nat.zero_add] at hc1
      by_cases hlt2 : k < ys.length
      · have hltz2 : ¬ ((ys.length : Int) ≤ (k : Int)) := by omega
        have hltz3 : ((k : Int) < (ys.length : Int)) := by omega
        have hc2 := HY.out k _ (List.getElem?_eq_getElem hlt2)
        rw [Nat.zero_add] at hc2
        have HST := Lib.hid (HB.out.trans (cmpB_step hlt hlt2))
        have HC := Lib.hid (cmpStr_any xs[k] ys[k] w)
        clear HB
        generalize cmpS xs[k] ys[k] = c at HST HC
        generalize xs[k] = x at hc1 HC
        generalize ys[k] = y at hc2 HC
        go_wp2_with fail
        refine HC.out.mono ?_
        rintro r w' ⟨rfl, rfl⟩
        by_cases hc0 : c = 0
        · subst hc0
          go_wp2
          go_round
          case rel => exact ⟨k + 1, by omega, by omega, by go_num, Lib.hid (by rw [HST.out]; simp)⟩
          case measure => simp [intOf]; omega
        · have hc0b : (c != 0) = true := by simpa using hc0
          have hc0c : (c == 0) = false := by simpa using hc0
          go_wp2
          go_ret
          exact ⟨ret_int (by rw [HST.out, if_pos hc0]), rfl⟩
      · have hltz2 : ((ys.length : Int) ≤ (k : Int)) := by omega
        have HE : Hid (cmpB xs ys = 1) := Lib.hid (by
          rw [HB.out, List.drop_eq_getElem_cons hlt, drop_all ys k (by omega)]; rfl)
        clear HB
        go_wp2
        go_ret
        exact ⟨ret_int HE.out.symm, rfl⟩
    · by_cases hlt2 : k < ys.length
      · have hl : (xs.length : Int) < (ys.length : Int) := by omega
        have HE : Hid (cmpB xs ys = -1) := Lib.hid (by
          rw [HB.out, List.drop_eq_getElem_cons hlt2, drop_all xs k (by omega)]; rfl)
        clear HB
        go_wp2
        go_ret
        exact ⟨ret_int HE.out.symm, rfl⟩
      · have hl : ¬ (xs.length : Int) < (ys.length : Int) := by omega
        have HE : Hid (cmpB xs ys = 0) := Lib.hid (by
          rw [HB.out, drop_all xs k (by omega), drop_all ys k (by omega)]; rfl)
        clear HB
        go_wp2
        go_ret
        exact ⟨ret_int HE.out.symm, rfl⟩

set_option maxHeartbeats 1000000 in
theorem compare_any (a b : ByteArray) (w : World) (hG : Gl w) (ha : a.size ≤ 100000) (hb : b.size ≤ 100000) :
    Calls Tryz.prog 86 #[.string a, .string b] w fun r w' => r = .returned (.int .i64 (cmpN a b)) ∧ Below w.heap.size w w' ∧ (w.alloc (.cells ((splitS 46 a).map Value.string).toArray 9)).alloc (.cells ((splitS 46 b).map Value.string).toArray 9) = w' := by
  have hl1 := (splitS_len 46 a).2
  have hl2 := (splitS_len 46 b).2
  have hB : Below w.heap.size w ((w.alloc (.cells ((splitS 46 a).map Value.string).toArray 9)).alloc (.cells ((splitS 46 b).map Value.string).toArray 9)) := ((Below.refl _ _).alloc (Nat.le_refl _) _).alloc (by simp) _
  have HB := Lib.hid hB
  clear hB
  have hr1 : StrRow ((w.alloc (.cells ((splitS 46 a).map Value.string).toArray 9)).alloc (.cells ((splitS 46 b).map Value.string).toArray 9)) w.heap.size 0 (splitS 46 a) := fun k x hx => Lib.cell?_alloc_some _ (split_row w 9 (splitS 46 a) k x hx)
  have hr2 : StrRow ((w.alloc (.cells ((splitS 46 a).map Value.string).toArray 9)).alloc (.cells ((splitS 46 b).map Value.string).toArray 9)) (w.heap.size + 1) 0 (splitS 46 b) := by
    have := split_row (w.alloc (.cells ((splitS 46 a).map Value.string).toArray 9)) 9 (splitS 46 b)
    simpa using this
  have HC := Lib.hid (cmpList_any w.heap.size (w.heap.size + 1) (splitS 46 a).length (splitS 46 b).length (splitS 46 a) (splitS 46 b) _ hr1 hr2 (by omega) (by omega))
  clear hr1 hr2
  rw [← cmpN_eq] at HC
  go_enter Tryz.func86, Tryz.ntmps86
  go_wp2_with fail
  refine (dots_any a w hG (by omega)).mono ?_
  rintro r w' ⟨rfl, rfl⟩
  go_wp2_with fail
  refine (dots_any b _ (hG.later ((Below.refl _ _).alloc (Nat.le_refl _) _)) (by omega)).mono ?_
  rintro r w' ⟨rfl, rfl⟩
  go_wp2_with fail
  refine HC.out.mono ?_
  rintro r w' ⟨rfl, rfl⟩
  go_wp2
  go_ret
  exact ⟨rfl, HB.out, rfl⟩

end Go.Proofs.YtdjaphcelpchaaaGreatDoor

namespace Go.Proofs.YtdjaphcelpchaaaGreatDoor
open Go Go.RowKit Go.Proofs

/-- A row of strings of its own, as a slice that is not nil. -/
theorem row_strs {B : Nat} {w : World} {v : Value} {xs : List ByteArray} (h : w.ownsRow B 9 1 v xs.length (xs.map Value.string)) (hne : xs ≠ []) : ∃ b c, v = .slice (some ⟨b, 0, none⟩) xs.length c ∧ StrRow w b 0 xs ∧ B ≤ b ∧ b < w.heap.size := by
  rcases h.2 with ⟨_, h0⟩ | ⟨g, cap, cur, e, hg, hcur, hr⟩
  · exact absurd (List.length_eq_zero_iff.1 h0) hne
  · refine ⟨g, cap, e, fun k x hx => ?_, hg, (Array.getElem?_eq_some_iff.1 hcur).1⟩
    have := World.ownsRow.cells h (g := g) (by rw [e]; rfl) k (.string x) (by rw [List.getElem?_map, hx]; rfl)
    rwa [Addr.add_lit] at this
theorem StrRow.below' {w w' : World} {b off : Nat} {xs : List ByteArray} (h : StrRow w b off xs) {B : Nat} (hb : Below B w w') (hB : b < B) : StrRow w' b off xs := fun k x hx => (hb.cell (p := ⟨b, _, none⟩) hB).trans (h k x hx)

set_option maxRecDepth 100000 in
set_option maxHeartbeats 4000000 in
theorem rcompare_any (a b : ByteArray) (w : World) (ha : a.size ≤ 100000) (hb : b.size ≤ 100000) :
    Calls Tryz.prog 112 #[.string a, .string b] w fun r w' => r = .returned (.int .i64 (cmpN a b)) ∧ Below w.heap.size w w' := by
  have hl1 := splitS_len 46 a
  have hl2 := splitS_len 46 b
  rw [cmpN_eq]
  have HP1 := Lib.hid (fun w => parts_any a 46 w (by omega))
  have HP2 := Lib.hid (fun w => parts_any b 46 w (by omega))
  generalize splitS 46 a = xs at hl1 HP1 ⊢
  generalize splitS 46 b = ys at hl2 HP2 ⊢
  go_enter Tryz.func112, Tryz.ntmps112
  go_wp2_with fail
  refine (HP1.out w).mono ?_
  rintro r w1 ⟨v1, rfl, hr1, hb1⟩
  go_wp2_with fail
  refine (HP2.out w1).mono ?_
  rintro r w2 ⟨v2, rfl, hr2, hb2⟩
  obtain ⟨g1, c1, rfl, hx1, hg1, hg1l⟩ := row_strs hr1 (by intro e; rw [e] at hl1; simp at hl1)
  obtain ⟨g2, c2, rfl, hx2, hg2, hg2l⟩ := row_strs hr2 (by intro e; rw [e] at hl2; simp at hl2)
  have HX := Lib.hid (hx1.below' hb2 hg1l)
  have HY := Lib.hid hx2
  have HB := Lib.hid (hb1.trans (hb2.mono hb1.size))
  clear hr1 hr2 hx1 hx2 hb1 hb2
  have h1 : xs.length ≤ 1000000 := by omega
  have h2 : ys.length ≤ 1000000 := by omega
  clear hl1 hl2 ha hb
  go_wp2
  go_loopw [7] (fun i wr => ∃ k q : Nat, k ≤ xs.length ∧ k ≤ ys.length ∧ i = .int .i64 k ∧ Hid (cmpB xs ys = cmpB (xs.drop k) (ys.drop k)) ∧ wr = w2.drewN q) (fun i _ => xs.length - (intOf i).toNat)
  case atStart => exact ⟨0, 0, by omega, by omega, rfl, Lib.hid rfl, rfl⟩
  case round =>
    obtain ⟨k, q, hk, hk2, rfl, HC, rfl⟩ := hrel
    by_cases hlt : k < xs.length
    · have hltz : (k : Int) < (xs.length : Int) := by omega
      have hc1 := HX.out k _ (List.getElem?_eq_getElem hlt)
      rw [Nat.zero_add] at hc1
      by_cases hlt2 : k < ys.length
      · have hltz2 : (k : Int) < (ys.length : Int) := by omega
        have hc2 := HY.out k _ (List.getElem?_eq_getElem hlt2)
        rw [Nat.zero_add] at hc2
        have HST := Lib.hid (HC.out.trans (cmpB_step hlt hlt2))
        have hgt := gtr_str xs[k] ys[k]
        clear HC
        unfold cmpS at HST
        generalize xs[k] = x at hc1 HST hgt
        generalize ys[k] = y at hc2 HST hgt
        generalize hl : Op.bytesLess x.toList y.toList = bl at HST hgt
        generalize hl' : Op.bytesLess y.toList x.toList = bl' at HST hgt
        generalize hz : (x.toList == y.toList) = z at hgt
        cases bl with
        | true =>
          go_wp2
          go_quiet (fail)
          go_wp2
          go_ret
          exact ⟨ret_int (by rw [HST.out]; rfl), below_drewN' (below_drewN' HB.out _) _⟩
        | false =>
          cases bl' with
          | true =>
            obtain rfl : z = false := by cases z with | false => rfl | true => simp at hgt
            clear hgt
            go_wp2
            go_quiet (fail)
            go_wp2
            go_quiet (fail)
            go_wp2
            go_ret
            exact ⟨ret_int (by rw [HST.out]; rfl), below_drewN' (below_drewN' (below_drewN' HB.out _) _) _⟩
          | false =>
            obtain rfl : z = true := by cases z with | true => rfl | false => simp at hgt
            clear hgt
            go_wp2
            go_quiet (fail)
            go_wp2
            go_quiet (fail)
            go_wp2
            go_roundw
            case rel => exact ⟨k + 1, _, by omega, by omega, by go_num, Lib.hid (by rw [HST.out]; rfl), by first | rfl | rw [World.drewN_drewN, World.drewN_drewN] | rw [World.drewN_drewN]⟩
            case measure => simp [intOf]; omega
      · have hltz2 : ¬ ((k : Int) < (ys.length : Int)) := by omega
        have hgl : ¬ ((xs.length : Int) < (ys.length : Int)) := by omega
        have hgl2 : ((ys.length : Int) < (xs.length : Int)) := by omega
        have HE : Hid (cmpB xs ys = 1) := Lib.hid (by
          rw [HC.out, List.drop_eq_getElem_cons hlt, drop_all ys k (by omega)]; rfl)
        clear HC
        go_wp2
        go_ret
        exact ⟨ret_int HE.out.symm, below_drewN' HB.out _⟩
    · by_cases hlt2 : k < ys.length
      · have hl : (xs.length : Int) < (ys.length : Int) := by omega
        have HE : Hid (cmpB xs ys = -1) := Lib.hid (by
          rw [HC.out, List.drop_eq_getElem_cons hlt2, drop_all xs k (by omega)]; rfl)
        clear HC
        go_wp2
        go_ret
        exact ⟨ret_int HE.out.symm, below_drewN' HB.out _⟩
      · have hl : ¬ (xs.length : Int) < (ys.length : Int) := by omega
        have hl2 : ¬ (ys.length : Int) < (xs.length : Int) := by omega
        have HE : Hid (cmpB xs ys = 0) := Lib.hid (by
          rw [HC.out, drop_all xs k (by omega), drop_all ys k (by omega)]; rfl)
        clear HC
        go_wp2
        go_ret
        exact ⟨ret_int HE.out.symm, below_drewN' HB.out _⟩

/-- The byte test of Component. -/
def goodB (c : UInt8) : Bool := (decide (97 ≤ c.toNat) && decide (c.toNat ≤ 122)) || (decide (48 ≤ c.toNat) && decide (c.toNat ≤ 57)) || c.toNat == 45 || c.toNat == 43 || c.toNat == 95
theorem goodB_badN : ∀ n : Nat, n < 256 → goodB (UInt8.ofNat n) = !badB (UInt8.ofNat n) := by decide +kernel
theorem goodB_bad (c : UInt8) : goodB c = !badB c := by
  have := goodB_badN c.toNat c.toNat_lt
  simpa using this
theorem low_good {c : UInt8} (h : lowB c = true) : goodB c = true := by
  unfold lowB at h
  unfold goodB
  rw [h]
  rfl

set_option maxRecDepth 100000 in
set_option maxHeartbeats 8000000 in
theorem component_any (s : ByteArray) (w : World) (hs : s.size ≤ 100000) :
    Calls Tryz.prog 111 #[.string s] w fun r w' => r = .returned (.bool (compB s.data.toList)) ∧ w = w' := by
  by_cases h0 : 0 < s.size
  case neg =>
    have e : compB s.data.toList = false := by
      have : s.data.toList = [] := List.length_eq_zero_iff.1 (by rw [size_list]; omega)
      rw [this]; rfl
    have hz : (s.size : Int) < 1 := by omega
    rw [e]
    go_enter Tryz.func111, Tryz.ntmps111
    go_wp2
    go_ret
    exact ⟨rfl, rfl⟩
  have hz : ¬ (s.size : Int) < 1 := by omega
  have hz0 : (0 : Int) < (s.size : Int) := by omega
  by_cases h20 : s.size ≤ 20
  case neg =>
    have e : compB s.data.toList = false := by rw [compB_eq h0, decide_eq_false h20]; rfl
    have hy : (20 : Int) < (s.size : Int) := by omega
    rw [e]
    go_enter Tryz.func111, Tryz.ntmps111
    go_wp2
    go_ret
    exact ⟨rfl, rfl⟩
  have hy : ¬ (20 : Int) < (s.size : Int) := by omega
  have hx0 : s[0]? = some s[0] := by simp [h0]
  by_cases hlow : lowB s[0] = true
  case neg =>
    have e : compB s.data.toList = false := by rw [compB_eq h0, Bool.eq_false_iff.2 hlow]; simp
    rw [e]
    unfold lowB at hlow
    simp only [Bool.and_eq_true, decide_eq_true_eq] at hlow
    by_cases h97 : s[0].toNat < 97
    · have h97z : ((s[0].toNat : Int) < 97) := by omega
      go_enter Tryz.func111, Tryz.ntmps111
      go_wp2
      go_ret
      exact ⟨rfl, rfl⟩
    · have h97z : ¬ ((s[0].toNat : Int) < 97) := by omega
      have h122z : ((122 : Int) < (s[0].toNat : Int)) := by omega
      go_enter Tryz.func111, Tryz.ntmps111
      go_wp2
      go_ret
      exact ⟨rfl, rfl⟩
  have HE : Hid (compB s.data.toList = !s.data.toList.any badB) := Lib.hid (by rw [compB_eq h0, decide_eq_true h20, hlow]; rfl)
  have HT : Hid ((s.data.toList.take 1).any badB = false) := Lib.hid (by
    have : s.data.toList.take 1 = [s[0]] := by
      have := take_snoc s 0 h0
      simpa using this
    rw [this]
    have h1 := low_good hlow
    rw [goodB_bad] at h1
    simpa using h1)
  have h97z : ¬ ((s[0].toNat : Int) < 97) := by
    unfold lowB at hlow
    simp only [Bool.and_eq_true, decide_eq_true_eq] at hlow
    omega
  have h122z : ¬ ((122 : Int) < (s[0].toNat : Int)) := by
    unfold lowB at hlow
    simp only [Bool.and_eq_true, decide_eq_true_eq] at hlow
    omega
  clear hlow
  go_enter Tryz.func111, Tryz.ntmps111
  go_wp2
  go_loop [3] (fun i => ∃ k : Nat, 1 ≤ k ∧ k ≤ s.size ∧ i = .int .i64 k ∧ Hid ((s.data.toList.take k).any badB = false)) (fun i => s.size - (intOf i).toNat)
  case atStart => exact ⟨1, by omega, by omega, rfl, HT⟩
  case round =>
    obtain ⟨k, hk1, hk, rfl, HA⟩ := hrel
    by_cases hlt : k < s.size
    · have hltz : (k : Int) < (s.size : Int) := by omega
      have hgb := goodB_bad s[k]
      have HN : Hid (badB s[k] = false → (s.data.toList.take (k + 1)).any badB = false) := Lib.hid (fun h => by
        rw [take_snoc s k hlt, List.any_append, HA.out]; simp [h])
      have HM : Hid (badB s[k] = true → s.data.toList.any badB = true) := Lib.hid (fun h => List.any_eq_true.2 ⟨s[k], mem_byte s k hlt, h⟩)
      clear h97z h122z
      by_cases hg : goodB s[k] = true
      · have HBf : Hid (badB s[k] = false) := Lib.hid (by rw [hg] at hgb; simpa using hgb.symm)
        clear hgb
        unfold goodB at hg
        simp only [Bool.or_eq_true, Bool.and_eq_true, decide_eq_true_eq, beq_iff_eq] at hg
        rcases hg with (((hg | hg) | hg) | hg) | hg
        · have g1 : (97 : Int) ≤ (s[k].toNat : Int) := by omega
          have g2 : (s[k].toNat : Int) ≤ 122 := by omega
          go_wp2
          go_round
          case rel => exact ⟨k + 1, by omega, by omega, by go_num, Lib.hid (HN.out HBf.out)⟩
          case measure => simp [intOf]; omega
        · have g1 : ¬ (97 : Int) ≤ (s[k].toNat : Int) := by omega
          have g3 : (48 : Int) ≤ (s[k].toNat : Int) := by omega
          have g4 : (s[k].toNat : Int) ≤ 57 := by omega
          go_wp2
          go_round
          case rel => exact ⟨k + 1, by omega, by omega, by go_num, Lib.hid (HN.out HBf.out)⟩
          case measure => simp [intOf]; omega
        · have g1 : ¬ (97 : Int) ≤ (s[k].toNat : Int) := by omega
          have g3 : ¬ (48 : Int) ≤ (s[k].toNat : Int) := by omega
          have g5 : ((s[k].toNat : Int) == 45) = true := by rw [beq_iff_eq]; omega
          clear hg
          go_wp2
          go_round
          case rel => exact ⟨k + 1, by omega, by omega, by go_num, Lib.hid (HN.out HBf.out)⟩
          case measure => simp [intOf]; omega
        · have g1 : ¬ (97 : Int) ≤ (s[k].toNat : Int) := by omega
          have g3 : ¬ (48 : Int) ≤ (s[k].toNat : Int) := by omega
          have g5 : ((s[k].toNat : Int) == 45) = false := by rw [beq_eq_false_iff_ne]; omega
          have g6 : ((s[k].toNat : Int) == 43) = true := by rw [beq_iff_eq]; omega
          clear hg
          go_wp2
          go_round
          case rel => exact ⟨k + 1, by omega, by omega, by go_num, Lib.hid (HN.out HBf.out)⟩
          case measure => simp [intOf]; omega
        · have g1 : ¬ (97 : Int) ≤ (s[k].toNat : Int) := by omega
          have g3 : (48 : Int) ≤ (s[k].toNat : Int) := by omega
          have g4 : ¬ (s[k].toNat : Int) ≤ 57 := by omega
          have g5 : ((s[k].toNat : Int) == 45) = false := by rw [beq_eq_false_iff_ne]; omega
          have g6 : ((s[k].toNat : Int) == 43) = false := by rw [beq_eq_false_iff_ne]; omega
          have g7 : ((s[k].toNat : Int) == 95) = true := by rw [beq_iff_eq]; omega
          clear hg
          go_wp2
          go_round
          case rel => exact ⟨k + 1, by omega, by omega, by go_num, Lib.hid (HN.out HBf.out)⟩
          case measure => simp [intOf]; omega
      · have HBt : Hid (badB s[k] = true) := Lib.hid (by rw [Bool.eq_false_iff.2 hg] at hgb; simpa using hgb.symm)
        have HF : Hid (compB s.data.toList = false) := Lib.hid (by rw [HE.out, HM.out HBt.out]; rfl)
        clear hgb
        unfold goodB at hg
        simp only [Bool.or_eq_true, Bool.and_eq_true, decide_eq_true_eq, beq_iff_eq, not_or, not_and] at hg
        obtain ⟨⟨⟨⟨n1, n2⟩, n3⟩, n4⟩, n5⟩ := hg
        have g5 : ((s[k].toNat : Int) == 45) = false := by rw [beq_eq_false_iff_ne]; omega
        have g6 : ((s[k].toNat : Int) == 43) = false := by rw [beq_eq_false_iff_ne]; omega
        have g7 : ((s[k].toNat : Int) == 95) = false := by rw [beq_eq_false_iff_ne]; omega
        by_cases a1 : (97 : Int) ≤ (s[k].toNat : Int)
        · have a2 : ¬ (s[k].toNat : Int) ≤ 122 := by omega
          have a3 : (48 : Int) ≤ (s[k].toNat : Int) := by omega
          have a4 : ¬ (s[k].toNat : Int) ≤ 57 := by omega
          clear n1 n2 n3 n4 n5
          go_wp2
          go_ret
          exact ⟨by rw [HF.out]; rfl, rfl⟩
        · by_cases a3 : (48 : Int) ≤ (s[k].toNat : Int)
          · have a4 : ¬ (s[k].toNat : Int) ≤ 57 := by omega
            clear n1 n2 n3 n4 n5
            go_wp2
            go_ret
            exact ⟨by rw [HF.out]; rfl, rfl⟩
          · clear n1 n2 n3 n4 n5
            go_wp2
            go_ret
            exact ⟨by rw [HF.out]; rfl, rfl⟩
    · have HF : Hid (compB s.data.toList = true) := Lib.hid (by
        have := HA.out
        rw [List.take_of_length_le (by rw [size_list]; omega)] at this
        rw [HE.out, this]; rfl)
      go_wp2
      go_ret
      exact ⟨by rw [HF.out]; rfl, rfl⟩

set_option maxRecDepth 100000 in
set_option maxHeartbeats 4000000 in
theorem rcheck_any (s : ByteArray) (w : World) (hs : s.size ≤ 100000) :
    Calls Tryz.prog 74 #[.string s] w fun r w' => r = .returned (.int .i64 (nameErr s)) ∧ Below w.heap.size w w' := by
  by_cases h80 : 80 < s.size
  · have e : nameErr s = 5 := if_pos h80
    have hz : (80 : Int) < (s.size : Int) := by omega
    rw [e]
    go_enter Tryz.func74, Tryz.ntmps74
    go_wp2
    go_ret
    exact ⟨rfl, Below.refl _ _⟩
  · have e : nameErr s = if (splitS 46 s).any (fun x => !compB x.data.toList) then 12 else if 10 < (splitS 46 s).length then 9 else 0 := if_neg h80
    have hz : ¬ (80 : Int) < (s.size : Int) := by omega
    have hl := splitS_len 46 s
    have hle := splitS_le 46 s
    have HP := Lib.hid (fun w => parts_any s 46 w (by omega))
    have HQ := Lib.hid e
    clear e
    generalize nameErr s = ee at HQ ⊢
    generalize splitS 46 s = xs at hl hle HP HQ
    go_enter Tryz.func74, Tryz.ntmps74
    go_wp2_with fail
    refine (HP.out w).mono ?_
    rintro r w1 ⟨v1, rfl, hr1, hb1⟩
    obtain ⟨g1, c1, rfl, hx1, hg1, hg1l⟩ := row_strs hr1 (by intro e; rw [e] at hl; simp at hl)
    have HX := Lib.hid hx1
    have HB := Lib.hid hb1
    have HL := Lib.hid hle
    clear hr1 hx1 hb1 hle
    have hn : xs.length ≤ 81 := by omega
    clear hl
    go_wp2
    go_loop [4] (fun i => ∃ k : Nat, k ≤ xs.length ∧ i = .int .i64 k ∧ Hid ((xs.take k).any (fun x => !compB x.data.toList) = false)) (fun i => xs.length - (intOf i).toNat)
    case atStart => exact ⟨0, by omega, rfl, Lib.hid rfl⟩
    case round =>
      obtain ⟨k, hk, rfl, HA⟩ := hrel
      by_cases hlt : k < xs.length
      · have hltz : (k : Int) < (xs.length : Int) := by omega
        have hc1 := HX.out k _ (List.getElem?_eq_getElem hlt)
        rw [Nat.zero_add] at hc1
        have hsz := HL.out xs[k] (List.getElem_mem hlt)
        have HC := Lib.hid (component_any xs[k] w1 (by omega))
        have HN : Hid (compB xs[k].data.toList = true → (xs.take (k + 1)).any (fun x => !compB x.data.toList) = false) := Lib.hid (fun h => by
          rw [List.take_succ_eq_append_getElem hlt, List.any_append, HA.out]; simp [h])
        have HM : Hid (compB xs[k].data.toList = false → xs.any (fun x => !compB x.data.toList) = true) := Lib.hid (fun h => List.any_eq_true.2 ⟨xs[k], List.getElem_mem hlt, by simp [h]⟩)
        clear hsz
        generalize compB xs[k].data.toList = bb at HC HN HM
        generalize xs[k] = x at hc1 HC
        cases bb with
        | true =>
          go_wp2_with fail
          refine HC.out.mono ?_
          rintro r w' ⟨rfl, rfl⟩
          go_wp2
          go_round
          case rel => exact ⟨k + 1, by omega, by go_num, Lib.hid (by first | exact HN.out trivial | exact HN.out rfl)⟩
          case measure => simp [intOf]; omega
        | false =>
          go_wp2_with fail
          refine HC.out.mono ?_
          rintro r w' ⟨rfl, rfl⟩
          go_wp2
          go_ret
          have hm : xs.any (fun x => !compB x.data.toList) = true := by first | exact HM.out trivial | exact HM.out rfl
          exact ⟨ret_int (by rw [HQ.out, if_pos hm]), HB.out⟩
      · have HF : Hid (xs.any (fun x => !compB x.data.toList) = false) := Lib.hid (by
          have := HA.out
          rwa [List.take_of_length_le (by omega)] at this)
        clear HA
        by_cases h10 : 10 < xs.length
        · have h10z : (10 : Int) < (xs.length : Int) := by omega
          go_wp2
          go_ret
          exact ⟨ret_int (by rw [HQ.out, if_neg (by rw [HF.out]; simp), if_pos h10]), HB.out⟩
        · have h10z : ¬ (10 : Int) < (xs.length : Int) := by omega
          go_wp2
          go_ret
          exact ⟨ret_int (by rw [HQ.out, if_neg (by rw [HF.out]; simp), if_neg h10]), HB.out⟩

end Go.Proofs.YtdjaphcelpchaaaGreatDoor

namespace Go.Proofs.YtdjaphcelpchaaaGreatDoor
open Go Go.RowKit

section
variable {P : Program} {ops : Array Oper} {C : World → Prop} {Q : Exit → Act → World → Prop}

/-- Which operations have come up. -/
def doneL (n : Nat) (S : List Nat) : Array Bool := ((List.range n).map fun i => S.contains i).toArray
theorem doneL_size (n : Nat) (S : List Nat) : (doneL n S).size = n := by simp [doneL]
theorem doneL_get (n : Nat) (S : List Nat) (i : Nat) (h' : i < (doneL n S).size) : (doneL n S)[i] = S.contains i := by simp [doneL]
theorem doneL_getD (n : Nat) (S : List Nat) (i : Nat) (h : i < n) (b : Bool) : (doneL n S).getD i b = S.contains i := by
  have h' : i < (doneL n S).size := by rw [doneL_size]; exact h
  simp [h', doneL_get n S i h']
theorem doneL_true {n : Nat} {S : List Nat} {i : Nat} (h : (doneL n S).getD i false = true) : i < n ∧ i ∈ S := by
  rcases Nat.lt_or_ge i n with hi | hi
  · rw [doneL_getD n S i hi] at h
    exact ⟨hi, by simpa using h⟩
  · simp [Array.getElem?_eq_none (by rw [doneL_size]; exact hi : (doneL n S).size ≤ i)] at h

/-- The post of a stage: what stands behind it, and the region's own for every other way out. -/
def QS (fin : Act → World → Prop) (Q : Exit → Act → World → Prop) : Exit → Act → World → Prop
  | .normal, a, w => fin a w
  | e, a, w => Q e a w

theorem wpOp_QS {fin : Act → World → Prop} {i : Nat} {K : Act → World → Prop} {a : Act} {w : World} (h : wpOp P ops (NoPanic (QS fin Q)) i K a w) : wpOp P ops (NoPanic Q) i K a w := by
  have hl : LetsOut (NoPanic (QS fin Q)) → LetsOut (NoPanic Q) := fun ⟨a, w, h⟩ => ⟨a, w, h⟩
  unfold wpOp at *
  cases ho : ops[i]? with
  | none => simp only [ho] at h ⊢; exact h
  | some o =>
    simp only [ho] at h ⊢
    split
    · rename_i hw
      rw [if_pos hw] at h
      rcases h with h | ⟨h1, h2⟩
      · refine .inl ?_
        unfold Oper.wp at *
        generalize (execOp a.eval o).run P w = r at *
        cases r with
        | ok n w' =>
          cases n <;> simp only [Oper.upon] at h ⊢ <;> exact h
        | halt x w' => cases x <;> simp only [Oper.upon] at h ⊢ <;> first | exact h | exact hl h
      · exact .inr ⟨h1, hl h2⟩
    · rename_i hw
      rw [if_neg hw] at h
      exact h

/-- r waits, through others or not, for e; operations that have come up are not followed. -/
def ancD (ops : Array Oper) (D : List Nat) : Nat → Nat → Nat → Bool
  | 0, _, _ => false
  | f + 1, r, e => match ops[r]? with
    | some o => o.after.any fun x => Region.binds .any x && !D.contains x.on && (x.on == e || ancD ops D f x.on e)
    | none => false
theorem ancD_ancB {D : List Nat} : ∀ {f r e : Nat}, ancD ops D f r e = true → ancB ops f r e = true
  | 0, _, _, h => by simp [ancD] at h
  | f + 1, r, e, h => by
    unfold ancD at h
    unfold ancB
    split at h
    · rename_i o ho
      simp only [ho]
      obtain ⟨x, hx, hb⟩ := Array.any_eq_true'.1 h
      refine Array.any_eq_true'.2 ⟨x, hx, ?_⟩
      simp only [Bool.and_eq_true, Bool.or_eq_true] at hb ⊢
      exact ⟨hb.1.1, hb.2.imp id ancD_ancB⟩
    · cases h
def needD (ops : Array Oper) (D E : List Nat) (r : Nat) : Bool := !(E.all fun e => ancD ops D ops.size r e)

/-- The acting operations of a stage, one after the other. -/
def wpN (P : Program) (ops : Array Oper) (Q : Exit → Act → World → Prop) (C : World → Prop) (D E : List Nat) : List Nat → Act → World → Prop
  | [], a, w => Q .normal a w
  | r :: rest, a, w => wpOp P ops (NoPanic Q) r (fun a' w' => (needD ops D E r = true → C w') ∧ wpN P ops Q C D E rest a' w') a w
def Zd (P : Program) (ops : Array Oper) (Q : Exit → Act → World → Prop) (C : World → Prop) (D E : List Nat) (ph : Bool) (w : World) (R : List Nat) (a : Act) : Prop :=
  if ph = true then wpN P ops Q C D E R a w else ∀ w', C w' → wpN P ops Q C D E R a w'

def tailB (ops : Array Oper) (D E R : List Nat) (i : Nat) : Bool := match ops[i]? with
  | some o => o.after.any fun x => Region.binds .any x && (R.getLast? == some x.on || !(D ++ E ++ R).contains x.on)
  | none => false
/-- The closed checks of a stage. -/
def stageB (ops : Array Oper) (D E R : List Nat) : Bool :=
  Region.noSelect ops && decide ((D ++ E ++ R).Nodup) && ((List.range ops.size).all fun i => D.contains i || E.contains i || R.contains i || tailB ops D E R i)
  && E.all (predsB ops (D ++ E)) && pairB (fun y e => !Region.waitsFor .any ops y e && apartB ops y e) E
  && R.all (predsB ops (D ++ E ++ R)) && pairB (fun r s => !Region.waitsFor .any ops r s) R && chainR ops R
  && (R.all fun r => E.all fun y => apartB ops y r)
  && (E.all fun e => match ops[e]? with | some o => !isCall o || (match R with | r :: _ => ancB ops ops.size r e | [] => true) | none => false)
  && (match R.getLast? with | some b => !needD ops D E b | none => false)
  && D.all (fun d => decide (d < ops.size))

theorem stage_main {D E R : List Nat} {m : Nat} {fin : Act → World → Prop} (hB : stageB ops D E R = true) (hfin : ∀ a w, fin a w → wpAny P .any ops (NoPanic Q) m (doneL ops.size (D ++ E ++ R)) a w) : ∀ (n : Nat) (L : Array Bool) (Rd R' : List Nat) (a : Act) (w : World) (ph : Bool), R = Rd ++ R' → L.size = ops.size → Closed ops L → (∀ i, i < ops.size → (L.getD i true = true → i ∈ D ++ E ++ R) ∧ (i ∈ D → L.getD i true = true)) → (R' = [] → E.filter (unl L) = []) → (∀ r ∈ Rd, L.getD r true = true) → (∀ r ∈ R', L.getD r true = false) →
    (E.filter (unl L)).length + R'.length = n → (E.filter (unl L) ≠ [] → C w) → (ph = false → C w ∧ Rd = []) → (ph = true → ∀ e ∈ E.filter (unl L), ∀ o, ops[e]? = some o → isCall o = false) →
    wpQuiet P ops C (Zd P ops (QS fin Q) C D E ph w R') (opsAt ops (E.filter (unl L))) a → wpAny P .any ops (NoPanic Q) (n + m) L a w := by
  simp only [stageB, Bool.and_eq_true, decide_eq_true_eq, List.all_eq_true] at hB
  obtain ⟨⟨⟨⟨⟨⟨⟨⟨⟨⟨⟨hns, hndD⟩, htail⟩, hpE⟩, hpair⟩, hpR⟩, hpairR⟩, hchain⟩, hapR⟩, hcalls⟩, hlast⟩, hDlt⟩ := hB
  have hnd : (E ++ R).Nodup := by rw [List.append_assoc] at hndD; exact (List.nodup_append.1 hndD).2.1
  have hsel := Region.noSelect_spec hns
  have hpair' := pairB_spec hpair
  have hpairR' := pairB_spec hpairR
  have hndE : E.Nodup := (List.nodup_append.1 hnd).1
  have hdis : ∀ x, x ∈ E → x ∈ R → False := fun x h1 h2 => (List.nodup_append.1 hnd).2.2 x h1 x h2 rfl
  have hget : ∀ (l : List Nat) (e : Nat), predsB ops l e = true → ∃ o, ops[e]? = some o ∧ ∀ x ∈ o.after, Region.binds .any x = true → x.on ∈ l ∧ x.on ≠ e := by
    intro l e h
    unfold predsB at h
    split at h
    · rename_i o ho
      refine ⟨o, ho, fun x hx hb => ?_⟩
      have h1 := (Array.all_eq_true_iff_forall_mem.1 h) x hx
      simp only [hb, Bool.not_true, Bool.false_or, Bool.and_eq_true, List.contains_iff_mem, bne_iff_ne] at h1
      exact h1
    · cases h
  have hDl : ∀ d, d ∈ D → d < ops.size := fun d hd => by simpa using hDlt d hd
  have hEl : ∀ e, e ∈ E → e < ops.size := fun e he => by
    obtain ⟨o, ho, _⟩ := hget (D ++ E) e (hpE e he)
    exact (Array.getElem?_eq_some_iff.1 ho).1
  have hRl : ∀ e, e ∈ R → e < ops.size := fun e he => by
    obtain ⟨o, ho, _⟩ := hget (D ++ E ++ R) e (hpR e he)
    exact (Array.getElem?_eq_some_iff.1 ho).1
  have hapart : ∀ y e, apartB ops y e = true → Region.waitsFor .any ops e y = false → ∃ oy oe, ops[y]? = some oy ∧ ops[e]? = some oe ∧ oy.apart ops oe = true := by
    intro y e h hw
    unfold apartB at h
    rw [hw, Bool.false_or] at h
    split at h
    · rename_i oy oe h1 h2
      exact ⟨oy, oe, h1, h2, h⟩
    · cases h
  intro n
  induction n with
  | zero =>
    intro L Rd R' a w ph hR hsz hcl hinv hRE hRd hR' hn _ hphC _ h
    have hE0 : E.filter (unl L) = [] := List.eq_nil_of_length_eq_zero (by omega)
    have hR0 : R' = [] := List.eq_nil_of_length_eq_zero (by omega)
    subst hR0
    rw [List.append_nil] at hR
    subst hR
    rw [hE0] at h
    rw [Nat.zero_add]
    have hL : L = doneL ops.size (D ++ E ++ R) := by
      apply Array.ext
      · rw [hsz, doneL_size]
      · intro i h1 h2
        have hi : i < ops.size := by rw [← hsz]; exact h1
        rw [doneL_get _ _ _ h2]
        have hg : L.getD i true = L[i] := by simp [h1]
        rw [← hg]
        cases hx : (D ++ E ++ R).contains i with
        | true =>
          rw [List.contains_iff_mem, List.append_assoc, List.mem_append, List.mem_append] at hx
          rcases hx with hx | hx | hx
          · exact (hinv i hi).2 hx
          · cases hy : L.getD i true with
            | true => rfl
            | false =>
              have : i ∈ E.filter (unl L) := List.mem_filter.2 ⟨hx, by simp only [unl, hy, Bool.not_false]⟩
              rw [hE0] at this; cases this
          · exact hRd i hx
        | false =>
          cases hy : L.getD i true with
          | false => rfl
          | true =>
            have := (hinv i hi).1 hy
            rw [← List.contains_iff_mem, hx] at this
            cases this
    rw [hL]
    refine hfin a w ?_
    have h' : Zd P ops (QS fin Q) C D E ph w [] a := h
    unfold Zd at h'
    split at h'
    · exact h'
    · rename_i hf
      exact h' w (hphC (by simpa using hf)).1
  | succ n ih =>
    intro L Rd R' a w ph hR hsz hcl hinv hRE hRd hR' hn hCw hphC hphE h
    have hR'ne : R' ≠ [] := fun h0 => by rw [hRE h0, h0] at hn; simp at hn
    have hunE : ∀ x, x ∈ E.filter (unl L) ↔ x ∈ E ∧ L.getD x true = false := fun x => by
      rw [List.mem_filter]; simp only [unl, Bool.not_eq_true']
    -- something may come up
    have hsome : Region.ready .any ops L ≠ [] := by
      cases hE' : E.filter (unl L) with
      | cons e T =>
        have he := (hunE e).1 (by rw [hE']; simp)
        obtain ⟨o, ho, hpre⟩ := hget (D ++ E) e (hpE e he.1)
        have hpw := hpair'.filter (p := unl L)
        rw [hE'] at hpw
        have : e ∈ Region.ready .any ops L := mem_ready.2 ⟨he.2, o, ho, fun x hx hb => by
          obtain ⟨hxE, hxe⟩ := hpre x hx hb
          cases hlx : L.getD x.on false with
          | true => rfl
          | false =>
            exfalso
            rcases List.mem_append.1 hxE with hxD | hxE
            · have h9 := (hinv x.on (hDl _ hxD)).2 hxD
              rw [getD_in (by rw [hsz]; exact hDl _ hxD) hlx] at h9
              cases h9
            have hin : x.on < L.size := by rw [hsz]; exact hEl _ hxE
            have hxm : x.on ∈ E.filter (unl L) := (hunE _).2 ⟨hxE, getD_in hin hlx⟩
            rw [hE'] at hxm
            rcases List.mem_cons.1 hxm with h1 | h1
            · exact hxe h1
            · have h2 := (List.pairwise_cons.1 hpw).1 _ h1
              simp only [Bool.and_eq_true, Bool.not_eq_true'] at h2
              rw [waitsFor_of ho hx hb rfl] at h2
              cases h2.1⟩
        intro h0; rw [h0] at this; cases this
      | nil =>
        cases R' with
        | nil => rw [hE'] at hn; simp at hn
        | cons r rest =>
          have hrR : r ∈ R := by rw [hR]; simp
          obtain ⟨o, ho, hpre⟩ := hget (D ++ E ++ R) r (hpR r hrR)
          have : r ∈ Region.ready .any ops L := mem_ready.2 ⟨hR' r (by simp), o, ho, fun x hx hb => by
            obtain ⟨hxE, hxe⟩ := hpre x hx hb
            cases hlx : L.getD x.on false with
            | true => rfl
            | false =>
              exfalso
              rw [List.append_assoc] at hxE
              rcases List.mem_append.1 hxE with hxD | hxE
              · have h9 := (hinv x.on (hDl _ hxD)).2 hxD
                rw [getD_in (by rw [hsz]; exact hDl _ hxD) hlx] at h9
                cases h9
              rcases List.mem_append.1 hxE with h1 | h1
              · have hin : x.on < L.size := by rw [hsz]; exact hEl _ h1
                have : x.on ∈ E.filter (unl L) := (hunE _).2 ⟨h1, getD_in hin hlx⟩
                rw [hE'] at this; cases this
              · have hin : x.on < L.size := by rw [hsz]; exact hRl _ h1
                rw [hR] at h1
                rcases List.mem_append.1 h1 with h2 | h2
                · have := hRd _ h2
                  rw [getD_in hin hlx] at this; cases this
                · rcases List.mem_cons.1 h2 with h3 | h3
                  · exact hxe h3
                  · rw [hR] at hpairR'
                    have h4 := (List.pairwise_cons.1 (List.pairwise_append.1 hpairR').2.1).1 _ h3
                    simp only [Bool.not_eq_true'] at h4
                    rw [waitsFor_of ho hx hb rfl] at h4
                    cases h4⟩
          intro h0; rw [h0] at this; cases this
    rw [show n + 1 + m = (n + m) + 1 by omega]
    refine ⟨fun h0 => absurd h0 hsome, fun i hi => ?_⟩
    obtain ⟨hiu, oi, hoi, hall⟩ := mem_ready.1 hi
    have hilt := (Array.getElem?_eq_some_iff.1 hoi).1
    have hcl' : Closed ops (L.setIfInBounds i true) := fun j oj hj hl e he hb => by
      by_cases hij : i = j
      · subst hij
        have : oj = oi := Option.some.inj (hj.symm.trans hoi)
        subst this
        exact getD_set_true (hall e he hb)
      · rw [getD_set_ne false hij] at hl
        exact getD_set_true (hcl j oj hj hl e he hb)
    have hinv' : i ∈ E ++ R → ∀ j, j < ops.size → ((L.setIfInBounds i true).getD j true = true → j ∈ D ++ E ++ R) ∧ (j ∈ D → (L.setIfInBounds i true).getD j true = true) := fun hiER j hj => by
      by_cases hij : i = j
      · subst hij
        exact ⟨fun _ => by rw [List.append_assoc]; exact List.mem_append_right _ hiER, fun _ => by rw [← hsz] at hj; simp [hj]⟩
      · rw [getD_set_ne true hij]
        exact hinv j hj
    have hc : i ∈ E ∨ i ∈ R := by
      have hc := htail i (List.mem_range.2 hilt)
      rw [Bool.or_eq_true, Bool.or_eq_true, Bool.or_eq_true, List.contains_iff_mem, List.contains_iff_mem, List.contains_iff_mem] at hc
      rcases hc with ((hc | hc) | hc) | hc
      · rw [(hinv i hilt).2 hc] at hiu; cases hiu
      · exact .inl hc
      · exact .inr hc
      · exfalso
        unfold tailB at hc
        rw [hoi] at hc
        obtain ⟨x, hx, hb⟩ := Array.any_eq_true'.1 hc
        rw [Bool.and_eq_true, Bool.or_eq_true] at hb
        have hlx := hall x hx hb.1
        rcases hb.2 with h1 | h1
        · rw [beq_iff_eq] at h1
          have hlast' : R.getLast? = R'.getLast? := by
            rw [hR, List.getLast?_append]
            cases hz : R'.getLast? with
            | none => exact absurd (List.getLast?_eq_none_iff.1 hz) hR'ne
            | some z => rfl
          have hm : x.on ∈ R' := List.mem_of_getLast? (by rw [← hlast', ← h1])
          rw [getD_both (hR' _ hm)] at hlx
          cases hlx
        · rw [Bool.not_eq_true'] at h1
          have hlt : x.on < ops.size := by
            rcases Nat.lt_or_ge x.on L.size with h2 | h2
            · rw [← hsz]; exact h2
            · simp [Array.getElem?_eq_none h2] at hlx
          have h3 := (hinv x.on hlt).1 (by
            cases h4 : L.getD x.on true with
            | true => rfl
            | false => rw [getD_both h4] at hlx; cases hlx)
          rw [← List.contains_iff_mem] at h3
          rw [h3] at h1
          cases h1
    rcases hc with hc | hc
    · -- a quiet one
      have himem : i ∈ E.filter (unl L) := (hunE i).2 ⟨hc, hiu⟩
      obtain ⟨E1, E2, hsplit⟩ := List.append_of_mem himem
      have hiR : i ∉ R := fun h' => hdis i hc h'
      have hpw := hpair'.filter (p := unl L)
      rw [hsplit] at hpw h
      have hap : ∀ x ∈ E1, ∃ ox, ops[x]? = some ox ∧ ox.apart ops oi = true := by
        intro x hx
        have h2 := (List.pairwise_append.1 hpw).2.2 x hx i (by simp)
        simp only [Bool.and_eq_true, Bool.not_eq_true'] at h2
        have hxu : L.getD x true = false := ((hunE x).1 (by rw [hsplit]; simp [hx])).2
        obtain ⟨oy, oe, h3, h4, h5⟩ := hapart x i h2.2 (not_waits_of_ready hi hxu)
        have : oe = oi := Option.some.inj (h4.symm.trans hoi)
        subst this
        exact ⟨oy, h3, h5⟩
      have hq := quiet_front hoi hsel E1 E2 a hap h
      have hfs := filter_set (by rw [hsz]; exact hilt) hndE hsplit
      have next : ∀ (a' : Act) (w' : World), (ph = true → w' = w) → C w' → wpQuiet P ops C (Zd P ops (QS fin Q) C D E ph w R') (opsAt ops (E1 ++ E2)) a' → wpAny P .any ops (NoPanic Q) (n + m) (L.setIfInBounds i true) a' w' := by
        intro a' w' hw' hC' h'
        refine ih (L.setIfInBounds i true) Rd R' a' w' ph hR (by simpa using hsz) hcl' (hinv' (List.mem_append_left _ hc)) (fun h0 => absurd h0 hR'ne) (fun r hr => ?_) (fun r hr => ?_) ?_ (fun _ => hC') (fun hp => ⟨hC', (hphC hp).2⟩) (fun hp e he o ho => ?_) ?_
        · rw [getD_set_ne true (by rintro rfl; exact hiR (by rw [hR]; simp [hr]))]; exact hRd r hr
        · rw [getD_set_ne true (by rintro rfl; exact hiR (by rw [hR]; simp [hr]))]; exact hR' r hr
        · rw [hfs]; rw [hsplit] at hn; simp only [List.length_append, List.length_cons] at hn ⊢; omega
        · rw [hfs] at he
          exact hphE hp e (by rw [hsplit]; simp at he ⊢; rcases he with he | he <;> simp [he]) o ho
        · rw [hfs]
          refine wpQuiet_mono (fun a'' h'' => ?_) _ _ h'
          unfold Zd at *
          split
          · rename_i hp
            rw [if_pos hp] at h''
            rw [hw' hp]; exact h''
          · rename_i hp
            rw [if_neg hp] at h''
            exact h''
      have hCw' : C w := hCw (by rw [hsplit]; simp)
      cases ph with
      | false => exact wpOp_of_qOp hCw' (fun a' w' hC' h' => next a' w' (by simp) hC' h') hq
      | true =>
        exact still_of_quiet hoi (hphE rfl i himem oi hoi) hCw' (fun a' h' => next a' w (fun _ => rfl) hCw' h') hq
    · -- the next acting one
      have hiE : i ∉ E := fun h' => hdis i h' hc
      have hiR' : i ∈ R' := by
        rw [hR] at hc
        rcases List.mem_append.1 hc with h1 | h1
        · rw [hRd i h1] at hiu; cases hiu
        · exact h1
      cases R' with
      | nil => cases hiR'
      | cons r rest =>
        have hir : i = r := by
          rcases List.mem_cons.1 hiR' with h1 | h1
          · exact h1
          · exfalso
            have hch := chain_suffix Rd (r :: rest) (by rw [← hR]; exact hchain)
            obtain ⟨p, hp, hw⟩ := chain_pred hch i h1
            rw [not_waits_of_ready hi (hR' p hp)] at hw
            cases hw
        subst hir
        have hap : ∀ x ∈ E.filter (unl L), ∃ ox, ops[x]? = some ox ∧ ox.apart ops oi = true := by
          intro x hx
          have hx' := (hunE x).1 hx
          have h2 := hapR i hc x hx'.1
          obtain ⟨oy, oe, h3, h4, h5⟩ := hapart x i h2 (not_waits_of_ready hi hx'.2)
          have : oe = oi := Option.some.inj (h4.symm.trans hoi)
          subst this
          exact ⟨oy, h3, h5⟩
        have h1 : wpQuiet P ops C (fun a' => wpOp P ops (NoPanic Q) i (fun a' w' => (needD ops D E i = true → C w') ∧ wpN P ops (QS fin Q) C D E rest a' w') a' w) (opsAt ops (E.filter (unl L))) a := by
          refine wpQuiet_mono (fun a'' h'' => ?_) _ _ h
          unfold Zd at h''
          split at h''
          · exact wpOp_QS h''
          · rename_i hp
            exact wpOp_QS (h'' w (hphC (by simpa using hp)).1)
        have h2 := act_front hoi hsel (E.filter (unl L)) a hap h1
        have hfs := filter_set_not (L := L) hiE
        have hneed : E.filter (unl L) ≠ [] → needD ops D E i = true := by
          intro hne
          cases hq : needD ops D E i with
          | true => rfl
          | false =>
            exfalso
            unfold needD at hq
            simp only [Bool.not_eq_false', List.all_eq_true] at hq
            obtain ⟨e, he⟩ := List.exists_mem_of_ne_nil _ hne
            have he' := (hunE e).1 he
            have h4 := anc_listed hcl ops.size i e (fun o ho => by
              have : o = oi := Option.some.inj (ho.symm.trans hoi)
              subst this; exact hall) (ancD_ancB (hq e he'.1))
            rw [getD_both he'.2] at h4
            cases h4
        refine wpOp_mono (fun a' w' h3 => ?_) h2
        refine ih (L.setIfInBounds i true) (Rd ++ [i]) rest a' w' true (by rw [hR]; simp) (by simpa using hsz) hcl' (hinv' (List.mem_append_right _ hc)) (fun h0 => by
          rw [hfs]
          subst h0
          by_cases hne : E.filter (unl L) = []
          · exact hne
          · exfalso
            have h5 := hneed hne
            rw [hR, List.getLast?_append] at hlast
            simp only [List.getLast?_singleton, Option.some_or, Bool.not_eq_true'] at hlast
            rw [h5] at hlast
            cases hlast) (fun r hr => ?_) (fun r hr => ?_) ?_ (fun hne => ?_) (by simp) (fun _ e he o ho => ?_) ?_
        · by_cases hri : i = r
          · subst hri; rw [hsz.symm] at hilt; simp [hilt]
          · rw [getD_set_ne true hri]
            rcases List.mem_append.1 hr with h4 | h4
            · exact hRd r h4
            · simp at h4; exact absurd h4.symm hri
        · have hri : i ≠ r := by
            rintro rfl
            have : (Rd ++ i :: rest).Nodup := hR ▸ (List.nodup_append.1 hnd).2.1
            exact (List.nodup_cons.1 (List.nodup_append.1 this).2.1).1 hr
          rw [getD_set_ne true hri]; exact hR' r (by simp [hr])
        · rw [hfs]; simp only [List.length_cons] at hn; omega
        · rw [hfs] at hne
          exact (quiet_const _ _ h3) (hneed hne)
        · rw [hfs] at he
          cases ph with
          | true => exact hphE rfl e he o ho
          | false =>
            have he' := (hunE e).1 he
            have h4 := hcalls e he'.1
            rw [ho] at h4
            simp only [Bool.or_eq_true, Bool.not_eq_true'] at h4
            rcases h4 with h4 | h4
            · exact h4
            · exfalso
              have hRd0 := (hphC rfl).2
              subst hRd0
              rw [List.nil_append] at hR
              rw [hR] at h4
              have h5 := anc_listed hcl ops.size i e (fun o ho => by
                have : o = oi := Option.some.inj (ho.symm.trans hoi)
                subst this; exact hall) h4
              rw [getD_both he'.2] at h5
              cases h5
        · rw [hfs]
          refine wpQuiet_mono (fun a'' h'' => ?_) _ _ h3
          unfold Zd
          rw [if_pos rfl]
          exact h''.2


/-- The region where the operations of S have come up, m are left. -/
def wpSt (P : Program) (ops : Array Oper) (Q : Exit → Act → World → Prop) (S : List Nat) (m : Nat) (a : Act) (w : World) : Prop := wpAny P .any ops (NoPanic Q) m (doneL ops.size S) a w

theorem wpSt_end {S : List Nat} {a : Act} {w : World} (hS : ((List.range ops.size).all fun i => S.contains i) = true) (h : Q .normal a w) : wpSt P ops Q S 0 a w := by
  refine ⟨?_, h⟩
  rw [List.eq_nil_iff_forall_not_mem]
  intro i hi
  obtain ⟨h1, o, ho, _⟩ := mem_ready.1 hi
  have hlt := (Array.getElem?_eq_some_iff.1 ho).1
  rw [doneL_getD _ _ _ hlt, List.all_eq_true.1 hS i (List.mem_range.2 hlt)] at h1
  cases h1

theorem closed_done {D : List Nat} (hD : D.all (predsB ops D) = true) : Closed ops (doneL ops.size D) := by
  intro j oj hj hl e he hb
  have hjD := (doneL_true hl).2
  have h1 := List.all_eq_true.1 hD j hjD
  unfold predsB at h1
  rw [hj] at h1
  have h2 := (Array.all_eq_true_iff_forall_mem.1 h1) e he
  simp only [hb, Bool.not_true, Bool.false_or, Bool.and_eq_true, List.contains_iff_mem, bne_iff_ne] at h2
  have h3 := List.all_eq_true.1 hD e.on h2.1
  unfold predsB at h3
  split at h3
  · rename_i o ho
    rw [doneL_getD _ _ _ (Array.getElem?_eq_some_iff.1 ho).1]
    simpa using h2.1
  · cases h3

/-- One stage: first the quiet ones, none of them a call, then the acting ones. -/
theorem wp_stage {D S : List Nat} {k : Nat} {a : Act} {w : World} (E R : List Nat) (m : Nat) (C : World → Prop) (hB : stageB ops D E R = true) (hD : D.all (predsB ops D) = true) (hE : (E.all fun e => match ops[e]? with | some o => !isCall o | none => false) = true)
    (hS : D ++ E ++ R = S) (hk : E.length + R.length + m = k) (hC : C w) (h : wpQuiet P ops C (fun a' => wpN P ops (QS (wpSt P ops Q S m) Q) C D E R a' w) (opsAt ops E) a) : wpSt P ops Q D k a w := by
  subst hS
  subst hk
  have hB' := hB
  simp only [stageB, Bool.and_eq_true, decide_eq_true_eq, List.all_eq_true] at hB'
  obtain ⟨⟨⟨⟨⟨⟨⟨⟨⟨⟨⟨_, hndD⟩, _⟩, hpE⟩, _⟩, hpR⟩, _⟩, _⟩, _⟩, _⟩, hlast⟩, hDlt⟩ := hB'
  have hlt : ∀ (l : List Nat) (e : Nat), predsB ops l e = true → e < ops.size := fun l e h => by
    unfold predsB at h
    split at h
    · rename_i o ho; exact (Array.getElem?_eq_some_iff.1 ho).1
    · cases h
  rw [List.append_assoc] at hndD
  have hnd := List.nodup_append.1 hndD
  have hfresh : ∀ e, e ∈ E ++ R → e < ops.size → (doneL ops.size D).getD e true = false := fun e he hl => by
    rw [doneL_getD _ _ _ hl]
    cases hx : D.contains e with
    | false => rfl
    | true => exact absurd rfl (hnd.2.2 e (by simpa using hx) e he)
  have hall : E.filter (unl (doneL ops.size D)) = E := by
    rw [List.filter_eq_self]
    intro e he
    simp only [unl, hfresh e (List.mem_append_left _ he) (hlt _ _ (hpE e he)), Bool.not_false]
  have hRne : R ≠ [] := by rintro rfl; simp at hlast
  refine stage_main hB (fun a w h => h) (E.length + R.length) (doneL ops.size D) [] R a w true rfl (doneL_size _ _) (closed_done hD) (fun i hi => ⟨fun h1 => ?_, fun h1 => ?_⟩) (fun h0 => absurd h0 hRne) (fun r hr => by cases hr)
    (fun r hr => hfresh r (List.mem_append_right _ hr) (hlt _ _ (hpR r hr))) (by rw [hall]) (fun _ => hC) (fun h => by cases h) (fun _ e he o ho => ?_) ?_
  · rw [doneL_getD _ _ _ hi] at h1
    rw [List.append_assoc]
    exact List.mem_append_left _ (by simpa using h1)
  · rw [doneL_getD _ _ _ hi]
    simpa using h1
  · rw [hall] at he
    have h1 := List.all_eq_true.1 hE e he
    rw [ho] at h1
    simpa using h1
  · rw [hall]
    exact wpQuiet_mono (fun a' h' => by unfold Zd; rw [if_pos rfl]; exact h') _ _ h

/-- What stands behind one acting operation. -/
def QnD (P : Program) (ops : Array Oper) (Q : Exit → Act → World → Prop) (C : World → Prop) (D E rest : List Nat) (b : Bool) : Exit → Act → World → Prop
  | .normal, a, w => (b = true → C w) ∧ wpN P ops Q C D E rest a w
  | .panic _, _, _ => False
  | e, a, w => Q e a w
theorem wpN_cons {D E rest : List Nat} {r : Nat} {o : Oper} {a : Act} {w : World} (b : Bool) (hr : ops[r]? = some o) (hb : needD ops D E r = b) (h : wpList P ops (QnD P ops Q C D E rest b) [o] a w) : wpN P ops Q C D E (r :: rest) a w := by
  unfold wpN wpOp
  simp only [hr]
  unfold wpList at h
  have hl : LetsOut (QnD P ops Q C D E rest b) → LetsOut (NoPanic Q) := fun ⟨a, w, h⟩ => ⟨a, w, h⟩
  have hk : ∀ a' w', wpList P ops (QnD P ops Q C D E rest b) [] a' w' → (needD ops D E r = true → C w') ∧ wpN P ops Q C D E rest a' w' := fun a' w' h' => by
    rw [hb]; exact h'
  split
  · rename_i hw
    rw [if_pos hw] at h
    rcases h with h | ⟨h1, h2⟩
    · refine .inl ?_
      unfold Oper.wp at *
      generalize (execOp a.eval o).run P w = r at *
      cases r with
      | ok n w' =>
        cases n <;> simp only [Oper.upon] at h ⊢
        case value u => exact hk _ _ h
        case skip => exact hk _ _ h
        case defer d => exact hk _ _ h
        case enter f args =>
          refine Calls.mono h fun e w'' he => ?_
          cases e with
          | returned u => exact hk _ _ he
          | panicked c => exact he
          | outgrown => exact hl he
        case row row args => exact Rows.mono h fun u w'' he => hk _ _ he
      | halt x w' => cases x <;> simp only [Oper.upon] at h ⊢ <;> exact h
    · exact .inr ⟨h1, hl h2⟩
  · rename_i hw
    rw [if_neg hw] at h
    exact hk _ _ h

/-- The last acting operations in one walk, where the class is not asked any more. -/
theorem wpN_list {D E : List Nat} : ∀ (R : List Nat) (a : Act) (w : World), (R.all fun r => !needD ops D E r && decide (r < ops.size)) = true → wpList P ops (NoPanic Q) (opsAt ops R) a w → wpN P ops Q C D E R a w
  | [], _, _, _, h => h
  | r :: R, a, w, hn, h => by
    rw [List.all_cons, Bool.and_eq_true] at hn
    obtain ⟨hn1, hn2⟩ := hn
    rw [Bool.and_eq_true, Bool.not_eq_true', decide_eq_true_eq] at hn1
    have hr : ops[r]? = some (ops.getD r default) := by simp [hn1.2]
    unfold wpN wpOp
    simp only [hr]
    unfold opsAt at h
    rw [List.map_cons] at h
    unfold wpList at h
    have hk : ∀ a' w', wpList P ops (NoPanic Q) (opsAt ops R) a' w' → (needD ops D E r = true → C w') ∧ wpN P ops Q C D E R a' w' := fun a' w' h' =>
      ⟨(fun h1 => by rw [hn1.1] at h1; cases h1), wpN_list R a' w' hn2 h'⟩
    split
    · rename_i hw
      rw [if_pos hw] at h
      exact h.imp (fun h => Oper.wp_mono hk h) id
    · rename_i hw
      rw [if_neg hw] at h
      exact hk _ _ h


theorem QS_normal {fin : Act → World → Prop} {a : Act} {w : World} : QS fin Q .normal a w = fin a w := rfl

end
end Go.Proofs.YtdjaphcelpchaaaGreatDoor

namespace Go.Proofs.YtdjaphcelpchaaaGreatDoor
open Go Go.RowKit Go.Proofs

/-- What an iterator may do between two rounds: all but the blocks from A to B stays. -/
structure Beside (A B : Nat) (X Y : World) : Prop where
  os : Y.os = X.os
  tape : Y.tape = X.tape
  output : Y.output = X.output
  size : X.heap.size ≤ Y.heap.size
  block : ∀ k, k < X.heap.size → (k < A ∨ B ≤ k) → Y.heap[k]? = X.heap[k]?
theorem Beside.refl (A B : Nat) (X : World) : Beside A B X X := ⟨rfl, rfl, rfl, Nat.le_refl _, fun _ _ _ => rfl⟩
theorem Beside.mono {A A' B B' : Nat} {X Y : World} (h : Beside A B X Y) (hA : A' ≤ A) (hB : B ≤ B') : Beside A' B' X Y :=
  ⟨h.os, h.tape, h.output, h.size, fun k hk hn => h.block k hk (by rcases hn with hn | hn; exact .inl (by omega); exact .inr (by omega))⟩
theorem Beside.of_below {A B : Nat} {X Y : World} (h : Below X.heap.size X Y) : Beside A B X Y := ⟨h.os, h.tape, h.output, h.size, fun k hk _ => h.block k hk⟩
theorem Beside.below {A B : Nat} {X Y : World} (h : Beside A B X Y) (hA : A ≤ X.heap.size) : Below A X Y := ⟨h.os, h.tape, h.output, h.size, fun k hk => h.block k (by omega) (.inl hk)⟩
theorem Beside.grown {A B : Nat} {X Y Z : World} {row : Option Nat} (h : Beside A B X Y) (hg : Y.grownBy Z row) (hr : ∀ k, row = some k → (A ≤ k ∧ k < B) ∨ X.heap.size ≤ k) : Beside A B X Z :=
  ⟨hg.os.trans h.os, hg.tape.trans h.tape, hg.output.trans h.output, Nat.le_trans h.size hg.size, fun k hk hn => (hg.block k (Nat.lt_of_lt_of_le hk h.size) (fun e => by rcases hr k e.symm with h1 | h1 <;> omega)).trans (h.block k hk hn)⟩
theorem Beside.putObj {A B : Nat} (X : World) (l : Nat) (o : Obj) (h : A ≤ l ∧ l < B) : Beside A B X (X.putObj l o) := (Beside.refl A B X).grown (grownBy_putObj' X l o) (fun k e => by cases e; exact .inl h)

section
variable {F : Fence} {n : Nat} {P : Program}

/-- An iterator against whatever its caller keeps: J between rounds, Jx behind a round that has ended the loop; B: where the heap ended at the first round; Gd: what holds of what is yielded; Kp: what a round keeps for the iterator. -/
def SeqG {α : Type} (F : Fence) (n : Nat) (P : Program) (g : Nat) (lb : Array Value) (encs : α → Array Value) (Gd : Nat → Nat → List α → α → World → Prop) (Kp : Nat → Nat → α → World → World → Prop) (S : List α → Prop) (W : World) : Prop :=
  ∀ (l : Nat) (J Jx : Nat → List α → World → Prop),
    (∀ B pre X Y, J B pre X → W.heap.size ≤ B → B ≤ X.heap.size → Beside W.heap.size B X Y → J B pre Y) → (∀ B pre X Y, Jx B pre X → W.heap.size ≤ B → B ≤ X.heap.size → Beside W.heap.size B X Y → Jx B pre Y) →
    (∀ X, Below W.heap.size W X → J X.heap.size [] X) →
    (∀ B pre x X, J B pre X → W.heap.size ≤ B → B ≤ X.heap.size → Gd W.heap.size B pre x X → YieldAt F (n - 1) P l (encs x) X fun e X' =>
      (e = .returned (.bool true) ∧ J B (pre ++ [x]) X' ∧ Kp W.heap.size B x X X') ∨ (e = .returned (.bool false) ∧ Jx B (pre ++ [x]) X')) →
    CallsIn F n P g (#[.func (.yield l) #[] #[]] ++ lb) W fun e W' => (∃ v, e = .returned v) ∧ ((∃ B xs, W.heap.size ≤ B ∧ B ≤ W'.heap.size ∧ S xs ∧ J B xs W') ∨ (∃ B pre, W.heap.size ≤ B ∧ Jx B pre W'))

/-- What a round must leave of the loop's own two blocks. -/
def Keeps2 (A : Nat) (W W' : World) : Prop := W.heap.size ≤ W'.heap.size ∧ ∀ k, A ≤ k → k < A + 2 → W'.heap[k]? = W.heap[k]?
/-- How the body of a round may be left. -/
def postG {α : Type} (A : Nat) (Kp : Nat → Nat → α → World → World → Prop) (I : Nat → List α → World → Prop) (Ix : Code → Nat → List α → World → Prop) (B : Nat) (pre : List α) (x : α) (W : World) : Exit → Act → World → Prop
  | .normal, _, W' => Keeps2 A W W' ∧ Kp (A + 2) B x W W' ∧ I B (pre ++ [x]) W'
  | .ret, _, W' => Keeps2 A W W' ∧ Ix .ret B (pre ++ [x]) W'
  | .exit id, _, W' => Keeps2 A W W' ∧ Ix (.exit id) B (pre ++ [x]) W'
  | .goto t, _, W' => Keeps2 A W W' ∧ Ix (.goto t) B (pre ++ [x]) W'
  | .panic _, _, _ => False
  | .outgrown, _, _ => False

theorem wpIn_rangeFunc_guard {α : Type} {g : Operand} {ps : Array Tmp} {assign body : Code} {Q : Exit → Act → World → Prop} {a : Act} {w : World}
    (hro : F.round = none) (h1 : 1 ≤ n) {gf : Nat} {lb : Array Value} (hg : a.eval g = .func (.func gf) #[] lb) (hFg : F.fn gf) (eg : ∀ args w, (callFunc gf args).run P w = .ok (.enter gf args) w)
    {encs : α → Array Value} {Gd : Nat → Nat → List α → α → World → Prop} {Kp : Nat → Nat → α → World → World → Prop} {S : List α → Prop}
    (hseq : ∀ W, Below w.heap.size w W → W.heap.size = w.heap.size + 2 → SeqG F (n - 1) P gf lb encs Gd Kp S W)
    (hKl : ∀ B x X Y Z l o, w.heap.size ≤ l → l < w.heap.size + 2 → Kp (w.heap.size + 2) B x Y Z → Y = X.putObj l o → Kp (w.heap.size + 2) B x X Z)
    (hKr : ∀ B x X Y l o, w.heap.size ≤ l → l < w.heap.size + 2 → Kp (w.heap.size + 2) B x X Y → Kp (w.heap.size + 2) B x X (Y.putObj l o))
    (hps : ∀ x, (encs x).size = ps.size)
    (I : Nat → List α → World → Prop) (Ix : Code → Nat → List α → World → Prop) (hI : ∀ B pre X Y, I B pre X → w.heap.size + 2 ≤ B → B ≤ X.heap.size → Beside w.heap.size B X Y → I B pre Y) (hIx : ∀ c B pre X Y, Ix c B pre X → w.heap.size + 2 ≤ B → B ≤ X.heap.size → Beside w.heap.size B X Y → Ix c B pre Y)
    (h0 : ∀ X, Below w.heap.size w X → w.heap.size + 2 ≤ X.heap.size → I X.heap.size [] X)
    (Ax : Nat → List α → α → Act → World → Prop)
    (hassign : ∀ (l : Nat) (B : Nat) (pre : List α) (x : α) (W : World) (K : Act → World → Prop), I B pre W → w.heap.size + 2 ≤ B → B ≤ W.heap.size → Gd (w.heap.size + 2) B pre x W →
      (∀ a' W', Ax B pre x a' W' → Below W.heap.size W W' → K a' W') →
      assign.wpIn (F.inRound l) (n - 1 - 1) P (Exit.then K (fun _ _ _ => False)) { tmps := (ps.zip (encs x)).foldl (fun t (p, v) => t.setIfInBounds p v) a.tmps, defers := [] } W)
    (hAx : ∀ B pre x a' X l o, Ax B pre x a' X → w.heap.size ≤ l → l < w.heap.size + 2 → Ax B pre x a' (X.putObj l o))
    (hKa : ∀ B x X Y Z, Below X.heap.size X Y → B ≤ X.heap.size → Kp (w.heap.size + 2) B x Y Z → Kp (w.heap.size + 2) B x X Z)
    (hbody : ∀ (l B : Nat) (pre : List α) (x : α) (a' : Act) (W : World), l = w.heap.size + 1 → w.heap.size + 2 ≤ B → B ≤ W.heap.size → Ax B pre x a' W → body.wpIn (F.inRound l) (n - 1 - 1) P (postG w.heap.size Kp I Ix B pre x W) a' W)
    (hdone : ∀ (B : Nat) (xs : List α) (W : World), w.heap.size + 2 ≤ B → B ≤ W.heap.size → S xs → I B xs W → W.heap[w.heap.size]? = some (.deferred (some [])) → Q .normal { a with defers := { target := .collected w.heap.size, args := #[] } :: a.defers } W)
    (hstop : ∀ (c : Code) (B : Nat) (pre : List α) (W : World), w.heap.size + 2 ≤ B → Ix c B pre W → W.heap[w.heap.size]? = some (.deferred (some [])) → c.wpIn F n P Q { a with defers := { target := .collected w.heap.size, args := #[] } :: a.defers } W)
    (hsz : ∀ c B pre W, Ix c B pre W → B ≤ W.heap.size) :
    (Code.rangeFunc g ps assign body).wpIn F n P Q a w := by
  refine wpIn_rangeFunc ?_
  intro fn hfn
  rw [hro]
  obtain ⟨rec, hrec⟩ : ∃ rec : LoopState → Option Code → Loop, rec = fun st pe => { state := st, pending := pe, fn, tmps := a.tmps, params := ps, assign, body, defers := w.heap.size } := ⟨_, rfl⟩
  obtain ⟨W1, hW1⟩ : ∃ W1, (w.alloc (.deferred (some []))).alloc (.loop (rec .ready none)) = W1 := ⟨_, rfl⟩
  have hs1 : W1.heap.size = w.heap.size + 2 := by rw [← hW1]; simp
  have hL1 : W1.heap[w.heap.size + 1]? = some (.loop (rec .ready none)) := by
    rw [← hW1]; have := World.alloc_heap_new (w.alloc (.deferred (some []))) (.loop (rec .ready none)); rwa [World.size_alloc] at this
  have hK1 : W1.heap[w.heap.size]? = some (.deferred (some [])) := by
    rw [← hW1]; exact (Below.heap_alloc _ _ _ (by simp)).trans (World.alloc_heap_new w _)
  have hb1 : Below w.heap.size w W1 := by
    rw [← hW1]; exact ((Below.refl _ w).alloc (Nat.le_refl _) _).alloc (by simp) _
  refine ⟨w.heap.size + 1, [{ target := .collected w.heap.size, args := #[] }], W1, { target := .fn (.func gf) lb, args := #[.func (.yield (w.heap.size + 1)) #[] #[]] }, W1, gf,
    #[.func (.yield (w.heap.size + 1)) #[] #[]] ++ lb, W1, ?_, ?_, ?_, ?_, fun _ => h1, ?_⟩
  · rw [← hW1, hrec]; exact run_enterLoop_outer _ _ _ _ _
  · simp only [resolve, hg]
    simp [go_sem]
  · intro f' hf'; simp [Target.leads] at hf'; subst hf'; exact hFg
  · simp [invoke, go_sem, eg]
  · refine (hseq W1 hb1 hs1 (w.heap.size + 1)
      (fun B pre W => I B pre W ∧ W.heap[w.heap.size + 1]? = some (.loop (rec .ready none)) ∧ W.heap[w.heap.size]? = some (.deferred (some [])))
      (fun B pre W => ∃ c, Ix c B pre W ∧ W.heap[w.heap.size + 1]? = some (.loop (rec .done (some c))) ∧ W.heap[w.heap.size]? = some (.deferred (some [])))
      ?_ ?_ ?_ ?_).mono ?_
    · rintro B pre X Y ⟨hi, hl, hk⟩ hB hX hst
      rw [hs1] at hB hst
      exact ⟨hI B pre X Y hi hB hX (hst.mono (by omega) (Nat.le_refl _)), (hst.block _ (Array.getElem?_eq_some_iff.1 hl).1 (.inl (by omega))).trans hl, (hst.block _ (Array.getElem?_eq_some_iff.1 hk).1 (.inl (by omega))).trans hk⟩
    · rintro B pre X Y ⟨c, hi, hl, hk⟩ hB hX hst
      rw [hs1] at hB hst
      exact ⟨c, hIx c B pre X Y hi hB hX (hst.mono (by omega) (Nat.le_refl _)), (hst.block _ (Array.getElem?_eq_some_iff.1 hl).1 (.inl (by omega))).trans hl, (hst.block _ (Array.getElem?_eq_some_iff.1 hk).1 (.inl (by omega))).trans hk⟩
    · intro X hX
      rw [hs1] at hX
      exact ⟨h0 X (hb1.trans (hX.mono (by omega))) (by have := hX.size; omega), (hX.block _ (by omega)).trans hL1, (hX.block _ (by omega)).trans hK1⟩
    · -- one round
      rintro B pre x W ⟨hi, hl, hk⟩ hB hBW hgd
      rw [hs1] at hB hgd ⊢
      have hy := run_yield (P := P) (args := encs x) hl (by rw [hrec]; exact hps x)
      rw [hrec] at hy
      refine ⟨fn, _, assign, body, hy, roundIn_of_wpIn hfn (hassign _ B pre x W _ hi hB hBW hgd ?_)⟩
      clear hy
      intro a' Wa hax hba
      have hla := (hba.block _ (Array.getElem?_eq_some_iff.1 hl).1).trans hl
      have hka := (hba.block _ (Array.getElem?_eq_some_iff.1 hk).1).trans hk
      have hlt : w.heap.size + 1 < Wa.heap.size := (Array.getElem?_eq_some_iff.1 hla).1
      refine ⟨_, run_beginRound hla (by rw [hrec]), ?_⟩
      have hl2 : (Wa.putObj (w.heap.size + 1) (.loop { rec .ready none with state := .busy })).heap[w.heap.size + 1]? = some (.loop { rec .ready none with state := .busy }) := World.putObj_heap_same hlt
      have hk2 : (Wa.putObj (w.heap.size + 1) (.loop { rec .ready none with state := .busy })).heap[w.heap.size]? = some (.deferred (some [])) := (World.putObj_heap_other (by omega)).trans hka
      have hszp : (Wa.putObj (w.heap.size + 1) (.loop { rec .ready none with state := .busy })).heap.size = Wa.heap.size := by simp [World.putObj]
      refine wpIn_mono (hbody _ B pre x a' _ rfl hB (by rw [hszp]; have := hba.size; omega) (hAx B pre x a' Wa _ _ hax (by omega) (by omega))) ?_
      have fin : ∀ (jump : Option Code) (W3 : World), Keeps2 w.heap.size (Wa.putObj (w.heap.size + 1) (.loop { rec .ready none with state := .busy })) W3 →
          (Instr.endRound (w.heap.size + 1) jump).run P W3 = .ok (.bool jump.isNone) (W3.putObj (w.heap.size + 1) (.loop (rec (if jump.isNone then .ready else .done) jump))) ∧
          (W3.putObj (w.heap.size + 1) (.loop (rec (if jump.isNone then .ready else .done) jump))).heap[w.heap.size + 1]? = some (.loop (rec (if jump.isNone then .ready else .done) jump)) ∧
          (W3.putObj (w.heap.size + 1) (.loop (rec (if jump.isNone then .ready else .done) jump))).heap[w.heap.size]? = some (.deferred (some [])) ∧ B ≤ W3.heap.size := fun jump W3 hk3 => by
        have hl3 := (hk3.2 _ (by omega) (by omega)).trans hl2
        have := run_endRound (P := P) jump hl3
        rw [hrec] at this ⊢
        exact ⟨this, World.putObj_heap_same (Array.getElem?_eq_some_iff.1 hl3).1, (World.putObj_heap_other (by omega)).trans ((hk3.2 _ (Nat.le_refl _) (by omega)).trans hk2), by have h7 := hk3.1; rw [hszp] at h7; have := hba.size; omega⟩
      rintro e a3 W3 hp
      cases e with
      | normal =>
        obtain ⟨hk3, hkp3, hi3⟩ := hp
        obtain ⟨hr, hl4, hk4, hB3⟩ := fin none W3 hk3
        refine ⟨_, _, hr, .inl ⟨rfl, ⟨hI B _ _ _ hi3 hB hB3 (Beside.putObj _ _ _ ⟨by omega, by omega⟩), hl4, hk4⟩, ?_⟩⟩
        exact hKr B x W W3 _ _ (by omega) (by omega) (hKa B x W Wa W3 hba hBW (hKl B x Wa _ W3 _ _ (by omega) (by omega) hkp3 rfl))
      | ret =>
        obtain ⟨hk3, hi3⟩ := hp
        obtain ⟨hr, hl4, hk4, hB3⟩ := fin (some .ret) W3 hk3
        exact ⟨_, _, hr, .inr ⟨rfl, .ret, hIx _ B _ _ _ hi3 hB hB3 (Beside.putObj _ _ _ ⟨by omega, by omega⟩), hl4, hk4⟩⟩
      | exit id =>
        obtain ⟨hk3, hi3⟩ := hp
        obtain ⟨hr, hl4, hk4, hB3⟩ := fin (some (.exit id)) W3 hk3
        exact ⟨_, _, hr, .inr ⟨rfl, .exit id, hIx _ B _ _ _ hi3 hB hB3 (Beside.putObj _ _ _ ⟨by omega, by omega⟩), hl4, hk4⟩⟩
      | goto t =>
        obtain ⟨hk3, hi3⟩ := hp
        obtain ⟨hr, hl4, hk4, hB3⟩ := fin (some (.goto t)) W3 hk3
        exact ⟨_, _, hr, .inr ⟨rfl, .goto t, hIx _ B _ _ _ hi3 hB hB3 (Beside.putObj _ _ _ ⟨by omega, by omega⟩), hl4, hk4⟩⟩
      | panic ch => exact hp.elim
      | outgrown => exact hp.elim
    · -- behind the iterator
      rintro e W2 ⟨⟨v, rfl⟩, (⟨B, xs, hB, hBW, hS, hi, hl, hk⟩ | ⟨B, pre, hB, c, hi, hl, hk⟩)⟩
      · rw [hs1] at hB
        refine ⟨none, _, by have := run_endLoop (P := P) hl (by rw [hrec]; simp); rw [hrec] at this; exact this, hdone B xs _ hB (by simpa [World.putObj] using hBW) hS (hI B xs _ _ hi hB hBW (Beside.putObj _ _ _ ⟨by omega, by omega⟩)) ((World.putObj_heap_other (by omega)).trans hk)⟩
      · rw [hs1] at hB
        exact ⟨some c, _, by have := run_endLoop (P := P) hl (by rw [hrec]; simp); rw [hrec] at this; exact this, hstop c B pre _ hB (hIx c B pre _ _ hi hB (hsz c B pre _ hi) (Beside.putObj _ _ _ ⟨by omega, by omega⟩)) ((World.putObj_heap_other (by omega)).trans hk)⟩

/-- A drawn region within a round: out of the walk elsewhere. -/
theorem wpOpIn_round {ops : Array Oper} {l m : Nat} {Q : Exit → Act → World → Prop} (hd : ∀ (j : Nat) (o : Oper) c, ops[j]? = some o → o.op ≠ .defer c) {i : Nat} {K K' : Act → World → Prop} {a : Act} {w : World} (hlo : ¬ LetsOut Q) (hK : ∀ a w, K a w → K' a w) (h : wpOp P ops Q i K a w) : wpOpIn (Fence.wide.inRound l) m P ops Q i K' a w := by
  unfold wpOp at h
  unfold wpOpIn
  split at h
  · rename_i ho; simp only [ho]; exact hK _ _ h
  · rename_i o ho
    simp only [ho]
    split at h
    · rename_i hw
      simp only [hw, if_true]
      unfold Oper.wp at h
      refine ⟨fun _ _ => trivial, ?_⟩
      have e : o.semAt (Fence.wide.inRound l).round a.eval = execOp a.eval o := Oper.semAt_some l _ _ (fun c => hd i o c ho)
      rw [e]
      replace h := h.resolve_right fun hx => hlo hx.2
      generalize (execOp a.eval o).run P w = r at h ⊢
      unfold Oper.upon at h
      unfold Oper.uponIn
      split at h
      · exact hK _ _ h
      · exact hK _ _ h
      · exact hK _ _ h
      · refine ⟨fun hx => (by cases hx), CallsIn.inRound l (callsIn_wide.2 (h.mono fun e w' he => ?_))⟩
        cases e with
        | returned v => exact hK _ _ he
        | panicked c => exact he
        | outgrown => exact he
      · exact ⟨fun hx => (by cases hx), fun c cs _ => let ⟨v, w', hr, hs⟩ := h c cs; ⟨v, w', hK _ _ hr, stepsIn_wide.2 hs⟩⟩
      · exact h
      · exact h.elim
    · rename_i hw
      simp only [hw]
      exact ⟨fun _ _ => trivial, hK _ _ h⟩
theorem wpAnyIn_round {ops : Array Oper} {l m : Nat} {md : Region.Mode} {Q : Exit → Act → World → Prop} (hd : ∀ (j : Nat) (o : Oper) c, ops[j]? = some o → o.op ≠ .defer c) (hlo : ¬ LetsOut Q) : ∀ (fuel : Nat) (L : Array Bool) (a : Act) (w : World), wpAny P md ops Q fuel L a w → wpAnyIn (Fence.wide.inRound l) m P md ops Q fuel L a w
  | 0, _, _, _, h => h
  | fuel + 1, _, _, _, h => ⟨h.1, fun i hi => wpOpIn_round hd hlo (wpAnyIn_round hd hlo fuel _) (h.2 i hi)⟩
def noDefer (ops : Array Oper) : Bool := ops.all fun o => match o.op with | .defer _ => false | _ => true
theorem noDefer_spec {ops : Array Oper} (h : noDefer ops = true) : ∀ (j : Nat) (o : Oper) c, ops[j]? = some o → o.op ≠ .defer c := fun j o c ho e => by
  unfold noDefer at h
  rw [Array.all_eq_true] at h
  obtain ⟨hj, rfl⟩ := Array.getElem?_eq_some_iff.1 ho
  have := h j hj
  rw [e] at this
  cases this
/-- A drawn region in stages, within a round. -/
theorem wpIn_region_stages {ops : Array Oper} {l m id : Nat} {Q : Exit → Act → World → Prop} {a : Act} {w : World} (hd : noDefer ops = true) (hlo : ¬ LetsOut (NoPanic Q)) (hm : P.follows .mixedOrders = true) (h : wpSt P ops Q [] ops.size a w.drew) : (Code.region id ops true).wpIn (Fence.wide.inRound l) m P Q a w := by
  refine wpIn_mono (wpIn_region_any (Q := NoPanic Q) hm (wpAnyIn_round (noDefer_spec hd) hlo _ _ _ _ ?_)) NoPanic.imp
  have e : doneL ops.size [] = Array.replicate ops.size false := by
    apply Array.ext
    · simp [doneL_size]
    · intro i h1 h2
      rw [doneL_get]
      simp
  unfold wpSt at h
  rw [e] at h
  exact h
/-- Marks at a function's end. -/
theorem leaves_marks {fn : Func} {tmps : Array Value} {R : Ending → World → Prop} : ∀ (Ds : List Nat) (w : World), Ds.Nodup → (∀ D ∈ Ds, w.heap[D]? = some (.deferred (some []))) → (∀ w', w'.os = w.os → w'.tape = w.tape → w'.output = w.output → w'.heap.size = w.heap.size → (∀ k, k ∉ Ds → w'.heap[k]? = w.heap[k]?) → LeavesIn F n P fn tmps R [] .returning w') → LeavesInM F n P fn tmps R (Ds.map fun D => { target := .collected D, args := #[] }) .returning w
  | [], w, _, _, h => h w rfl rfl rfl rfl (fun _ _ => rfl)
  | D :: Ds, w, hn, hd, h => by
    rw [List.nodup_cons] at hn
    refine ⟨by simp, .inl ⟨D, _, rfl, run_takeDeferred (hd D (by simp)), leaves_marks Ds _ hn.2 (fun E hE => ?_) (fun w' e1 e2 e3 e4 e5 => ?_)⟩⟩
    · exact (World.putObj_heap_other (by intro e; subst e; exact hn.1 hE)).trans (hd E (by simp [hE]))
    · refine h w' e1 e2 e3 (by simpa [World.putObj] using e4) fun k hk => ?_
      rw [List.mem_cons, not_or] at hk
      exact (e5 k hk.2).trans (World.putObj_heap_other hk.1)
end

end Go.Proofs.YtdjaphcelpchaaaGreatDoor

namespace Go.Proofs.YtdjaphcelpchaaaGreatDoor
open Go Go.RowKit Go.Proofs

/-- A slice of strings in memory: nil, or the head of a block at or beyond B. -/
def StrsAt (B : Nat) (w : World) (v : Value) (xs : List ByteArray) : Prop := (xs = [] ∧ v = .slice none 0 0) ∨ ∃ b c, v = .slice (some ⟨b, 0, none⟩) xs.length c ∧ xs.length ≤ c ∧ StrRow w b 0 xs ∧ B ≤ b ∧ b < w.heap.size
theorem StrsAt.slice {B : Nat} {w : World} {v : Value} {xs : List ByteArray} (h : StrsAt B w v xs) : ∃ a c, v = .slice a xs.length c := by
  rcases h with ⟨e, h⟩ | ⟨b, c, e, _⟩
  · exact ⟨none, 0, by rw [h, e]; rfl⟩
  · exact ⟨_, _, e⟩

/-- A name that is not too long. -/
def SName : Type := { s : ByteArray // s.size ≤ 100000 }
instance : Inhabited SName := ⟨⟨⟨#[]⟩, by decide⟩⟩
def mkN (s : ByteArray) (h : s.size ≤ 100000) : SName := ⟨s, h⟩
def encN (x : SName) : Value := .string x.1
def cfN (x y : SName) : Int := cmpN x.1 y.1
theorem swoN : Go.Sort.SWO (ltOf cfN) where
  irrefl x := by unfold ltOf cfN; rw [cmpN_refl]; rfl
  trans x y z h1 h2 := by
    unfold ltOf cfN at *
    rw [decide_eq_true_eq] at *
    exact cmpN_trans h1 h2
  ntrans x y z h1 h2 := by
    unfold ltOf cfN at *
    rw [decide_eq_false_iff_not] at *
    intro h3
    by_cases h : cmpN y.1 x.1 < 0
    · exact h2 (cmpN_trans h h3)
    · exact h2 (cmpN_total h1 h ▸ h3)

theorem below_sortWorld (w : World) (blk off m : Nat) (dk : Array SName) (os : Array Obj) (hb : blk ≤ w.heap.size) : Below blk w (sortWorld encN w blk off m dk os) where
  os := rfl
  tape := rfl
  output := rfl
  size := by simp [sortWorld]
  block k hk := by
    unfold sortWorld
    rw [Go.Sort.heap_grow_old _ _ (by simp; omega)]
    unfold Go.Sort.putRow Go.Sort.mapBlock
    simp only [Array.getElem?_modify]
    rw [if_neg (by omega)]
    rfl

theorem cmpLays (w : World) (hG : Gl w) (blk off n : Nat) (hb : Tryz.prog.globals.size ≤ blk) (hbl : blk ≤ w.heap.size) : CmpLays1 Tryz.prog 86 #[] encN cfN blk off n w := fun m os dk _ x y => by
  refine (compare_any x.1 y.1 (sortWorld encN w blk off m dk os) (hG.below (below_sortWorld w blk off m dk os hbl) hb) x.2 y.2).mono ?_
  rintro e w' ⟨rfl, _, rfl⟩
  refine ⟨rfl, 0, #[.cells ((splitS 46 x.1).map Value.string).toArray 9, .cells ((splitS 46 y.1).map Value.string).toArray 9], ?_⟩
  rw [Go.Sort.alloc_eq_grow, Go.Sort.alloc_eq_grow, Go.Sort.grow_grow]
  rfl

/-- The map of the groups, as the shelf's contracts speak of it. -/
def anyElem (_ : Value) : Option (DataW Unit × List MemPlace) := some (.nil, [])
def datumP (P : Program) (gs : List MG) : DataW Unit := .map (((gs.map fun G => enE ekS G.e).map (Go.WideElems.rg P 9 anyElem)).foldr DataW.insert [])
theorem name_size {s : ByteArray} (h : nameErr s = 0) : s.size ≤ 80 := by
  unfold nameErr at h
  split at h
  · cases h
  · omega
theorem rg_name (G : MG) (h : nameErr G.name = 0) : Go.WideElems.rd Tryz.prog 9 anyElem (enE ekS G.e) = some (.string G.name.data.toList, .nil) := by
  have hs := name_size h
  have hk : Go.keyOf Tryz.prog 9 (.string G.name) = some (.string G.name.data.toList) := Go.WideMaps.keyOf_string_mk Tryz.underlying9 (by unfold maxLen; omega)
  unfold Go.WideElems.rd
  show (Go.keyOf Tryz.prog 9 (.string G.name)).bind _ = _
  rw [hk]
  rfl
theorem IdxAt.owns {B : Nat} {w : World} {ib M mc : Nat} {gs : List MG} (h : IdxAt B w ib M gs mc) (hn : gs.length ≤ 65536) : w.ownsMap Tryz.prog 9 anyElem M gs.length (datumP Tryz.prog gs) := by
  refine ⟨_, mc, h.map, ⟨?_, ⟨?_, ?_, ?_⟩, ?_⟩, by simp, ?_⟩
  · simp; unfold maxLen; omega
  · intro x hx
    simp only [List.map_map, List.mem_map, Function.comp] at hx
    obtain ⟨G, hG, rfl⟩ := hx
    exact h.young G hG
  · simp only [List.map_map]
    exact h.born
  · simp only [List.map_map]
    have : (gs.map fun G => Value.string G.name).Nodup := by
      have := h.names
      unfold List.Nodup at *
      rw [List.pairwise_map] at *
      exact this.imp fun hne e => hne (Value.string.inj e)
    exact this
  · intro x hx
    simp only [List.map_map, List.mem_map, Function.comp] at hx
    obtain ⟨G, hG, rfl⟩ := hx
    exact ⟨_, rg_name G (h.grps G hG).named⟩
  · unfold datumP
    simp [List.map_map, Function.comp_def]
theorem strKeys_datum {B : Nat} {w : World} {ib M mc : Nat} {gs : List MG} (h : IdxAt B w ib M gs mc) : (Go.strKeys (datumP Tryz.prog gs)).Perm (gs.map fun G => G.name.data.toList) := by
  unfold datumP Go.strKeys
  refine ((Go.WideShapes.sorted_perm _).map _).trans ?_
  rw [List.map_map, List.map_map]
  refine List.Perm.of_eq (List.map_congr_left fun G hG => ?_)
  simp only [Function.comp]
  unfold Go.WideElems.rg
  rw [rg_name G (h.grps G hG).named]
  rfl
theorem size_datum (gs : List MG) : Go.Maps.size (datumP Tryz.prog gs) = gs.length := by
  unfold datumP
  rw [Go.Maps.size_eq, length_sorted]
  simp
theorem length_le_total' : ∀ {gs : List MG}, (∀ G ∈ gs, G.ms ≠ []) → gs.length ≤ total gs
  | [], _ => Nat.zero_le _
  | G :: gs, h => by
    have h1 := length_le_total' (gs := gs) (fun K hK => h K (by simp [hK]))
    have h2 : 0 < G.ms.length := List.length_pos_iff.2 (h G (by simp))
    unfold total at *
    rw [List.map_cons, List.sum_cons, List.length_cons]
    omega
theorem IdxAt.groups {B : Nat} {w : World} {ib M mc : Nat} {gs : List MG} (h : IdxAt B w ib M gs mc) : gs.length ≤ 65536 :=
  Nat.le_trans (length_le_total' fun G hG => (h.grps G hG).some') h.few

/-- What Groups answers. -/
def GroupsPost (gs : List MG) (w : World) (r : Ending) (w' : World) : Prop := ∃ v ns, r = .returned v ∧ StrsAt w.heap.size w' v ns ∧ ordN ns ∧ (∀ t, t ∈ ns ↔ ∃ G ∈ gs, G.name = t) ∧ Below w.heap.size w w'

theorem pmap_mkN : ∀ (ss : List ByteArray) (hd : ∀ s ∈ ss, s.size ≤ 100000), ss.pmap (fun a h => (mkN a h).1) hd = ss
  | [], _ => rfl
  | s :: ss, hd => by
    rw [List.pmap_cons, pmap_mkN ss]
    rfl
/-- A row of strings sorted. -/
theorem sorted_row {w w' : World} {blk : Nat} {ss : List ByteArray} (hd : ∀ s ∈ ss, s.size ≤ 100000) (hn : ss.Nodup) (_hr : StrRow w blk 0 ss) (hb : blk < w.heap.size) (d' : Array SName) (n : Nat) (os : Array Obj)
    (hH : Go.Sort.Holds encN w blk 0 (ss.pmap mkN hd).toArray)
    (hp : Go.Sort.PermIn 0 (ss.pmap mkN hd).toArray.size (ss.pmap mkN hd).toArray d') (hs : Go.Sort.SortedIn (ltOf cfN) 0 (ss.pmap mkN hd).toArray.size d') (hw : w' = sortWorld encN w blk 0 n d' os) :
    ∃ ns : List ByteArray, ns.length = ss.length ∧ StrRow w' blk 0 ns ∧ ordN ns ∧ ∀ t, t ∈ ns ↔ t ∈ ss := by
  obtain ⟨hsz, _, hperm⟩ := hp
  have hsz' : d'.size = ss.length := by rw [hsz]; simp
  have e1 : d'.extract 0 ((ss.pmap mkN hd).toArray).size = d' := by rw [← hsz]; exact Array.extract_size
  rw [e1, Array.extract_size] at hperm
  have hpn : (d'.toList.map (·.1)).Perm ss := by
    have := hperm.map (fun x : SName => x.1)
    rw [List.toList_toArray, List.map_pmap] at this
    exact pmap_mkN ss hd ▸ this
  refine ⟨d'.toList.map (·.1), by simp [hsz'], ?_, ?_, fun t => hpn.mem_iff⟩
  · intro k x hx
    have hk : k < d'.size := by
      have := (List.getElem?_eq_some_iff.1 hx).1
      simpa using this
    have h1 := (Go.Proofs.holds_sortWorld encN w blk 0 n _ d' os hb hH hsz) k hk
    rw [hw, h1.1]
    rw [List.getElem?_map, Array.getElem?_toList, Array.getElem?_eq_getElem hk] at hx
    simp only [Option.map_some, Option.some.injEq] at hx
    rw [getElem!_pos d' k hk]
    unfold encN
    rw [hx]
  · unfold ordN
    have hnd : (d'.toList.map (·.1)).Nodup := hpn.nodup_iff.2 hn
    rw [List.pairwise_iff_getElem]
    intro i j hi hj hij
    simp only [List.length_map, Array.length_toList] at hi hj
    have h1 := hs i j (Nat.zero_le _) hij (by rw [← hsz]; exact hj)
    rw [getElem!_pos d' i hi, getElem!_pos d' j hj] at h1
    unfold ltOf cfN at h1
    rw [decide_eq_false_iff_not] at h1
    simp only [List.getElem_map, Array.getElem_toList]
    refine Classical.byContradiction fun h2 => ?_
    have e := cmpN_total h2 h1
    have h3 := List.pairwise_iff_getElem.1 hnd i j (by simpa using hi) (by simpa using hj) hij
    simp only [List.getElem_map, Array.getElem_toList] at h3
    exact h3 e

theorem pmap_size (bs : List ByteArray) (hbz : ∀ s ∈ bs, s.size ≤ 100000) : (bs.pmap mkN hbz).toArray.size = bs.length := by simp
theorem sort_any (g cap : Nat) (bs : List ByteArray) (w2 : World) (hG2 : Gl w2) (hbz : ∀ s ∈ bs, s.size ≤ 100000) (hglt : g < w2.heap.size) (hg : Tryz.prog.globals.size ≤ g) (hHo : Go.Sort.Holds encN w2 g 0 (bs.pmap mkN hbz).toArray) (hlen : bs.length ≤ 65536) :
    Calls Tryz.prog (Tryz.sortA_ren.f 6) #[.slice (some ⟨g, 0, none⟩) (bs.pmap mkN hbz).toArray.size cap, .func (.func 86) #[] #[]] w2 fun e w' =>
          e = .returned (.tuple #[]) ∧ ∃ d' n os, Go.Sort.PermIn 0 (bs.pmap mkN hbz).toArray.size (bs.pmap mkN hbz).toArray d' ∧ Go.Sort.SortedIn (ltOf cfN) 0 (bs.pmap mkN hbz).toArray.size d' ∧ w' = sortWorld encN w2 g 0 n d' os :=
  Any.slices_SortFunc Tryz.sortA encN (fun _ => rfl) cfN swoN 86 #[] g 0 cap (bs.pmap mkN hbz).toArray w2 (enters_of Tryz.func86 (by kernel_rfl) rfl) (cmpLays w2 hG2 g 0 _ hg (by omega)) hHo hglt (by rw [pmap_size]; omega)
theorem sort_fn : Tryz.sortA_ren.f 6 = 118 := rfl
theorem sort_any' (g cap n : Nat) (bs : List ByteArray) (w2 : World) (hG2 : Gl w2) (hbz : ∀ s ∈ bs, s.size ≤ 100000) (hglt : g < w2.heap.size) (hg : Tryz.prog.globals.size ≤ g) (hHo : Go.Sort.Holds encN w2 g 0 (bs.pmap mkN hbz).toArray) (hlen : bs.length ≤ 65536) (hn : n = bs.length) :
    Calls Tryz.prog 118 #[.slice (some ⟨g, 0, none⟩) n cap, .func (.func 86) #[] #[]] w2 fun e w' =>
          e = .returned (.tuple #[]) ∧ ∃ d' n os, Go.Sort.PermIn 0 (bs.pmap mkN hbz).toArray.size (bs.pmap mkN hbz).toArray d' ∧ Go.Sort.SortedIn (ltOf cfN) 0 (bs.pmap mkN hbz).toArray.size d' ∧ w' = sortWorld encN w2 g 0 n d' os := by
  have h := sort_any g cap bs w2 hG2 hbz hglt hg hHo hlen
  rw [sort_fn] at h
  have e : (n : Nat) = (bs.pmap mkN hbz).toArray.size := by rw [pmap_size, hn]
  rw [e]
  exact h

end Go.Proofs.YtdjaphcelpchaaaGreatDoor

namespace Go.Proofs.YtdjaphcelpchaaaGreatDoor
open Go Go.RowKit Go.Proofs

set_option maxRecDepth 100000 in
set_option maxHeartbeats 4000000 in
theorem groups_any (B ib M mc : Nat) (gs : List MG) (w : World) (hG : Gl w) (h : IdxAt B w ib M gs mc) :
    Calls Tryz.prog 47 #[.pointer (some ⟨ib, 0, none⟩)] w fun r w' => GroupsPost gs w r w' := by
  have hc := h.cell0
  obtain ⟨W1, hW1⟩ : ∃ W1, W1 = w.alloc (.cells #[.map (some M)] 102) := ⟨_, rfl⟩
  have hb1 : Below w.heap.size w W1 := by rw [hW1]; exact (Below.refl _ _).alloc (Nat.le_refl _) _
  have hX1 := h.below hb1
  have hs1 : W1.heap.size = w.heap.size + 1 := by rw [hW1]; simp
  have hm1 : W1.cell? ⟨w.heap.size, 0, none⟩ = some (.map (some M)) := by rw [hW1]; exact cells_new w _ _ 0
  have hown := hX1.owns h.groups
  have hseq : SeqGives Fence.wide 2 Tryz.prog 119 #[.pointer (some ⟨w.heap.size, 0, none⟩)] encStr (fun ss => ss.Perm (Go.strKeys (datumP Tryz.prog gs))) (Go.Maps.size (datumP Tryz.prog gs)) W1 :=
    AnyZ.keys_gives (ρ := Tryz.keysA_ren) { Tryz.keysA with } Fence.wide _ trivial rfl (by omega) w.heap.size M gs.length _ _ (by omega) hm1 hown
  have hK : Calls Tryz.prog 85 #[.map (some M)] w fun e w' => e = .returned (.func (.func 119) #[] #[.pointer (some ⟨w.heap.size, 0, none⟩)]) ∧ w' = W1 := by
    rw [hW1]
    exact (callsIn_wide (n := 5)).1 (AnyZ.keys_in Tryz.keysA Fence.wide 5 trivial rfl (some M) w)
  have hgl := h.groups
  have hC : Calls Tryz.prog 117 #[.func (.func 119) #[] #[.pointer (some ⟨w.heap.size, 0, none⟩)]] W1 fun e w' => ∃ (v : Value) (ss : List (List UInt8)), e = .returned v ∧ ss.Perm (Go.strKeys (datumP Tryz.prog gs)) ∧ w'.ownsRow W1.heap.size 9 1 v ss.length (ss.map encStr) ∧ (v = .slice none 0 0 ↔ ss = []) ∧ Below W1.heap.size W1 w' :=
    (callsIn_wide (n := 4)).1 (AnyZ.collect_in Tryz.collectA Fence.wide 4 trivial trivial rfl (by omega) 119 _ trivial (enters_of Tryz.func119 (by kernel_rfl) rfl) _ _ (by rw [size_datum]; unfold maxLen; omega) (by rw [size_datum]; omega) W1 hseq)
  have hkeys := strKeys_datum h
  have hnames : ∀ G ∈ gs, G.name.size ≤ 80 := fun G hG => name_size (h.grps G hG).named
  have hnd := h.names
  have HS : Hid (Calls Tryz.prog 84 #[.func (.func 119) #[] #[.pointer (some ⟨w.heap.size, 0, none⟩)], .func (.func 86) #[] #[]] W1 fun r w' => GroupsPost gs w r w') := Lib.hid (by
    have HC := Lib.hid hC
    have HG := Lib.hid (hG.later hb1)
    have HB1 := Lib.hid hb1
    clear hC hK hseq hown hX1 hc h hG hb1 hm1 hW1
    go_enter Tryz.func84, Tryz.ntmps84
    go_wp2_with fail
    refine HC.out.mono ?_
    rintro r w2 ⟨v, ss, rfl, hp, hrow, hnil, hb2⟩
    have hB2 := HB1.out.trans (hb2.mono (by omega))
    have hpn : ss.Perm (gs.map fun G => G.name.data.toList) := hp.trans hkeys
    have hG2 := HG.out.later hb2
    have HB2 := Lib.hid hB2
    rcases hrow.2 with ⟨rfl, h0⟩ | ⟨g, cap, cur, rfl, hg, hcur, hle, hmx, hcs, htk⟩
    · have hss : ss = [] := List.length_eq_zero_iff.1 h0
      have hgs : gs = [] := by
        rw [hss] at hpn
        have := hpn.symm.eq_nil
        simpa using this
      clear hrow hnil hb2 hB2 hp hpn hG2 HG HC HB1 hkeys h0 hnames hnd hs1 hgl
      go_wp2_with fail
      refine (AnyF.slices_SortFunc_none (L := { Tryz.sortA with }) none 0 _ w2).mono ?_
      rintro r w' ⟨rfl, rfl⟩
      go_wp2
      go_ret
      exact ⟨_, [], rfl, .inl ⟨rfl, rfl⟩, .nil, fun t => by rw [hgs]; simp, HB2.out⟩
    · obtain ⟨bs, hbs⟩ : ∃ bs : List ByteArray, bs = ss.map str := ⟨_, rfl⟩
      have hbl : bs.length = ss.length := by rw [hbs]; simp
      have hbp : bs.Perm (gs.map fun G => G.name) := by
        rw [hbs]
        refine (hpn.map str).trans ?_
        rw [List.map_map]
        refine List.Perm.of_eq (List.map_congr_left fun G _ => ?_)
        rfl
      have hbn : bs.Nodup := hbp.nodup_iff.2 hnd
      have hbz : ∀ s ∈ bs, s.size ≤ 100000 := fun s hs => by
        obtain ⟨G, hG, e⟩ := List.mem_map.1 (hbp.mem_iff.1 hs)
        have := hnames G hG
        rw [← e]; omega
      have hlen : ss.length = gs.length := by
        have := hpn.length_eq
        simpa using this
      have hglt := (Array.getElem?_eq_some_iff.1 hcur).1
      have hsr : StrRow w2 g 0 bs := fun k x hx => by
        have := World.ownsRow.cells hrow (g := g) rfl k (.string x) (by
          rw [hbs, List.getElem?_map] at hx
          rw [List.getElem?_map]
          cases hk : ss[k]? with
          | none => rw [hk] at hx; cases hx
          | some l => rw [hk] at hx; cases hx; rfl)
        rwa [Addr.add_lit] at this
      have hHo : Go.Sort.Holds encN w2 g 0 (bs.pmap mkN hbz).toArray := fun j hj => by
        have hj' : j < bs.length := by simpa using hj
        refine ⟨?_, ?_⟩
        · rw [hsr j bs[j] (List.getElem?_eq_getElem hj'), getElem!_pos _ j hj]
          simp only [List.getElem_toArray, List.getElem_pmap]
          rfl
        · unfold World.frozen?
          rw [hcur]
          simp
      have hsz : (bs.pmap mkN hbz).toArray.size = ss.length := by simp [hbl]
      have HSO := Lib.hid (sort_any' g cap ss.length bs w2 hG2 hbz hglt (Nat.le_trans (HG.out.size) hg) hHo (by omega) hbl.symm)
      have HFIN := Lib.hid (fun (w' : World) (d' : Array SName) n os hp hs hw => sorted_row (w := w2) (w' := w') hbz hbn hsr hglt d' n os hHo hp hs hw)
      have HMEM : Hid (∀ t, t ∈ bs ↔ ∃ G ∈ gs, G.name = t) := Lib.hid (fun t => by rw [hbp.mem_iff, List.mem_map])
      have HBL := Lib.hid hbl
      have HLEN := Lib.hid hlen
      clear hHo hsr hrow hnil hb2 hB2 hp hpn hG2 HC hkeys hnames hnd hcs htk hbn hbp hbs hcur hbl hlen hsz
      clear HG HB1
      go_wp2_with fail
      refine HSO.out.mono ?_
      rintro r w3 ⟨rfl, d', n, os, hp, hs, hw⟩
      obtain ⟨ns, hnl, hr3, ho3, hm3⟩ := HFIN.out w3 d' n os hp hs hw
      have hB3 : Below g w2 w3 := by rw [hw]; exact below_sortWorld w2 g 0 n d' os (by omega)
      have HB3 := Lib.hid (HB2.out.trans (hB3.mono (by omega)))
      have hl3 : g < w3.heap.size := Nat.lt_of_lt_of_le hglt hB3.size
      clear hp hs hw HFIN HSO hB3
      have hnl' := Lib.hid (show ns.length = ss.length by rw [hnl, HBL.out])
      clear hnl
      go_wp2
      go_ret
      exact ⟨_, ns, rfl, .inr ⟨g, cap, by rw [hnl'.out]; rfl, by rw [hnl'.out]; exact hle, hr3, by omega, hl3⟩, ho3, fun t => (hm3 t).trans (HMEM.out t), HB3.out⟩)
  have HK := Lib.hid hK
  clear hC hK hseq hown hX1 h hG hb1 hm1 hkeys hnames hnd hs1 hgl
  clear hW1
  go_enter Tryz.func47, Tryz.ntmps47
  go_wp2_with fail
  refine HK.out.mono ?_
  rintro r w' ⟨rfl, rfl⟩
  go_wp2_with fail
  refine HS.out.mono ?_
  rintro r w' ⟨v, ns, rfl, hpost⟩
  have HP := Lib.hid hpost
  obtain ⟨va, vc, rfl⟩ := hpost.1.slice
  clear hpost
  go_wp2
  go_ret
  exact ⟨_, ns, rfl, HP.out⟩

end Go.Proofs.YtdjaphcelpchaaaGreatDoor

namespace Go.Proofs.YtdjaphcelpchaaaGreatDoor
open Go Go.RowKit Go.Proofs

attribute [local go_sem ↓] ex_load_id ex_store_id ex_load_line ex_store_line ex_alloc_line ex_build_line

attribute [local go_sem] ld_id st_id ld_line st_line guard_id okCells_drew rdCells_drew okCells_drewN rdCells_drewN rowOk_drew rowOk_cells okCells_cells rdCells_cells setRow_drew setRow_new setRow_past

/-- A group with the number that an article has in it. -/
abbrev PL : Type := ByteArray × Int
def flatP (ps : List PL) : List Value := ps.flatMap fun p => [.string p.1, .int .i64 p.2]
theorem flatP_snoc (ps : List PL) (p : PL) : flatP (ps ++ [p]) = flatP ps ++ [.string p.1, .int .i64 p.2] := by simp [flatP]
theorem flatP_get : ∀ (ps : List PL) (j : Nat) (hj : j < ps.length), (flatP ps)[j * 2]? = some (.string ps[j].1) ∧ (flatP ps)[j * 2 + 1]? = some (.int .i64 ps[j].2)
  | p :: ps, 0, _ => ⟨rfl, rfl⟩
  | p :: ps, j + 1, hj => by
    have := flatP_get ps j (by simpa using hj)
    have e : flatP (p :: ps) = .string p.1 :: .int .i64 p.2 :: flatP ps := rfl
    rw [e, show (j + 1) * 2 = j * 2 + 1 + 1 by omega]
    exact this
/-- Where an article is. -/
def placeIn (gs : List MG) (x : Id32) (t : ByteArray) : Option PL := ((linesIn gs t).find? fun m => decide (m.p.id = x)).map fun m => (t, m.p.number)
def whereAt (gs : List MG) (ns : List ByteArray) (x : Id32) : List PL := ns.filterMap (placeIn gs x)
theorem whereAt_snoc (gs : List MG) (ns : List ByteArray) (x : Id32) (t : ByteArray) : whereAt gs (ns ++ [t]) x = whereAt gs ns x ++ (placeIn gs x t).toList := by
  unfold whereAt
  rw [List.filterMap_append]
  cases h : placeIn gs x t <;> simp [h]

theorem Tryz.info_place : (Tryz.prog.info? 76).map (fun i => (i.zero, i.size, i.bytes)) = some (some (.agg #[.string ⟨#[]⟩, .int .i64 0]), 2, 24) := by kernel_rfl

/-- What Where answers. -/
def WherePost (gs : List MG) (x : Id32) (w : World) (r : Ending) (w' : World) : Prop := ∃ v ns, r = .returned v ∧ w'.ownsRow w.heap.size 76 2 v (whereAt gs ns x).length (flatP (whereAt gs ns x)) ∧ ordN ns ∧ (∀ t, t ∈ ns ↔ ∃ G ∈ gs, G.name = t) ∧ Below w.heap.size w w'

theorem groupOf_of {gs : List MG} (hn : (gs.map fun G => G.name).Nodup) {G : MG} (hG : G ∈ gs) : groupOf gs G.name = some G := by
  unfold groupOf
  cases h : gs.find? fun H => decide (H.name = G.name) with
  | none =>
    rw [List.find?_eq_none] at h
    exact absurd (h G hG) (by simp)
  | some H =>
    have h1 := List.mem_of_find?_eq_some h
    have h2 : H.name = G.name := by simpa using List.find?_some h
    rw [name_inj hn H h1 G hG h2]
theorem find_unique {ms : List ML} {x : Id32} (hn : (ms.map fun m => m.p.id).Nodup) {m : ML} (hm : m ∈ ms) (he : m.p.id = x) : (ms.find? fun m => decide (m.p.id = x)) = some m := by
  induction ms with
  | nil => cases hm
  | cons a ms ih =>
    rw [List.map_cons, List.nodup_cons] at hn
    rw [List.find?_cons]
    rcases List.mem_cons.1 hm with rfl | hm'
    · rw [decide_eq_true he]
    · have : ¬ a.p.id = x := fun e => hn.1 (by rw [e, ← he]; exact List.mem_map.2 ⟨m, hm', rfl⟩)
      rw [decide_eq_false this]
      exact ih hn.2 hm'

theorem own_slice {w : World} {B t s n : Nat} {v : Value} {xs : List Value} (h : w.ownsRow B t s v n xs) : ∃ a n c, v = .slice a n c := by
  rcases h.2 with ⟨e, _⟩ | ⟨g, cap, cur, e, _⟩
  · exact ⟨_, _, _, e⟩
  · exact ⟨_, _, _, e⟩
theorem ownsRow_base {W : World} {B B' t s n : Nat} {v : Value} {xs : List Value} (h : W.ownsRow B t s v n xs) (hb : B' ≤ B) : W.ownsRow B' t s v n xs := by
  refine ⟨h.1, ?_⟩
  rcases h.2 with hn | ⟨g, cap, cur, hv, hbg, rest⟩
  · exact .inl hn
  · exact .inr ⟨g, cap, cur, hv, Nat.le_trans hb hbg, rest⟩
theorem rd_of_block {w : World} {b : Nat} {x : Id32} {t : TypeId} (h : w.heap[b]? = some (.cells (encId x).toArray t (0, 0))) : okCells w ⟨b, 0, none⟩ 32 = true ∧ rdCells w ⟨b, 0, none⟩ 32 = (encId x).toArray := by
  have := rd_of_cells (w := w) (a := ⟨b, 0, none⟩) (cs := encId x) (fun j v hj => by
    rw [Addr.add_lit, cell_of_row w b (0 + j) _ _ _ h, Nat.zero_add, List.getElem?_toArray]; exact hj)
  rwa [encId_length] at this

set_option maxRecDepth 100000 in
set_option maxHeartbeats 4000000 in
theorem where_any (B ib M mc : Nat) (gs : List MG) (x : Id32) (w : World) (hG : Gl w) (h : IdxAt B w ib M gs mc) :
    Calls Tryz.prog 42 #[.pointer (some ⟨ib, 0, none⟩), .agg (encId x).toArray] w fun r w' => WherePost gs x w r w' := by
  obtain ⟨i0, hi, hz0, hz1, hz2⟩ := info_parts Tryz.info_place
  obtain ⟨W, hW⟩ : ∃ W, W = w.alloc (.cells (encId x).toArray 23) := ⟨_, rfl⟩
  have hb0 : Below w.heap.size w W := by rw [hW]; exact (Below.refl _ _).alloc (Nat.le_refl _) _
  have hs0 : W.heap.size = w.heap.size + 1 := by rw [hW]; simp
  have hid : W.heap[w.heap.size]? = some (.cells (encId x).toArray 23 (0, 0)) := by rw [hW]; exact heap_alloc_new _ _
  have HGR := Lib.hid (groups_any B ib M mc gs W (hG.later hb0) (h.below hb0))
  have HB := Lib.hid hb0
  have HID := Lib.hid hid
  have HX := Lib.hid h
  clear hid hb0 h hG
  go_enter Tryz.func42, Tryz.ntmps42
  go_wp2_with fail
  rw [← hW]
  clear hW
  refine HGR.out.mono ?_
  rintro r w1 ⟨v, ns, rfl, hns, hord, hmem, hb1⟩
  have hB1 : Below w.heap.size w w1 := HB.out.trans (hb1.mono HB.out.size)
  have hid1 := (hb1.block w.heap.size (by omega)).trans HID.out
  have hs1 : w.heap.size < w1.heap.size := by have := hb1.size; omega
  have HB1 := Lib.hid hB1
  have HID1 := Lib.hid hid1
  have HX1 := Lib.hid (HX.out.below hB1)
  have HM := Lib.hid hmem
  have HO := Lib.hid hord
  clear hB1 hid1 hb1 HB HID HX HGR hmem hord hs0
  have hnl : ns.length ≤ 65536 := by
    have h1 : ns.Nodup := HO.out.imp fun {a b} hab e => by rw [e, cmpN_refl] at hab; omega
    have h2 : ns.length ≤ (gs.map fun G => G.name).length := h1.length_le_of_subset fun t ht => by
      obtain ⟨G, hG, e⟩ := (HM.out t).1 ht
      exact List.mem_map.2 ⟨G, hG, e⟩
    rw [List.length_map] at h2
    exact Nat.le_trans h2 HX1.out.groups
  rcases hns with ⟨rfl, rfl⟩ | ⟨b, c, rfl, hc, hrow, hbB, hbl⟩
  · go_wp2
    go_loop [5, 13] (fun p i => p = .slice none 0 0 ∧ i = .int .i64 0) (fun _ _ => 0)
    case atStart => exact ⟨rfl, rfl⟩
    case round =>
      obtain ⟨rfl, rfl⟩ := hrel
      go_wp2
      go_ret
      exact ⟨_, [], rfl, World.ownsRow_nil _ _ _ _, HO.out, HM.out, HB1.out⟩
  · have HR := Lib.hid hrow
    clear hrow
    go_wp2
    go_loopw [5, 13] (fun p i wr => ∃ k : Nat, k ≤ ns.length ∧ i = .int .i64 k ∧ wr.ownsRow w1.heap.size 76 2 p (whereAt gs (ns.take k) x).length (flatP (whereAt gs (ns.take k) x)) ∧ Below w1.heap.size w1 wr) (fun _ i _ => ns.length - (intOf i).toNat)
    case atStart => exact ⟨0, by omega, rfl, World.ownsRow_nil _ _ _ _, Below.refl _ _⟩
    case round =>
      obtain ⟨k, hk, rfl, hown, hb⟩ := hrel
      by_cases hlt : k < ns.length
      · have hltz : (k : Int) < (ns.length : Int) := by omega
        have hcell : wr.cell? ⟨b, k, none⟩ = some (.string ns[k]) := by
          have := HR.out k _ (List.getElem?_eq_getElem hlt)
          rw [Nat.zero_add] at this
          exact (hb.cell (p := ⟨b, k, none⟩) hbl).trans this
        have HTK : Hid (whereAt gs (ns.take (k + 1)) x = whereAt gs (ns.take k) x ++ (placeIn gs x ns[k]).toList) := Lib.hid (by
          rw [List.take_succ_eq_append_getElem hlt, whereAt_snoc])
        obtain ⟨G, hGm, hGn⟩ := (HM.out ns[k]).1 (List.getElem_mem hlt)
        have hXr := HX1.out.below hb
        have hgo : groupOf gs ns[k] = some G := by rw [← hGn]; exact groupOf_of hXr.names hGm
        have hli : linesIn gs ns[k] = G.ms := by unfold linesIn; rw [hgo]
        have hgr := hXr.grps G hGm
        have hidr := (hb.block w.heap.size hs1).trans HID1.out
        generalize ns[k] = t at hcell HTK hGn hgo hli
        have q1 : ∀ n, (wr.drewN n).cell? ⟨ib, 0, none⟩ = some (.map (some M)) := fun n => by rw [World.cell?_drewN]; exact hXr.cell0
        have q2 : ∀ n, (Instr.lookup 102 (.map (some M)) (.string t) false).run Tryz.prog (wr.drewN n) = .ok (.pointer (some ⟨G.gb, 0, none⟩)) (wr.drewN n) := fun n => by
          have := (hXr.below (below_drewN' (Below.refl _ _) n)).look t
          rw [hgo] at this
          exact this
        have q3 : ∀ n, (wr.drewN n).cell? ⟨G.gb, 1, none⟩ = some (.map (some G.nb)) := fun n => by rw [World.cell?_drewN]; exact cell_of_row wr G.gb 1 _ _ _ hgr.blk
        have q4 : ∀ n, (Instr.lookup 113 (.map (some G.nb)) (.agg (encId x).toArray) true).run Tryz.prog (wr.drewN n) = .ok (.tuple #[((findK x G.nl 0).map (·.2)).getD (.int .i64 0), .bool (findK x G.nl 0).isSome]) (wr.drewN n) := fun n =>
          look_ok keyI Tryz.underlying113 (.int .i64 0) zero_int (wr.drewN n) G.nb G.nl G.nc hgr.nums x
        have hrd : okCells wr ⟨w.heap.size, 0, none⟩ 32 = true ∧ rdCells wr ⟨w.heap.size, 0, none⟩ 32 = (encId x).toArray := rd_of_block hidr
        have q5 : ∀ n, okCells (wr.drewN n) ⟨w.heap.size, 0, none⟩ 32 = true := fun n => by rw [okCells_drewN]; exact hrd.1
        have q6 : ∀ n, rdCells (wr.drewN n) ⟨w.heap.size, 0, none⟩ 32 = (encId x).toArray := fun n => by rw [rdCells_drewN]; exact hrd.2
        by_cases hin : ∃ m ∈ G.ms, m.p.id = x
        · obtain ⟨m, hm, hmx⟩ := hin
          obtain ⟨j, hj, _⟩ := hgr.find_yes hm
          rw [hmx] at hj
          rw [hj] at q4
          have HPL : Hid (placeIn gs x t = some (t, m.p.number)) := Lib.hid (by unfold placeIn; rw [hli, find_unique hgr.ids hm hmx]; rfl)
          have HOWN := Lib.hid hown
          have HBr := Lib.hid hb
          clear hj hgr hXr hrd hown hb hidr hgo hli hGn hm hmx
          go_wp2_with fail
          go_quiet (fail)
          clear q1 q2 q3 q4 q5 q6 hcell
          have hown1 : (wr.drewN nq).ownsRow w1.heap.size 76 2 u5 (whereAt gs (ns.take k) x).length (flatP (whereAt gs (ns.take k) x)) := HOWN.out
          have hBr1 : Below w1.heap.size w1 (wr.drewN nq) := below_drewN' HBr.out nq
          generalize wr.drewN nq = W2 at hown1 hBr1 ⊢
          have HBr1 := Lib.hid hBr1
          have hownA := hown1.alloc (.cells #[.string t, .int .i64 m.p.number] 76)
          clear HOWN HBr hBr1
          have hlen2 : (whereAt gs (ns.take k) x).length ≤ k := by
            unfold whereAt
            exact Nat.le_trans (List.length_filterMap_le _ _) (by rw [List.length_take]; omega)
          have hlt2 := Lib.hid (fun j hj => (hown1.lt j hj).1)
          clear hown1
          obtain ⟨nn, hnn⟩ : ∃ nn, nn = (whereAt gs (ns.take k) x).length := ⟨_, rfl⟩
          rw [← hnn] at hownA hlen2
          have HNN := Lib.hid hnn
          clear hnn
          go_wp2_with (at_builtin; refine wpList_append_own _ rfl (.tmp 32) (.tmp 36) 73 rfl w1.heap.size 76 i0 (.agg #[.string ⟨#[]⟩, .int .i64 0]) 2 24 Tryz.underlying73 hi hz0 hz1 hz2 rfl (by decide) _ _ _ rfl hownA ⟨W2.heap.size, 0, none⟩ 1 1 [.string t, .int .i64 m.p.number] rfl rfl ?c1 ?c2 ?c3 ?c4 ?c5 ?_)
          case c1 =>
            intro j u hj
            rw [Addr.add_lit, Nat.zero_add, cells_new]
            match j, hj with
            | 0, hj => simpa using hj
            | 1, hj => simpa using hj
          case c2 => intro u hu; simp at hu; rcases hu with rfl | rfl <;> rfl
          case c3 => unfold maxLen; omega
          case c4 => omega
          case c5 => have := HBr1.out.size; simp; omega
          intro v' w3 hown' hgrow _
          have hb3 : Below w1.heap.size w1 w3 := (HBr1.out.alloc HBr1.out.size _).grown hgrow (by have := HBr1.out.size; simp; omega) (fun j hj => hlt2.out j hj)
          clear hownA hgrow
          go_wp2
          go_roundw
          case rel => exact ⟨k + 1, by omega, by go_num, by rw [HTK.out, HPL.out, Option.toList_some, flatP_snoc, List.length_append, ← HNN.out]; exact hown', hb3⟩
          case measure => simp [intOf]; omega
        · have hno : ∀ m ∈ G.ms, m.p.id ≠ x := fun m hm e => hin ⟨m, hm, e⟩
          rw [hgr.find_no hno] at q4
          have HPL : Hid (placeIn gs x t = none) := Lib.hid (by
            unfold placeIn
            rw [hli, Option.map_eq_none_iff, List.find?_eq_none]
            intro m hm hx
            exact hno m hm (by simpa using hx))
          have HOWN := Lib.hid hown
          have HBr := Lib.hid hb
          clear hgr hXr hrd hown hb hidr hgo hli hGn hin hno
          go_wp2_with fail
          go_quiet (fail)
          clear q1 q2 q3 q4 q5 q6 hcell
          go_wp2
          go_roundw
          case rel => exact ⟨k + 1, by omega, by go_num, by rw [HTK.out, HPL.out, Option.toList_none, List.append_nil]; exact HOWN.out, below_drewN' HBr.out _⟩
          case measure => simp [intOf]; omega
      · have HE : Hid (ns.take k = ns) := Lib.hid (List.take_of_length_le (by omega))
        obtain ⟨pa, pn, pc, hp⟩ : ∃ a n c, u5 = .slice a n c := own_slice hown
        have HOWN := Lib.hid hown
        subst hp
        clear hown
        go_wp2
        go_ret
        refine ⟨_, ns, rfl, ?_, HO.out, HM.out, HB1.out.trans (hb.mono HB1.out.size)⟩
        have := HOWN.out
        rw [HE.out] at this
        exact ownsRow_base this HB1.out.size

end Go.Proofs.YtdjaphcelpchaaaGreatDoor
