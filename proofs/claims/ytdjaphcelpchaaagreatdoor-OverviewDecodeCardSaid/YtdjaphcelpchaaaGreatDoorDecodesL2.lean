/- Parts of the proofs about bulletinlaw28: ParseOwn, Search, MapLaw, Index, Get, InsertMid, AddLaw. -/
import Derived.Test.YtdjaphcelpchaaaGreatDoorShelf
import Derived.Test.YtdjaphcelpchaaaGreatDoorK1
import Derived.Test.YtdjaphcelpchaaaGreatDoorK2
import Derived.Test.YtdjaphcelpchaaaGreatDoorShelf2
import Derived.Test.YtdjaphcelpchaaaGreatDoorDecodesL1
import Derived.Shelf.Spec.SlicesInsertGrow
import Derived.Laws.CopyRow
import Derived.Maps.AppendAt

namespace Go.Proofs.YtdjaphcelpchaaaGreatDoor
open Go Go.RowKit Go.Proofs

theorem IdsOwn.grown {B : Nat} {w w' : World} {v : Value} {ids : List Id32} {lb : Nat} (h : IdsOwn B w v ids) (hg : w.grownBy w' (some lb)) (hne : v.ownBlock ≠ some lb) : IdsOwn B w' v ids :=
  h.block fun k hk => hg.block k (h.lt hk).2 (fun e => hne (hk.trans e))
theorem idsOwn_nil (B : Nat) (w : World) : IdsOwn B w (.slice none 0 0) [] := World.ownsRow_nil _ _ _ _

section
attribute [local go_sem ↓] ex_load_id ex_store_id ex_alloc_id ex_build_id ex_bs_id

attribute [local go_sem] ld_id st_id bs_id guard_id okCells_drew rdCells_drew okCells_drewN rdCells_drewN rowOk_drew rowOk_cells okCells_cells rdCells_cells okArr_id rdArr_id setRow_drew setRow_new setRow_past fits_id encId_length

set_option maxRecDepth 100000 in
set_option maxHeartbeats 2000000 in
theorem setRefs_own_some (lb t : Nat) (cs : Array Value) (p : ByteArray) (w : World) (hblk : w.heap[lb]? = some (.cells cs t (0, 0))) (h36 : cs[36]? = some (.slice none 0 0)) (hG : Gl w) (hp : p.size < 4294967281) (hne : p.size ≠ 0) :
    Calls Tryz.prog 98 #[.pointer (some ⟨lb, 0, none⟩), .string p] w fun r w' => r = .returned (.int .i64 (refsPart p)) ∧ w.grownBy w' (some lb) ∧ ∃ v, w'.heap[lb]? = some (.cells (cs.setIfInBounds 36 v) t (0, 0)) ∧ v.oneCell' = true ∧ v.ownBlock ≠ some lb ∧ (refsPart p = 0 → IdsOwn 0 w' v (refIds p)) := by
  have hoff : 36 < cs.size := (Array.getElem?_eq_some_iff.1 h36).1
  have hlb : lb < w.heap.size := (Array.getElem?_eq_some_iff.1 hblk).1
  obtain ⟨i0, hi, hz0, hz1, hz2⟩ := info_parts Tryz.info_id
  have hT : refTexts p = splitL 44 p.data.toList := by unfold refTexts; rw [if_neg hne]
  have hlen : (splitS 44 p).length = (refTexts p).length := by rw [hT]; simp [splitS]
  have hlen2 := (splitS_len 44 p).2
  have hpe : p.toList.isEmpty = false := by
    rw [ByteArray.toList_eq, List.isEmpty_eq_false_iff, ← List.length_pos_iff, size_list]; omega
  have HPE := Lib.hid hne
  obtain ⟨T, hTT⟩ : ∃ T, T = refTexts p := ⟨_, rfl⟩
  rw [← hTT] at hlen
  obtain ⟨n, hn⟩ : ∃ n, n = (splitS 44 p).length := ⟨_, rfl⟩
  have HS := Lib.hid (show splitS 44 p = T.map str by rw [hTT, hT]; rfl)
  have HT := Lib.hid hTT
  have HN := Lib.hid hn
  have HNT := Lib.hid (hn.trans hlen)
  have hn32 : n ≤ 4294967281 := by omega
  have HBLK := Lib.hid hblk
  have H36 := Lib.hid h36
  clear hT hTT hblk h36 hlen hlen2 hne
  go_enter Tryz.func98, Tryz.ntmps98
  go_wp2_with fail
  refine (split_any 44 p w hG hp).mono ?_
  rintro r w1 ⟨rfl, hw1⟩
  rw [HN.out.symm]
  have hrow : StrRow w1 w.heap.size 0 (T.map str) := by rw [← hw1, ← HS.out]; exact split_row _ _ _
  have hb1 : Below w.heap.size w w1 := by rw [← hw1]; exact (Below.refl _ _).alloc (Nat.le_refl _) _
  have hblk1 : w1.heap[lb]? = some (.cells cs t (0, 0)) := (hb1.block lb hlb).trans HBLK.out
  have hs1 : w.heap.size < w1.heap.size := by rw [← hw1]; simp
  have hset0 : cs.setIfInBounds 36 (.slice none 0 0) = cs := by
    obtain ⟨h1, h2⟩ := Array.getElem?_eq_some_iff.1 H36.out
    apply Array.ext_getElem?
    intro j
    rw [Array.getElem?_setIfInBounds]
    split
    · rename_i e; subst e; exact H36.out.symm
    · rfl
  have HW1 := Lib.hid hw1
  clear hw1 hn
  go_wp2
  go_loopw [14] (fun i wr => ∃ k v, k ≤ n ∧ i = .int .i64 (k : Nat) ∧ RefsLoop w1 wr lb 36 t cs T k v ∧ (T.take k).all idOk = true) (fun i _ => n - (intOf i).toNat)
  case atStart => exact ⟨0, .slice none 0 0, by omega, rfl, ⟨by rw [hset0]; exact hblk1, World.ownsRow_nil _ _ _ _, grown_refl _ _⟩, by simp⟩
  case round =>
    obtain ⟨k, v, hk, rfl, hL, hall⟩ := hrel
    have hlb1 : lb < w1.heap.size := by omega
    by_cases hlt : k < n
    · have hltz : (k : Int) < (n : Int) := by omega
      have hkT : k < T.length := by rw [← HNT.out]; exact hlt
      have htext : wr.cell? ⟨w.heap.size, k, none⟩ = some (.string (str T[k])) := by
        have h1 := hrow k (str T[k]) (by simp [hkT])
        rw [Nat.zero_add] at h1
        rw [← h1]
        unfold World.cell?
        rw [hL.grown.block w.heap.size hs1 (by simp; omega)]
      obtain ⟨X, hX⟩ : ∃ X, X = str T[k] := ⟨_, rfl⟩
      rw [← hX] at htext
      have hXs : X.size ≤ maxLen := by
        have h1 := splitL_part 44 p.data.toList T[k] (by
          have h0 : T[k] ∈ T := List.getElem_mem hkT
          have h2 : T = splitL 44 p.data.toList := by rw [HT.out, refTexts, if_neg HPE.out]
          exact h2 ▸ h0)
        rw [size_list] at h1
        rw [hX, str_size, maxLen]; omega
      have HX := Lib.hid hX
      clear hX
      have hcv := hL.cell hoff
      have hfv : wr.frozen? ⟨lb, 36, none⟩ = false := frozen_of_row wr lb 36 _ _ hL.blk
      go_wp2_with fail
      refine (parseId_any X wr hXs).mono ?_
      rintro r w2 ⟨rfl, hb2⟩
      by_cases hok : idOk X.data.toList = true
      · rw [hok]
        have hbz : ∀ b, b < wr.heap.size → (w2.alloc (.cells (encId (idVal X.data.toList)).toArray 23)).drew.heap[b]? = wr.heap[b]? := fun b hb => by
          show (w2.alloc _).heap[b]? = _
          rw [heap_alloc_old _ _ (Nat.lt_of_lt_of_le hb hb2.size), hb2.block b hb]
        have hlbr : lb < wr.heap.size := (Array.getElem?_eq_some_iff.1 hL.blk).1
        have hbase : (w2.alloc (.cells (encId (idVal X.data.toList)).toArray 23)).drew.cell? ⟨lb, 36, none⟩ = some v ∧ okCells (w2.alloc (.cells (encId (idVal X.data.toList)).toArray 23)).drew ⟨w2.heap.size, 0, none⟩ 32 = true ∧ rdCells (w2.alloc (.cells (encId (idVal X.data.toList)).toArray 23)).drew ⟨w2.heap.size, 0, none⟩ 32 = (encId (idVal X.data.toList)).toArray := by
          refine ⟨?_, ok_new_id _ _ _, rd_new_id _ _ _⟩
          rw [← hcv]
          unfold World.cell?
          rw [hbz lb hlbr]
        haveI : Nonempty (RefC lb 36 w2.heap.size v (idVal X.data.toList)) := ⟨⟨_, hbase⟩⟩
        have hz1' : ∀ z : RefC lb 36 w2.heap.size v (idVal X.data.toList), z.1.cell? ⟨lb, 36, none⟩ = some v := fun z => z.2.1
        have hz2' : ∀ z : RefC lb 36 w2.heap.size v (idVal X.data.toList), okCells z.1 ⟨w2.heap.size, 0, none⟩ 32 = true := fun z => z.2.2.1
        have hz3' : ∀ z : RefC lb 36 w2.heap.size v (idVal X.data.toList), rdCells z.1 ⟨w2.heap.size, 0, none⟩ 32 = (encId (idVal X.data.toList)).toArray := fun z => z.2.2.2
        go_wp2_with fail
        refine wp_region_mix0 [0, 1, 2, 3, 4, 5] [6, 7, 8, 9, 10] (fun w' => ∃ z : RefC lb 36 w2.heap.size v (idVal X.data.toList), w' = z.1) (by kernel_rfl) (by kernel_rfl) (by kernel_rfl) ⟨⟨_, hbase⟩, rfl⟩ ?_
        simp only [opsAt, List.map_cons, List.map_nil, Array.getD_eq_getD_getElem?, List.getElem?_toArray, List.getElem?_cons_zero, List.getElem?_cons_succ, Option.getD_some]
        repeat (go_big_quiet_step (fail))
        refine wpQuiet_nil ?_
        generalize hW0 : (w2.alloc (.cells (encId (idVal X.data.toList)).toArray 23)).drew = W at hbz hbase ⊢
        have hW := hW0.symm
        clear hW0
        refine wpR_cons true rfl (by kernel_rfl) ?_
        refine wpList_buildSlice rfl 24 23 1 _ rfl (encId (idVal X.data.toList)).toArray i0 _ Tryz.underlying24 hi hz0 (by rw [hz1]; decide) (by rw [hz1]; decide) (by rw [hz1]; simp only [List.map_toArray, List.map_cons, List.map_nil]; refine fill_one _ _ 32 (encId_size _) ?_; rw [Array.size_map, Array.size_range]) ?_
        clear hz1' hz2' hz3'
        go_wp2_with fail
        have hWs : wr.heap.size < W.heap.size := by have := hb2.size; rw [hW]; simp [World.drew]; omega
        have hownW : W.ownsRow w1.heap.size 23 32 v k (flatIds ((T.map idVal).take k)) := by rw [hW]; exact ((ownsRow_below hL.own hb2).alloc _).drew
        have hgW : wr.grownBy W none := by
          refine ⟨?_, ?_, ?_, by omega, fun b hb _ => hbz b hb⟩
          · rw [hW]; exact hb2.os
          · rw [hW]; exact hb2.tape
          · rw [hW]; exact hb2.output
        have hownA := hownW.alloc (.cells (encId (idVal X.data.toList)).toArray 23)
        have HW := Lib.hid hW
        clear hW
        refine ⟨fun _ => RefC.same hbase (heap_alloc_old _ _ (show lb < W.heap.size by omega)) (heap_alloc_old _ _ (show w2.heap.size < W.heap.size by rw [HW.out]; simp [World.drew])), wpR_cons true rfl (by kernel_rfl) ?_⟩
        have hW1 : w1.heap.size ≤ W.heap.size := by have := hL.grown.size; omega
        refine wpList_append_own _ rfl (.tmp 29) (.tmp 31) 24 rfl w1.heap.size 23 i0 (.agg (encId zeroId).toArray) 32 32 Tryz.underlying24 hi hz0 hz1 hz2 (encId_size zeroId) (by decide) _ _ _ rfl hownA ⟨W.heap.size, 0, none⟩ 1 1 (encId (idVal X.data.toList)) rfl (encId_length _) ?c1 ?c2 ?c3 ?c4 ?c5 ?_
        case c1 =>
          intro j u hj
          rw [Addr.add_lit, Nat.zero_add, cells_new, List.getElem?_toArray]; exact hj
        case c2 => exact encId_oneCell _
        case c3 => unfold maxLen; omega
        case c4 => omega
        case c5 => simp; omega
        intro v' w3 hown' hgrow _
        have hne : v.ownBlock ≠ some lb := fun e => by have := (hL.own.lt lb e).1; omega
        have hlt' := Lib.hid hown'.lt
        obtain ⟨g', cap', hv'⟩ : ∃ g' cap', v' = .slice (some ⟨g', 0, none⟩) (k + 1) cap' := by
          rcases hown'.2 with ⟨_, h0⟩ | ⟨g', cap', _, e, _⟩
          · omega
          · exact ⟨g', cap', e⟩
        subst hv'
        have hblk3 : w3.heap[lb]? = some (.cells (cs.setIfInBounds 36 v) t (0, 0)) := by
          rw [hgrow.block lb (by simp; omega) (fun e => hne e.symm), heap_alloc_old _ _ (by omega), hbz lb hlbr]
          exact hL.blk
        have hc3 : w3.cell? ⟨lb, 36, none⟩ = some v := by rw [cell_of_row w3 lb 36 _ _ _ hblk3]; simp [hoff]
        have hf3 : w3.frozen? ⟨lb, 36, none⟩ = false := frozen_of_row w3 lb 36 _ _ hblk3
        have hL' : RefsLoop w1 (w3.setCell ⟨lb, 36, none⟩ (.slice (some ⟨g', 0, none⟩) (k + 1) cap')) lb 36 t cs T (k + 1) (.slice (some ⟨g', 0, none⟩) (k + 1) cap') := by
          refine ⟨?_, ?_, ?_⟩
          · rw [heap_setCell_same w3 lb 36 _ _ _ hblk3, Array.setIfInBounds_setIfInBounds]
          · have hfl : flatIds ((T.map idVal).take (k + 1)) = flatIds ((T.map idVal).take k) ++ encId (idVal X.data.toList) := by
              rw [take_texts hkT, flat_snoc, HX.out]; rfl
            rw [hfl]
            exact hown'.kept (grown_set w3 lb 36 _) (Or.inr fun e => by have := (hlt'.out lb e).1; omega)
          · have hsz := hgrow.size
            have hg1 := hL.grown
            refine ⟨?_, ?_, ?_, ?_, fun b hb hnb => ?_⟩
            · exact hgrow.os.trans (hgW.os.trans hg1.os)
            · exact hgrow.tape.trans (hgW.tape.trans hg1.tape)
            · exact hgrow.output.trans (hgW.output.trans hg1.output)
            · simp [World.setCell] at hsz ⊢; omega
            · rw [heap_setCell_other w3 ⟨lb, 36, none⟩ b _ (fun e => hnb (by rw [e])), hgrow.block b (by simp; omega) (fun e => by have := (hL.own.lt b e.symm).1; omega), heap_alloc_old _ _ (by omega), hbz b (by have := hg1.size; omega)]
              exact hg1.block b hb hnb
        have HL' := Lib.hid hL'
        have HAL := Lib.hid (all_take hkT hall (by have := HX.out ▸ hok; exact this))
        have hC3 : ∃ z : RefC lb 36 w2.heap.size v (idVal X.data.toList), w3 = z.1 := by
          have hWw2 : w2.heap.size < W.heap.size := by rw [HW.out]; simp [World.drew]
          refine RefC.same hbase ?_ ?_
          · rw [hblk3, hbz lb hlbr, hL.blk]
          · rw [hgrow.block w2.heap.size (by simp; omega) (fun e => by have := (hL.own.lt _ e.symm).2; have := hb2.size; omega), heap_alloc_old _ _ hWw2]
        have HC3 := Lib.hid hC3
        clear hC3 hL' hown' hgrow hownA hownW hgW hbase hbz hall hL hblk3
        go_wp2_with fail
        refine ⟨fun _ => HC3.out, wpR_list [8, 9, 10] _ _ (by kernel_rfl) ?_⟩
        simp only [opsAt, List.map_cons, List.map_nil, Array.getD_eq_getD_getElem?, List.getElem?_toArray, List.getElem?_cons_zero, List.getElem?_cons_succ, Option.getD_some]
        go_wp2
        refine NoPanic.normal ?_
        go_wp2
        go_roundw
        case rel => exact ⟨k + 1, _, by omega, by go_num, HL'.out, HAL.out⟩
        case measure => simp [intOf]; omega
      · have hok' : idOk X.data.toList = false := by simpa using hok
        rw [hok']
        go_wp2
        go_ret
        have hblkf : (w2.alloc (.cells (encId (idVal X.data.toList)).toArray 23)).heap[lb]? = some (.cells (cs.setIfInBounds 36 v) t (0, 0)) := by
          have := (Array.getElem?_eq_some_iff.1 hL.blk).1
          rw [heap_alloc_old _ _ (Nat.lt_of_lt_of_le this hb2.size), hb2.block lb this]; exact hL.blk
        have hrp : refsPart p = 3 := by
          unfold refsPart
          rw [← HT.out, not_all hkT (by have := HX.out ▸ hok'; exact this)]; rfl
        refine ⟨by rw [hrp]; rfl, ?_, v, hblkf, own_one hL.own, fun e => by have := (hL.own.lt lb e).1; omega, fun e => by rw [hrp] at e; cases e⟩
        exact grown_trans (grown_below hb1 _) (grown_trans hL.grown (grown_below (hb2.alloc hb2.size _) _))
    · obtain rfl : k = n := by omega
      have hcv := hL.cell hoff
      have hids := idsAt_own (w := wr) (B := w1.heap.size) (v := v) (ids := (T.map idVal).take k) (by
        have : ((T.map idVal).take k).length = k := by rw [List.length_take, List.length_map, ← HNT.out]; omega
        rw [this]; exact hL.own)
      have hown : IdsOwn w1.heap.size wr v ((T.map idVal).take k) := by
        have : ((T.map idVal).take k).length = k := by rw [List.length_take, List.length_map, ← HNT.out]; omega
        unfold IdsOwn
        rw [this]; exact hL.own
      go_wp2_with fail
      refine (checkReferences_any v _ wr hids (by rw [List.length_take, List.length_map, maxLen]; omega)).mono ?_
      rintro r w2 ⟨rfl, hb2⟩
      go_wp2
      go_ret
      have hblkf : w2.heap[lb]? = some (.cells (cs.setIfInBounds 36 v) t (0, 0)) := (hb2.block lb (Array.getElem?_eq_some_iff.1 hL.blk).1).trans hL.blk
      have hrp : refsPart p = refsErr ((T.map idVal).take k) := by
        have ha : T.all idOk = true := by rw [← hall, List.take_of_length_le (by rw [← HNT.out]; omega)]
        unfold refsPart refIds
        rw [← HT.out, ha, List.take_of_length_le (by rw [List.length_map, ← HNT.out]; omega)]; rfl
      have hri : refIds p = (T.map idVal).take k := by
        unfold refIds
        rw [← HT.out, List.take_of_length_le (by rw [List.length_map, ← HNT.out]; omega)]
      refine ⟨by rw [hrp]; rfl, ?_, v, hblkf, own_one hL.own, fun e => by have := (hL.own.lt lb e).1; omega, fun _ => by rw [hri]; exact (hown.below hb2).mono (Nat.zero_le _)⟩
      exact grown_trans (grown_below hb1 _) (grown_trans hL.grown (grown_below hb2 _))

set_option maxHeartbeats 1000000 in
theorem setRefs_own (lb t : Nat) (cs : Array Value) (p : ByteArray) (w : World) (hblk : w.heap[lb]? = some (.cells cs t (0, 0))) (h36 : cs[36]? = some (.slice none 0 0)) (hG : Gl w) (hp : p.size < 4294967281) :
    Calls Tryz.prog 98 #[.pointer (some ⟨lb, 0, none⟩), .string p] w fun r w' => r = .returned (.int .i64 (refsPart p)) ∧ w.grownBy w' (some lb) ∧ ∃ v, w'.heap[lb]? = some (.cells (cs.setIfInBounds 36 v) t (0, 0)) ∧ v.oneCell' = true ∧ v.ownBlock ≠ some lb ∧ (refsPart p = 0 → IdsOwn 0 w' v (refIds p)) := by
  by_cases hne : p.size = 0
  · have hpe : p.toList.isEmpty = true := by
      rw [ByteArray.toList_eq, List.isEmpty_iff, ← List.length_eq_zero_iff, size_list]; exact hne
    have HT := Lib.hid (show refTexts p = [] from if_pos hne)
    have HBLK := Lib.hid hblk
    have H36 := Lib.hid h36
    clear hne hblk h36
    go_enter Tryz.func98, Tryz.ntmps98
    go_wp2
    go_ret
    have hrp : refsPart p = 0 := by unfold refsPart refIds; rw [HT.out]; rfl
    have hset0 : cs.setIfInBounds 36 (.slice none 0 0) = cs := by
      apply Array.ext_getElem?
      intro j
      rw [Array.getElem?_setIfInBounds]
      split
      · rename_i e; subst e; rw [if_pos (Array.getElem?_eq_some_iff.1 H36.out).1]; exact H36.out.symm
      · rfl
    refine ⟨by rw [hrp]; rfl, grown_refl _ _, .slice none 0 0, by rw [hset0]; exact HBLK.out, rfl, by simp [Value.ownBlock], fun _ => ?_⟩
    have hri : refIds p = [] := by unfold refIds; rw [HT.out]; rfl
    rw [hri]
    exact idsOwn_nil _ _
  · exact setRefs_own_some lb t cs p w hblk h36 hG hp hne
end

/-- What set leaves, with owned references. -/
def SetPostO (g : GLine) (i : Nat) (p : ByteArray) (lb : Nat) (w w' : World) : Prop :=
  w.grownBy w' (some lb) ∧ LineBlk w' lb ∧ (partErr i p = 0 → ∃ v, LineVar w' lb (setG g i p v) ∧ (i = 5 → v.oneCell' = true ∧ v.ownBlock ≠ some lb ∧ IdsOwn 0 w' v (refIds p)))
section

attribute [local go_sem ↓] ex_load_id ex_store_id ex_alloc_id ex_build_id

attribute [local go_sem] ld_id st_id guard_id okCells_drew rdCells_drew okCells_drewN rdCells_drewN rowOk_drew rowOk_cells okCells_cells rdCells_cells okArr_id rdArr_id setRow_drew setRow_new setRow_past fits_id encId_length

set_option maxHeartbeats 1000000 in
theorem set5o (lb : Nat) (g : GLine) (p : ByteArray) (w : World) (hv : LineVar w lb g) (hr : g.refs = .slice none 0 0) (hG : Gl w) (hs : p.size < 4294967281) :
    Calls Tryz.prog 60 #[.pointer (some ⟨lb, 0, none⟩), .int .i64 5, .string p] w fun r w' => r = .returned (.int .i64 (partErr 5 p)) ∧ SetPostO g 5 p lb w w' := by
  go_enter Tryz.func60, Tryz.ntmps60
  go_wp2_with fail
  refine (setRefs_own lb 34 (lineCells g) p w hv (by rw [lc36, hr]) hG hs).mono ?_
  rintro r w' ⟨rfl, hg, v, hb, h1, h2, h3⟩
  rw [set_refs] at hb
  clear hv hr hG
  go_wp2
  go_ret
  exact ⟨rfl, hg, LineVar.blk hb, fun e => ⟨v, hb, fun _ => ⟨h1, h2, h3 e⟩⟩⟩
end

theorem set_own (i lb : Nat) (g : GLine) (p : ByteArray) (w : World) (hi : i < 7) (hv : LineVar w lb g) (hr : i = 5 → g.refs = .slice none 0 0) (hG : Gl w) (hs : p.size < 4294967281) :
    Calls Tryz.prog 60 #[.pointer (some ⟨lb, 0, none⟩), .int .i64 i, .string p] w fun r w' => r = .returned (.int .i64 (partErr i p)) ∧ SetPostO g i p lb w w' := by
  by_cases h5 : i = 5
  · subst h5
    exact set5o lb g p w hv (hr rfl) hG hs
  · refine (set_any i lb g p w hi hv hr hG hs).mono ?_
    rintro r w' ⟨e, h1, h2, h3⟩
    refine ⟨e, h1, h2, fun he => ?_⟩
    obtain ⟨v, hv, _⟩ := h3 he
    exact ⟨v, hv, fun e => absurd e h5⟩
section

attribute [local go_sem ↓] ex_load_id ex_store_id ex_load_line ex_store_line ex_alloc_line ex_build_line

attribute [local go_sem] ld_id st_id ld_line st_line guard_id okCells_drew rdCells_drew okCells_drewN rdCells_drewN rowOk_drew rowOk_cells okCells_cells rdCells_cells setRow_drew setRow_new setRow_past

structure ParseLoopO (w W1 wr : World) (T : List ByteArray) (k : Nat) (v : Value) : Prop where
  var : LineVar wr w.heap.size (gAt T v k)
  grown : W1.grownBy wr (some w.heap.size)
  ids : 5 < k → v.oneCell' = true ∧ v.ownBlock ≠ some w.heap.size ∧ IdsOwn 0 wr v (refIds (nth T 5))
  ok : ∀ j, j < k → partErr j (nth T j) = 0

theorem ParseLoopO.next {w W1 wr w' : World} {T : List ByteArray} {k : Nat} {v : Value} (h : ParseLoopO w W1 wr T k v) (hp : SetPostO (gAt T v k) k (nth T k) w.heap.size wr w') (he : partErr k (nth T k) = 0) : ∃ v', ParseLoopO w W1 w' T (k + 1) v' := by
  obtain ⟨hg, _, hy⟩ := hp
  obtain ⟨v', hv', h5⟩ := hy he
  have hok : ∀ j, j < k + 1 → partErr j (nth T j) = 0 := fun j hj => by
    by_cases e : j = k
    · rw [e]; exact he
    · exact h.ok j (by omega)
  by_cases hk : k = 5
  · subst hk
    refine ⟨v', ?_, grown_trans h.grown hg, fun _ => h5 rfl, hok⟩
    rw [gAt, gAt_indep T v' v 5 (Nat.le_refl _)]
    exact hv'
  · by_cases hlt : k < 5
    · refine ⟨v', ?_, grown_trans h.grown hg, fun h6 => by omega, hok⟩
      rw [gAt, gAt_indep T v' v k (by omega)]
      exact hv'
    · refine ⟨v, ?_, grown_trans h.grown hg, fun _ => ?_, hok⟩
      · rw [gAt]
        have e : setG (gAt T v k) k (nth T k) v = setG (gAt T v k) k (nth T k) v' := by
          unfold setG
          split <;> first | rfl | omega
        rw [e]; exact hv'
      · obtain ⟨h1, h2, h3⟩ := h.ids (by omega)
        exact ⟨h1, h2, h3.grown hg h2⟩

def ParsePostO (s : ByteArray) (w : World) (r : Ending) (w' : World) : Prop := ∃ G ids, r = .returned (.tuple #[.agg (lineCells G), .int .i64 (parseOut s).2, .int .i64 (parseOut s).1]) ∧ ParsedIs s G ids ∧ IdsOwn 0 w' G.refs ids ∧ refsOne G ∧ Below w.heap.size w w'
theorem parse_bado {s : ByteArray} {w w' : World} {e o : Int} (he : parseOut s = (e, o)) (hne : e ≠ 0) (hb : Below w.heap.size w w') : ParsePostO s w (.returned (.tuple #[.agg (lineCells zeroLine), .int .i64 o, .int .i64 e])) w' :=
  ⟨zeroLine, [], by rw [he], ⟨fun _ => ⟨rfl, rfl⟩, fun h => absurd (by rw [he] at h; exact h) hne⟩, idsOwn_nil 0 w', rfl, hb⟩
theorem parse_goodo {s : ByteArray} {w W1 wr : World} {v : Value} (h : ParseLoopO w W1 wr (splitS 9 s) 7 v) (hlen : (splitS 9 s).length = 7) (hb1 : Below w.heap.size w W1) :
    ParsePostO s w (.returned (.tuple #[.agg (lineCells (gAt (splitS 9 s) v 7)), .int .i64 0, .int .i64 0])) (wr.setRow w.heap.size (lineCells (gAt (splitS 9 s) v 7))) := by
  have he : parseOut s = (0, 0) := by
    unfold parseOut
    rw [if_neg (by omega), if_neg (by omega), firstBad_none h.ok]
  obtain ⟨h1, h2, h3⟩ := h.ids (by omega)
  refine ⟨_, refIds (nth (splitS 9 s) 5), by rw [he], ⟨fun e => absurd (by rw [he]) e, fun _ => ⟨v, rfl, rfl⟩⟩, h3.grown (grown_row _ _ _) h2, gAt_one _ _ h1, ?_⟩
  exact below_grown hb1 (grown_trans h.grown (grown_row _ _ _)) hb1.size (Nat.le_refl _)

set_option maxRecDepth 100000 in
set_option maxHeartbeats 2000000 in
theorem parse_own (s : ByteArray) (w : World) (hG : Gl w) (hs : s.size < 4294967281) :
    Calls Tryz.prog 19 #[.string s] w (ParsePostO s w) := by
  obtain ⟨T, hT⟩ : ∃ T, T = splitS 9 s := ⟨_, rfl⟩
  have hlen := splitS_len 9 s
  rw [← hT] at hlen
  obtain ⟨n, hn⟩ : ∃ n, n = T.length := ⟨_, rfl⟩
  rw [← hn] at hlen
  have HT := Lib.hid hT
  have HN := Lib.hid hn
  have hsz : ∀ k, k < n → (nth T k).size ≤ s.size := fun k hk => by
    have h1 : nth T k ∈ T := by
      have := nth_at T k (by omega)
      exact List.mem_of_getElem? this
    have e0 : T = (splitL 9 s.data.toList).map str := hT
    generalize nth T k = y at h1 ⊢
    rw [e0, List.mem_map] at h1
    obtain ⟨x, hx, e⟩ := h1
    have := splitL_part 9 s.data.toList x hx
    rw [size_list] at this
    rw [← e, str_size]; exact this
  have HSZ := Lib.hid hsz
  have hfz : fitsRow 38 (lineCells zeroLine) = true := fits_line rfl
  clear hT hn hsz
  go_enter Tryz.func19, Tryz.ntmps19
  go_wp2_with fail
  refine (split_any 9 s _ (hG.later ((Below.refl _ _).alloc (Nat.le_refl _) _)) hs).mono ?_
  rintro r W1 ⟨rfl, hW1⟩
  rw [← HT.out] at hW1
  rw [← HT.out, ← HN.out]
  have hrow : StrRow W1 (w.heap.size + 1) 0 T := by
    rw [← hW1]
    have := split_row (w.alloc (.cells (lineCells zeroLine) 34)) 9 T
    simpa using this
  have hvar1 : LineVar W1 w.heap.size zeroLine := by
    unfold LineVar
    rw [← hW1, heap_alloc_old _ _ (by simp), heap_alloc_new]
  have hb1 : Below w.heap.size w W1 := by rw [← hW1]; exact ((Below.refl _ _).alloc (Nat.le_refl _) _).alloc (by simp) _
  have hs1 : W1.heap.size = w.heap.size + 2 := by rw [← hW1]; simp
  have hro1 := hvar1.row
  have HV1 := Lib.hid hvar1
  clear hW1 hvar1
  by_cases hlow : n < 7
  · have hlowz : (n : Int) < 7 := by omega
    have HPO := Lib.hid (show parseOut s = (4, (s.size : Int)) by unfold parseOut; rw [← HT.out, ← HN.out, if_pos hlow])
    go_wp2
    refine bodyPost_ret (v := .tuple #[.agg (lineCells zeroLine), .int .i64 (s.size : Int), .int .i64 4]) ?_ rfl (parse_bado HPO.out (by decide) (below_grown hb1 (grown_row _ _ _) (by omega) (Nat.le_refl _)))
    exact results_agg3 rfl Tryz.isAgg34 Tryz.sizeOf34 _ _ ⟨w.heap.size, 0, none⟩ _ _ _ rfl rfl rfl (HV1.out.blk.setRow.rd.1) (HV1.out.blk.setRow.rd.2)
  · have hlowz : ¬ (n : Int) < 7 := by omega
    go_wp2
    go_loop [3, 21] (fun o i => ∃ k : Nat, k ≤ 7 ∧ k ≤ n ∧ i = .int .i64 k ∧ o = .int .i64 (offs T k : Nat)) (fun _ i => 8 - (intOf i).toNat)
    case atStart => exact ⟨0, by omega, by omega, rfl, rfl⟩
    case round =>
      obtain ⟨k, hk7, hkn, rfl, rfl⟩ := hrel
      have hoff := offs_le T 4294967296 k (by rw [← HN.out]; exact hkn) (fun j hj => by have := HSZ.out j (by omega); omega)
      by_cases hlt : k < n
      · have hltz : (k : Int) < (n : Int) := by omega
        have htext : W1.cell? ⟨w.heap.size + 1, k, none⟩ = some (.string (nth T k)) := by
          have := hrow k _ (nth_at T k (by rw [← HN.out]; exact hlt))
          rwa [Nat.zero_add] at this
        by_cases h7 : k = 7
        · subst h7
          rw [show ((7 : Nat) : Int) = 7 from rfl] at *
          have HPO := Lib.hid (show parseOut s = (5, (offs T 7 : Int)) by unfold parseOut; rw [← HT.out, ← HN.out, if_neg hlow, if_pos hlt])
          go_wp2
          refine bodyPost_ret (v := .tuple #[.agg (lineCells zeroLine), .int .i64 (offs T 7 : Int), .int .i64 5]) ?_ rfl (parse_bado HPO.out (by decide) (below_grown hb1 (grown_row _ _ _) (by omega) (Nat.le_refl _)))
          exact results_agg3 rfl Tryz.isAgg34 Tryz.sizeOf34 _ _ ⟨w.heap.size, 0, none⟩ _ _ _ rfl rfl rfl (HV1.out.blk.setRow.rd.1) (HV1.out.blk.setRow.rd.2)
        · have h7z : ((k : Int) == 7) = false := by rw [beq_eq_false_iff_ne]; omega
          have hsk := HSZ.out k hlt
          have HO := Lib.hid (offs_succ T k (by rw [← HN.out]; exact hlt))
          go_wp2
          go_round
          case rel => exact ⟨k + 1, by omega, by omega, by go_num, by rw [HO.out]; go_num⟩
          case measure => simp [intOf]; omega
      · obtain rfl : k = n := by omega
        obtain rfl : k = 7 := by omega
        go_wp2
        go_loopw [3, 38] (fun o i wr => ∃ (k : Nat) (v : Value), k ≤ 7 ∧ i = .int .i64 k ∧ o = .int .i64 (offs T k : Nat) ∧ ParseLoopO w W1 wr T k v) (fun _ i _ => 7 - (intOf i).toNat)
        case atStart => exact ⟨0, undef, by omega, rfl, rfl, HV1.out, grown_refl _ _, fun h => by omega, fun j hj => by omega⟩
        case round =>
          obtain ⟨k, v, hk, rfl, rfl, hL⟩ := hrel
          have hoff2 := offs_le T 4294967296 k (by rw [← HN.out]; exact hk) (fun j hj => by have := HSZ.out j (by omega); omega)
          have hbr : Below w.heap.size w wr := below_grown hb1 hL.grown (by omega) (Nat.le_refl _)
          by_cases hlt : k < 7
          · have hltz : (k : Int) < 7 := by omega
            have htext : wr.cell? ⟨w.heap.size + 1, k, none⟩ = some (.string (nth T k)) := by
              have := hrow k _ (nth_at T k (by rw [← HN.out]; exact hlt))
              rw [Nat.zero_add] at this
              rw [← this]
              unfold World.cell?
              rw [hL.grown.block (w.heap.size + 1) (by omega) (by simp)]
            have hsk := HSZ.out k hlt
            have HO := Lib.hid (offs_succ T k (by rw [← HN.out]; exact hlt))
            go_wp2_with fail
            refine (set_own k w.heap.size (gAt T v k) (nth T k) wr hlt hL.var (fun e => by subst e; exact gAt_refs T v) (hG.below hbr hG.size) (by omega)).mono ?_
            rintro r w2 ⟨rfl, hpost⟩
            by_cases he : partErr k (nth T k) = 0
            · have hnext := Lib.hid (hL.next hpost he)
              rw [he]
              clear hL hpost
              go_wp2
              go_roundw
              case rel =>
                obtain ⟨v', hv'⟩ := hnext.out
                exact ⟨k + 1, v', by omega, by go_num, by rw [HO.out]; go_num, hv'⟩
              case measure => simp [intOf]; omega
            · have hb2 := Lib.hid (below_grown hb1 (grown_trans hL.grown hpost.1) (by omega) (Nat.le_refl _))
              have HB := Lib.hid hpost.2.1
              have hro2 := hpost.2.1.row
              have HPO := Lib.hid (show parseOut s = (partErr k (nth T k), (offs T k : Int)) by
                unfold parseOut
                rw [← HT.out, ← HN.out, if_neg (by omega), if_neg (by omega), firstBad_some hlt he hL.ok])
              have HE := Lib.hid he
              generalize partErr k (nth T k) = e at he HPO HE ⊢
              have hez : (e == 0) = false := by rw [beq_eq_false_iff_ne]; exact he
              clear hL hpost
              go_wp2
              refine bodyPost_ret (v := .tuple #[.agg (lineCells zeroLine), .int .i64 (offs T k : Int), .int .i64 e]) ?_ rfl (parse_bado HPO.out HE.out (below_grown hb2.out (grown_row _ _ _) hb2.out.size (Nat.le_refl _)))
              exact results_agg3 rfl Tryz.isAgg34 Tryz.sizeOf34 _ _ ⟨w.heap.size, 0, none⟩ _ _ _ rfl rfl rfl (HB.out.setRow.rd.1) (HB.out.setRow.rd.2)
          · obtain rfl : k = 7 := by omega
            have hok := hL.var.rd.1
            have hrd := hL.var.rd.2
            have hro2 := hL.var.row
            have hft : fitsRow 38 (lineCells (gAt T v 7)) = true := fits_line (gAt_one T v (hL.ids (by omega)).1)
            have HL := Lib.hid hL
            clear hL
            rw [show ((7 : Nat) : Int) = 7 from rfl] at *
            go_wp2
            have hT := HT.out
            have hpg := parse_goodo (s := s) (w := w) (W1 := W1) (wr := wr) (v := v) (hT ▸ HL.out) (by rw [← hT]; exact HN.out.symm) hb1
            rw [← hT] at hpg
            refine bodyPost_ret (v := .tuple #[.agg (lineCells (gAt T v 7)), .int .i64 0, .int .i64 0]) ?_ rfl hpg
            exact results_agg3 rfl Tryz.isAgg34 Tryz.sizeOf34 _ _ ⟨w.heap.size, 0, none⟩ _ _ _ rfl rfl rfl (HL.out.var.blk.setRow.rd.1) (HL.out.var.blk.setRow.rd.2)
end

end Go.Proofs.YtdjaphcelpchaaaGreatDoor

namespace Go.Proofs.YtdjaphcelpchaaaGreatDoor
open Go Go.RowKit Go.Proofs

attribute [local go_sem ↓] ex_load_id ex_store_id ex_load_line ex_store_line ex_alloc_line ex_build_line

attribute [local go_sem] ld_id st_id ld_line st_line guard_id okCells_drew rdCells_drew okCells_drewN rdCells_drewN rowOk_drew rowOk_cells okCells_cells rdCells_cells setRow_drew setRow_new setRow_past

/-- A line as plain data. -/
structure PLine where
  number : Int
  id : Id32
  name : ByteArray
  date : Int
  subject : ByteArray
  ids : List Id32
  bytes : Int
/-- A line in memory: its data, and the value of its references. -/
structure ML where
  p : PLine
  v : Value
def ML.g (m : ML) : GLine := ⟨m.p.number, m.p.id, m.p.name, m.p.date, m.p.subject, m.v, m.p.bytes⟩
instance : Inhabited ML := ⟨⟨⟨0, default, ⟨#[]⟩, 0, ⟨#[]⟩, [], 0⟩, .slice none 0 0⟩⟩
def flatLines (ms : List ML) : List Value := ms.flatMap fun m => lineList m.g

theorem flatLines_length (ms : List ML) : (flatLines ms).length = ms.length * 38 := by
  induction ms with
  | nil => rfl
  | cons m ms ih => simp [flatLines, lineList_length] at ih ⊢; omega
theorem flatLines_get : ∀ (ms : List ML) (j i : Nat) (hj : j < ms.length), i < 38 → (flatLines ms)[j * 38 + i]? = (lineList ms[j].g)[i]?
  | m :: ms, 0, i, _, hi => by
    show ((lineList m.g) ++ flatLines ms)[0 * 38 + i]? = _
    rw [Nat.zero_mul, Nat.zero_add, List.getElem?_append_left (by rw [lineList_length]; exact hi)]
    rfl
  | m :: ms, j + 1, i, hj, hi => by
    show ((lineList m.g) ++ flatLines ms)[(j + 1) * 38 + i]? = _
    rw [List.getElem?_append_right (by rw [lineList_length]; omega), lineList_length, show (j + 1) * 38 + i - 38 = j * 38 + i by omega]
    exact flatLines_get ms j i (by simpa using hj) hi

/-- A slice of lines in memory: nil, or the head of a block at or beyond B; each line's references a row of their own. -/
structure LinesAt (B : Nat) (w : World) (v : Value) (ms : List ML) : Prop where
  row : w.ownsRow B 34 38 v ms.length (flatLines ms)
  refs : ∀ m ∈ ms, IdsOwn B w m.v m.p.ids

/-- Where the row lies, if it is not nil. -/
theorem LinesAt.head {B : Nat} {w : World} {v : Value} {ms : List ML} (h : LinesAt B w v ms) : (v = .slice none 0 0 ∧ ms = []) ∨ ∃ g cap, v = .slice (some ⟨g, 0, none⟩) ms.length cap ∧ B ≤ g ∧ g < w.heap.size ∧ ms.length ≤ cap ∧ cap ≤ maxLen ∧
    ∀ j (hj : j < ms.length) i u, (lineList ms[j].g)[i]? = some u → w.cell? ⟨g, j * 38 + i, none⟩ = some u := by
  rcases h.row.2 with ⟨rfl, h0⟩ | ⟨g, cap, cur, rfl, hg, hcur, hle, hmx, hcs, htk⟩
  · exact .inl ⟨rfl, List.length_eq_zero_iff.1 h0⟩
  · refine .inr ⟨g, cap, rfl, hg, (Array.getElem?_eq_some_iff.1 hcur).1, hle, hmx, fun j hj i u hu => ?_⟩
    have hi : i < 38 := by have := (List.getElem?_eq_some_iff.1 hu).1; rwa [lineList_length] at this
    have := World.ownsRow.cells h.row (g := g) rfl (j * 38 + i) u (by rw [flatLines_get ms j i hj hi]; exact hu)
    rwa [Addr.add_lit, Nat.zero_add] at this
theorem lineAt_rd {w : World} {g off : Nat} {l : GLine} (h : ∀ i u, (lineList l)[i]? = some u → w.cell? ⟨g, off + i, none⟩ = some u) : okCells w ⟨g, off, none⟩ 38 = true ∧ rdCells w ⟨g, off, none⟩ 38 = lineCells l := by
  have := rd_of_cells (w := w) (a := ⟨g, off, none⟩) (cs := lineList l) (fun j v hj => by rw [Addr.add_lit]; exact h j v hj)
  rw [lineList_length] at this
  exact this

set_option maxHeartbeats 1000000 in
theorem isNaN_int (a : Int) (w : World) : Calls Tryz.prog 132 #[.int .i64 a] w fun r w' => r = .returned (.bool false) ∧ w = w' := by
  have h : ((a : Int) != a) = false := by simp
  go_enter Tryz.func132, Tryz.ntmps132
  go_wp2
  go_ret
  exact ⟨rfl, rfl⟩

/-- What cmp.Compare answers. -/
def cmpZ (a b : Int) : Int := if a < b then -1 else if b < a then 1 else 0
set_option maxHeartbeats 1000000 in
theorem cmpInt_any (a b : Int) (w : World) : Calls Tryz.prog 103 #[.int .i64 a, .int .i64 b] w fun r w' => r = .returned (.int .i64 (cmpZ a b)) ∧ w = w' := by
  unfold cmpZ
  by_cases h1 : a < b
  · rw [if_pos h1]
    go_enter Tryz.func103, Tryz.ntmps103
    go_wp2_with fail
    refine (isNaN_int a w).mono ?_
    rintro r w' ⟨rfl, rfl⟩
    go_wp2_with fail
    refine (isNaN_int b w).mono ?_
    rintro r w' ⟨rfl, rfl⟩
    go_wp2
    go_ret
    exact ⟨rfl, rfl⟩
  · rw [if_neg h1]
    by_cases h2 : b < a
    · rw [if_pos h2]
      go_enter Tryz.func103, Tryz.ntmps103
      go_wp2_with fail
      refine (isNaN_int a w).mono ?_
      rintro r w' ⟨rfl, rfl⟩
      go_wp2_with fail
      refine (isNaN_int b w).mono ?_
      rintro r w' ⟨rfl, rfl⟩
      go_wp2
      go_ret
      exact ⟨rfl, rfl⟩
    · rw [if_neg h2]
      go_enter Tryz.func103, Tryz.ntmps103
      go_wp2_with fail
      refine (isNaN_int a w).mono ?_
      rintro r w' ⟨rfl, rfl⟩
      go_wp2_with fail
      refine (isNaN_int b w).mono ?_
      rintro r w' ⟨rfl, rfl⟩
      go_wp2
      go_ret
      exact ⟨rfl, rfl⟩

set_option maxHeartbeats 1000000 in
theorem cmpLine_any (g : GLine) (n : Int) (w : World) : Calls Tryz.prog 102 #[.agg (lineCells g), .int .i64 n] w fun r w' => r = .returned (.int .i64 (cmpZ g.number n)) ∧ w.alloc (.cells (lineCells g) 34) = w' := by
  have hc : (w.alloc (.cells (lineCells g) 34)).cell? ⟨w.heap.size, 0, none⟩ = some (.int .i64 g.number) := (cells_new w _ _ 0).trans (lc0 g)
  go_enter Tryz.func102, Tryz.ntmps102
  go_wp2_with fail
  refine (cmpInt_any g.number n _).mono ?_
  rintro r w' ⟨rfl, rfl⟩
  go_wp2
  go_ret
  exact ⟨rfl, rfl⟩

/-- The numbers of lines; whether one of them has a number. -/
def nums (ms : List ML) : List Int := ms.map (·.p.number)
def hasNum (ms : List ML) (n : Int) : Bool := (nums ms).contains n
theorem nums_length (ms : List ML) : (nums ms).length = ms.length := by simp [nums]

/-- What a binary search keeps: below i all are smaller, from j on none is. -/
def Between (ns : List Int) (n : Int) (i j : Nat) : Prop := i ≤ j ∧ j ≤ ns.length ∧ (∀ k (h : k < ns.length), k < i → ns[k] < n) ∧ (∀ k (h : k < ns.length), j ≤ k → n ≤ ns[k])

theorem between_up {ns : List Int} {n : Int} {i j k : Nat} (hs : ns.Pairwise (· < ·)) (h : Between ns n i j) (hk : k < ns.length) (hik : i ≤ k) (hkj : k < j) (hc : ns[k] < n) : Between ns n (k + 1) j := by
  obtain ⟨h1, h2, h3, h4⟩ := h
  refine ⟨by omega, h2, fun m hm hmk => ?_, h4⟩
  by_cases e : m = k
  · subst e; exact hc
  · exact Int.lt_trans (List.pairwise_iff_getElem.1 hs m k hm hk (by omega)) hc
theorem between_down {ns : List Int} {n : Int} {i j k : Nat} (hs : ns.Pairwise (· < ·)) (h : Between ns n i j) (hk : k < ns.length) (hik : i ≤ k) (hkj : k < j) (hc : ¬ ns[k] < n) : Between ns n i k := by
  obtain ⟨h1, h2, h3, h4⟩ := h
  refine ⟨hik, by omega, h3, fun m hm hmk => ?_⟩
  by_cases e : m = k
  · subst e; omega
  · have := List.pairwise_iff_getElem.1 hs k m hk hm (by omega)
    omega
theorem cmpZ_zero {a b : Int} : (cmpZ a b == 0) = decide (a = b) := by
  unfold cmpZ
  split
  · have : a ≠ b := by omega
    simp [this]
  · split
    · have : a ≠ b := by omega
      simp [this]
    · have : a = b := by omega
      simp [this]
theorem between_has {ns : List Int} {n : Int} {i : Nat} (hs : ns.Pairwise (· < ·)) (h : Between ns n i i) : ns.contains n = if h : i < ns.length then (cmpZ ns[i] n == 0) else false := by
  obtain ⟨h1, h2, h3, h4⟩ := h
  rw [Bool.eq_iff_iff, List.contains_iff_mem]
  constructor
  · intro hm
    obtain ⟨k, hk, rfl⟩ := List.mem_iff_getElem.1 hm
    have hki : ¬ k < i := fun hx => by have := h3 k hk hx; omega
    have hi : i < ns.length := by omega
    rw [dif_pos hi, cmpZ_zero]
    have h5 := h4 i hi (Nat.le_refl _)
    by_cases e : k = i
    · subst e; simp
    · have := List.pairwise_iff_getElem.1 hs i k hi hk (by omega)
      omega
  · intro hx
    split at hx
    · rename_i hi
      rw [cmpZ_zero, decide_eq_true_eq] at hx
      rw [← hx]
      exact List.getElem_mem hi
    · cases hx

set_option maxRecDepth 100000 in
set_option maxHeartbeats 2000000 in
theorem bsearch_any (B : Nat) (v : Value) (ms : List ML) (n : Int) (w : World) (h : LinesAt B w v ms) (hn : ms.length ≤ 65536) (hs : (nums ms).Pairwise (· < ·)) :
    Calls Tryz.prog 101 #[v, .int .i64 n, .func (.func 102) #[] #[]] w fun r w' => ∃ i : Nat, Between (nums ms) n i i ∧ r = .returned (.tuple #[.int .i64 i, .bool (hasNum ms n)]) ∧ Below w.heap.size w w' := by
  rcases h.head with ⟨rfl, rfl⟩ | ⟨g, cap, rfl, hBg, hgl, hle, hmx, hcell⟩
  · go_enter Tryz.func101, Tryz.ntmps101
    go_wp2
    go_loop [9, 10] (fun a b => a = .int .i64 0 ∧ b = .int .i64 0) (fun _ _ => 0)
    case atStart => exact ⟨rfl, rfl⟩
    case round =>
      obtain ⟨rfl, rfl⟩ := hrel
      go_wp2
      go_ret2
      exact ⟨0, ⟨Nat.le_refl _, Nat.zero_le _, fun k h => absurd h (by simp [nums]), fun k h => absurd h (by simp [nums])⟩, rfl, Below.refl _ _⟩
  · have HC := Lib.hid hcell
    have HS := Lib.hid hs
    clear hcell hs h
    go_enter Tryz.func101, Tryz.ntmps101
    go_wp2
    go_loopw [9, 10, 11] (fun a b _ wr => ∃ i j : Nat, a = .int .i64 i ∧ b = .int .i64 j ∧ Hid (Between (nums ms) n i j) ∧ Below w.heap.size w wr) (fun a b _ _ => (intOf b).toNat - (intOf a).toNat)
    case atStart => exact ⟨0, ms.length, rfl, rfl, Lib.hid ⟨Nat.zero_le _, by rw [nums_length]; exact Nat.le_refl _, fun k h h' => absurd h' (Nat.not_lt_zero _), fun k h h' => absurd h (by rw [nums_length]; omega)⟩, Below.refl _ _⟩
    case round =>
      obtain ⟨i, j, rfl, rfl, HB, hb⟩ := hrel
      obtain ⟨hij, hj, _, _⟩ := HB.out
      rw [nums_length] at hj
      by_cases hlt : i < j
      · have hltz : (i : Int) < (j : Int) := by omega
        have hm : (i + j) / 2 < ms.length := by omega
        obtain ⟨o1, d1⟩ := lineAt_rd (w := wr) (g := g) (off := (i + j) / 2 * 38) (l := ms[(i + j) / 2].g) (fun k u hk => (hb.cell (p := ⟨g, (i + j) / 2 * 38 + k, none⟩) hgl).trans (HC.out _ hm k u hk))
        have hcall := cmpLine_any ms[(i + j) / 2].g n wr
        have hnum : ms[(i + j) / 2].g.number = (nums ms)[(i + j) / 2]'(by rw [nums_length]; exact hm) := by simp [ML.g, nums]
        have hb' : Below w.heap.size w (wr.alloc (.cells (lineCells ms[(i + j) / 2].g) 34)) := hb.alloc hb.size _
        have HBB := Lib.hid hb'
        clear hb hb'
        rw [hnum] at hcall
        clear hnum
        generalize ms[(i + j) / 2].g = l at hcall o1 d1 HBB
        have HX := Lib.hid hcall
        clear hcall
        by_cases hc : (nums ms)[(i + j) / 2]'(by rw [nums_length]; exact hm) < n
        · have HX2 : Hid (Between (nums ms) n ((i + j) / 2 + 1) j) := Lib.hid (between_up HS.out HB.out (by rw [nums_length]; exact hm) (by omega) (by omega) hc)
          have hcz : cmpZ ((nums ms)[(i + j) / 2]'(by rw [nums_length]; exact hm)) n = -1 := by unfold cmpZ; rw [if_pos hc]
          rw [hcz] at HX
          clear hcz hc
          go_wp2_with fail
          refine HX.out.mono ?_
          rintro r w' ⟨rfl, rfl⟩
          go_wp2
          go_roundw
          case rel => exact ⟨(i + j) / 2 + 1, j, by have : (((i + j) / 2 + 1 : Nat) : Int) = ((i : Int) + j) / 2 + 1 := (by omega); rw [this], rfl, HX2, HBB.out⟩
          case measure => simp [intOf]; omega
        · have HX2 : Hid (Between (nums ms) n i ((i + j) / 2)) := Lib.hid (between_down HS.out HB.out (by rw [nums_length]; exact hm) (by omega) (by omega) hc)
          obtain ⟨z, hz, hz0⟩ : ∃ z, z = cmpZ ((nums ms)[(i + j) / 2]'(by rw [nums_length]; exact hm)) n ∧ 0 ≤ z := ⟨_, rfl, by unfold cmpZ; rw [if_neg hc]; split <;> omega⟩
          rw [← hz] at HX
          clear hz hc
          go_wp2_with fail
          refine HX.out.mono ?_
          rintro r w' ⟨rfl, rfl⟩
          have hz0' : ¬ z < 0 := by omega
          go_wp2
          go_roundw
          case rel => exact ⟨i, (i + j) / 2, rfl, by have : (((i + j) / 2 : Nat) : Int) = ((i : Int) + j) / 2 := (by omega); rw [this], HX2, HBB.out⟩
          case measure => simp [intOf]; omega
      · obtain rfl : j = i := by omega
        have hdec : Hid (hasNum ms n = _) := Lib.hid (between_has HS.out HB.out)
        by_cases hin : j < ms.length
        · have hinz : (j : Int) < (ms.length : Int) := by omega
          obtain ⟨o1, d1⟩ := lineAt_rd (w := wr) (g := g) (off := j * 38) (l := ms[j].g) (fun k u hk => (hb.cell (p := ⟨g, j * 38 + k, none⟩) hgl).trans (HC.out _ hin k u hk))
          have hcall := cmpLine_any ms[j].g n wr
          have hnum : ms[j].g.number = (nums ms)[j]'(by rw [nums_length]; exact hin) := by simp [ML.g, nums]
          have hb' : Below w.heap.size w (wr.alloc (.cells (lineCells ms[j].g) 34)) := hb.alloc hb.size _
          have HBB := Lib.hid hb'
          have hres : hasNum ms n = (cmpZ ((nums ms)[j]'(by rw [nums_length]; exact hin)) n == 0) := by
            rw [hdec.out, dif_pos (by rw [nums_length]; exact hin)]
          clear hb hb' hdec
          rw [hnum] at hcall
          clear hnum
          have HR := Lib.hid hres
          clear hres
          generalize ms[j].g = l at hcall o1 d1 HBB
          generalize cmpZ ((nums ms)[j]'(by rw [nums_length]; exact hin)) n = z at hcall HR
          have HX := Lib.hid hcall
          clear hcall
          go_wp2_with fail
          refine HX.out.mono ?_
          rintro r w' ⟨rfl, rfl⟩
          go_wp2
          go_ret2
          exact ⟨j, HB.out, by rw [HR.out]; first | rfl | simp, HBB.out⟩
        · have hinz : decide ((j : Int) < (ms.length : Int)) = false := by simp; omega
          have HR : Hid (hasNum ms n = false) := Lib.hid (by rw [hdec.out, dif_neg (by rw [nums_length]; exact hin)])
          clear hdec
          go_wp2
          go_ret2
          exact ⟨j, HB.out, by rw [HR.out]; first | rfl | simp, hb⟩


set_option maxHeartbeats 1000000 in
theorem search_any (B : Nat) (v : Value) (ms : List ML) (n : Int) (w : World) (h : LinesAt B w v ms) (hn : ms.length ≤ 65536) (hs : (nums ms).Pairwise (· < ·)) :
    Calls Tryz.prog 69 #[v, .int .i64 n] w fun r w' => ∃ i : Nat, Between (nums ms) n i i ∧ r = .returned (.tuple #[.int .i64 i, .bool (hasNum ms n)]) ∧ Below w.heap.size w w' := by
  have HX := Lib.hid (bsearch_any B v ms n w h hn hs)
  clear h hs
  go_enter Tryz.func69, Tryz.ntmps69
  go_wp2_with fail
  refine HX.out.mono ?_
  rintro r w' ⟨i, hi, rfl, hb⟩
  have HI := Lib.hid hi
  clear hi HX
  go_wp2
  go_ret2
  exact ⟨i, HI.out, rfl, hb⟩

end Go.Proofs.YtdjaphcelpchaaaGreatDoor

namespace Go.Proofs.YtdjaphcelpchaaaGreatDoor
open Go Go.RowKit Go.Proofs

/-- An entry of a map: key, value, birth. -/
structure KE (K : Type) where
  k : K
  v : Value
  b : Nat
def enE {K : Type} (ek : K → Value) (e : KE K) : MapEntry := { key := ek e.k, val := e.v, born := e.b }
def findK {K : Type} [DecidableEq K] (k : K) : List (KE K) → Nat → Option (Nat × Value)
  | [], _ => none
  | e :: es, i => if k = e.k then some (i, e.v) else findK k es (i + 1)

/-- A map's object. -/
def MapAt {K : Type} (ek : K → Value) (w : World) (M : Nat) (l : List (KE K)) (c : Nat) : Prop := w.heap[M]? = some (.map (l.map (enE ek)).toArray c)
theorem MapAt.lt {K : Type} {ek : K → Value} {w : World} {M : Nat} {l : List (KE K)} {c : Nat} (h : MapAt ek w M l c) : M < w.heap.size := (Array.getElem?_eq_some_iff.1 h).1

/-- What is asked of a key type. -/
structure KeyOk {K : Type} [DecidableEq K] (kt : TypeId) (ek : K → Value) : Prop where
  check : ∀ (e : Bool) (k : K) (w : World), (Instr.checkKey e 10000 kt (ek k)).run Tryz.prog w = .ok () w
  find : ∀ (k : K) (l : List (KE K)) (w : World), (Instr.findKey kt (ek k) (l.map (enE ek))).run Tryz.prog w = .ok (findK k l 0) w
  bits : ∀ k : K, Instr.sameBits 10000 (ek k) (ek k) = true

abbrev ekS (s : ByteArray) : Value := .string s
abbrev ekI (x : Id32) : Value := .agg (encId x).toArray

theorem findNow_str (k : ByteArray) : ∀ (l : List (KE ByteArray)) (i : Nat), Instr.findNow .string (.string k) (l.map (enE ekS)) i = some (findK k l i)
  | [], i => rfl
  | e :: l, i => by
    rw [List.map_cons]
    unfold Instr.findNow findK
    simp only [enE, Instr.sameNow]
    by_cases h : k = e.k
    · rw [(MapKept.bytes_beq k e.k).2 h, if_pos h]
    · have hf : (k == e.k) = false := by
        cases hx : (k == e.k) with
        | false => rfl
        | true => exact absurd ((MapKept.bytes_beq k e.k).1 hx) h
      rw [hf, if_neg h]
      exact findNow_str k l (i + 1)

theorem keyS : KeyOk 9 ekS where
  check e k w := MapKept.run_checkKey (k := .string k) Tryz.underlying9 (by simp [MapKept.IsKey]) e 9999
  find k l w := by
    unfold Instr.findKey
    rw [Sem.run_bind, run_underlying Tryz.underlying9]
    simp only [Result.andThen_ok, findNow_str]
    rfl
  bits k := by
    unfold Instr.sameBits
    exact (MapKept.bytes_beq k k).2 rfl

theorem eq_id (x y : Id32) (w : World) : (Op.equal 23 (ekI x) (ekI y)).run Tryz.prog w = .ok (decide (x = y)) w := eqIn_id x y w
theorem findAsking_id (k : Id32) (w : World) : ∀ (l : List (KE Id32)) (i : Nat), (Instr.findAsking 23 (ekI k) (l.map (enE ekI)) i).run Tryz.prog w = .ok (findK k l i) w
  | [], i => rfl
  | e :: l, i => by
    rw [List.map_cons]
    unfold Instr.findAsking findK
    rw [Sem.run_bind]
    have : (enE ekI e).key = ekI e.k := rfl
    rw [this, eq_id]
    simp only [Result.andThen_ok]
    by_cases h : k = e.k
    · rw [decide_eq_true h, if_pos h]; rfl
    · rw [decide_eq_false h, if_neg h]
      exact findAsking_id k w l (i + 1)
theorem check_byte (e : Bool) (v : Value) (w : World) : (Instr.checkKey e 9999 5 v).run Tryz.prog w = .ok () w := by
  unfold Instr.checkKey
  rw [Sem.run_bind, run_underlying Tryz.underlying5]
  rfl
theorem same_zip : ∀ (l : List UInt8), ((l.map fun b => Value.int .u8 b.toNat).zip (l.map fun b => Value.int .u8 b.toNat)).all (fun (x, y) => Instr.sameBits 9999 x y) = true
  | [] => rfl
  | b :: l => by
    simp only [List.map_cons, List.zip_cons_cons, List.all_cons, same_zip l, Bool.and_true]
    unfold Instr.sameBits
    simp
theorem keyI : KeyOk 23 ekI where
  check e k w := by
    unfold Instr.checkKey
    rw [Sem.run_bind, run_underlying Tryz.underlying23]
    simp only [Result.andThen_ok]
    simp only [Std.Legacy.Range.forIn_eq_forIn_range', Std.Legacy.Range.size, Nat.sub_zero, Nat.add_one_sub_one, Nat.div_one]
    have each : ∀ j ∈ List.range' 0 32, j < 32 := fun j hj => by
      have := List.mem_range'_1.1 hj
      omega
    generalize List.range' 0 32 = is at each ⊢
    induction is with
    | nil => rfl
    | cons j is ih =>
      have hj := each j (by simp)
      have hp : (part 5 (encId k).toArray j).run Tryz.prog w = .ok (.int .u8 (k.1[j]'(by rw [k.2]; exact hj)).toNat) w := by
        unfold part
        rw [Sem.run_bind, Tryz.isAgg5]
        simp only [Result.andThen_ok]
        rw [List.getElem?_toArray, encId_get k j hj]
        rfl
      have hs := Tryz.sizeOf5 w
      simp only [List.forIn_cons, Sem.run_bind, hs, Nat.mul_one, hp, check_byte, Result.andThen_ok, Sem.run_pure]
      have := ih (fun y hy => each y (by simp [hy]))
      simp only [Sem.run_bind] at this
      exact this
  find k l w := by
    unfold Instr.findKey
    rw [Sem.run_bind, run_underlying Tryz.underlying23]
    simp only [Result.andThen_ok]
    cases l with
    | nil => rfl
    | cons e l =>
      have : Instr.findNow (.array 32 5) (ekI k) ((e :: l).map (enE ekI)) 0 = none := rfl
      rw [this]
      exact findAsking_id k w (e :: l) 0
  bits k := by
    unfold Instr.sameBits
    simp only [beq_self_eq_true, Bool.true_and]
    exact same_zip k.1


section
variable {K : Type} [DecidableEq K] {ek : K → Value} {kt : TypeId} {mt et : TypeId}

omit [DecidableEq K] in
theorem getObj_map {w : World} {M : Nat} {l : List (KE K)} {c : Nat} (h : MapAt ek w M l c) : (getObj M).run Tryz.prog w = .ok (.map (l.map (enE ek)).toArray c) w := MapKept.run_getObj_map h

/-- m[k] and 'v, ok := m[k]'. -/
theorem look_any (hk : KeyOk kt ek) (hm : Tryz.prog.underlying mt = some (.map kt et)) (z : Value) (hz : ∀ w, (zeroValue et).run Tryz.prog w = .ok z w) (w : World) (M : Nat) (l : List (KE K)) (c : Nat) (h : MapAt ek w M l c) (k : K) :
    (Instr.lookup mt (.map (some M)) (ek k) false).run Tryz.prog w = .ok (((findK k l 0).map (·.2)).getD z) w := by
  unfold Instr.lookup
  rw [Sem.run_bind, run_underlying hm]
  simp only [Result.andThen_ok, Sem.run_bind, getObj_map h, hk.check, hk.find, Sem.run_pure]
  cases findK k l 0 with
  | none => simp only [Sem.run_bind, hz, Result.andThen_ok, Sem.run_pure]; rfl
  | some x => rfl
theorem look_ok (hk : KeyOk kt ek) (hm : Tryz.prog.underlying mt = some (.map kt et)) (z : Value) (hz : ∀ w, (zeroValue et).run Tryz.prog w = .ok z w) (w : World) (M : Nat) (l : List (KE K)) (c : Nat) (h : MapAt ek w M l c) (k : K) :
    (Instr.lookup mt (.map (some M)) (ek k) true).run Tryz.prog w = .ok (.tuple #[((findK k l 0).map (·.2)).getD z, .bool (findK k l 0).isSome]) w := by
  unfold Instr.lookup
  rw [Sem.run_bind, run_underlying hm]
  simp only [Result.andThen_ok, Sem.run_bind, getObj_map h, hk.check, hk.find, Sem.run_pure]
  cases findK k l 0 with
  | none => simp only [Sem.run_bind, hz, Result.andThen_ok, Sem.run_pure]; rfl
  | some x => rfl

/-- m[k] = v where k is new. -/
theorem put_new (hk : KeyOk kt ek) (hm : Tryz.prog.underlying mt = some (.map kt et)) (w : World) (M : Nat) (l : List (KE K)) (c : Nat) (h : MapAt ek w M l c) (k : K) (v : Value) (hn : findK k l 0 = none) :
    (Instr.mapUpdate mt (.map (some M)) (ek k) v).run Tryz.prog w = .ok () (w.putObj M (.map ((l ++ [(⟨k, v, c⟩ : KE K)]).map (enE ek)).toArray (c + 1))) := by
  unfold Instr.mapUpdate
  rw [Sem.run_bind, run_underlying hm]
  simp only [Result.andThen_ok, Sem.run_bind, getObj_map h, hk.check, hk.find, hn]
  rw [MapKept.run_setObj_map _ h]
  simp [World.putObj, enE]

end

theorem MapAt.put {K : Type} {ek : K → Value} {w : World} {M : Nat} {l l' : List (KE K)} {c c' : Nat} (h : MapAt ek w M l c) : MapAt ek (w.putObj M (.map (l'.map (enE ek)).toArray c')) M l' c' := World.putObj_heap_same h.lt

end Go.Proofs.YtdjaphcelpchaaaGreatDoor

namespace Go.Proofs.YtdjaphcelpchaaaGreatDoor
open Go Go.RowKit Go.Proofs

attribute [local go_sem ↓] ex_load_id ex_store_id ex_load_line ex_store_line ex_alloc_line ex_build_line

attribute [local go_sem] ld_id st_id ld_line st_line guard_id okCells_drew rdCells_drew okCells_drewN rdCells_drewN rowOk_drew rowOk_cells okCells_cells rdCells_cells setRow_drew setRow_new setRow_past

/-- A group in memory. -/
structure MG where
  name : ByteArray
  born : Nat
  gb : Nat
  nb : Nat
  v : Value
  ms : List ML
  nl : List (KE Id32)
  nc : Nat
/-- The error of a line as plain data. -/
def pErr (p : PLine) : Int := lineErr (ML.g ⟨p, .slice none 0 0⟩) p.ids
structure GrpAt (B : Nat) (w : World) (G : MG) : Prop where
  blk : w.heap[G.gb]? = some (.cells #[G.v, .map (some G.nb)] 115 (0, 0))
  lines : LinesAt B w G.v G.ms
  nums : MapAt ekI w G.nb G.nl G.nc
  agree : (G.nl.map fun e => (e.k, e.v)).Perm (G.ms.map fun m => (m.p.id, Value.int .i64 m.p.number))
  ids : (G.ms.map fun m => m.p.id).Nodup
  sorted : (Go.Proofs.YtdjaphcelpchaaaGreatDoor.nums G.ms).Pairwise (· < ·)
  good : ∀ m ∈ G.ms, pErr m.p = 0
  named : nameErr G.name = 0
  some' : G.ms ≠ []
  gbB : B ≤ G.gb
  nbB : B ≤ G.nb

def MG.e (G : MG) : KE ByteArray := ⟨G.name, .pointer (some ⟨G.gb, 0, none⟩), G.born⟩
def MG.foot (G : MG) : List Nat := [G.gb, G.nb] ++ G.v.ownBlock.toList
def total (gs : List MG) : Nat := (gs.map fun G => G.ms.length).sum
def foot (ib M : Nat) (gs : List MG) : List Nat := ib :: M :: gs.flatMap MG.foot

structure IdxAt (B : Nat) (w : World) (ib M : Nat) (gs : List MG) (mc : Nat) : Prop where
  blk : w.heap[ib]? = some (.cells #[.map (some M), .int .i64 (total gs)] 104 (0, 0))
  map : MapAt ekS w M (gs.map MG.e) mc
  names : (gs.map fun G => G.name).Nodup
  grps : ∀ G ∈ gs, GrpAt B w G
  apart : (foot ib M gs).Nodup
  born : (gs.map fun G => G.born).Nodup
  young : ∀ G ∈ gs, G.born < mc
  few : total gs ≤ 65536
  ibB : B ≤ ib
  MB : B ≤ M

/-- The group of a name. -/
def groupOf (gs : List MG) (s : ByteArray) : Option MG := gs.find? fun G => decide (G.name = s)
def valueOf (gs : List MG) (s : ByteArray) : Value := match groupOf gs s with | some G => G.v | none => .slice none 0 0
def linesIn (gs : List MG) (s : ByteArray) : List ML := match groupOf gs s with | some G => G.ms | none => []

theorem groupOf_mem {gs : List MG} {s : ByteArray} {G : MG} (h : groupOf gs s = some G) : G ∈ gs ∧ G.name = s := by
  unfold groupOf at h
  exact ⟨List.mem_of_find?_eq_some h, by simpa using List.find?_some h⟩
theorem find_groups (s : ByteArray) : ∀ (gs : List MG) (i : Nat), (findK s (gs.map MG.e) i).map (·.2) = (groupOf gs s).map fun G => Value.pointer (some ⟨G.gb, 0, none⟩)
  | [], i => rfl
  | G :: gs, i => by
    unfold groupOf
    rw [List.map_cons]
    unfold findK
    by_cases h : s = G.name
    · have : decide (G.name = s) = true := by simp [h]
      rw [List.find?_cons, this]
      simp [MG.e, h]
    · have : decide (G.name = s) = false := by simp [Ne.symm h]
      rw [List.find?_cons, this]
      have hne : ¬ s = G.e.k := h
      simp only [hne, if_false]
      exact find_groups s gs (i + 1)
theorem zero_ptr (w : World) : (zeroValue 112).run Tryz.prog w = .ok (.pointer none) w := by kernel_rfl
theorem zero_int (w : World) : (zeroValue 3).run Tryz.prog w = .ok (.int .i64 0) w := by kernel_rfl

theorem IdxAt.look {B : Nat} {w : World} {ib M mc : Nat} {gs : List MG} (h : IdxAt B w ib M gs mc) (s : ByteArray) :
    (Instr.lookup 102 (.map (some M)) (.string s) false).run Tryz.prog w = .ok (((groupOf gs s).map fun G => Value.pointer (some ⟨G.gb, 0, none⟩)).getD (.pointer none)) w := by
  have := look_any keyS Tryz.underlying102 (.pointer none) zero_ptr w M _ mc h.map s
  rw [find_groups] at this
  exact this
theorem IdxAt.cell0 {B : Nat} {w : World} {ib M mc : Nat} {gs : List MG} (h : IdxAt B w ib M gs mc) : w.cell? ⟨ib, 0, none⟩ = some (.map (some M)) := cell_of_row w ib 0 _ _ _ h.blk
theorem IdxAt.cell1 {B : Nat} {w : World} {ib M mc : Nat} {gs : List MG} (h : IdxAt B w ib M gs mc) : w.cell? ⟨ib, 1, none⟩ = some (.int .i64 (total gs)) := cell_of_row w ib 1 _ _ _ h.blk

/-- The lines of a name, as a slice in memory. -/
theorem IdxAt.lines {B : Nat} {w : World} {ib M mc : Nat} {gs : List MG} (h : IdxAt B w ib M gs mc) (s : ByteArray) : LinesAt B w (valueOf gs s) (linesIn gs s) := by
  unfold valueOf linesIn
  cases hg : groupOf gs s with
  | none => exact ⟨World.ownsRow_nil _ _ _ _, fun m hm => by cases hm⟩
  | some G => exact (h.grps G (groupOf_mem hg).1).lines
theorem length_le_total : ∀ {gs : List MG} {G : MG}, G ∈ gs → G.ms.length ≤ total gs
  | H :: gs, G, hG => by
    unfold total
    rw [List.map_cons, List.sum_cons]
    rcases List.mem_cons.1 hG with rfl | hG
    · omega
    · have := length_le_total hG
      unfold total at this
      omega
theorem IdxAt.len {B : Nat} {w : World} {ib M mc : Nat} {gs : List MG} (h : IdxAt B w ib M gs mc) (s : ByteArray) : (linesIn gs s).length ≤ 65536 := by
  unfold linesIn
  cases hg : groupOf gs s with
  | none => simp
  | some G => exact Nat.le_trans (length_le_total (groupOf_mem hg).1) h.few
theorem IdxAt.sorted {B : Nat} {w : World} {ib M mc : Nat} {gs : List MG} (h : IdxAt B w ib M gs mc) (s : ByteArray) : (nums (linesIn gs s)).Pairwise (· < ·) := by
  unfold linesIn
  cases hg : groupOf gs s with
  | none => exact .nil
  | some G => exact (h.grps G (groupOf_mem hg).1).sorted

set_option maxHeartbeats 1000000 in
theorem linesOf_any (B ib M mc : Nat) (gs : List MG) (s : ByteArray) (w : World) (h : IdxAt B w ib M gs mc) :
    Calls Tryz.prog 68 #[.pointer (some ⟨ib, 0, none⟩), .string s] w fun r w' => r = .returned (valueOf gs s) ∧ w = w' := by
  have hc := h.cell0
  have hl := h.look s
  unfold valueOf
  cases hg : groupOf gs s with
  | none =>
    rw [hg] at hl
    clear h hg
    go_enter Tryz.func68, Tryz.ntmps68
    go_wp2
    go_ret
    exact ⟨rfl, rfl⟩
  | some G =>
    rw [hg] at hl
    have hgc : w.cell? ⟨G.gb, 0, none⟩ = some G.v := cell_of_row w G.gb 0 _ _ _ (h.grps G (groupOf_mem hg).1).blk
    have hv : ∃ a n c, G.v = .slice a n c := by
      rcases (h.grps G (groupOf_mem hg).1).lines.head with ⟨e, _⟩ | ⟨g, cap, e, _⟩
      · exact ⟨_, _, _, e⟩
      · exact ⟨_, _, _, e⟩
    obtain ⟨a, n, c, hv⟩ := hv
    simp only
    rw [hv] at hgc ⊢
    clear h hg hv
    go_enter Tryz.func68, Tryz.ntmps68
    go_wp2
    go_ret
    exact ⟨rfl, rfl⟩

theorem valueOf_slice {B : Nat} {w : World} {ib M mc : Nat} {gs : List MG} (h : IdxAt B w ib M gs mc) (s : ByteArray) : ∃ a c, valueOf gs s = .slice a (linesIn gs s).length c := by
  rcases (h.lines s).head with ⟨e, e2⟩ | ⟨g, cap, e, _⟩
  · exact ⟨none, 0, by rw [e, e2]; rfl⟩
  · exact ⟨_, _, e⟩

set_option maxHeartbeats 1000000 in
theorem len_any (B ib M mc : Nat) (gs : List MG) (s : ByteArray) (w : World) (h : IdxAt B w ib M gs mc) :
    Calls Tryz.prog 48 #[.pointer (some ⟨ib, 0, none⟩), .string s] w fun r w' => r = .returned (.int .i64 (linesIn gs s).length) ∧ w = w' := by
  have HL := Lib.hid (linesOf_any B ib M mc gs s w h)
  obtain ⟨a, c, hv⟩ := valueOf_slice h s
  have hn := h.len s
  rw [hv] at HL
  clear h hv
  generalize (linesIn gs s).length = n at HL hn ⊢
  go_enter Tryz.func48, Tryz.ntmps48
  go_wp2_with fail
  refine HL.out.mono ?_
  rintro r w' ⟨rfl, rfl⟩
  go_wp2
  go_ret
  exact ⟨rfl, rfl⟩

end Go.Proofs.YtdjaphcelpchaaaGreatDoor

namespace Go.Proofs.YtdjaphcelpchaaaGreatDoor
open Go Go.RowKit Go.Proofs

attribute [local go_sem ↓] ex_load_id ex_store_id ex_load_line ex_store_line ex_alloc_line ex_build_line

attribute [local go_sem] ld_id st_id ld_line st_line guard_id okCells_drew rdCells_drew okCells_drewN rdCells_drewN rowOk_drew rowOk_cells okCells_cells rdCells_cells setRow_drew setRow_new setRow_past

theorem LinesAt.keep {B : Nat} {w w' : World} {v : Value} {ms : List ML} (h : LinesAt B w v ms) (hv : ∀ k, v.ownBlock = some k → w'.heap[k]? = w.heap[k]?) (hr : ∀ m ∈ ms, ∀ k, m.v.ownBlock = some k → w'.heap[k]? = w.heap[k]?) : LinesAt B w' v ms where
  row := by
    refine ⟨h.row.1, ?_⟩
    rcases h.row.2 with h0 | ⟨g, cap, cur, e, hg, hcur, hx⟩
    · exact .inl h0
    · exact .inr ⟨g, cap, cur, e, hg, (hv g (by rw [e]; rfl)).trans hcur, hx⟩
  refs m hm := (h.refs m hm).block (hr m hm)
theorem LinesAt.below {B : Nat} {w w' : World} {v : Value} {ms : List ML} (h : LinesAt B w v ms) (hb : Below w.heap.size w w') : LinesAt B w' v ms :=
  h.keep (fun k hk => hb.block k (World.ownsRow.lt h.row k hk).2) (fun m hm k hk => hb.block k ((h.refs m hm).lt hk).2)
theorem GrpAt.keep {B : Nat} {w w' : World} {G : MG} (h : GrpAt B w G) (hf : ∀ k ∈ G.foot, w'.heap[k]? = w.heap[k]?) (hr : ∀ m ∈ G.ms, ∀ k, m.v.ownBlock = some k → w'.heap[k]? = w.heap[k]?) : GrpAt B w' G where
  blk := (hf G.gb (by simp [MG.foot])).trans h.blk
  lines := h.lines.keep (fun k hk => hf k (by simp [MG.foot, hk])) hr
  nums := (hf G.nb (by simp [MG.foot])).trans h.nums
  agree := h.agree
  ids := h.ids
  sorted := h.sorted
  good := h.good
  named := h.named
  some' := h.some'
  gbB := h.gbB
  nbB := h.nbB
theorem IdxAt.keep {B : Nat} {w w' : World} {ib M mc : Nat} {gs : List MG} (h : IdxAt B w ib M gs mc) (hf : ∀ k ∈ foot ib M gs, w'.heap[k]? = w.heap[k]?) (hr : ∀ G ∈ gs, ∀ m ∈ G.ms, ∀ k, m.v.ownBlock = some k → w'.heap[k]? = w.heap[k]?) : IdxAt B w' ib M gs mc where
  blk := (hf ib (by simp [foot])).trans h.blk
  map := (hf M (by simp [foot])).trans h.map
  names := h.names
  grps G hG := (h.grps G hG).keep (fun k hk => hf k (by unfold foot; simp only [List.mem_cons, List.mem_flatMap]; exact .inr (.inr ⟨G, hG, hk⟩))) (hr G hG)
  apart := h.apart
  born := h.born
  young := h.young
  few := h.few
  ibB := h.ibB
  MB := h.MB
theorem GrpAt.foot_lt {B : Nat} {w : World} {G : MG} (h : GrpAt B w G) : ∀ k ∈ G.foot, B ≤ k ∧ k < w.heap.size := by
  intro k hk
  unfold MG.foot at hk
  simp only [List.mem_append, List.mem_cons, List.mem_nil_iff, or_false, Option.mem_toList] at hk
  rcases hk with (rfl | rfl) | hk
  · exact ⟨h.gbB, (Array.getElem?_eq_some_iff.1 h.blk).1⟩
  · exact ⟨h.nbB, h.nums.lt⟩
  · exact World.ownsRow.lt h.lines.row k hk
theorem IdxAt.foot_lt {B : Nat} {w : World} {ib M mc : Nat} {gs : List MG} (h : IdxAt B w ib M gs mc) : ∀ k ∈ foot ib M gs, B ≤ k ∧ k < w.heap.size := by
  intro k hk
  unfold foot at hk
  simp only [List.mem_cons, List.mem_flatMap] at hk
  rcases hk with rfl | rfl | ⟨G, hG, hk⟩
  · exact ⟨h.ibB, (Array.getElem?_eq_some_iff.1 h.blk).1⟩
  · exact ⟨h.MB, h.map.lt⟩
  · exact (h.grps G hG).foot_lt k hk
theorem IdxAt.below {B : Nat} {w w' : World} {ib M mc : Nat} {gs : List MG} (h : IdxAt B w ib M gs mc) (hb : Below w.heap.size w w') : IdxAt B w' ib M gs mc :=
  h.keep (fun k hk => hb.block k (h.foot_lt k hk).2) (fun G hG m hm k hk => hb.block k (((h.grps G hG).lines.refs m hm).lt hk).2)

theorem between_at {ns : List Int} {n : Int} {i j : Nat} (hs : ns.Pairwise (· < ·)) (h : Between ns n j j) (hi : ns[i]? = some n) : j = i := by
  obtain ⟨_, h2, h3, h4⟩ := h
  obtain ⟨hlt, hget⟩ := List.getElem?_eq_some_iff.1 hi
  rcases Nat.lt_trichotomy j i with hji | hji | hji
  · have h5 := h4 j (by omega) (Nat.le_refl _)
    have h6 := List.pairwise_iff_getElem.1 hs j i (by omega) hlt hji
    omega
  · exact hji
  · have := h3 i hlt hji
    omega
theorem nums_get {ms : List ML} {i : Nat} {m : ML} (h : ms[i]? = some m) : (nums ms)[i]? = some m.p.number := by
  unfold nums
  rw [List.getElem?_map, h]; rfl
theorem hasNum_of {ms : List ML} {i : Nat} {m : ML} {n : Int} (h : ms[i]? = some m) (hn : m.p.number = n) : hasNum ms n = true := by
  unfold hasNum
  rw [List.contains_iff_mem]
  exact List.mem_of_getElem? (hn ▸ nums_get h)
theorem refs_len {p : PLine} (h : pErr p = 0) : p.ids.length ≤ 20 := by
  have := (lineErr_zero h)
  obtain ⟨f1, f2, f3, f4, f5, f6⟩ := this
  exact f5

set_option maxRecDepth 100000 in
set_option maxHeartbeats 1000000 in
theorem get_yes (B ib M mc : Nat) (gs : List MG) (s : ByteArray) (n : Int) (i : Nat) (m : ML) (w : World) (h : IdxAt B w ib M gs mc) (hi : (linesIn gs s)[i]? = some m) (hn : m.p.number = n) (hg : pErr m.p = 0) :
    Calls Tryz.prog 37 #[.pointer (some ⟨ib, 0, none⟩), .string s, .int .i64 n] w fun r w' => ∃ v, r = .returned (.tuple #[.agg (lineCells { m.g with refs := v }), .bool true]) ∧ IdsOwn w.heap.size w' v m.p.ids ∧ Below w.heap.size w w' := by
  have hb0 : Below w.heap.size w (w.alloc (.cells (lineCells zeroLine) 34)) := (Below.refl _ _).alloc (Nat.le_refl _) _
  have hx0 := h.below hb0
  have hrl := refs_len hg
  have HL := Lib.hid (linesOf_any B ib M mc gs s _ hx0)
  have hso := hx0.sorted s
  have HS := Lib.hid (search_any B (valueOf gs s) (linesIn gs s) n _ (hx0.lines s) (hx0.len s) hso)
  rw [hasNum_of hi hn] at HS
  have HAT := Lib.hid (fun j (hj : Between (nums (linesIn gs s)) n j j) => between_at hso hj (hn ▸ nums_get hi))
  have HZ : Hid (LineVar (w.alloc (.cells (lineCells zeroLine) 34)) w.heap.size zeroLine) := Lib.hid (heap_alloc_new _ _)
  have HB := Lib.hid hb0
  have hln := hx0.len s
  obtain ⟨hil, hget⟩ := List.getElem?_eq_some_iff.1 hi
  rcases (hx0.lines s).head with ⟨_, e⟩ | ⟨g, cap, hv, hBg, hgl, hle, hmx, hcell⟩
  · rw [e] at hil; cases hil
  have hcell' := hcell i hil
  rw [hget] at hcell'
  have HC := Lib.hid hcell'
  have HI := Lib.hid ((hx0.lines s).refs m (List.mem_of_getElem? hi))
  rw [hv] at HL HS
  have hilz : (i : Int) < ((linesIn gs s).length : Int) := by omega
  clear hb0 hx0 h hcell hcell' hi hget hso hv
  generalize (linesIn gs s).length = len at HL HS hilz hln hle hil
  have hft : fitsRow 38 (lineCells zeroLine) = true := fits_line rfl
  have hzs : ((lineCells zeroLine).size == 38) = true := by rw [lineCells_size]; rfl
  go_enter Tryz.func37, Tryz.ntmps37
  go_wp2_with fail
  refine HL.out.mono ?_
  rintro r w' ⟨rfl, rfl⟩
  go_wp2_with fail
  refine HS.out.mono ?_
  rintro r w1 ⟨j, hj, rfl, hb1⟩
  obtain rfl := HAT.out j hj
  have hZ1 : LineVar w1 w.heap.size zeroLine := HZ.out.below hb1 HZ.out.lt
  obtain ⟨o1, d1⟩ := lineAt_rd (w := w1) (g := g) (off := j * 38) (l := m.g) (fun k u hk => (hb1.cell (p := ⟨g, j * 38 + k, none⟩) hgl).trans (HC.out k u hk))
  have HX := Lib.hid (clone_any B m.g m.p.ids w1 (HI.out.below hb1) (by omega))
  have HZ1 := Lib.hid hZ1
  have HB1 := Lib.hid (HB.out.trans (hb1.mono HB.out.size))
  have hs1 : w.heap.size < w1.heap.size := hZ1.lt
  clear hZ1 hb1 HZ HB HS HL HAT hj HC HI
  go_wp2_with fail
  refine HX.out.mono ?_
  rintro r w2 ⟨v, rfl, hI2, hb2⟩
  have hone := hI2.one
  have hZ2 : LineVar w2 w.heap.size zeroLine := HZ1.out.below hb2 hs1
  have hro := hZ2.row
  have hft2 := fits_line (g := { m.g with refs := v }) hone
  have HI2 := Lib.hid hI2
  have HZ2 := Lib.hid hZ2
  have HB2 := Lib.hid (HB1.out.trans (hb2.mono HB1.out.size))
  clear hZ2 hI2 hb2 HX HZ1 HB1
  go_wp2
  refine bodyPost_ret (v := .tuple #[.agg (lineCells { m.g with refs := v }), .bool true]) ?_ rfl ⟨v, rfl, ?_, below_grown HB2.out (grown_row _ _ _) HB2.out.size (Nat.le_refl _)⟩
  · exact results_agg2 rfl Tryz.isAgg34 Tryz.sizeOf34 _ _ ⟨w.heap.size, 0, none⟩ _ _ rfl rfl (HZ2.out.blk.setRow.rd.1) (HZ2.out.blk.setRow.rd.2)
  · refine (HI2.out.mono (by omega)).block fun k hk => (grown_row _ w.heap.size _).block k (HI2.out.lt hk).2 ?_
    intro e
    have := (HI2.out.lt hk).1
    cases e
    omega

theorem findK_none {K : Type} [DecidableEq K] {k : K} : ∀ {l : List (KE K)} {i : Nat}, (∀ e ∈ l, e.k ≠ k) → findK k l i = none
  | [], _, _ => rfl
  | e :: l, i, h => by
    unfold findK
    rw [if_neg (fun e' => h e (by simp) e'.symm)]
    exact findK_none (fun e he => h e (by simp [he]))
theorem findK_some {K : Type} [DecidableEq K] {e : KE K} : ∀ {l : List (KE K)} {i : Nat}, e ∈ l → (l.map fun e => e.k).Nodup → ∃ j, findK e.k l i = some (i + j, e.v) ∧ l[j]? = some e
  | d :: l, i, he, hn => by
    unfold findK
    by_cases h : e.k = d.k
    · have hed : e = d := by
        rcases List.mem_cons.1 he with h1 | h1
        · exact h1
        · exfalso
          rw [List.map_cons, List.nodup_cons] at hn
          exact hn.1 (by rw [← h]; exact List.mem_map.2 ⟨e, h1, rfl⟩)
      subst hed
      exact ⟨0, by rw [if_pos rfl]; rfl, rfl⟩
    · rw [if_neg h]
      have he' : e ∈ l := by
        rcases List.mem_cons.1 he with h1 | h1
        · exact absurd (by rw [h1]) h
        · exact h1
      rw [List.map_cons, List.nodup_cons] at hn
      obtain ⟨j, h1, h2⟩ := findK_some (i := i + 1) he' hn.2
      exact ⟨j + 1, by rw [h1]; congr 2; omega, h2⟩
theorem GrpAt.keys {B : Nat} {w : World} {G : MG} (h : GrpAt B w G) : (G.nl.map fun e => e.k).Nodup := by
  have h1 := h.agree.map Prod.fst
  rw [List.map_map, List.map_map] at h1
  exact h1.nodup_iff.2 h.ids
theorem GrpAt.find_no {B : Nat} {w : World} {G : MG} (h : GrpAt B w G) {x : Id32} (hno : ∀ m ∈ G.ms, m.p.id ≠ x) : findK x G.nl 0 = none := findK_none fun e he hx => by
  have : (e.k, e.v) ∈ G.ms.map fun m => (m.p.id, Value.int .i64 m.p.number) := h.agree.subset (List.mem_map.2 ⟨e, he, rfl⟩)
  obtain ⟨m, hm, e2⟩ := List.mem_map.1 this
  exact hno m hm ((Prod.mk.inj e2).1.trans hx)
theorem GrpAt.find_yes {B : Nat} {w : World} {G : MG} (h : GrpAt B w G) {m : ML} (hm : m ∈ G.ms) : ∃ j, findK m.p.id G.nl 0 = some (j, .int .i64 m.p.number) ∧ ∃ b, G.nl[j]? = some ⟨m.p.id, .int .i64 m.p.number, b⟩ := by
  have : (m.p.id, Value.int .i64 m.p.number) ∈ G.nl.map fun e => (e.k, e.v) := h.agree.symm.subset (List.mem_map.2 ⟨m, hm, rfl⟩)
  obtain ⟨e, he, e2⟩ := List.mem_map.1 this
  obtain ⟨e3, e4⟩ := Prod.mk.inj e2
  obtain ⟨j, h1, h2⟩ := findK_some (i := 0) he h.keys
  refine ⟨j, ?_, e.b, ?_⟩
  · rw [← e3, h1, e4, Nat.zero_add]
  · rw [h2, ← e3, ← e4]

theorem linesIn_ne {gs : List MG} {s : ByteArray} (h : linesIn gs s ≠ []) : ∃ G, groupOf gs s = some G ∧ linesIn gs s = G.ms ∧ valueOf gs s = G.v := by
  unfold linesIn valueOf at *
  cases hg : groupOf gs s with
  | none => rw [hg] at h; exact absurd rfl h
  | some G => exact ⟨G, rfl, rfl, rfl⟩

set_option maxRecDepth 100000 in
set_option maxHeartbeats 1000000 in
theorem find_empty (B ib M mc : Nat) (gs : List MG) (s : ByteArray) (x : Id32) (w : World) (h : IdxAt B w ib M gs mc) (hno : linesIn gs s = []) :
    Calls Tryz.prog 41 #[.pointer (some ⟨ib, 0, none⟩), .string s, .agg (encId x).toArray] w fun r w' => r = .returned (.tuple #[.agg (lineCells zeroLine), .bool false]) ∧ Below w.heap.size w w' := by
  have hb0 : Below w.heap.size w ((w.alloc (.cells (encId x).toArray 23)).alloc (.cells (lineCells zeroLine) 34)) := ((Below.refl _ _).alloc (Nat.le_refl _) _).alloc (by simp) _
  have hx0 := h.below hb0
  have HL := Lib.hid (linesOf_any B ib M mc gs s _ hx0)
  obtain ⟨a, c, hv⟩ := valueOf_slice hx0 s
  rw [hv, hno] at HL
  have HB := Lib.hid hb0
  have hft : fitsRow 38 (lineCells zeroLine) = true := fits_line rfl
  have hzs : ((lineCells zeroLine).size == 38) = true := by rw [lineCells_size]; rfl
  clear hb0 hx0 h hno hv
  go_enter Tryz.func41, Tryz.ntmps41
  go_wp2_with fail
  refine HL.out.mono ?_
  rintro r w' ⟨rfl, rfl⟩
  go_wp2
  refine bodyPost_ret (v := .tuple #[.agg (lineCells zeroLine), .bool false]) ?_ rfl ⟨rfl, HB.out⟩
  exact results_agg2 rfl Tryz.isAgg34 Tryz.sizeOf34 _ _ ⟨w.heap.size + 1, 0, none⟩ _ _ rfl rfl (by simpa using ok_new_line (w.alloc (.cells (encId x).toArray 23)) zeroLine _) (by simpa using rd_new_line (w.alloc (.cells (encId x).toArray 23)) zeroLine 34)

/-- What Find answers. -/
def FindPost (ms : List ML) (x : Id32) (w : World) (r : Ending) (w' : World) : Prop :=
  (((∀ m ∈ ms, m.p.id ≠ x) ∧ r = .returned (.tuple #[.agg (lineCells zeroLine), .bool false])) ∨ (∃ m ∈ ms, m.p.id = x ∧ ∃ v, r = .returned (.tuple #[.agg (lineCells { m.g with refs := v }), .bool true]) ∧ IdsOwn w.heap.size w' v m.p.ids)) ∧ Below w.heap.size w w'

set_option maxRecDepth 100000 in
set_option maxHeartbeats 2000000 in
theorem find_any (B ib M mc : Nat) (gs : List MG) (s : ByteArray) (x : Id32) (w : World) (h : IdxAt B w ib M gs mc) (hne : linesIn gs s ≠ []) :
    Calls Tryz.prog 41 #[.pointer (some ⟨ib, 0, none⟩), .string s, .agg (encId x).toArray] w fun r w' =>
      FindPost (linesIn gs s) x w r w' := by
  obtain ⟨G, hG, hms, hGv⟩ := linesIn_ne hne
  obtain ⟨W, hW⟩ : ∃ W, W = (w.alloc (.cells (encId x).toArray 23)).alloc (.cells (lineCells zeroLine) 34) := ⟨_, rfl⟩
  have hb0 : Below w.heap.size w W := by rw [hW]; exact ((Below.refl _ _).alloc (Nat.le_refl _) _).alloc (by simp) _
  have hs0 : W.heap.size = w.heap.size + 2 := by rw [hW]; simp
  have hx0 := h.below hb0
  have hgr := hx0.grps G (groupOf_mem hG).1
  have HL := Lib.hid (linesOf_any B ib M mc gs s _ hx0)
  obtain ⟨a, c, hv⟩ := valueOf_slice hx0 s
  rw [hv] at HL
  have hlen := hx0.len s
  have hpos : 0 < (linesIn gs s).length := List.length_pos_iff.2 hne
  have hnz : (((linesIn gs s).length : Int) == 0) = false := by rw [beq_eq_false_iff_ne]; omega
  have hid : okCells W ⟨w.heap.size, 0, none⟩ 32 = true ∧ rdCells W ⟨w.heap.size, 0, none⟩ 32 = (encId x).toArray := by
    rw [hW]
    have h1 := ok_new_id w x 23
    have h2 := rd_new_id w x 23
    exact ⟨ok_alloc _ h1, (rd_alloc _ h1).trans h2⟩
  have hZ : LineVar W (w.heap.size + 1) zeroLine := by
    unfold LineVar
    have := heap_alloc_new (w.alloc (.cells (encId x).toArray 23)) (.cells (lineCells zeroLine) 34)
    rw [hW]
    simpa using this
  have q1 : ∀ n, (W.drewN n).cell? ⟨ib, 0, none⟩ = some (.map (some M)) := fun n => by rw [World.cell?_drewN]; exact hx0.cell0
  have q2 : ∀ n, (Instr.lookup 102 (.map (some M)) (.string s) false).run Tryz.prog (W.drewN n) = .ok (.pointer (some ⟨G.gb, 0, none⟩)) (W.drewN n) := fun n => by
    have := (h.below (below_drewN' hb0 n)).look s
    rw [hG] at this
    exact this
  have q3 : ∀ n, (W.drewN n).cell? ⟨G.gb, 1, none⟩ = some (.map (some G.nb)) := fun n => by rw [World.cell?_drewN]; exact cell_of_row W G.gb 1 _ _ _ hgr.blk
  have q4 : ∀ n, (Instr.lookup 113 (.map (some G.nb)) (.agg (encId x).toArray) true).run Tryz.prog (W.drewN n) = .ok (.tuple #[((findK x G.nl 0).map (·.2)).getD (.int .i64 0), .bool (findK x G.nl 0).isSome]) (W.drewN n) := fun n =>
    look_ok keyI Tryz.underlying113 (.int .i64 0) zero_int (W.drewN n) G.nb G.nl G.nc hgr.nums x
  have q5 : ∀ n, okCells (W.drewN n) ⟨w.heap.size, 0, none⟩ 32 = true := fun n => by rw [okCells_drewN]; exact hid.1
  have q6 : ∀ n, rdCells (W.drewN n) ⟨w.heap.size, 0, none⟩ 32 = (encId x).toArray := fun n => by rw [rdCells_drewN]; exact hid.2
  have hft : fitsRow 38 (lineCells zeroLine) = true := fits_line rfl
  have hzs : ((lineCells zeroLine).size == 38) = true := by rw [lineCells_size]; rfl
  have HX := Lib.hid hx0
  have HB := Lib.hid hb0
  have HZ := Lib.hid hZ
  by_cases hin : ∃ m ∈ G.ms, m.p.id = x
  · obtain ⟨m, hm, rfl⟩ := hin
    obtain ⟨j, hj, _⟩ := hgr.find_yes hm
    rw [hj] at q4
    obtain ⟨i, hi, hgi⟩ := List.mem_iff_getElem.1 (hms ▸ hm)
    have hi' : (linesIn gs s)[i]? = some m := by rw [List.getElem?_eq_getElem hi, hgi]
    have hgood := hgr.good m hm
    have hmem : m ∈ linesIn gs s := hms ▸ hm
    have HMem := Lib.hid hmem
    have HI := Lib.hid hi'
    clear hj hx0 hb0 hZ hid hgr h hms hGv hv hi hgi hi' hG hm hmem hne
    generalize (linesIn gs s).length = len at HL hlen hpos hnz
    go_enter Tryz.func41, Tryz.ntmps41
    go_wp2_with fail
    rw [← hW]
    refine HL.out.mono ?_
    rintro r w' ⟨rfl, rfl⟩
    clear hW
    go_wp2_with fail
    go_quiet (fail)
    clear q1 q2 q3 q4 q5 q6
    have hZ1 : LineVar (W.drewN nq) (w.heap.size + 1) zeroLine := HZ.out
    have hB1 : Below w.heap.size w (W.drewN nq) := below_drewN' HB.out nq
    have hs1 : (W.drewN nq).heap.size = w.heap.size + 2 := hs0
    have hX1 : IdxAt B (W.drewN nq) ib M gs mc := HX.out.below (below_drewN' (Below.refl _ _) nq)
    generalize W.drewN nq = W1 at hZ1 hB1 hX1 hs1 ⊢
    have HG := Lib.hid (get_yes B ib M mc gs s m.p.number i m W1 hX1 HI.out rfl hgood)
    have HZ1 := Lib.hid hZ1
    have HB1 := Lib.hid hB1
    clear hZ1 hB1 hX1 HZ HB HX HI
    go_wp2_with fail
    refine HG.out.mono ?_
    rintro r W2 ⟨v, rfl, hI2, hb2⟩
    have hone := hI2.one
    have hZ2 : LineVar W2 (w.heap.size + 1) zeroLine := HZ1.out.below hb2 (by omega)
    have hro := hZ2.row
    have hft2 := fits_line (g := { m.g with refs := v }) hone
    have HI2 := Lib.hid hI2
    have HZ2 := Lib.hid hZ2
    have HB2 := Lib.hid (HB1.out.trans (hb2.mono HB1.out.size))
    clear hZ2 hI2 hb2 HG HZ1 HB1
    go_wp2
    refine bodyPost_ret (v := .tuple #[.agg (lineCells { m.g with refs := v }), .bool true]) ?_ rfl ⟨.inr ⟨m, HMem.out, rfl, v, rfl, ?_⟩, below_grown HB2.out (grown_row _ _ _) HB2.out.size (by omega)⟩
    · exact results_agg2 rfl Tryz.isAgg34 Tryz.sizeOf34 _ _ ⟨w.heap.size + 1, 0, none⟩ _ _ rfl rfl (HZ2.out.blk.setRow.rd.1) (HZ2.out.blk.setRow.rd.2)
    · refine (HI2.out.mono (by omega)).block fun k hk => (grown_row _ (w.heap.size + 1) _).block k (HI2.out.lt hk).2 ?_
      intro e
      have := (HI2.out.lt hk).1
      cases e
      omega
  · have hno : ∀ m ∈ G.ms, m.p.id ≠ x := fun m hm e => hin ⟨m, hm, e⟩
    rw [hgr.find_no hno] at q4
    have HNO := Lib.hid (hms.symm ▸ hno)
    clear hin hno hx0 hb0 hZ hid hgr h hms hGv hv hG hne
    generalize (linesIn gs s).length = len at HL hlen hpos hnz
    go_enter Tryz.func41, Tryz.ntmps41
    go_wp2_with fail
    rw [← hW]
    refine HL.out.mono ?_
    rintro r w' ⟨rfl, rfl⟩
    clear hW
    go_wp2_with fail
    go_quiet (fail)
    clear q1 q2 q3 q4 q5 q6
    have hZ1 : LineVar (W.drewN nq) (w.heap.size + 1) zeroLine := HZ.out
    have hB1 : Below w.heap.size w (W.drewN nq) := below_drewN' HB.out nq
    generalize W.drewN nq = W1 at hZ1 hB1 ⊢
    have hro := hZ1.row
    have HZ1 := Lib.hid hZ1
    have HB1 := Lib.hid hB1
    clear hZ1 hB1 HZ HB HX
    go_wp2
    refine bodyPost_ret (v := .tuple #[.agg (lineCells zeroLine), .bool false]) ?_ rfl ⟨.inl ⟨HNO.out, rfl⟩, below_grown HB1.out (grown_row _ _ _) HB1.out.size (by omega)⟩
    exact results_agg2 rfl Tryz.isAgg34 Tryz.sizeOf34 _ _ ⟨w.heap.size + 1, 0, none⟩ _ _ rfl rfl (HZ1.out.blk.setRow.rd.1) (HZ1.out.blk.setRow.rd.2)

end Go.Proofs.YtdjaphcelpchaaaGreatDoor

namespace Go.Proofs.YtdjaphcelpchaaaGreatDoor
open Go Go.RowKit Go.Proofs

theorem run_copy_line (w : World) (ty : TypeId) (g o dLen dCap : Nat) (a : Addr) (sLen sCap : Nat) (cur : Array Value) (t : TypeId) (cs : List Value)
    (hg : w.heap[g]? = some (.cells cur t (0, 0))) (hn : cs.length = Nat.min sLen dLen * 38)
    (hsrc : ∀ j v, cs[j]? = some v → w.cell? (a.add j) = some v) (hfit : o + cs.length ≤ cur.size) (h1 : ∀ v ∈ cs, v.oneCell' = true) :
    (Builtin.copy_ #[107, 107] ty #[.slice (some ⟨g, o, none⟩) dLen dCap, .slice (some a) sLen sCap]).run Tryz.prog w =
      .ok (goInt (Nat.min sLen dLen)) (w.setRow g (cur.toList.take o ++ cs ++ cur.toList.drop (o + cs.length)).toArray) := by
  have hl := run_loadCells_list (P := Tryz.prog) w a cs hsrc
  have hst := run_storeCells_at Tryz.prog g o t cs 0 cur w hg (by simpa using hfit) h1
  have hz := Tryz.sizeOf34 w
  rw [hn] at hl
  simp [Builtin.copy_, run_underlying Tryz.underlying107, Builtin.lenOf, Builtin.firstCells, hz, hl, hst]

theorem shape_of {w : World} {g t : Nat} {cur : Array Value} {fr : Nat × Nat} (h : w.heap[g]? = some (.cells cur t fr)) : w.shape? g = some (t, cur.size) := by
  unfold World.shape?
  rw [h]

/-- What stands in a row behind the two copies. -/
theorem row_shift (cur : List Value) (i n cap : Nat) (xs vs : List Value) (hc : cur.length = cap * 38) (hx : cur.take (n * 38) = xs) (hi : i < n) (hroom : n + 1 ≤ cap) :
    (((cur.take ((i + 1) * 38) ++ xs.drop (i * 38) ++ cur.drop ((n + 1) * 38)).take (i * 38)) ++ vs ++ (cur.take ((i + 1) * 38) ++ xs.drop (i * 38) ++ cur.drop ((n + 1) * 38)).drop ((i + 1) * 38)) = xs.take (i * 38) ++ vs ++ xs.drop (i * 38) ++ cur.drop ((n + 1) * 38) := by
  have h1 : (cur.take ((i + 1) * 38)).length = (i + 1) * 38 := by rw [List.length_take]; omega
  rw [List.append_assoc (cur.take ((i + 1) * 38)), List.take_append_of_le_length (by rw [h1]; omega), List.take_take, Nat.min_eq_left (by omega), List.drop_append_of_le_length (by rw [h1]; omega), List.drop_eq_nil_of_le (by rw [h1]; omega), List.nil_append]
  have h2 : xs.take (i * 38) = cur.take (i * 38) := by rw [← hx, List.take_take, Nat.min_eq_left (by omega)]
  rw [h2]
  simp [List.append_assoc]

set_option maxRecDepth 100000 in
set_option maxHeartbeats 4000000 in
theorem insert_shift (B : Nat) (g cap n i sb : Nat) (xs : List Value) (l : GLine) (w : World) (hone : refsOne l) (hxs : ∀ u ∈ xs, u.oneCell' = true) (hown : w.ownsRow B 34 38 (.slice (some ⟨g, 0, none⟩) n cap) n xs) (hn : n ≤ 65536) (hi : i < n) (hroom : n + 1 ≤ cap)
    (hsb : w.heap[sb]? = some (.cells (lineCells l) 34 (0, 0))) (hne : sb ≠ g) :
    Calls Tryz.prog 73 #[.slice (some ⟨g, 0, none⟩) n cap, .int .i64 i, .slice (some ⟨sb, 0, none⟩) 1 1] w fun r w' => ∃ v', r = .returned v' ∧ w'.ownsRow B 34 38 v' (n + 1) (xs.take (i * 38) ++ lineList l ++ xs.drop (i * 38)) ∧ w.grownBy w' (some g) ∧ (v'.ownBlock = some g ∨ v'.ownBlock = some w.heap.size) := by
  rcases hown.2 with ⟨e, _⟩ | ⟨g', cap', cur, e, hBg, hcur, hle, hmx, hcs, htk⟩
  · cases e
  cases e
  have hxl := hown.1
  unfold maxLen at hmx
  have hl38 := lineList_length l
  have hov : ∀ lb cb, (callFunc 109 #[.slice (some ⟨sb, 0, none⟩) 1 1, .slice (some ⟨g, (i + 1) * 38, none⟩) lb cb]).run Tryz.prog w = .ok (.value (.bool false)) w := fun lb cb => by
    rw [run_callFunc_extern Tryz.func109 (by kernel_rfl) (by kernel_rfl) (by kernel_rfl) (e := Extern.SlicesOverlaps.overlaps #[107, 107] #[4]) (by kernel_rfl),
      Lib.run_overlaps_apart w 107 4 34 Tryz.underlying107 38 Tryz.sizeOf34 ⟨sb, 0, none⟩ ⟨g, (i + 1) * 38, none⟩ 1 1 lb cb hne _ _ _ _ (shape_of hsb) (shape_of hcur) (by rw [hcs]; omega) (frozen_of_row w sb 0 _ _ hsb) (frozen_of_row w sb _ _ _ hsb)]
    rfl
  go_enter Tryz.func73, Tryz.ntmps73
  have hin : ((i : Int) == (n : Int)) = false := by rw [beq_eq_false_iff_ne]; omega
  have hle1 : (i : Int) ≤ (n : Int) := by omega
  have hroomz : ¬ (cap : Int) < (n : Int) + 1 := by omega
  have hci : ¬ cap = i := by omega
  have hci1 : ¬ cap = i + 1 := by omega
  go_wp2_with (simp only [hov])
  clear hov
  have hcp1 : ∀ ty dc sc, (Builtin.copy_ #[107, 107] ty #[.slice (some ⟨g, (i + 1) * 38, none⟩) (n - i) dc, .slice (some ⟨g, i * 38, none⟩) (n + 1 - i) sc]).run Tryz.prog w.drew = .ok (goInt (Nat.min (n + 1 - i) (n - i))) (w.drew.setRow g (cur.toList.take ((i + 1) * 38) ++ xs.drop (i * 38) ++ cur.toList.drop ((n + 1) * 38)).toArray) := fun ty dc sc => by
    have h1 : (xs.drop (i * 38)).length = (n - i) * 38 := by rw [List.length_drop, hxl]; omega
    have := run_copy_line w.drew ty g ((i + 1) * 38) (n - i) dc ⟨g, i * 38, none⟩ (n + 1 - i) sc cur 34 (xs.drop (i * 38)) hcur (by rw [h1, show Nat.min (n + 1 - i) (n - i) = n - i from Nat.min_eq_right (by omega)])
      (fun j u hj => by
        rw [List.getElem?_drop] at hj
        have h2 := World.ownsRow.cells hown (g := g) rfl (i * 38 + j) u hj
        rw [Addr.add_lit, Nat.zero_add] at h2
        rw [Addr.add_lit, World.cell?_drew]
        exact h2) (by rw [h1, hcs]; have : (n + 1) * 38 ≤ cap * 38 := Nat.mul_le_mul_right _ hroom; omega) (fun u hu => hxs u (List.mem_of_mem_drop hu))
    rw [this, h1, show (i + 1) * 38 + (n - i) * 38 = (n + 1) * 38 by omega]
  obtain ⟨W1, hW1⟩ : ∃ W1, W1 = w.drew.setRow g (cur.toList.take ((i + 1) * 38) ++ xs.drop (i * 38) ++ cur.toList.drop ((n + 1) * 38)).toArray := ⟨_, rfl⟩
  rw [← hW1] at hcp1
  have hg1 : w.grownBy W1 (some g) := by rw [hW1]; exact grown_trans (b := w.drew) ⟨rfl, rfl, rfl, Nat.le_refl _, fun _ _ _ => rfl⟩ (grown_row w.drew g _)
  have hr1 : W1.heap[g]? = some (.cells (cur.toList.take ((i + 1) * 38) ++ xs.drop (i * 38) ++ cur.toList.drop ((n + 1) * 38)).toArray 34 (0, 0)) := by rw [hW1]; exact setRow_heap w.drew g _ _ _ _ hcur
  have hs1 : W1.heap[sb]? = some (.cells (lineCells l) 34 (0, 0)) := (hg1.block sb (Array.getElem?_eq_some_iff.1 hsb).1 (fun e => hne (Option.some.inj e))).trans hsb
  have hk : (n + 1) * 38 ≤ cap * 38 := Nat.mul_le_mul_right _ hroom
  have hll : (cur.toList.take ((i + 1) * 38) ++ xs.drop (i * 38) ++ cur.toList.drop ((n + 1) * 38)).length = cap * 38 := by
    simp only [List.length_append, List.length_take, List.length_drop, hxl, Array.length_toList, hcs]
    omega
  have hcp2 : ∀ ty dc, (Builtin.copy_ #[107, 107] ty #[.slice (some ⟨g, i * 38, none⟩) (n + 1 - i) dc, .slice (some ⟨sb, 0, none⟩) 1 1]).run Tryz.prog W1 = .ok (goInt (Nat.min 1 (n + 1 - i))) (W1.setRow g (xs.take (i * 38) ++ lineList l ++ xs.drop (i * 38) ++ cur.toList.drop ((n + 1) * 38)).toArray) := fun ty dc => by
    have := run_copy_line W1 ty g (i * 38) (n + 1 - i) dc ⟨sb, 0, none⟩ 1 1 _ 34 (lineList l) hr1 (by rw [hl38, show Nat.min 1 (n + 1 - i) = 1 from Nat.min_eq_left (by omega)])
      (fun j u hj => by rw [Addr.add_lit, Nat.zero_add, cell_of_row W1 sb j _ _ _ hs1]; simpa [lineCells] using hj) (by rw [hl38, List.size_toArray, hll]; omega) (lineList_one hone)
    rw [this, hl38]
    simp only
    rw [show i * 38 + 38 = (i + 1) * 38 by omega, row_shift cur.toList i n cap xs (lineList l) (by rw [Array.length_toList, hcs]) htk hi hroom]
  have hfin : (W1.setRow g (xs.take (i * 38) ++ lineList l ++ xs.drop (i * 38) ++ cur.toList.drop ((n + 1) * 38)).toArray).ownsRow B 34 38 (.slice (some ⟨g, 0, none⟩) (n + 1) cap) (n + 1) (xs.take (i * 38) ++ lineList l ++ xs.drop (i * 38)) := by
    have h5 : (xs.take (i * 38) ++ lineList l ++ xs.drop (i * 38)).length = (n + 1) * 38 := by
      simp only [List.length_append, List.length_take, List.length_drop, hxl, hl38]
      omega
    refine ⟨h5, .inr ⟨g, cap, _, rfl, hBg, setRow_heap W1 g _ _ _ _ hr1, hroom, by unfold maxLen; omega, ?_, ?_⟩⟩
    · rw [List.size_toArray, List.length_append, h5, List.length_drop, Array.length_toList, hcs]; omega
    · rw [List.take_append_of_le_length (by rw [h5]; exact Nat.le_refl _), List.take_of_length_le (by rw [h5]; exact Nat.le_refl _)]
  have hgf : w.grownBy (W1.setRow g (xs.take (i * 38) ++ lineList l ++ xs.drop (i * 38) ++ cur.toList.drop ((n + 1) * 38)).toArray) (some g) := grown_trans hg1 (grown_row W1 g _)
  have HF := Lib.hid hfin
  have HG := Lib.hid hgf
  generalize hW2 : W1.setRow g (xs.take (i * 38) ++ lineList l ++ xs.drop (i * 38) ++ cur.toList.drop ((n + 1) * 38)).toArray = W2 at hcp2 HF HG
  clear hfin hgf hW2 hll hk hs1 hr1 hg1 hW1 hown hxs hxl hcs hsb hcur htk
  refine wp_region_mix0 [0, 1, 2, 3, 4, 5, 6, 7] [8] (fun w' => ∃ z : Later w, w' = z.1) (by kernel_rfl) (by kernel_rfl) (by kernel_rfl) ⟨⟨_, (Below.refl _ _).drew⟩, rfl⟩ ?_
  simp only [opsAt, List.map_cons, List.map_nil, Array.getD_eq_getD_getElem?, List.getElem?_toArray, List.getElem?_cons_zero, List.getElem?_cons_succ, Option.getD_some]
  repeat (go_big_quiet_step (fail))
  refine wpQuiet_nil ?_
  refine wpR_list [8] _ _ (by kernel_rfl) ?_
  simp only [opsAt, List.map_cons, List.map_nil, Array.getD_eq_getD_getElem?, List.getElem?_toArray, List.getElem?_cons_zero, List.getElem?_cons_succ, Option.getD_some]
  refine wpList_copy_runI _ rfl (.tmp 73) (.tmp 76) 107 107 rfl _ _ rfl rfl (hcp1 _ _ _) ?_
  go_wp2
  refine NoPanic.normal ?_
  go_wp2_with (refine wpList_copy_runI _ rfl (.tmp 80) (.tmp 81) 107 107 rfl _ _ rfl rfl (hcp2 _ _) ?_)
  go_ret
  exact ⟨_, rfl, HF.out, HG.out, .inl rfl⟩


theorem zero_line_size (k : Nat) : (Builtin.zeroCells (Value.agg (lineCells zeroLine)).cells k).size = k * 38 := by
  have h : (Value.agg (lineCells zeroLine)).cells.size = 38 := lineCells_size _
  simp [Builtin.zeroCells, h]

/-- What stands in a new row behind the two copies. -/
theorem row_grow (xs vs Z : List Value) (i n : Nat) (hxl : xs.length = n * 38) (hv : vs.length = 38) (hi : i < n) :
    let R1 := (xs.take (i * 38) ++ Z).take (i * 38) ++ vs ++ (xs.take (i * 38) ++ Z).drop (i * 38 + 38)
    R1.take ((i + 1) * 38) ++ xs.drop (i * 38) ++ R1.drop ((i + 1) * 38 + (n - i) * 38) = xs.take (i * 38) ++ vs ++ xs.drop (i * 38) ++ Z.drop ((n + 1 - i) * 38) := by
  have h1 : (xs.take (i * 38)).length = i * 38 := by rw [List.length_take, hxl]; omega
  have e1 : (xs.take (i * 38) ++ Z).take (i * 38) = xs.take (i * 38) := by rw [List.take_append_of_le_length (by rw [h1]; exact Nat.le_refl _), List.take_of_length_le (by rw [h1]; exact Nat.le_refl _)]
  have e2 : (xs.take (i * 38) ++ Z).drop (i * 38 + 38) = Z.drop 38 := by
    rw [List.drop_append, h1, List.drop_eq_nil_of_le (by rw [h1]; omega), List.nil_append, show i * 38 + 38 - i * 38 = 38 by omega]
  simp only
  rw [e1, e2]
  have h2 : (xs.take (i * 38) ++ vs).length = (i + 1) * 38 := by rw [List.length_append, h1, hv]; omega
  have e3 : (xs.take (i * 38) ++ vs ++ Z.drop 38).take ((i + 1) * 38) = xs.take (i * 38) ++ vs := by
    rw [List.take_append_of_le_length (by rw [h2]; exact Nat.le_refl _), List.take_of_length_le (by rw [h2]; exact Nat.le_refl _)]
  have e4 : (xs.take (i * 38) ++ vs ++ Z.drop 38).drop ((i + 1) * 38 + (n - i) * 38) = Z.drop ((n + 1 - i) * 38) := by
    rw [List.drop_append, h2, List.drop_eq_nil_of_le (by rw [h2]; omega), List.nil_append, List.drop_drop]
    congr 1
    omega
  rw [e3, e4]

set_option maxRecDepth 100000 in
set_option maxHeartbeats 4000000 in
theorem insert_grow (B : Nat) (g cap n i sb : Nat) (xs : List Value) (l : GLine) (w : World) (hone : refsOne l) (hxs : ∀ u ∈ xs, u.oneCell' = true) (hown : w.ownsRow B 34 38 (.slice (some ⟨g, 0, none⟩) n cap) n xs) (hB : B ≤ w.heap.size) (hn : n ≤ 65536) (hi : i < n) (hroom : cap < n + 1)
    (hsb : w.heap[sb]? = some (.cells (lineCells l) 34 (0, 0))) :
    Calls Tryz.prog 73 #[.slice (some ⟨g, 0, none⟩) n cap, .int .i64 i, .slice (some ⟨sb, 0, none⟩) 1 1] w fun r w' => ∃ v', r = .returned v' ∧ w'.ownsRow B 34 38 v' (n + 1) (xs.take (i * 38) ++ lineList l ++ xs.drop (i * 38)) ∧ w.grownBy w' (some g) ∧ (v'.ownBlock = some g ∨ v'.ownBlock = some w.heap.size) := by
  obtain ⟨i0, hi0, hz0, hz1, hz2⟩ := info_parts Tryz.info_line
  rcases hown.2 with ⟨e, _⟩ | ⟨g', cap', cur, e, hBg, hcur, hle, hmx, hcs, htk⟩
  · cases e
  cases e
  have hxl := hown.1
  obtain rfl : cap = n := by omega
  have hl38 := lineList_length l
  have hglt : g < w.heap.size := (Array.getElem?_eq_some_iff.1 hcur).1
  have hold : (Builtin.firstCells i0.size i (.slice (some ⟨g, 0, none⟩) i cap)).run Tryz.prog w.drew = .ok (xs.take (i * 38)).toArray w.drew := by
    rw [hz1]
    refine run_firstCells_some w.drew 38 i ⟨g, 0, none⟩ i cap (xs.take (i * 38)) (by rw [List.length_take, hxl]; omega) (fun j u hj => ?_)
    rw [List.getElem?_take] at hj
    split at hj
    · have h2 := World.ownsRow.cells hown (g := g) rfl j u hj
      rw [World.cell?_drew]; exact h2
    · cases hj
  obtain ⟨G, hG⟩ : ∃ G, G = grownCap w (cap + 1) cap 34 := ⟨_, rfl⟩
  have hGn : cap + 1 ≤ G := by rw [hG]; exact grownCap_ge w _ _ _
  have hG63 : G ≤ maxLen := by rw [hG]; exact grownCap_le_maxLen w (cap + 1) cap _ (by unfold maxLen; omega)
  obtain ⟨Z, hZ⟩ : ∃ Z : Array Value, Z = Builtin.zeroCells (Value.agg (lineCells zeroLine)).cells (cap + 1 - i) ++ Builtin.zeroCells (Value.agg (lineCells zeroLine)).cells (G - (cap + 1)) := ⟨_, rfl⟩
  have hZs : Z.size = (G - i) * 38 := by rw [hZ, Array.size_append, zero_line_size, zero_line_size]; omega
  have hkk : (cap : Int) + 1 - (i : Int) = ((cap + 1 - i : Nat) : Int) := by omega
  obtain ⟨W1, hW1⟩ : ∃ W1, W1 = w.drew.alloc (.cells ((xs.take (i * 38)).toArray ++ Z) 34) := ⟨_, rfl⟩
  have hrz : ∀ ty, (Builtin.append_ #[107, 3] ty #[.slice (some ⟨g, 0, none⟩) i cap, .int .i64 ((cap : Int) + 1 - (i : Int))]).run Tryz.prog w = .ok (.slice (some ⟨w.heap.size, 0, none⟩) (cap + 1) G) W1 := fun ty => by
    have h := Lib.run_append_grow_zeros w 107 3 ty 34 i0 _ .i64 .i64 Tryz.underlying107 Tryz.underlying3 hi0 hz0 (some ⟨g, 0, none⟩) i cap (xs.take (i * 38)) hold (cap + 1 - i) (by omega) (by rw [hz1]; omega) (by omega) (by omega) (by rw [hz2]; omega) (by rw [hz2, show i + (cap + 1 - i) = cap + 1 by omega]; exact growslice_fits (by omega) (by omega))
    rw [show i + (cap + 1 - i) = cap + 1 by omega, ← hG, Array.append_assoc, ← hZ, ← hW1] at h
    rw [hkk]
    exact h
  obtain ⟨N, hN⟩ : ∃ N, N = w.heap.size := ⟨_, rfl⟩
  rw [← hN] at hrz
  have hN1 : W1.heap[N]? = some (.cells ((xs.take (i * 38)).toArray ++ Z) 34 (0, 0)) := by rw [hW1, hN]; exact heap_alloc_new w.drew _
  have hb1 : Below w.heap.size w W1 := by rw [hW1]; exact ((Below.refl _ _).drew).alloc (Nat.le_refl _) _
  have hs1 : W1.heap[sb]? = some (.cells (lineCells l) 34 (0, 0)) := (hb1.block sb (Array.getElem?_eq_some_iff.1 hsb).1).trans hsb
  have hxt : (xs.take (i * 38)).length = i * 38 := by rw [List.length_take, hxl]; omega
  have hR0 : ((xs.take (i * 38)).toArray ++ Z).size = G * 38 := by rw [Array.size_append, List.size_toArray, hxt, hZs]; omega
  have hGk : (cap + 1) * 38 ≤ G * 38 := Nat.mul_le_mul_right _ hGn
  obtain ⟨R1, hR1⟩ : ∃ R1 : List Value, R1 = (xs.take (i * 38) ++ Z.toList).take (i * 38) ++ lineList l ++ (xs.take (i * 38) ++ Z.toList).drop (i * 38 + 38) := ⟨_, rfl⟩
  have hR1l : R1.length = G * 38 := by
    rw [hR1]
    simp only [List.length_append, List.length_take, List.length_drop, hxl, hl38, Array.length_toList, hZs]
    omega
  obtain ⟨W2, hW2⟩ : ∃ W2, W2 = W1.setRow N R1.toArray := ⟨_, rfl⟩
  have hcp1 : ∀ ty dc, (Builtin.copy_ #[107, 107] ty #[.slice (some ⟨N, i * 38, none⟩) (cap + 1 - i) dc, .slice (some ⟨sb, 0, none⟩) 1 1]).run Tryz.prog W1 = .ok (goInt (Nat.min 1 (cap + 1 - i))) W2 := fun ty dc => by
    have := run_copy_line W1 ty N (i * 38) (cap + 1 - i) dc ⟨sb, 0, none⟩ 1 1 _ 34 (lineList l) hN1 (by rw [hl38, show Nat.min 1 (cap + 1 - i) = 1 from Nat.min_eq_left (by omega)])
      (fun j u hj => by rw [Addr.add_lit, Nat.zero_add, cell_of_row W1 sb j _ _ _ hs1]; simpa [lineCells] using hj) (by rw [hl38, hR0]; omega) (lineList_one hone)
    rw [this, hl38, hW2, hR1]
    simp
  have hN2 : W2.heap[N]? = some (.cells R1.toArray 34 (0, 0)) := by rw [hW2]; exact setRow_heap W1 N _ _ _ _ hN1
  have hb2 : Below w.heap.size w W2 := by rw [hW2]; exact below_grown hb1 (grown_row W1 N _) hb1.size (by omega)
  obtain ⟨W3, hW3⟩ : ∃ W3, W3 = W2.drew.setRow N (xs.take (i * 38) ++ lineList l ++ xs.drop (i * 38) ++ Z.toList.drop ((cap + 1 - i) * 38)).toArray := ⟨_, rfl⟩
  have hcp2 : ∀ ty dc sc, (Builtin.copy_ #[107, 107] ty #[.slice (some ⟨N, (i + 1) * 38, none⟩) (cap - i) dc, .slice (some ⟨g, i * 38, none⟩) (cap - i) sc]).run Tryz.prog W2.drew = .ok (goInt (Nat.min (cap - i) (cap - i))) W3 := fun ty dc sc => by
    have h1 : (xs.drop (i * 38)).length = (cap - i) * 38 := by rw [List.length_drop, hxl]; omega
    have := run_copy_line W2.drew ty N ((i + 1) * 38) (cap - i) dc ⟨g, i * 38, none⟩ (cap - i) sc _ 34 (xs.drop (i * 38)) hN2 (by rw [h1, show Nat.min (cap - i) (cap - i) = cap - i from Nat.min_self _])
      (fun j u hj => by
        rw [List.getElem?_drop] at hj
        have h2 := World.ownsRow.cells hown (g := g) rfl (i * 38 + j) u hj
        rw [Addr.add_lit, Nat.zero_add] at h2
        rw [Addr.add_lit, World.cell?_drew, hb2.cell (p := ⟨g, i * 38 + j, none⟩) hglt]
        exact h2) (by rw [h1, List.size_toArray, hR1l]; omega) (fun u hu => hxs u (List.mem_of_mem_drop hu))
    rw [this, h1, hW3]
    have h6 := row_grow xs (lineList l) Z.toList i cap hxl hl38 hi
    simp only at h6
    rw [← hR1] at h6
    simp only
    rw [h6]
  have hfin : W3.ownsRow B 34 38 (.slice (some ⟨N, 0, none⟩) (cap + 1) G) (cap + 1) (xs.take (i * 38) ++ lineList l ++ xs.drop (i * 38)) := by
    have h5 : (xs.take (i * 38) ++ lineList l ++ xs.drop (i * 38)).length = (cap + 1) * 38 := by
      simp only [List.length_append, List.length_take, List.length_drop, hxl, hl38]
      omega
    refine ⟨h5, .inr ⟨N, G, _, rfl, by omega, by rw [hW3]; exact setRow_heap W2.drew N _ _ _ _ hN2, hGn, hG63, ?_, ?_⟩⟩
    · rw [List.size_toArray, List.length_append, h5, List.length_drop, Array.length_toList, hZs]; omega
    · rw [List.take_append_of_le_length (by rw [h5]; exact Nat.le_refl _), List.take_of_length_le (by rw [h5]; exact Nat.le_refl _)]
  have hb3 : Below w.heap.size w W3 := by rw [hW3]; exact below_grown (hb2.drew) (grown_row W2.drew N _) hb2.size (by omega)
  have HN := Lib.hid hN
  have HF := Lib.hid hfin
  have HG := Lib.hid (grown_below hb3 (some g))
  have hin : ((i : Int) == (cap : Int)) = false := by rw [beq_eq_false_iff_ne]; omega
  have hle1 : (i : Int) ≤ (cap : Int) := by omega
  have hci : ¬ cap = i := by omega
  have hGi : ¬ G = i := by omega
  have hGi1 : ¬ G = i + 1 := by omega
  have hG63z : G ≤ 9223372036854775807 := by unfold maxLen at hG63; omega
  have hGz : (cap : Int) + 1 ≤ (G : Int) := by omega
  clear hfin hb3 hW3 hb2 hN2 hW2 hR1l hR1 hR0 hxt hs1 hb1 hN1 hN hW1 hZs hZ hG hold hown hxs hsb hcur hcs htk hxl hGk hz0 hz1 hz2 hi0 hkk
  go_enter Tryz.func73, Tryz.ntmps73
  go_wp2_with (first
    | (at_builtin; refine Lib.wpList_append_run _ rfl _ _ _ _ rfl _ _ rfl rfl _ _ (hrz _) ?_)
    | (refine wpList_copy_runI _ rfl (.tmp 43) (.tmp 44) 107 107 rfl _ _ rfl rfl (hcp1 _ _) ?_))
  generalize goInt ((Nat.min 1 (cap + 1 - i) : Nat) : Int) = vmin
  go_simp
  refine wp_region_mix0 [0, 1, 2, 3, 4, 5, 6, 7] [8] (fun w' => ∃ z : Later W2, w' = z.1) (by kernel_rfl) (by kernel_rfl) (by kernel_rfl) ⟨⟨_, (Below.refl _ _).drew⟩, rfl⟩ ?_
  simp only [opsAt, List.map_cons, List.map_nil, Array.getD_eq_getD_getElem?, List.getElem?_toArray, List.getElem?_cons_zero, List.getElem?_cons_succ, Option.getD_some]
  repeat (go_big_quiet_step (fail))
  refine wpQuiet_nil ?_
  refine wpR_list [8] _ _ (by kernel_rfl) ?_
  simp only [opsAt, List.map_cons, List.map_nil, Array.getD_eq_getD_getElem?, List.getElem?_toArray, List.getElem?_cons_zero, List.getElem?_cons_succ, Option.getD_some]
  refine wpList_copy_runI _ rfl (.tmp 50) (.tmp 53) 107 107 rfl _ _ rfl rfl (hcp2 _ _ _) ?_
  go_wp2
  refine NoPanic.normal ?_
  go_wp2
  go_ret
  exact ⟨_, rfl, HF.out, HG.out, .inr (by rw [← HN.out]; rfl)⟩

set_option maxRecDepth 100000 in
set_option maxHeartbeats 1000000 in
theorem insert_end_at (B : Nat) (v : Value) (n sb : Nat) (xs : List Value) (g : GLine) (w : World) (hone : refsOne g) (hown : w.ownsRow B 34 38 v n xs) (hB : B ≤ w.heap.size) (hn : n ≤ 65536) (hsb : ∀ j u, (lineList g)[j]? = some u → w.cell? ((⟨sb, 0, none⟩ : Addr).add j) = some u) :
    Calls Tryz.prog 73 #[v, .int .i64 n, .slice (some ⟨sb, 0, none⟩) 1 1] w fun r w' => ∃ v', r = .returned v' ∧ w'.ownsRow B 34 38 v' (n + 1) (xs ++ lineList g) ∧ w.grownBy w' v.ownBlock ∧ (v'.ownBlock = v.ownBlock ∨ v'.ownBlock = some w.heap.size) := by
  obtain ⟨i0, hi, hz0, hz1, hz2⟩ := info_parts Tryz.info_line
  have HS := Lib.hid hsb
  clear hsb
  have hone2 := Lib.hid (lineList_one hone)
  have hl1 := lineList_length g
  have HW := Lib.hid hown
  rcases hown.2 with ⟨rfl, rfl⟩ | ⟨gb, cap, cur, rfl, hg, hcur, hle, hmx, hcs, htk⟩
  · clear hown
    go_enter Tryz.func73, Tryz.ntmps73
    go_wp2_with (at_builtin; refine wpList_append_own_at _ rfl (.tmp 23) (.tmp 24) 107 rfl B 34 i0 (.agg (lineCells zeroLine)) 38 112 Tryz.underlying107 hi hz0 hz1 hz2 (lineCells_size _) (by decide) _ _ _ rfl HW.out ⟨sb, 0, none⟩ 1 1 (lineList g) rfl hl1 HS.out hone2.out ?c3 ?c4 hB ?_)
    case c3 => unfold maxLen; omega
    case c4 => omega
    intro v' w2 hown' hgrow _ hat
    go_wp2
    go_ret
    exact ⟨v', rfl, hown', hgrow, hat⟩
  · clear hown
    unfold maxLen at hmx
    have heq : ((n : Int) == (n : Int)) = true := by simp
    have hle' : (n : Int) ≤ (cap : Int) := by omega
    by_cases hcn : cap = n
    · subst hcn
      go_enter Tryz.func73, Tryz.ntmps73
      go_wp2_with (at_builtin; refine wpList_append_own_at _ rfl (.tmp 23) (.tmp 24) 107 rfl B 34 i0 (.agg (lineCells zeroLine)) 38 112 Tryz.underlying107 hi hz0 hz1 hz2 (lineCells_size _) (by decide) _ _ _ rfl HW.out ⟨sb, 0, none⟩ 1 1 (lineList g) rfl hl1 HS.out hone2.out (by unfold maxLen; omega) (by omega) hB ?_)
      intro v' w2 hown' hgrow _ hat
      go_wp2
      go_ret
      exact ⟨v', rfl, hown', hgrow, hat⟩
    · have hcz : ¬ (cap : Int) = (n : Int) := by omega
      go_enter Tryz.func73, Tryz.ntmps73
      go_wp2_with (at_builtin; refine wpList_append_own_at _ rfl (.tmp 23) (.tmp 24) 107 rfl B 34 i0 (.agg (lineCells zeroLine)) 38 112 Tryz.underlying107 hi hz0 hz1 hz2 (lineCells_size _) (by decide) _ _ _ rfl HW.out ⟨sb, 0, none⟩ 1 1 (lineList g) rfl hl1 HS.out hone2.out (by unfold maxLen; omega) (by omega) hB ?_)
      intro v' w2 hown' hgrow _ hat
      go_wp2
      go_ret
      exact ⟨v', rfl, hown', hgrow, hat⟩


/-- slices.Insert of one line at any place. -/
theorem insert_any (B : Nat) (v : Value) (n i sb : Nat) (xs : List Value) (l : GLine) (w : World) (hone : refsOne l) (hxs : ∀ u ∈ xs, u.oneCell' = true) (hown : w.ownsRow B 34 38 v n xs) (hB : B ≤ w.heap.size) (hn : n ≤ 65536) (hi : i ≤ n)
    (hsb : w.heap[sb]? = some (.cells (lineCells l) 34 (0, 0))) (hne : v.ownBlock ≠ some sb) :
    Calls Tryz.prog 73 #[v, .int .i64 i, .slice (some ⟨sb, 0, none⟩) 1 1] w fun r w' => ∃ v', r = .returned v' ∧ w'.ownsRow B 34 38 v' (n + 1) (xs.take (i * 38) ++ lineList l ++ xs.drop (i * 38)) ∧ w.grownBy w' v.ownBlock ∧ (v'.ownBlock = v.ownBlock ∨ v'.ownBlock = some w.heap.size) := by
  by_cases h : i = n
  · subst h
    rw [List.take_of_length_le (by rw [hown.1]; exact Nat.le_refl _), List.drop_eq_nil_of_le (by rw [hown.1]; exact Nat.le_refl _), List.append_nil]
    exact insert_end_at B v i sb xs l w hone hown hB hn (fun j u hj => by rw [Addr.add_lit, Nat.zero_add, cell_of_row w sb j _ _ _ hsb]; simpa [lineCells] using hj)
  · rcases hown.2 with ⟨_, h0⟩ | ⟨g, cap, cur, rfl, hrest⟩
    · omega
    · by_cases hroom : n + 1 ≤ cap
      · exact insert_shift B g cap n i sb xs l w hone hxs hown hn (by omega) hroom hsb (fun e => hne (by rw [e]; rfl))
      · exact insert_grow B g cap n i sb xs l w hone hxs hown hB hn (by omega) (by omega) hsb

end Go.Proofs.YtdjaphcelpchaaaGreatDoor

namespace Go.Proofs.YtdjaphcelpchaaaGreatDoor
open Go Go.RowKit Go.Proofs

/-- The place of a number among numbers in order. -/
def posN (ns : List Int) (n : Int) : Nat := ns.countP fun k => decide (k < n)
theorem pos_between {ns : List Int} {n : Int} {i : Nat} (h : Between ns n i i) : i = posN ns n := by
  obtain ⟨_, h2, h3, h4⟩ := h
  unfold posN
  rw [← List.take_append_drop i ns, List.countP_append]
  have e1 : (ns.take i).countP (fun k => decide (k < n)) = (ns.take i).length := by
    rw [List.countP_eq_length]
    intro k hk
    obtain ⟨j, hj, rfl⟩ := List.mem_iff_getElem.1 hk
    rw [List.length_take] at hj
    rw [List.getElem_take]
    simpa using h3 j (by omega) (by omega)
  have e2 : (ns.drop i).countP (fun k => decide (k < n)) = 0 := by
    rw [List.countP_eq_zero]
    intro k hk
    obtain ⟨j, hj, rfl⟩ := List.mem_iff_getElem.1 hk
    rw [List.length_drop] at hj
    rw [List.getElem_drop]
    have := h4 (i + j) (by omega) (by omega)
    simp
    omega
  rw [e1, e2, List.length_take]
  omega

/-- A line put in at a place. -/
def addMs (ms : List ML) (i : Nat) (m : ML) : List ML := ms.take i ++ m :: ms.drop i
theorem flat_append (a b : List ML) : flatLines (a ++ b) = flatLines a ++ flatLines b := by simp [flatLines]
theorem flat_take (ms : List ML) (i : Nat) : (flatLines ms).take (i * 38) = flatLines (ms.take i) := by
  by_cases h : i ≤ ms.length
  · conv => lhs; rw [← List.take_append_drop i ms, flat_append]
    rw [List.take_append_of_le_length (by rw [flatLines_length, List.length_take]; omega), List.take_of_length_le (by rw [flatLines_length, List.length_take]; omega)]
  · rw [List.take_of_length_le (by rw [flatLines_length]; omega), List.take_of_length_le (by omega)]
theorem flat_drop (ms : List ML) (i : Nat) : (flatLines ms).drop (i * 38) = flatLines (ms.drop i) := by
  by_cases h : i ≤ ms.length
  · conv => lhs; rw [← List.take_append_drop i ms, flat_append]
    rw [List.drop_append_of_le_length (by rw [flatLines_length, List.length_take]; omega), List.drop_eq_nil_of_le (by rw [flatLines_length, List.length_take]; omega), List.nil_append]
  · rw [List.drop_eq_nil_of_le (by rw [flatLines_length]; omega), List.drop_eq_nil_of_le (by omega)]
    rfl
theorem flat_add (ms : List ML) (i : Nat) (m : ML) : flatLines (addMs ms i m) = (flatLines ms).take (i * 38) ++ lineList m.g ++ (flatLines ms).drop (i * 38) := by
  unfold addMs
  rw [flat_append, flat_take, flat_drop, List.append_assoc]
  rfl
theorem addMs_length {ms : List ML} {i : Nat} {m : ML} (h : i ≤ ms.length) : (addMs ms i m).length = ms.length + 1 := by
  unfold addMs
  simp only [List.length_append, List.length_take, List.length_cons, List.length_drop]
  omega
theorem addMs_perm (ms : List ML) (i : Nat) (m : ML) : (addMs ms i m).Perm (m :: ms) := by
  unfold addMs
  refine List.perm_middle.trans ?_
  rw [List.take_append_drop]
theorem addMs_mem {ms : List ML} {i : Nat} {m x : ML} : x ∈ addMs ms i m ↔ x = m ∨ x ∈ ms := by rw [(addMs_perm ms i m).mem_iff, List.mem_cons]

/-- What a group's data obeys, memory aside. -/
structure GrpPure (ms : List ML) (nl : List (KE Id32)) : Prop where
  agree : (nl.map fun e => (e.k, e.v)).Perm (ms.map fun m => (m.p.id, Value.int .i64 m.p.number))
  ids : (ms.map fun m => m.p.id).Nodup
  sorted : (nums ms).Pairwise (· < ·)
  good : ∀ m ∈ ms, pErr m.p = 0
theorem GrpAt.pure {B : Nat} {w : World} {G : MG} (h : GrpAt B w G) : GrpPure G.ms G.nl := ⟨h.agree, h.ids, h.sorted, h.good⟩
theorem GrpPure.nil : GrpPure [] [] := ⟨.nil, .nil, .nil, fun _ h => by cases h⟩
theorem GrpPure.add {ms : List ML} {nl : List (KE Id32)} (h : GrpPure ms nl) {i : Nat} {m : ML} (c : Nat) (hb : Between (nums ms) m.p.number i i) (hn : hasNum ms m.p.number = false) (hi : ∀ x ∈ ms, x.p.id ≠ m.p.id) (hg : pErr m.p = 0) :
    GrpPure (addMs ms i m) (nl ++ [⟨m.p.id, .int .i64 m.p.number, c⟩]) where
  agree := by
    rw [List.map_append]
    refine (List.perm_append_comm).trans ?_
    refine List.Perm.trans ?_ ((addMs_perm ms i m).symm.map _)
    simp only [List.map_cons, List.map_nil, List.singleton_append]
    exact h.agree.cons _
  ids := by
    rw [((addMs_perm ms i m).map _).nodup_iff, List.map_cons, List.nodup_cons]
    refine ⟨fun hm => ?_, h.ids⟩
    obtain ⟨x, hx, e⟩ := List.mem_map.1 hm
    exact hi x hx e
  sorted := by
    obtain ⟨_, h2, h3, h4⟩ := hb
    have hs := h.sorted
    have e : nums (addMs ms i m) = (nums ms).take i ++ m.p.number :: (nums ms).drop i := by simp [nums, addMs, List.map_take, List.map_drop]
    have hnm : m.p.number ∉ nums ms := fun hm => by
      unfold hasNum at hn
      rw [List.contains_iff_mem.2 hm] at hn
      cases hn
    have ht : ∀ a ∈ (nums ms).take i, a < m.p.number := fun a ha => by
      obtain ⟨j, hj, rfl⟩ := List.mem_iff_getElem.1 ha
      rw [List.length_take] at hj
      rw [List.getElem_take]
      exact h3 j (by omega) (by omega)
    have hd : ∀ a ∈ (nums ms).drop i, m.p.number < a := fun a ha => by
      have hne : a ≠ m.p.number := fun e => hnm (e ▸ List.mem_of_mem_drop ha)
      obtain ⟨j, hj, rfl⟩ := List.mem_iff_getElem.1 ha
      rw [List.length_drop] at hj
      rw [List.getElem_drop] at hne ⊢
      have := h4 (i + j) (by omega) (by omega)
      omega
    rw [e, List.pairwise_append, List.pairwise_cons]
    exact ⟨hs.sublist (List.take_sublist _ _), ⟨hd, hs.sublist (List.drop_sublist _ _)⟩, fun a ha b hb => by
      have h5 := ht a ha
      rcases List.mem_cons.1 hb with rfl | hb
      · exact h5
      · have := hd b hb
        omega⟩
  good x hx := by
    rcases addMs_mem.1 hx with rfl | hx
    · exact hg
    · exact h.good x hx

theorem apart_iff {ib M : Nat} {gs : List MG} : (foot ib M gs).Nodup ↔ ib ≠ M ∧ (∀ G ∈ gs, ib ∉ G.foot ∧ M ∉ G.foot ∧ G.foot.Nodup) ∧ gs.Pairwise (fun G H => ∀ x ∈ G.foot, ∀ y ∈ H.foot, x ≠ y) := by
  unfold foot
  rw [List.nodup_cons, List.nodup_cons, List.mem_cons, List.mem_flatMap, List.mem_flatMap]
  unfold List.Nodup
  rw [List.pairwise_flatMap]
  constructor
  · rintro ⟨h1, h2, h3, h4⟩
    exact ⟨fun e => h1 (.inl e), fun G hG => ⟨fun hx => h1 (.inr ⟨G, hG, hx⟩), fun hx => h2 ⟨G, hG, hx⟩, h3 G hG⟩, h4⟩
  · rintro ⟨h1, h2, h3⟩
    refine ⟨?_, ?_, fun G hG => (h2 G hG).2.2, h3⟩
    · rintro (e | ⟨G, hG, hx⟩)
      · exact h1 e
      · exact (h2 G hG).1 hx
    · rintro ⟨G, hG, hx⟩
      exact (h2 G hG).2.1 hx

/-- A group in the place of that with its name. -/
def swapG (gs : List MG) (s : ByteArray) (G' : MG) : List MG := gs.map fun H => if H.name = s then G' else H

theorem ownsRow_typed {B : Nat} {w : World} {t size n : Nat} {v : Value} {xs : List Value} (h : w.ownsRow B t size v n xs) {k : Nat} (hk : v.ownBlock = some k) : ∃ cur, w.heap[k]? = some (.cells cur t (0, 0)) := by
  rcases h.2 with ⟨rfl, _⟩ | ⟨g, cap, cur, rfl, _, hcur, _⟩
  · cases hk
  · cases hk
    exact ⟨cur, hcur⟩
theorem GrpAt.not_id {B : Nat} {w : World} {G : MG} (h : GrpAt B w G) {k : Nat} {cur : Array Value} (hk : w.heap[k]? = some (.cells cur 23 (0, 0))) : k ∉ G.foot := by
  intro hf
  unfold MG.foot at hf
  simp only [List.mem_append, List.mem_cons, List.mem_nil_iff, or_false, Option.mem_toList] at hf
  rcases hf with (rfl | rfl) | hf
  · rw [h.blk] at hk; cases hk
  · have := h.nums; unfold MapAt at this; rw [this] at hk; cases hk
  · obtain ⟨c2, h2⟩ := ownsRow_typed h.lines.row hf
    rw [h2] at hk; cases hk
theorem IdxAt.not_id {B : Nat} {w : World} {ib M mc : Nat} {gs : List MG} (h : IdxAt B w ib M gs mc) {k : Nat} {cur : Array Value} (hk : w.heap[k]? = some (.cells cur 23 (0, 0))) : k ∉ foot ib M gs := by
  intro hf
  unfold foot at hf
  simp only [List.mem_cons, List.mem_flatMap] at hf
  rcases hf with rfl | rfl | ⟨G, hG, hf⟩
  · rw [h.blk] at hk; cases hk
  · have := h.map; unfold MapAt at this; rw [this] at hk; cases hk
  · exact (h.grps G hG).not_id hk hf
theorem IdxAt.refs_out {B : Nat} {w : World} {ib M mc : Nat} {gs : List MG} (h : IdxAt B w ib M gs mc) {G : MG} (hG : G ∈ gs) {m : ML} (hm : m ∈ G.ms) {k : Nat} (hk : m.v.ownBlock = some k) : k < w.heap.size ∧ k ∉ foot ib M gs := by
  have h1 := (h.grps G hG).lines.refs m hm
  obtain ⟨cur, h2⟩ := ownsRow_typed h1 hk
  exact ⟨(h1.lt hk).2, h.not_id h2⟩

/-- All that lies outside a list of blocks stays. -/
structure Kept (F : List Nat) (w w' : World) : Prop where
  os : w'.os = w.os
  tape : w'.tape = w.tape
  output : w'.output = w.output
  size : w.heap.size ≤ w'.heap.size
  block : ∀ k, k < w.heap.size → k ∉ F → w'.heap[k]? = w.heap[k]?
theorem Kept.mono {F F' : List Nat} {w w' : World} (h : Kept F w w') (hs : ∀ k ∈ F, k < w.heap.size → k ∈ F') : Kept F' w w' := ⟨h.os, h.tape, h.output, h.size, fun k hk hn => h.block k hk fun hf => hn (hs k hf hk)⟩
theorem Kept.of_below {F : List Nat} {w w' : World} (h : Below w.heap.size w w') : Kept F w w' := ⟨h.os, h.tape, h.output, h.size, fun k hk _ => h.block k hk⟩
theorem Kept.trans {F F' : List Nat} {a b c : World} (h : Kept F a b) (h' : Kept F' b c) (hs : ∀ k ∈ F', k ∈ F ∨ a.heap.size ≤ k) : Kept F a c :=
  ⟨h'.os.trans h.os, h'.tape.trans h.tape, h'.output.trans h.output, Nat.le_trans h.size h'.size, fun k hk hn => (h'.block k (Nat.lt_of_lt_of_le hk h.size) fun hf => by rcases hs k hf with h1 | h1; exact hn h1; omega).trans (h.block k hk hn)⟩
theorem Kept.below {F : List Nat} {w w' : World} {B : Nat} (h : Kept F w w') (hB : B ≤ w.heap.size) (hF : ∀ k ∈ F, B ≤ k) : Below B w w' := ⟨h.os, h.tape, h.output, h.size, fun k hk => h.block k (by omega) fun hf => by have := hF k hf; omega⟩

/-- The new footprint: of the old one, or new. -/
def FootOk (F F' : List Nat) (w : World) : Prop := ∀ k ∈ F', k ∈ F ∨ w.heap.size ≤ k

theorem total_swapG : ∀ {gs : List MG} {s : ByteArray} {G G' : MG}, (gs.map fun G => G.name).Nodup → groupOf gs s = some G → total (swapG gs s G') + G.ms.length = total gs + G'.ms.length
  | H :: gs, s, G, G', hn, hg => by
    unfold groupOf at hg
    rw [List.find?_cons] at hg
    rw [List.map_cons, List.nodup_cons] at hn
    by_cases h : H.name = s
    · rw [decide_eq_true h] at hg
      cases hg
      have : swapG gs s G' = gs := by
        unfold swapG
        conv => rhs; rw [← List.map_id gs]
        refine List.map_congr_left fun K hK => ?_
        have : ¬ K.name = s := fun e => hn.1 (h ▸ e ▸ List.mem_map.2 ⟨K, hK, rfl⟩)
        rw [if_neg this]; rfl
      unfold total swapG at *
      rw [List.map_cons, if_pos h, List.map_cons, List.sum_cons, this, List.map_cons, List.sum_cons]
      omega
    · rw [decide_eq_false h] at hg
      have ih := total_swapG (G' := G') hn.2 hg
      unfold total swapG at *
      rw [List.map_cons, if_neg h, List.map_cons, List.sum_cons, List.map_cons, List.sum_cons]
      omega

theorem groupOf_swapG : ∀ {gs : List MG} {s : ByteArray} {G G' : MG} (t : ByteArray), groupOf gs s = some G → G'.name = s → groupOf (swapG gs s G') t = if t = s then some G' else groupOf gs t
  | H :: gs, s, G, G', t, hg, hn => by
    unfold groupOf at hg ⊢
    unfold swapG
    rw [List.find?_cons] at hg
    rw [List.map_cons, List.find?_cons]
    by_cases h : H.name = s
    · rw [decide_eq_true h] at hg
      rw [if_pos h]
      by_cases ht : t = s
      · rw [if_pos ht, decide_eq_true (hn.trans ht.symm)]
      · rw [if_neg ht, decide_eq_false (fun e => ht (e.symm.trans hn)), List.find?_cons, decide_eq_false (fun e => ht (e.symm.trans h))]
        simp only
        clear hg
        induction gs with
        | nil => rfl
        | cons K gs ih =>
          rw [List.map_cons, List.find?_cons, List.find?_cons]
          by_cases hK : K.name = s
          · rw [if_pos hK, decide_eq_false (fun e => ht (e.symm.trans hn)), decide_eq_false (fun e => ht (e.symm.trans hK))]
            exact ih
          · rw [if_neg hK]
            cases decide (K.name = t) with
            | true => rfl
            | false => exact ih
    · rw [decide_eq_false h] at hg
      rw [if_neg h, List.find?_cons]
      have ih := groupOf_swapG (gs := gs) t hg hn
      unfold groupOf swapG at ih
      by_cases ht : t = s
      · rw [if_pos ht] at ih ⊢
        rw [decide_eq_false (fun e => h (e.trans ht))]
        exact ih
      · rw [if_neg ht] at ih ⊢
        cases decide (H.name = t) with
        | true => rfl
        | false => exact ih
theorem linesIn_swapG {gs : List MG} {s : ByteArray} {G G' : MG} (t : ByteArray) (hg : groupOf gs s = some G) (hn : G'.name = s) : linesIn (swapG gs s G') t = if t = s then G'.ms else linesIn gs t := by
  unfold linesIn
  rw [groupOf_swapG t hg hn]
  by_cases h : t = s
  · rw [if_pos h, if_pos h]
  · rw [if_neg h, if_neg h]

theorem name_inj : ∀ {l : List MG}, (l.map fun G => G.name).Nodup → ∀ A ∈ l, ∀ C ∈ l, A.name = C.name → A = C := by
  intro l hl
  induction l with
  | nil => intro A hA; cases hA
  | cons D l ih =>
    rw [List.map_cons, List.nodup_cons] at hl
    intro A hA C hC he
    rcases List.mem_cons.1 hA with hA' | hA'
    · rcases List.mem_cons.1 hC with hC' | hC'
      · rw [hA', hC']
      · exact absurd (hA' ▸ he ▸ List.mem_map.2 ⟨C, hC', rfl⟩) hl.1
    · rcases List.mem_cons.1 hC with hC' | hC'
      · exact absurd (hC' ▸ List.mem_map.2 ⟨A, hA', he⟩) hl.1
      · exact ih hl.2 A hA' C hC' he

/-- A group changed in place. -/
theorem IdxAt.upd {B : Nat} {w w' : World} {ib M mc : Nat} {gs : List MG} (h : IdxAt B w ib M gs mc) {s : ByteArray} {G G' : MG} (hG : groupOf gs s = some G) (h1 : G'.name = G.name) (h2 : G'.born = G.born) (h3 : G'.gb = G.gb) (h4 : G'.nb = G.nb)
    (h5 : G'.v.ownBlock = G.v.ownBlock ∨ ∃ k, G'.v.ownBlock = some k ∧ w.heap.size ≤ k) (hG' : GrpAt B w' G') (hib : w'.heap[ib]? = some (.cells #[.map (some M), .int .i64 (total (swapG gs s G'))] 104 (0, 0)))
    (hk : Kept (ib :: G.foot) w w') (hfew : total (swapG gs s G') ≤ 65536) : IdxAt B w' ib M (swapG gs s G') mc ∧ FootOk (foot ib M gs) (foot ib M (swapG gs s G')) w := by
  obtain ⟨hGm, hGs⟩ := groupOf_mem hG
  obtain ⟨a1, a2, a3⟩ := apart_iff.1 h.apart
  have hnm : gs.Pairwise (fun G H => G.name ≠ H.name) := by
    have := h.names
    unfold List.Nodup at this
    rwa [List.pairwise_map] at this
  have hf' : ∀ k ∈ G'.foot, k ∈ G.foot ∨ w.heap.size ≤ k := by
    intro k hk'
    unfold MG.foot at hk' ⊢
    rw [h3, h4] at hk'
    simp only [List.mem_append, List.mem_cons, List.mem_nil_iff, or_false, Option.mem_toList] at hk' ⊢
    rcases hk' with hk' | hk'
    · exact .inl (.inl hk')
    · rcases h5 with h5 | ⟨k', h5, h6⟩
      · rw [h5] at hk'; exact .inl (.inr hk')
      · rw [h5] at hk'; cases hk'; exact .inr h6
  have hmem : ∀ H ∈ swapG gs s G', H = G' ∨ (H ∈ gs ∧ H.name ≠ s) := by
    intro H hH
    obtain ⟨K, hK, rfl⟩ := List.mem_map.1 hH
    by_cases e : K.name = s
    · rw [if_pos e]; exact .inl rfl
    · rw [if_neg e]; exact .inr ⟨hK, e⟩
  -- two groups of different names lie apart
  have hap : ∀ H ∈ gs, H.name ≠ s → ∀ x ∈ H.foot, x ∉ G.foot := by
    intro H hH hHs x hx hxG
    have hpw : ∀ {l : List MG}, l.Pairwise (fun G H => ∀ x ∈ G.foot, ∀ y ∈ H.foot, x ≠ y) → ∀ A ∈ l, ∀ C ∈ l, A.name ≠ C.name → ∀ x ∈ A.foot, x ∉ C.foot := by
      intro l hl
      induction l with
      | nil => intro A hA; cases hA
      | cons D l ih =>
        rw [List.pairwise_cons] at hl
        intro A hA C hC hne x hxA hxC
        rcases List.mem_cons.1 hA with hA' | hA'
        · rcases List.mem_cons.1 hC with hC' | hC'
          · exact hne (by rw [hA', hC'])
          · exact hl.1 C hC' x (hA' ▸ hxA) x hxC rfl
        · rcases List.mem_cons.1 hC with hC' | hC'
          · exact hl.1 A hA' x (hC' ▸ hxC) x hxA rfl
          · exact ih hl.2 A hA' C hC' hne x hxA hxC
    exact hpw a3 H hH G hGm (by rw [hGs]; exact hHs) x hx hxG
  have hG'ib : ib ∉ G'.foot := fun hx => by
    rcases hf' ib hx with h6 | h6
    · exact (a2 G hGm).1 h6
    · have := (h.foot_lt ib (by simp [foot])).2; omega
  have hG'M : M ∉ G'.foot := fun hx => by
    rcases hf' M hx with h6 | h6
    · exact (a2 G hGm).2.1 h6
    · have := (h.foot_lt M (by simp [foot])).2; omega
  have hG'n : G'.foot.Nodup := by
    have h6 := (a2 G hGm).2.2
    unfold MG.foot at h6 ⊢
    rw [h3, h4]
    rcases h5 with h5 | ⟨k', h5, h7⟩
    · rw [h5]; exact h6
    · rw [h5]
      have g1 := (Array.getElem?_eq_some_iff.1 (h.grps G hGm).blk).1
      have g2 := (h.grps G hGm).nums.lt
      simp only [List.cons_append, List.nil_append, List.nodup_cons, List.mem_cons, Option.mem_toList, Option.toList_some, List.mem_nil_iff, or_false, not_or] at h6 ⊢
      exact ⟨⟨h6.1.1, by omega⟩, by omega, by simp⟩
  refine ⟨{ blk := hib, map := ?_, names := ?_, grps := ?_, apart := ?_, born := ?_, young := ?_, few := hfew, ibB := h.ibB, MB := h.MB }, ?_⟩
  · have e : (swapG gs s G').map MG.e = gs.map MG.e := by
      unfold swapG
      rw [List.map_map]
      refine List.map_congr_left fun H hH => ?_
      simp only [Function.comp]
      by_cases e : H.name = s
      · rw [if_pos e]
        have : H = G := by
          exact name_inj h.names H hH G hGm (e.trans hGs.symm)
        subst this
        simp only [MG.e, h1, h2, h3]
      · rw [if_neg e]
    unfold MapAt
    rw [e, hk.block M h.map.lt (by rw [List.mem_cons, not_or]; exact ⟨fun e => a1 e.symm, (a2 G hGm).2.1⟩)]
    exact h.map
  · have e : (swapG gs s G').map (fun G => G.name) = gs.map (fun G => G.name) := by
      unfold swapG
      rw [List.map_map]
      refine List.map_congr_left fun H hH => ?_
      simp only [Function.comp]
      by_cases e : H.name = s
      · rw [if_pos e, h1, hGs, e]
      · rw [if_neg e]
    rw [e]; exact h.names
  · intro H hH
    rcases hmem H hH with rfl | ⟨hH, hHs⟩
    · exact hG'
    · refine (h.grps H hH).keep (fun k hkf => hk.block k ((h.grps H hH).foot_lt k hkf).2 ?_) (fun m hm k hkm => ?_)
      · rw [List.mem_cons, not_or]
        exact ⟨fun e => (a2 H hH).1 (e ▸ hkf), hap H hH hHs k hkf⟩
      · obtain ⟨g1, g2⟩ := h.refs_out hH hm hkm
        refine hk.block k g1 fun hx => g2 ?_
        unfold foot
        rw [List.mem_cons] at hx ⊢
        rcases hx with hx | hx
        · exact .inl hx
        · exact .inr (List.mem_cons.2 (.inr (List.mem_flatMap.2 ⟨G, hGm, hx⟩)))
  · rw [apart_iff]
    refine ⟨a1, fun H hH => ?_, ?_⟩
    · rcases hmem H hH with rfl | ⟨hH, hHs⟩
      · exact ⟨hG'ib, hG'M, hG'n⟩
      · exact a2 H hH
    · unfold swapG
      rw [List.pairwise_map]
      refine (List.Pairwise.and a3 hnm).imp_of_mem fun {A C} hA hC hAC => ?_
      obtain ⟨hAC, hne⟩ := hAC
      by_cases eA : A.name = s
      · by_cases eC : C.name = s
        · exact absurd (eA.trans eC.symm) hne
        · rw [if_pos eA, if_neg eC]
          intro x hx y hy e
          subst e
          rcases hf' x hx with h6 | h6
          · exact hap C hC eC x hy h6
          · have := ((h.grps C hC).foot_lt x hy).2; omega
      · by_cases eC : C.name = s
        · rw [if_neg eA, if_pos eC]
          intro x hx y hy e
          subst e
          rcases hf' x hy with h6 | h6
          · exact hap A hA eA x hx h6
          · have := ((h.grps A hA).foot_lt x hx).2; omega
        · rw [if_neg eA, if_neg eC]
          exact hAC
  · have e : (swapG gs s G').map (fun G => G.born) = gs.map (fun G => G.born) := by
      unfold swapG
      rw [List.map_map]
      refine List.map_congr_left fun H hH => ?_
      simp only [Function.comp]
      by_cases e : H.name = s
      · rw [if_pos e, h2]
        exact (congrArg MG.born (name_inj h.names H hH G hGm (e.trans hGs.symm))).symm
      · rw [if_neg e]
    rw [e]; exact h.born
  · intro H hH
    rcases hmem H hH with rfl | ⟨hH, hHs⟩
    · rw [h2]; exact h.young G hGm
    · exact h.young H hH
  · intro k hk'
    unfold foot at hk'
    simp only [List.mem_cons, List.mem_flatMap] at hk'
    rcases hk' with rfl | rfl | ⟨H, hH, hk'⟩
    · exact .inl (by simp [foot])
    · exact .inl (by simp [foot])
    · have hin : ∀ K ∈ gs, ∀ x ∈ K.foot, x ∈ foot ib M gs := fun K hK x hx => by
        unfold foot
        exact List.mem_cons.2 (.inr (List.mem_cons.2 (.inr (List.mem_flatMap.2 ⟨K, hK, hx⟩))))
      rcases hmem H hH with rfl | ⟨hH, hHs⟩
      · rcases hf' k hk' with h6 | h6
        · exact .inl (hin G hGm k h6)
        · exact .inr h6
      · exact .inl (hin H hH k hk')

theorem groupOf_none {gs : List MG} {s : ByteArray} (h : groupOf gs s = none) : ∀ G ∈ gs, G.name ≠ s := by
  intro G hG e
  unfold groupOf at h
  rw [List.find?_eq_none] at h
  exact h G hG (by simpa using e)
theorem linesIn_new {gs : List MG} {s : ByteArray} {G' : MG} (t : ByteArray) (hg : groupOf gs s = none) (hn : G'.name = s) : linesIn (gs ++ [G']) t = if t = s then G'.ms else linesIn gs t := by
  unfold linesIn groupOf at *
  rw [List.find?_append]
  by_cases h : t = s
  · rw [if_pos h, h, hg]
    simp [hn]
  · rw [if_neg h]
    cases hx : gs.find? (fun G => decide (G.name = t)) with
    | some K => rfl
    | none =>
      have : decide (G'.name = t) = false := decide_eq_false (fun e => h (e.symm.trans hn))
      simp [this]

/-- A group more. -/
theorem IdxAt.new {B : Nat} {w w' : World} {ib M mc : Nat} {gs : List MG} (h : IdxAt B w ib M gs mc) {s : ByteArray} {G' : MG} (hG : groupOf gs s = none) (h1 : G'.name = s) (h2 : G'.born = mc)
    (h5 : ∀ k ∈ G'.foot, w.heap.size ≤ k) (h6 : G'.foot.Nodup) (hG' : GrpAt B w' G') (hib : w'.heap[ib]? = some (.cells #[.map (some M), .int .i64 (total (gs ++ [G']))] 104 (0, 0)))
    (hM : MapAt ekS w' M ((gs ++ [G']).map MG.e) (mc + 1))
    (hk : Kept [ib, M] w w') (hfew : total (gs ++ [G']) ≤ 65536) : IdxAt B w' ib M (gs ++ [G']) (mc + 1) ∧ FootOk (foot ib M gs) (foot ib M (gs ++ [G'])) w := by
  obtain ⟨a1, a2, a3⟩ := apart_iff.1 h.apart
  have hno := groupOf_none hG
  have hib' := (h.foot_lt ib (by simp [foot])).2
  have hM' := (h.foot_lt M (by simp [foot])).2
  refine ⟨{ blk := hib, map := hM, names := ?_, grps := ?_, apart := ?_, born := ?_, young := ?_, few := hfew, ibB := h.ibB, MB := h.MB }, ?_⟩
  · rw [List.map_append]
    refine List.nodup_append.2 ⟨h.names, by simp, ?_⟩
    intro a ha b hb e
    obtain ⟨G, hG, rfl⟩ := List.mem_map.1 ha
    simp only [List.map_cons, List.map_nil, List.mem_singleton] at hb
    exact hno G hG (e.trans (hb.trans h1))
  · intro H hH
    rcases List.mem_append.1 hH with hH | hH
    · refine (h.grps H hH).keep (fun k hkf => hk.block k ((h.grps H hH).foot_lt k hkf).2 ?_) (fun m hm k hkm => ?_)
      · simp only [List.mem_cons, List.mem_nil_iff, or_false, not_or]
        exact ⟨fun e => (a2 H hH).1 (e ▸ hkf), fun e => (a2 H hH).2.1 (e ▸ hkf)⟩
      · obtain ⟨g1, g2⟩ := h.refs_out hH hm hkm
        refine hk.block k g1 fun hx => g2 ?_
        simp only [List.mem_cons, List.mem_nil_iff, or_false] at hx
        unfold foot
        rcases hx with rfl | rfl
        · simp
        · simp
    · cases List.mem_singleton.1 hH
      exact hG'
  · rw [apart_iff]
    refine ⟨a1, fun H hH => ?_, ?_⟩
    · rcases List.mem_append.1 hH with hH | hH
      · exact a2 H hH
      · cases List.mem_singleton.1 hH
        exact ⟨fun hx => by have := h5 ib hx; omega, fun hx => by have := h5 M hx; omega, h6⟩
    · rw [List.pairwise_append]
      refine ⟨a3, List.pairwise_singleton _ _, fun A hA C hC x hx y hy e => ?_⟩
      cases List.mem_singleton.1 hC
      have := ((h.grps A hA).foot_lt x hx).2
      have := h5 y hy
      omega
  · rw [List.map_append]
    refine List.nodup_append.2 ⟨h.born, by simp, ?_⟩
    intro a ha b hb e
    obtain ⟨G, hG, rfl⟩ := List.mem_map.1 ha
    simp only [List.map_cons, List.map_nil, List.mem_singleton] at hb
    have := h.young G hG
    omega
  · intro H hH
    rcases List.mem_append.1 hH with hH | hH
    · have := h.young H hH; omega
    · cases List.mem_singleton.1 hH
      omega
  · intro k hk'
    unfold foot at hk'
    simp only [List.mem_cons, List.mem_flatMap] at hk'
    rcases hk' with rfl | rfl | ⟨H, hH, hk'⟩
    · exact .inl (by simp [foot])
    · exact .inl (by simp [foot])
    · rcases List.mem_append.1 hH with hH | hH
      · left
        unfold foot
        exact List.mem_cons.2 (.inr (List.mem_cons.2 (.inr (List.mem_flatMap.2 ⟨H, hH, hk'⟩))))
      · cases List.mem_singleton.1 hH
        exact .inr (h5 k hk')
theorem total_new (gs : List MG) (G' : MG) : total (gs ++ [G']) = total gs + G'.ms.length := by
  unfold total
  simp

end Go.Proofs.YtdjaphcelpchaaaGreatDoor
