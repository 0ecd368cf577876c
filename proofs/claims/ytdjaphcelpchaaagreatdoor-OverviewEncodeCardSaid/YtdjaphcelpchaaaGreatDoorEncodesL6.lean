/- Parts of the proofs about bulletinlaw28: ParseOwn, Equal, EqualM, Groups2, Encode, RefEnc, TxtLaw, DecLaw. -/
import Derived.Test.YtdjaphcelpchaaaGreatDoorShelf
import Derived.Test.YtdjaphcelpchaaaGreatDoorK1
import Derived.Test.YtdjaphcelpchaaaGreatDoorK2
import Derived.Test.YtdjaphcelpchaaaGreatDoorShelf2
import Derived.Test.YtdjaphcelpchaaaGreatDoorEncodesL1
import Derived.Test.YtdjaphcelpchaaaGreatDoorEncodesL2
import Derived.Test.YtdjaphcelpchaaaGreatDoorEncodesL3
import Derived.Test.YtdjaphcelpchaaaGreatDoorEncodesL4
import Derived.Test.YtdjaphcelpchaaaGreatDoorEncodesL5
import Derived.Maps.RangeRun

namespace Go.Proofs.YtdjaphcelpchaaaGreatDoor
open Go Go.RowKit Go.Proofs

theorem IdsOwn.grown {B : Nat} {w w' : World} {v : Value} {ids : List Id32} {lb : Nat} (h : IdsOwn B w v ids) (hg : w.grownBy w' (some lb)) (hne : v.ownBlock ≠ some lb) : IdsOwn B w' v ids :=
  h.block fun k hk => hg.block k (h.lt hk).2 (fun e => hne (hk.trans e))
theorem idsOwn_nil (B : Nat) (w : World) : IdsOwn B w (.slice none 0 0) [] := World.ownsRow_nil _ _ _ _

section
attribute [local go_sem ↓] ex_load_id ex_store_id ex_alloc_id ex_build_id ex_bs_id

attribute [local go_sem] ld_id st_id bs_id guard_id okCells_drew rdCells_drew okCells_drewN rdCells_drewN rowOk_drew rowOk_cells okCells_cells rdCells_cells okArr_id rdArr_id setRow_drew setRow_new setRow_past fits_id encId_length

set_option maxRecDepth 100000 in
set_option maxHeartbeats 2000000 in
theorem setRefs_own_some (lb t : Nat) (cs : Array Value) (p : ByteArray) (w : World) (hblk : w.heap[lb]? = some (.cells cs t (0, 0))) (h36 : cs[36]? = some (.slice none 0 0)) (hG : Gl w) (hp : p.size < 4294967281) (hne : p.size ≠ 0) :
    Calls Tryz.prog 98 #[.pointer (some ⟨lb, 0, none⟩), .string p] w fun r w' => r = .returned (.int .i64 (refsPart p)) ∧ w.grownBy w' (some lb) ∧ ∃ v, w'.heap[lb]? = some (.cells (cs.setIfInBounds 36 v) t (0, 0)) ∧ v.oneCell' = true ∧ v.ownBlock ≠ some lb ∧ (refsPart p = 0 → IdsOwn 0 w' v (refIds p)) := by
  have hoff : 36 < cs.size := (Array.getElem?_eq_some_iff.1 h36).1
  have hlb : lb < w.heap.size := (Array.getElem?_eq_some_iff.1 hblk).1
  obtain ⟨i0, hi, hz0, hz1, hz2⟩ := info_parts Tryz.info_id
  have hT : refTexts p = splitL 44 p.data.toList := by unfold refTexts; rw [if_neg hne]
  have hlen : (splitS 44 p).length = (refTexts p).length := by rw [hT]; simp [splitS]
  have hlen2 := (splitS_len 44 p).2
  have hpe : p.toList.isEmpty = false := by
    rw [ByteArray.toList_eq, List.isEmpty_eq_false_iff, ← List.length_pos_iff, size_list]; omega
  have HPE := Lib.hid hne
  obtain ⟨T, hTT⟩ : ∃ T, T = refTexts p := ⟨_, rfl⟩
  rw [← hTT] at hlen
  obtain ⟨n, hn⟩ : ∃ n, n = (splitS 44 p).length := ⟨_, rfl⟩
  have HS := Lib.hid (show splitS 44 p = T.map str by rw [hTT, hT]; rfl)
  have HT := Lib.hid hTT
  have HN := Lib.hid hn
  have HNT := Lib.hid (hn.trans hlen)
  have hn32 : n ≤ 4294967281 := by omega
  have HBLK := Lib.hid hblk
  have H36 := Lib.hid h36
  clear hT hTT hblk h36 hlen hlen2 hne
  go_enter Tryz.func98, Tryz.ntmps98
  go_wp2_with fail
  refine (split_any 44 p w hG hp).mono ?_
  rintro r w1 ⟨rfl, hw1⟩
  rw [HN.out.symm]
  have hrow : StrRow w1 w.heap.size 0 (T.map str) := by rw [← hw1, ← HS.out]; exact split_row _ _ _
  have hb1 : Below w.heap.size w w1 := by rw [← hw1]; exact (Below.refl _ _).alloc (Nat.le_refl _) _
  have hblk1 : w1.heap[lb]? = some (.cells cs t (0, 0)) := (hb1.block lb hlb).trans HBLK.out
  have hs1 : w.heap.size < w1.heap.size := by rw [← hw1]; simp
  have hset0 : cs.setIfInBounds 36 (.slice none 0 0) = cs := by
    obtain ⟨h1, h2⟩ := Array.getElem?_eq_some_iff.1 H36.out
    apply Array.ext_getElem?
    intro j
    rw [Array.getElem?_setIfInBounds]
    split
    · rename_i e; subst e; exact H36.out.symm
    · rfl
  have HW1 := Lib.hid hw1
  clear hw1 hn
  go_wp2
  go_loopw [14] (fun i wr => ∃ k v, k ≤ n ∧ i = .int .i64 (k : Nat) ∧ RefsLoop w1 wr lb 36 t cs T k v ∧ (T.take k).all idOk = true) (fun i _ => n - (intOf i).toNat)
  case atStart => exact ⟨0, .slice none 0 0, by omega, rfl, ⟨by rw [hset0]; exact hblk1, World.ownsRow_nil _ _ _ _, grown_refl _ _⟩, by simp⟩
  case round =>
    obtain ⟨k, v, hk, rfl, hL, hall⟩ := hrel
    have hlb1 : lb < w1.heap.size := by omega
    by_cases hlt : k < n
    · have hltz : (k : Int) < (n : Int) := by omega
      have hkT : k < T.length := by rw [← HNT.out]; exact hlt
      have htext : wr.cell? ⟨w.heap.size, k, none⟩ = some (.string (str T[k])) := by
        have h1 := hrow k (str T[k]) (by simp [hkT])
        rw [Nat.zero_add] at h1
        rw [← h1]
        unfold World.cell?
        rw [hL.grown.block w.heap.size hs1 (by simp; omega)]
      obtain ⟨X, hX⟩ : ∃ X, X = str T[k] := ⟨_, rfl⟩
      rw [← hX] at htext
      have hXs : X.size ≤ maxLen := by
        have h1 := splitL_part 44 p.data.toList T[k] (by
          have h0 : T[k] ∈ T := List.getElem_mem hkT
          have h2 : T = splitL 44 p.data.toList := by rw [HT.out, refTexts, if_neg HPE.out]
          exact h2 ▸ h0)
        rw [size_list] at h1
        rw [hX, str_size, maxLen]; omega
      have HX := Lib.hid hX
      clear hX
      have hcv := hL.cell hoff
      have hfv : wr.frozen? ⟨lb, 36, none⟩ = false := frozen_of_row wr lb 36 _ _ hL.blk
      go_wp2_with fail
      refine (parseId_any X wr hXs).mono ?_
      rintro r w2 ⟨rfl, hb2⟩
      by_cases hok : idOk X.data.toList = true
      · rw [hok]
        have hbz : ∀ b, b < wr.heap.size → (w2.alloc (.cells (encId (idVal X.data.toList)).toArray 23)).drew.heap[b]? = wr.heap[b]? := fun b hb => by
          show (w2.alloc _).heap[b]? = _
          rw [heap_alloc_old _ _ (Nat.lt_of_lt_of_le hb hb2.size), hb2.block b hb]
        have hlbr : lb < wr.heap.size := (Array.getElem?_eq_some_iff.1 hL.blk).1
        have hbase : (w2.alloc (.cells (encId (idVal X.data.toList)).toArray 23)).drew.cell? ⟨lb, 36, none⟩ = some v ∧ okCells (w2.alloc (.cells (encId (idVal X.data.toList)).toArray 23)).drew ⟨w2.heap.size, 0, none⟩ 32 = true ∧ rdCells (w2.alloc (.cells (encId (idVal X.data.toList)).toArray 23)).drew ⟨w2.heap.size, 0, none⟩ 32 = (encId (idVal X.data.toList)).toArray := by
          refine ⟨?_, ok_new_id _ _ _, rd_new_id _ _ _⟩
          rw [← hcv]
          unfold World.cell?
          rw [hbz lb hlbr]
        haveI : Nonempty (RefC lb 36 w2.heap.size v (idVal X.data.toList)) := ⟨⟨_, hbase⟩⟩
        have hz1' : ∀ z : RefC lb 36 w2.heap.size v (idVal X.data.toList), z.1.cell? ⟨lb, 36, none⟩ = some v := fun z => z.2.1
        have hz2' : ∀ z : RefC lb 36 w2.heap.size v (idVal X.data.toList), okCells z.1 ⟨w2.heap.size, 0, none⟩ 32 = true := fun z => z.2.2.1
        have hz3' : ∀ z : RefC lb 36 w2.heap.size v (idVal X.data.toList), rdCells z.1 ⟨w2.heap.size, 0, none⟩ 32 = (encId (idVal X.data.toList)).toArray := fun z => z.2.2.2
        go_wp2_with fail
        refine wp_region_mix0 [0, 1, 2, 3, 4, 5] [6, 7, 8, 9, 10] (fun w' => ∃ z : RefC lb 36 w2.heap.size v (idVal X.data.toList), w' = z.1) (by kernel_rfl) (by kernel_rfl) (by kernel_rfl) ⟨⟨_, hbase⟩, rfl⟩ ?_
        simp only [opsAt, List.map_cons, List.map_nil, Array.getD_eq_getD_getElem?, List.getElem?_toArray, List.getElem?_cons_zero, List.getElem?_cons_succ, Option.getD_some]
        repeat (go_big_quiet_step (fail))
        refine wpQuiet_nil ?_
        generalize hW0 : (w2.alloc (.cells (encId (idVal X.data.toList)).toArray 23)).drew = W at hbz hbase ⊢
        have hW := hW0.symm
        clear hW0
        refine wpR_cons true rfl (by kernel_rfl) ?_
        refine wpList_buildSlice rfl 24 23 1 _ rfl (encId (idVal X.data.toList)).toArray i0 _ Tryz.underlying24 hi hz0 (by rw [hz1]; decide) (by rw [hz1]; decide) (by rw [hz1]; simp only [List.map_toArray, List.map_cons, List.map_nil]; refine fill_one _ _ 32 (encId_size _) ?_; rw [Array.size_map, Array.size_range]) ?_
        clear hz1' hz2' hz3'
        go_wp2_with fail
        have hWs : wr.heap.size < W.heap.size := by have := hb2.size; rw [hW]; simp [World.drew]; omega
        have hownW : W.ownsRow w1.heap.size 23 32 v k (flatIds ((T.map idVal).take k)) := by rw [hW]; exact ((ownsRow_below hL.own hb2).alloc _).drew
        have hgW : wr.grownBy W none := by
          refine ⟨?_, ?_, ?_, by omega, fun b hb _ => hbz b hb⟩
          · rw [hW]; exact hb2.os
          · rw [hW]; exact hb2.tape
          · rw [hW]; exact hb2.output
        have hownA := hownW.alloc (.cells (encId (idVal X.data.toList)).toArray 23)
        have HW := Lib.hid hW
        clear hW
        refine ⟨fun _ => RefC.same hbase (heap_alloc_old _ _ (show lb < W.heap.size by omega)) (heap_alloc_old _ _ (show w2.heap.size < W.heap.size by rw [HW.out]; simp [World.drew])), wpR_cons true rfl (by kernel_rfl) ?_⟩
        have hW1 : w1.heap.size ≤ W.heap.size := by have := hL.grown.size; omega
        refine wpList_append_own _ rfl (.tmp 29) (.tmp 31) 24 rfl w1.heap.size 23 i0 (.agg (encId zeroId).toArray) 32 32 Tryz.underlying24 hi hz0 hz1 hz2 (encId_size zeroId) (by decide) _ _ _ rfl hownA ⟨W.heap.size, 0, none⟩ 1 1 (encId (idVal X.data.toList)) rfl (encId_length _) ?c1 ?c2 ?c3 ?c4 ?c5 ?_
        case c1 =>
          intro j u hj
          rw [Addr.add_lit, Nat.zero_add, cells_new, List.getElem?_toArray]; exact hj
        case c2 => exact encId_oneCell _
        case c3 => unfold maxLen; omega
        case c4 => omega
        case c5 => simp; omega
        intro v' w3 hown' hgrow _
        have hne : v.ownBlock ≠ some lb := fun e => by have := (hL.own.lt lb e).1; omega
        have hlt' := Lib.hid hown'.lt
        obtain ⟨g', cap', hv'⟩ : ∃ g' cap', v' = .slice (some ⟨g', 0, none⟩) (k + 1) cap' := by
          rcases hown'.2 with ⟨_, h0⟩ | ⟨g', cap', _, e, _⟩
          · omega
          · exact ⟨g', cap', e⟩
        subst hv'
        have hblk3 : w3.heap[lb]? = some (.cells (cs.setIfInBounds 36 v) t (0, 0)) := by
          rw [hgrow.block lb (by simp; omega) (fun e => hne e.symm), heap_alloc_old _ _ (by omega), hbz lb hlbr]
          exact hL.blk
        have hc3 : w3.cell? ⟨lb, 36, none⟩ = some v := by rw [cell_of_row w3 lb 36 _ _ _ hblk3]; simp [hoff]
        have hf3 : w3.frozen? ⟨lb, 36, none⟩ = false := frozen_of_row w3 lb 36 _ _ hblk3
        have hL' : RefsLoop w1 (w3.setCell ⟨lb, 36, none⟩ (.slice (some ⟨g', 0, none⟩) (k + 1) cap')) lb 36 t cs T (k + 1) (.slice (some ⟨g', 0, none⟩) (k + 1) cap') := by
          refine ⟨?_, ?_, ?_⟩
          · rw [heap_setCell_same w3 lb 36 _ _ _ hblk3, Array.setIfInBounds_setIfInBounds]
          · have hfl : flatIds ((T.map idVal).take (k + 1)) = flatIds ((T.map idVal).take k) ++ encId (idVal X.data.toList) := by
              rw [take_texts hkT, flat_snoc, HX.out]; rfl
            rw [hfl]
            exact hown'.kept (grown_set w3 lb 36 _) (Or.inr fun e => by have := (hlt'.out lb e).1; omega)
          · have hsz := hgrow.size
            have hg1 := hL.grown
            refine ⟨?_, ?_, ?_, ?_, fun b hb hnb => ?_⟩
            · exact hgrow.os.trans (hgW.os.trans hg1.os)
            · exact hgrow.tape.trans (hgW.tape.trans hg1.tape)
            · exact hgrow.output.trans (hgW.output.trans hg1.output)
            · simp [World.setCell] at hsz ⊢; omega
            · rw [heap_setCell_other w3 ⟨lb, 36, none⟩ b _ (fun e => hnb (by rw [e])), hgrow.block b (by simp; omega) (fun e => by have := (hL.own.lt b e.symm).1; omega), heap_alloc_old _ _ (by omega), hbz b (by have := hg1.size; omega)]
              exact hg1.block b hb hnb
        have HL' := Lib.hid hL'
        have HAL := Lib.hid (all_take hkT hall (by have := HX.out ▸ hok; exact this))
        have hC3 : ∃ z : RefC lb 36 w2.heap.size v (idVal X.data.toList), w3 = z.1 := by
          have hWw2 : w2.heap.size < W.heap.size := by rw [HW.out]; simp [World.drew]
          refine RefC.same hbase ?_ ?_
          · rw [hblk3, hbz lb hlbr, hL.blk]
          · rw [hgrow.block w2.heap.size (by simp; omega) (fun e => by have := (hL.own.lt _ e.symm).2; have := hb2.size; omega), heap_alloc_old _ _ hWw2]
        have HC3 := Lib.hid hC3
        clear hC3 hL' hown' hgrow hownA hownW hgW hbase hbz hall hL hblk3
        go_wp2_with fail
        refine ⟨fun _ => HC3.out, wpR_list [8, 9, 10] _ _ (by kernel_rfl) ?_⟩
        simp only [opsAt, List.map_cons, List.map_nil, Array.getD_eq_getD_getElem?, List.getElem?_toArray, List.getElem?_cons_zero, List.getElem?_cons_succ, Option.getD_some]
        go_wp2
        refine NoPanic.normal ?_
        go_wp2
        go_roundw
        case rel => exact ⟨k + 1, _, by omega, by go_num, HL'.out, HAL.out⟩
        case measure => simp [intOf]; omega
      · have hok' : idOk X.data.toList = false := by simpa using hok
        rw [hok']
        go_wp2
        go_ret
        have hblkf : (w2.alloc (.cells (encId (idVal X.data.toList)).toArray 23)).heap[lb]? = some (.cells (cs.setIfInBounds 36 v) t (0, 0)) := by
          have := (Array.getElem?_eq_some_iff.1 hL.blk).1
          rw [heap_alloc_old _ _ (Nat.lt_of_lt_of_le this hb2.size), hb2.block lb this]; exact hL.blk
        have hrp : refsPart p = 3 := by
          unfold refsPart
          rw [← HT.out, not_all hkT (by have := HX.out ▸ hok'; exact this)]; rfl
        refine ⟨by rw [hrp]; rfl, ?_, v, hblkf, own_one hL.own, fun e => by have := (hL.own.lt lb e).1; omega, fun e => by rw [hrp] at e; cases e⟩
        exact grown_trans (grown_below hb1 _) (grown_trans hL.grown (grown_below (hb2.alloc hb2.size _) _))
    · obtain rfl : k = n := by omega
      have hcv := hL.cell hoff
      have hids := idsAt_own (w := wr) (B := w1.heap.size) (v := v) (ids := (T.map idVal).take k) (by
        have : ((T.map idVal).take k).length = k := by rw [List.length_take, List.length_map, ← HNT.out]; omega
        rw [this]; exact hL.own)
      have hown : IdsOwn w1.heap.size wr v ((T.map idVal).take k) := by
        have : ((T.map idVal).take k).length = k := by rw [List.length_take, List.length_map, ← HNT.out]; omega
        unfold IdsOwn
        rw [this]; exact hL.own
      go_wp2_with fail
      refine (checkReferences_any v _ wr hids (by rw [List.length_take, List.length_map, maxLen]; omega)).mono ?_
      rintro r w2 ⟨rfl, hb2⟩
      go_wp2
      go_ret
      have hblkf : w2.heap[lb]? = some (.cells (cs.setIfInBounds 36 v) t (0, 0)) := (hb2.block lb (Array.getElem?_eq_some_iff.1 hL.blk).1).trans hL.blk
      have hrp : refsPart p = refsErr ((T.map idVal).take k) := by
        have ha : T.all idOk = true := by rw [← hall, List.take_of_length_le (by rw [← HNT.out]; omega)]
        unfold refsPart refIds
        rw [← HT.out, ha, List.take_of_length_le (by rw [List.length_map, ← HNT.out]; omega)]; rfl
      have hri : refIds p = (T.map idVal).take k := by
        unfold refIds
        rw [← HT.out, List.take_of_length_le (by rw [List.length_map, ← HNT.out]; omega)]
      refine ⟨by rw [hrp]; rfl, ?_, v, hblkf, own_one hL.own, fun e => by have := (hL.own.lt lb e).1; omega, fun _ => by rw [hri]; exact (hown.below hb2).mono (Nat.zero_le _)⟩
      exact grown_trans (grown_below hb1 _) (grown_trans hL.grown (grown_below hb2 _))

set_option maxHeartbeats 1000000 in
theorem setRefs_own (lb t : Nat) (cs : Array Value) (p : ByteArray) (w : World) (hblk : w.heap[lb]? = some (.cells cs t (0, 0))) (h36 : cs[36]? = some (.slice none 0 0)) (hG : Gl w) (hp : p.size < 4294967281) :
    Calls Tryz.prog 98 #[.pointer (some ⟨lb, 0, none⟩), .string p] w fun r w' => r = .returned (.int .i64 (refsPart p)) ∧ w.grownBy w' (some lb) ∧ ∃ v, w'.heap[lb]? = some (.cells (cs.setIfInBounds 36 v) t (0, 0)) ∧ v.oneCell' = true ∧ v.ownBlock ≠ some lb ∧ (refsPart p = 0 → IdsOwn 0 w' v (refIds p)) := by
  by_cases hne : p.size = 0
  · have hpe : p.toList.isEmpty = true := by
      rw [ByteArray.toList_eq, List.isEmpty_iff, ← List.length_eq_zero_iff, size_list]; exact hne
    have HT := Lib.hid (show refTexts p = [] from if_pos hne)
    have HBLK := Lib.hid hblk
    have H36 := Lib.hid h36
    clear hne hblk h36
    go_enter Tryz.func98, Tryz.ntmps98
    go_wp2
    go_ret
    have hrp : refsPart p = 0 := by unfold refsPart refIds; rw [HT.out]; rfl
    have hset0 : cs.setIfInBounds 36 (.slice none 0 0) = cs := by
      apply Array.ext_getElem?
      intro j
      rw [Array.getElem?_setIfInBounds]
      split
      · rename_i e; subst e; rw [if_pos (Array.getElem?_eq_some_iff.1 H36.out).1]; exact H36.out.symm
      · rfl
    refine ⟨by rw [hrp]; rfl, grown_refl _ _, .slice none 0 0, by rw [hset0]; exact HBLK.out, rfl, by simp [Value.ownBlock], fun _ => ?_⟩
    have hri : refIds p = [] := by unfold refIds; rw [HT.out]; rfl
    rw [hri]
    exact idsOwn_nil _ _
  · exact setRefs_own_some lb t cs p w hblk h36 hG hp hne
end

/-- What set leaves, with owned references. -/
def SetPostO (g : GLine) (i : Nat) (p : ByteArray) (lb : Nat) (w w' : World) : Prop :=
  w.grownBy w' (some lb) ∧ LineBlk w' lb ∧ (partErr i p = 0 → ∃ v, LineVar w' lb (setG g i p v) ∧ (i = 5 → v.oneCell' = true ∧ v.ownBlock ≠ some lb ∧ IdsOwn 0 w' v (refIds p)))
section

attribute [local go_sem ↓] ex_load_id ex_store_id ex_alloc_id ex_build_id

attribute [local go_sem] ld_id st_id guard_id okCells_drew rdCells_drew okCells_drewN rdCells_drewN rowOk_drew rowOk_cells okCells_cells rdCells_cells okArr_id rdArr_id setRow_drew setRow_new setRow_past fits_id encId_length

set_option maxHeartbeats 1000000 in
theorem set5o (lb : Nat) (g : GLine) (p : ByteArray) (w : World) (hv : LineVar w lb g) (hr : g.refs = .slice none 0 0) (hG : Gl w) (hs : p.size < 4294967281) :
    Calls Tryz.prog 60 #[.pointer (some ⟨lb, 0, none⟩), .int .i64 5, .string p] w fun r w' => r = .returned (.int .i64 (partErr 5 p)) ∧ SetPostO g 5 p lb w w' := by
  go_enter Tryz.func60, Tryz.ntmps60
  go_wp2_with fail
  refine (setRefs_own lb 34 (lineCells g) p w hv (by rw [lc36, hr]) hG hs).mono ?_
  rintro r w' ⟨rfl, hg, v, hb, h1, h2, h3⟩
  rw [set_refs] at hb
  clear hv hr hG
  go_wp2
  go_ret
  exact ⟨rfl, hg, LineVar.blk hb, fun e => ⟨v, hb, fun _ => ⟨h1, h2, h3 e⟩⟩⟩
end

theorem set_own (i lb : Nat) (g : GLine) (p : ByteArray) (w : World) (hi : i < 7) (hv : LineVar w lb g) (hr : i = 5 → g.refs = .slice none 0 0) (hG : Gl w) (hs : p.size < 4294967281) :
    Calls Tryz.prog 60 #[.pointer (some ⟨lb, 0, none⟩), .int .i64 i, .string p] w fun r w' => r = .returned (.int .i64 (partErr i p)) ∧ SetPostO g i p lb w w' := by
  by_cases h5 : i = 5
  · subst h5
    exact set5o lb g p w hv (hr rfl) hG hs
  · refine (set_any i lb g p w hi hv hr hG hs).mono ?_
    rintro r w' ⟨e, h1, h2, h3⟩
    refine ⟨e, h1, h2, fun he => ?_⟩
    obtain ⟨v, hv, _⟩ := h3 he
    exact ⟨v, hv, fun e => absurd e h5⟩
section

attribute [local go_sem ↓] ex_load_id ex_store_id ex_load_line ex_store_line ex_alloc_line ex_build_line

attribute [local go_sem] ld_id st_id ld_line st_line guard_id okCells_drew rdCells_drew okCells_drewN rdCells_drewN rowOk_drew rowOk_cells okCells_cells rdCells_cells setRow_drew setRow_new setRow_past

structure ParseLoopO (w W1 wr : World) (T : List ByteArray) (k : Nat) (v : Value) : Prop where
  var : LineVar wr w.heap.size (gAt T v k)
  grown : W1.grownBy wr (some w.heap.size)
  ids : 5 < k → v.oneCell' = true ∧ v.ownBlock ≠ some w.heap.size ∧ IdsOwn 0 wr v (refIds (nth T 5))
  ok : ∀ j, j < k → partErr j (nth T j) = 0

theorem ParseLoopO.next {w W1 wr w' : World} {T : List ByteArray} {k : Nat} {v : Value} (h : ParseLoopO w W1 wr T k v) (hp : SetPostO (gAt T v k) k (nth T k) w.heap.size wr w') (he : partErr k (nth T k) = 0) : ∃ v', ParseLoopO w W1 w' T (k + 1) v' := by
  obtain ⟨hg, _, hy⟩ := hp
  obtain ⟨v', hv', h5⟩ := hy he
  have hok : ∀ j, j < k + 1 → partErr j (nth T j) = 0 := fun j hj => by
    by_cases e : j = k
    · rw [e]; exact he
    · exact h.ok j (by omega)
  by_cases hk : k = 5
  · subst hk
    refine ⟨v', ?_, grown_trans h.grown hg, fun _ => h5 rfl, hok⟩
    rw [gAt, gAt_indep T v' v 5 (Nat.le_refl _)]
    exact hv'
  · by_cases hlt : k < 5
    · refine ⟨v', ?_, grown_trans h.grown hg, fun h6 => by omega, hok⟩
      rw [gAt, gAt_indep T v' v k (by omega)]
      exact hv'
    · refine ⟨v, ?_, grown_trans h.grown hg, fun _ => ?_, hok⟩
      · rw [gAt]
        have e : setG (gAt T v k) k (nth T k) v = setG (gAt T v k) k (nth T k) v' := by
          unfold setG
          split <;> first | rfl | omega
        rw [e]; exact hv'
      · obtain ⟨h1, h2, h3⟩ := h.ids (by omega)
        exact ⟨h1, h2, h3.grown hg h2⟩

def ParsePostO (s : ByteArray) (w : World) (r : Ending) (w' : World) : Prop := ∃ G ids, r = .returned (.tuple #[.agg (lineCells G), .int .i64 (parseOut s).2, .int .i64 (parseOut s).1]) ∧ ParsedIs s G ids ∧ IdsOwn 0 w' G.refs ids ∧ refsOne G ∧ Below w.heap.size w w'
theorem parse_bado {s : ByteArray} {w w' : World} {e o : Int} (he : parseOut s = (e, o)) (hne : e ≠ 0) (hb : Below w.heap.size w w') : ParsePostO s w (.returned (.tuple #[.agg (lineCells zeroLine), .int .i64 o, .int .i64 e])) w' :=
  ⟨zeroLine, [], by rw [he], ⟨fun _ => ⟨rfl, rfl⟩, fun h => absurd (by rw [he] at h; exact h) hne⟩, idsOwn_nil 0 w', rfl, hb⟩
theorem parse_goodo {s : ByteArray} {w W1 wr : World} {v : Value} (h : ParseLoopO w W1 wr (splitS 9 s) 7 v) (hlen : (splitS 9 s).length = 7) (hb1 : Below w.heap.size w W1) :
    ParsePostO s w (.returned (.tuple #[.agg (lineCells (gAt (splitS 9 s) v 7)), .int .i64 0, .int .i64 0])) (wr.setRow w.heap.size (lineCells (gAt (splitS 9 s) v 7))) := by
  have he : parseOut s = (0, 0) := by
    unfold parseOut
    rw [if_neg (by omega), if_neg (by omega), firstBad_none h.ok]
  obtain ⟨h1, h2, h3⟩ := h.ids (by omega)
  refine ⟨_, refIds (nth (splitS 9 s) 5), by rw [he], ⟨fun e => absurd (by rw [he]) e, fun _ => ⟨v, rfl, rfl⟩⟩, h3.grown (grown_row _ _ _) h2, gAt_one _ _ h1, ?_⟩
  exact below_grown hb1 (grown_trans h.grown (grown_row _ _ _)) hb1.size (Nat.le_refl _)

set_option maxRecDepth 100000 in
set_option maxHeartbeats 2000000 in
theorem parse_own (s : ByteArray) (w : World) (hG : Gl w) (hs : s.size < 4294967281) :
    Calls Tryz.prog 19 #[.string s] w (ParsePostO s w) := by
  obtain ⟨T, hT⟩ : ∃ T, T = splitS 9 s := ⟨_, rfl⟩
  have hlen := splitS_len 9 s
  rw [← hT] at hlen
  obtain ⟨n, hn⟩ : ∃ n, n = T.length := ⟨_, rfl⟩
  rw [← hn] at hlen
  have HT := Lib.hid hT
  have HN := Lib.hid hn
  have hsz : ∀ k, k < n → (nth T k).size ≤ s.size := fun k hk => by
    have h1 : nth T k ∈ T := by
      have := nth_at T k (by omega)
      exact List.mem_of_getElem? this
    have e0 : T = (splitL 9 s.data.toList).map str := hT
    generalize nth T k = y at h1 ⊢
    rw [e0, List.mem_map] at h1
    obtain ⟨x, hx, e⟩ := h1
    have := splitL_part 9 s.data.toList x hx
    rw [size_list] at this
    rw [← e, str_size]; exact this
  have HSZ := Lib.hid hsz
  have hfz : fitsRow 38 (lineCells zeroLine) = true := fits_line rfl
  clear hT hn hsz
  go_enter Tryz.func19, Tryz.ntmps19
  go_wp2_with fail
  refine (split_any 9 s _ (hG.later ((Below.refl _ _).alloc (Nat.le_refl _) _)) hs).mono ?_
  rintro r W1 ⟨rfl, hW1⟩
  rw [← HT.out] at hW1
  rw [← HT.out, ← HN.out]
  have hrow : StrRow W1 (w.heap.size + 1) 0 T := by
    rw [← hW1]
    have := split_row (w.alloc (.cells (lineCells zeroLine) 34)) 9 T
    simpa using this
  have hvar1 : LineVar W1 w.heap.size zeroLine := by
    unfold LineVar
    rw [← hW1, heap_alloc_old _ _ (by simp), heap_alloc_new]
  have hb1 : Below w.heap.size w W1 := by rw [← hW1]; exact ((Below.refl _ _).alloc (Nat.le_refl _) _).alloc (by simp) _
  have hs1 : W1.heap.size = w.heap.size + 2 := by rw [← hW1]; simp
  have hro1 := hvar1.row
  have HV1 := Lib.hid hvar1
  clear hW1 hvar1
  by_cases hlow : n < 7
  · have hlowz : (n : Int) < 7 := by omega
    have HPO := Lib.hid (show parseOut s = (4, (s.size : Int)) by unfold parseOut; rw [← HT.out, ← HN.out, if_pos hlow])
    go_wp2
    refine bodyPost_ret (v := .tuple #[.agg (lineCells zeroLine), .int .i64 (s.size : Int), .int .i64 4]) ?_ rfl (parse_bado HPO.out (by decide) (below_grown hb1 (grown_row _ _ _) (by omega) (Nat.le_refl _)))
    exact results_agg3 rfl Tryz.isAgg34 Tryz.sizeOf34 _ _ ⟨w.heap.size, 0, none⟩ _ _ _ rfl rfl rfl (HV1.out.blk.setRow.rd.1) (HV1.out.blk.setRow.rd.2)
  · have hlowz : ¬ (n : Int) < 7 := by omega
    go_wp2
    go_loop [3, 21] (fun o i => ∃ k : Nat, k ≤ 7 ∧ k ≤ n ∧ i = .int .i64 k ∧ o = .int .i64 (offs T k : Nat)) (fun _ i => 8 - (intOf i).toNat)
    case atStart => exact ⟨0, by omega, by omega, rfl, rfl⟩
    case round =>
      obtain ⟨k, hk7, hkn, rfl, rfl⟩ := hrel
      have hoff := offs_le T 4294967296 k (by rw [← HN.out]; exact hkn) (fun j hj => by have := HSZ.out j (by omega); omega)
      by_cases hlt : k < n
      · have hltz : (k : Int) < (n : Int) := by omega
        have htext : W1.cell? ⟨w.heap.size + 1, k, none⟩ = some (.string (nth T k)) := by
          have := hrow k _ (nth_at T k (by rw [← HN.out]; exact hlt))
          rwa [Nat.zero_add] at this
        by_cases h7 : k = 7
        · subst h7
          rw [show ((7 : Nat) : Int) = 7 from rfl] at *
          have HPO := Lib.hid (show parseOut s = (5, (offs T 7 : Int)) by unfold parseOut; rw [← HT.out, ← HN.out, if_neg hlow, if_pos hlt])
          go_wp2
          refine bodyPost_ret (v := .tuple #[.agg (lineCells zeroLine), .int .i64 (offs T 7 : Int), .int .i64 5]) ?_ rfl (parse_bado HPO.out (by decide) (below_grown hb1 (grown_row _ _ _) (by omega) (Nat.le_refl _)))
          exact results_agg3 rfl Tryz.isAgg34 Tryz.sizeOf34 _ _ ⟨w.heap.size, 0, none⟩ _ _ _ rfl rfl rfl (HV1.out.blk.setRow.rd.1) (HV1.out.blk.setRow.rd.2)
        · have h7z : ((k : Int) == 7) = false := by rw [beq_eq_false_iff_ne]; omega
          have hsk := HSZ.out k hlt
          have HO := Lib.hid (offs_succ T k (by rw [← HN.out]; exact hlt))
          go_wp2
          go_round
          case rel => exact ⟨k + 1, by omega, by omega, by go_num, by rw [HO.out]; go_num⟩
          case measure => simp [intOf]; omega
      · obtain rfl : k = n := by omega
        obtain rfl : k = 7 := by omega
        go_wp2
        go_loopw [3, 38] (fun o i wr => ∃ (k : Nat) (v : Value), k ≤ 7 ∧ i = .int .i64 k ∧ o = .int .i64 (offs T k : Nat) ∧ ParseLoopO w W1 wr T k v) (fun _ i _ => 7 - (intOf i).toNat)
        case atStart => exact ⟨0, undef, by omega, rfl, rfl, HV1.out, grown_refl _ _, fun h => by omega, fun j hj => by omega⟩
        case round =>
          obtain ⟨k, v, hk, rfl, rfl, hL⟩ := hrel
          have hoff2 := offs_le T 4294967296 k (by rw [← HN.out]; exact hk) (fun j hj => by have := HSZ.out j (by omega); omega)
          have hbr : Below w.heap.size w wr := below_grown hb1 hL.grown (by omega) (Nat.le_refl _)
          by_cases hlt : k < 7
          · have hltz : (k : Int) < 7 := by omega
            have htext : wr.cell? ⟨w.heap.size + 1, k, none⟩ = some (.string (nth T k)) := by
              have := hrow k _ (nth_at T k (by rw [← HN.out]; exact hlt))
              rw [Nat.zero_add] at this
              rw [← this]
              unfold World.cell?
              rw [hL.grown.block (w.heap.size + 1) (by omega) (by simp)]
            have hsk := HSZ.out k hlt
            have HO := Lib.hid (offs_succ T k (by rw [← HN.out]; exact hlt))
            go_wp2_with fail
            refine (set_own k w.heap.size (gAt T v k) (nth T k) wr hlt hL.var (fun e => by subst e; exact gAt_refs T v) (hG.below hbr hG.size) (by omega)).mono ?_
            rintro r w2 ⟨rfl, hpost⟩
            by_cases he : partErr k (nth T k) = 0
            · have hnext := Lib.hid (hL.next hpost he)
              rw [he]
              clear hL hpost
              go_wp2
              go_roundw
              case rel =>
                obtain ⟨v', hv'⟩ := hnext.out
                exact ⟨k + 1, v', by omega, by go_num, by rw [HO.out]; go_num, hv'⟩
              case measure => simp [intOf]; omega
            · have hb2 := Lib.hid (below_grown hb1 (grown_trans hL.grown hpost.1) (by omega) (Nat.le_refl _))
              have HB := Lib.hid hpost.2.1
              have hro2 := hpost.2.1.row
              have HPO := Lib.hid (show parseOut s = (partErr k (nth T k), (offs T k : Int)) by
                unfold parseOut
                rw [← HT.out, ← HN.out, if_neg (by omega), if_neg (by omega), firstBad_some hlt he hL.ok])
              have HE := Lib.hid he
              generalize partErr k (nth T k) = e at he HPO HE ⊢
              have hez : (e == 0) = false := by rw [beq_eq_false_iff_ne]; exact he
              clear hL hpost
              go_wp2
              refine bodyPost_ret (v := .tuple #[.agg (lineCells zeroLine), .int .i64 (offs T k : Int), .int .i64 e]) ?_ rfl (parse_bado HPO.out HE.out (below_grown hb2.out (grown_row _ _ _) hb2.out.size (Nat.le_refl _)))
              exact results_agg3 rfl Tryz.isAgg34 Tryz.sizeOf34 _ _ ⟨w.heap.size, 0, none⟩ _ _ _ rfl rfl rfl (HB.out.setRow.rd.1) (HB.out.setRow.rd.2)
          · obtain rfl : k = 7 := by omega
            have hok := hL.var.rd.1
            have hrd := hL.var.rd.2
            have hro2 := hL.var.row
            have hft : fitsRow 38 (lineCells (gAt T v 7)) = true := fits_line (gAt_one T v (hL.ids (by omega)).1)
            have HL := Lib.hid hL
            clear hL
            rw [show ((7 : Nat) : Int) = 7 from rfl] at *
            go_wp2
            have hT := HT.out
            have hpg := parse_goodo (s := s) (w := w) (W1 := W1) (wr := wr) (v := v) (hT ▸ HL.out) (by rw [← hT]; exact HN.out.symm) hb1
            rw [← hT] at hpg
            refine bodyPost_ret (v := .tuple #[.agg (lineCells (gAt T v 7)), .int .i64 0, .int .i64 0]) ?_ rfl hpg
            exact results_agg3 rfl Tryz.isAgg34 Tryz.sizeOf34 _ _ ⟨w.heap.size, 0, none⟩ _ _ _ rfl rfl rfl (HL.out.var.blk.setRow.rd.1) (HL.out.var.blk.setRow.rd.2)
end

end Go.Proofs.YtdjaphcelpchaaaGreatDoor

namespace Go.Proofs.YtdjaphcelpchaaaGreatDoor
open Go Go.RowKit Go.Proofs

attribute [local go_sem ↓] ex_load_id ex_store_id ex_load_line ex_store_line ex_load_rline ex_store_rline ex_alloc_line ex_build_line ex_alloc_rline ex_build_rline

attribute [local go_sem] ld_id st_id ld_line st_line ld_rline st_rline guard_id okCells_drew rdCells_drew okCells_drewN rdCells_drewN rowOk_drew rowOk_cells okCells_cells rdCells_cells setRow_drew setRow_new setRow_past

attribute [local go_sem] run_eql_id run_neq_id eqIn_id

theorem ids_ext {a b : List Id32} (hl : a.length = b.length) (h : ∀ j, j < a.length → a[j]! = b[j]!) : a = b := by
  refine List.ext_getElem hl fun j h1 h2 => ?_
  have := h j h1
  rwa [getElem!_pos a j h1, getElem!_pos b j h2] at this

set_option maxRecDepth 100000 in
set_option maxHeartbeats 2000000 in
theorem eqIds_any (v1 v2 : Value) (ids1 ids2 : List Id32) (w : World) (h1 : IdsAt w v1 ids1) (h2 : IdsAt w v2 ids2) (hn1 : ids1.length ≤ 1000000) :
    Calls Tryz.prog 113 #[v1, v2] w fun r w' => r = .returned (.bool (decide (ids1 = ids2))) ∧ Below w.heap.size w w' := by
  obtain ⟨a1, c1, rfl, hc1, hr1⟩ := h1
  obtain ⟨a2, c2, rfl, hc2, hr2⟩ := h2
  by_cases hl : ids1.length = ids2.length
  · have HR1 := Lib.hid hr1
    have HR2 := Lib.hid hr2
    have HL := Lib.hid hl
    have hlz : ((ids1.length : Int) != (ids2.length : Int)) = false := by rw [hl]; simp
    clear hr1 hr2 hl
    go_enter Tryz.func113, Tryz.ntmps113
    go_wp2
    go_loopw [5, 13] (fun _ i wr => ∃ k q : Nat, k ≤ ids1.length ∧ i = .int .i64 k ∧ wr = w.drewN q ∧ Hid (∀ j, j < k → ids1[j]! = ids2[j]!)) (fun _ i _ => ids1.length - (intOf i).toNat)
    case atStart => exact ⟨0, 0, Nat.zero_le _, rfl, rfl, Lib.hid fun _ h => by omega⟩
    case round =>
      obtain ⟨k, q, hk, rfl, rfl, HS⟩ := hrel
      by_cases hlt : k < ids1.length
      · have hltz : (k : Int) < (ids1.length : Int) := by omega
        have hlt2 : k < ids2.length := by have := HL.out; omega
        have hltz2 : (k : Int) < (ids2.length : Int) := by omega
        have hne : ids1 ≠ [] := by intro e; rw [e] at hlt; simp at hlt
        have hne2 : ids2 ≠ [] := by intro e; rw [e] at hlt2; simp at hlt2
        obtain ⟨b1, o1, rfl, hw1⟩ := HR1.out hne
        obtain ⟨b2, o2, rfl, hw2⟩ := HR2.out hne2
        have hr1 := hw1.rd hlt
        have hr2 := hw2.rd hlt2
        have HNX : Hid (ids1[k]! = ids2[k]! → ∀ j, j < k + 1 → ids1[j]! = ids2[j]!) := Lib.hid fun h j hj => by
          by_cases e : j = k
          · subst e; exact h
          · exact HS.out j (by omega)
        have HNO : Hid (ids1[k]! ≠ ids2[k]! → ids1 ≠ ids2) := Lib.hid fun h e => h (by rw [e])
        generalize ids1[k]! = x at hr1 HNX HNO
        generalize ids2[k]! = y at hr2 HNX HNO
        obtain ⟨e1, e2⟩ := hr1
        obtain ⟨e3, e4⟩ := hr2
        clear hw1 hw2 hne hne2 HS
        by_cases hxy : x = y
        · have HS2 := Lib.hid (HNX.out hxy)
          clear HNX HNO
          subst hxy
          go_wp2
          go_quiet (fail)
          go_wp2
          go_roundw
          case rel => exact ⟨k + 1, q + nq, by omega, by go_num, by first | rfl | rw [World.drewN_drewN], HS2⟩
          case measure => simp [intOf]; omega
        · have HE := Lib.hid (HNO.out hxy)
          have hd : decide (x = y) = false := decide_eq_false hxy
          clear HNX HNO hxy
          go_wp2
          go_quiet (fail)
          go_wp2
          go_ret
          exact ⟨by rw [decide_eq_false HE.out]; rfl, below_drewN' (below_drewN' (Below.refl _ _) q) nq⟩
      · have HE : Hid (ids1 = ids2) := Lib.hid (ids_ext HL.out fun j hj => HS.out j (by omega))
        have hltz : ¬ (k : Int) < (ids1.length : Int) := by omega
        go_wp2
        go_ret
        exact ⟨by rw [decide_eq_true HE.out]; rfl, below_drewN' (Below.refl _ _) q⟩
  · have hlz : ((ids1.length : Int) != (ids2.length : Int)) = true := by rw [bne_iff_ne]; omega
    have HE : Hid (ids1 ≠ ids2) := Lib.hid fun e => hl (by rw [e])
    clear hl hr1 hr2
    go_enter Tryz.func113, Tryz.ntmps113
    go_wp2
    go_ret
    exact ⟨by rw [decide_eq_false HE.out]; rfl, Below.refl _ _⟩

/-- Two lines with the same data. -/
def eqP (p q : PLine) : Bool := decide (p.number = q.number) && decide (p.id = q.id) && decide (p.name = q.name) && decide (p.date = q.date) && decide (p.subject = q.subject) && decide (p.ids = q.ids) && decide (p.bytes = q.bytes)
theorem eqP_iff (p q : PLine) : eqP p q = true ↔ p = q := by
  unfold eqP
  simp only [Bool.and_eq_true, decide_eq_true_eq]
  constructor
  · rintro ⟨⟨⟨⟨⟨⟨h1, h2⟩, h3⟩, h4⟩, h5⟩, h6⟩, h7⟩
    obtain ⟨_, _, _, _, _, _, _⟩ := p
    obtain ⟨_, _, _, _, _, _, _⟩ := q
    subst h1 h2 h3 h4 h5 h6 h7
    rfl
  · rintro rfl
    exact ⟨⟨⟨⟨⟨⟨rfl, rfl⟩, rfl⟩, rfl⟩, rfl⟩, rfl⟩, rfl⟩

section
attribute [local go_sem] lc0 lc33 lc34 lc35 lc36 lc37 okArr_lid rdArr_lid

set_option maxRecDepth 100000 in
set_option maxHeartbeats 4000000 in
theorem equal_any (p q : PLine) (v1 v2 : Value) (w : World) (h1 : IdsAt w v1 p.ids) (h2 : IdsAt w v2 q.ids) (hn1 : p.ids.length ≤ 1000000) :
    Calls Tryz.prog 79 #[.agg (lineCells (ML.g ⟨p, v1⟩)), .agg (lineCells (ML.g ⟨q, v2⟩))] w fun r w' => r = .returned (.bool (eqP p q)) ∧ Below w.heap.size w w' := by
  obtain ⟨n1, i1, m1, d1, s1, r1, b1⟩ := p
  obtain ⟨n2, i2, m2, d2, s2, r2, b2⟩ := q
  have HE := Lib.hid fun (W : World) (hb : Below w.heap.size w W) => eqIds_any v1 v2 r1 r2 W (h1.below hb) (h2.below hb) hn1
  obtain ⟨ra, rc, e1, _⟩ := h1
  obtain ⟨qa, qc, e2, _⟩ := h2
  subst e1 e2
  have hbA : Below w.heap.size w ((w.alloc (.cells (lineCells ⟨n1, i1, m1, d1, s1, .slice ra r1.length rc, b1⟩) 34)).alloc (.cells (lineCells ⟨n2, i2, m2, d2, s2, .slice qa r2.length qc, b2⟩) 34)) := ((Below.refl _ _).alloc (Nat.le_refl _) _).alloc (by simp) _
  have HB := Lib.hid hbA
  show Calls Tryz.prog 79 #[.agg (lineCells ⟨n1, i1, m1, d1, s1, .slice ra r1.length rc, b1⟩), .agg (lineCells ⟨n2, i2, m2, d2, s2, .slice qa r2.length qc, b2⟩)] w fun r w' => r = .returned (.bool (eqP ⟨n1, i1, m1, d1, s1, r1, b1⟩ ⟨n2, i2, m2, d2, s2, r2, b2⟩)) ∧ Below w.heap.size w w'
  have HD : Hid (eqP ⟨n1, i1, m1, d1, s1, r1, b1⟩ ⟨n2, i2, m2, d2, s2, r2, b2⟩ = (decide (n1 = n2) && decide (i1 = i2) && decide (m1 = m2) && decide (d1 = d2) && decide (s1 = s2) && decide (r1 = r2) && decide (b1 = b2))) := Lib.hid rfl
  generalize eqP ⟨n1, i1, m1, d1, s1, r1, b1⟩ ⟨n2, i2, m2, d2, s2, r2, b2⟩ = res at HD
  clear hbA
  go_enter Tryz.func79, Tryz.ntmps79
  by_cases h1 : n1 = n2
  · subst h1
    by_cases h2 : i1 = i2
    · subst h2
      by_cases h3 : m1 = m2
      · subst h3
        by_cases h4 : d1 = d2
        · subst h4
          by_cases h5 : s1 = s2
          · subst h5
            go_wp2_with fail
            refine (HE.out _ HB.out).mono ?_
            rintro r w1 ⟨rfl, hb1⟩
            have hk : ∀ k j, k < w.heap.size + 2 → w1.cell? ⟨k, j, none⟩ = ((w.alloc (.cells (lineCells ⟨n1, i1, m1, d1, s1, .slice ra r1.length rc, b1⟩) 34)).alloc (.cells (lineCells ⟨n1, i1, m1, d1, s1, .slice qa r2.length qc, b2⟩) 34)).cell? ⟨k, j, none⟩ := fun k j hk => hb1.cell (by simp; omega)
            have c1 : w1.cell? ⟨w.heap.size, 37, none⟩ = some (.int .i64 b1) := by
              rw [hk _ _ (by omega), cell_of_row _ w.heap.size 37 _ _ (0, 0) (by rw [heap_alloc_old _ _ (by simp), heap_alloc_new])]
              exact lc37 _
            have c2 : w1.cell? ⟨w.heap.size + 1, 37, none⟩ = some (.int .i64 b2) := by
              rw [hk _ _ (by omega), cell_of_row _ (w.heap.size + 1) 37 _ _ (0, 0) (by have := heap_alloc_new (w.alloc (.cells (lineCells ⟨n1, i1, m1, d1, s1, .slice ra r1.length rc, b1⟩) 34)) (.cells (lineCells ⟨n1, i1, m1, d1, s1, .slice qa r2.length qc, b2⟩) 34); simpa using this)]
              exact lc37 _
            have HB1 := Lib.hid (HB.out.trans (hb1.mono HB.out.size) : Below w.heap.size w w1)
            clear hk hb1 HE HB
            by_cases h6 : r1 = r2
            · have hd6 : decide (r1 = r2) = true := decide_eq_true h6
              by_cases h7 : b1 = b2
              · have hr : Hid (res = true) := Lib.hid (by rw [HD.out]; simp [h6, h7])
                clear h6
                subst h7
                go_wp2
                go_ret
                exact ⟨by rw [hr.out]; rfl, HB1.out⟩
              · have hr : Hid (res = false) := Lib.hid (by rw [HD.out]; simp [h7])
                have hb7 : (b1 == b2) = false := by rw [beq_eq_false_iff_ne]; exact h7
                clear h6
                go_wp2
                go_ret
                exact ⟨by rw [hr.out]; rfl, HB1.out⟩
            · have hr : Hid (res = false) := Lib.hid (by rw [HD.out]; simp [h6])
              have hd6 : decide (r1 = r2) = false := decide_eq_false h6
              clear h6
              go_wp2
              go_ret
              exact ⟨by rw [hr.out]; rfl, HB1.out⟩
          · have hr : Hid (res = false) := Lib.hid (by rw [HD.out]; simp [h5])
            have hs5 : (s1.toList == s2.toList) = false := by rw [str_eq_iff, decide_eq_false h5]
            go_wp2
            go_ret
            exact ⟨by rw [hr.out]; rfl, HB.out⟩
        · have hr : Hid (res = false) := Lib.hid (by rw [HD.out]; simp [h4])
          go_wp2
          go_ret
          exact ⟨by rw [hr.out]; rfl, HB.out⟩
      · have hr : Hid (res = false) := Lib.hid (by rw [HD.out]; simp [h3])
        have hs3 : (m1.toList == m2.toList) = false := by rw [str_eq_iff, decide_eq_false h3]
        go_wp2
        go_ret
        exact ⟨by rw [hr.out]; rfl, HB.out⟩
    · have hr : Hid (res = false) := Lib.hid (by rw [HD.out]; simp [h2])
      have hd2 : decide (i1 = i2) = false := decide_eq_false h2
      go_wp2
      go_ret
      exact ⟨by rw [hr.out]; rfl, HB.out⟩
  · have hr : Hid (res = false) := Lib.hid (by rw [HD.out]; simp [h1])
    go_wp2
    go_ret
    exact ⟨by rw [hr.out]; rfl, HB.out⟩
end

/-- Two rows of lines with the same data. -/
def eqMs (a b : List ML) : Bool := decide (a.length = b.length) && (List.range a.length).all fun j => eqP a[j]!.p b[j]!.p
theorem eqMs_iff (a b : List ML) : eqMs a b = true ↔ a.map (·.p) = b.map (·.p) := by
  unfold eqMs
  rw [Bool.and_eq_true, decide_eq_true_eq, List.all_eq_true]
  constructor
  · rintro ⟨hl, h⟩
    refine List.ext_getElem (by simpa using hl) fun j h1 h2 => ?_
    rw [List.length_map] at h1 h2
    have := (eqP_iff _ _).1 (h j (by simpa using h1))
    rw [getElem!_pos a j h1, getElem!_pos b j h2] at this
    simpa using this
  · intro h
    have hl : a.length = b.length := by
      have := congrArg List.length h
      rwa [List.length_map, List.length_map] at this
    refine ⟨hl, fun j hj => ?_⟩
    have hj1 : j < a.length := by simpa using hj
    rw [eqP_iff, getElem!_pos a j hj1, getElem!_pos b j (by omega)]
    have := congrArg (·[j]?) h
    simp only [List.getElem?_map, List.getElem?_eq_getElem hj1, List.getElem?_eq_getElem (show j < b.length by omega), Option.map_some, Option.some.injEq] at this
    exact this
theorem eqMs_no {a b : List ML} {j : Nat} (h1 : j < a.length) (h2 : j < b.length) (h : eqP a[j].p b[j].p = false) : eqMs a b = false := by
  cases he : eqMs a b with
  | false => rfl
  | true =>
    have := (eqMs_iff a b).1 he
    have := congrArg (·[j]?) this
    simp only [List.getElem?_map, List.getElem?_eq_getElem h1, List.getElem?_eq_getElem h2, Option.map_some, Option.some.injEq] at this
    rw [this, (eqP_iff _ _).2 rfl] at h
    cases h
theorem eqMs_yes {a b : List ML} (hl : a.length = b.length) (h : ∀ j (h1 : j < a.length) (h2 : j < b.length), eqP a[j].p b[j].p = true) : eqMs a b = true := by
  rw [eqMs_iff]
  refine List.ext_getElem (by simpa using hl) fun j h1 h2 => ?_
  rw [List.length_map] at h1 h2
  simpa using (eqP_iff _ _).1 (h j h1 h2)

set_option maxRecDepth 100000 in
set_option maxHeartbeats 4000000 in
theorem eqLines_any (B1 B2 : Nat) (v1 v2 : Value) (ms1 ms2 : List ML) (w : World) (h1 : LinesAt B1 w v1 ms1) (h2 : LinesAt B2 w v2 ms2) (hn1 : ms1.length ≤ 65536) (hi1 : ∀ m ∈ ms1, m.p.ids.length ≤ 20) (hi2 : ∀ m ∈ ms2, m.p.ids.length ≤ 20) :
    Calls Tryz.prog 78 #[v1, v2, .func (.func 79) #[] #[]] w fun r w' => r = .returned (.bool (eqMs ms1 ms2)) ∧ Below w.heap.size w w' := by
  have HL1 := Lib.hid h1
  have HL2 := Lib.hid h2
  obtain ⟨a1, c1, e1⟩ : ∃ a c, v1 = .slice a ms1.length c := by
    rcases h1.head with ⟨e, e2⟩ | ⟨g, cap, e, _⟩
    · exact ⟨none, 0, by rw [e, e2]; rfl⟩
    · exact ⟨_, _, e⟩
  obtain ⟨a2, c2, e2⟩ : ∃ a c, v2 = .slice a ms2.length c := by
    rcases h2.head with ⟨e, e2⟩ | ⟨g, cap, e, _⟩
    · exact ⟨none, 0, by rw [e, e2]; rfl⟩
    · exact ⟨_, _, e⟩
  subst e1 e2
  clear h1 h2
  have HI1 := Lib.hid hi1
  have HI2 := Lib.hid hi2
  clear hi1 hi2
  have hzs : ((lineCells zeroLine).size == 38) = true := by rw [lineCells_size]; rfl
  by_cases hl : ms1.length = ms2.length
  · have HLE := Lib.hid hl
    have hlz : ((ms1.length : Int) != (ms2.length : Int)) = false := by rw [hl]; simp
    clear hl
    go_enter Tryz.func78, Tryz.ntmps78
    go_wp2
    go_loopw [7, 8, 9, 17] (fun _ _ _ i wr => ∃ k : Nat, k ≤ ms1.length ∧ i = .int .i64 k ∧ Hid (Below w.heap.size w wr) ∧ Hid (∀ j (h1 : j < ms1.length) (h2 : j < ms2.length), j < k → eqP ms1[j].p ms2[j].p = true)) (fun _ _ _ i _ => ms1.length - (intOf i).toNat)
    case atStart => exact ⟨0, Nat.zero_le _, rfl, Lib.hid (Below.refl _ _), Lib.hid fun _ _ _ h => by omega⟩
    case round =>
      obtain ⟨k, hk, rfl, HB, HS⟩ := hrel
      by_cases hlt : k < ms1.length
      · have hltz : (k : Int) < (ms1.length : Int) := by omega
        have hlt2 : k < ms2.length := by have := HLE.out; omega
        have hltz2 : (k : Int) < (ms2.length : Int) := by omega
        rcases HL1.out.head with ⟨_, e⟩ | ⟨g1, cap1, hv1, _, hgl1, _, _, hcell1⟩
        · rw [e] at hlt; cases hlt
        cases hv1
        rcases HL2.out.head with ⟨_, e⟩ | ⟨g2, cap2, hv2, _, hgl2, _, _, hcell2⟩
        · rw [e] at hlt2; cases hlt2
        cases hv2
        have hone1 := (HL1.out.refs ms1[k] (List.getElem_mem hlt)).one
        have hone2 := (HL2.out.refs ms2[k] (List.getElem_mem hlt2)).one
        have hft1 := fits_line (g := ms1[k].g) hone1
        have hft2 := fits_line (g := ms2[k].g) hone2
        obtain ⟨o1, d1⟩ := lineAt_rd (w := wr) (g := g1) (off := k * 38) (l := ms1[k].g) (fun i u hu => (HB.out.cell (p := ⟨g1, k * 38 + i, none⟩) hgl1).trans (hcell1 k hlt i u hu))
        have HBa : Hid (Below w.heap.size w (wr.alloc (.cells (lineCells ms1[k].g) 34))) := Lib.hid (HB.out.alloc HB.out.size _)
        obtain ⟨o2, d2⟩ := lineAt_rd (w := wr.alloc (.cells (lineCells ms1[k].g) 34)) (g := g2) (off := k * 38) (l := ms2[k].g) (fun i u hu => (HBa.out.cell (p := ⟨g2, k * 38 + i, none⟩) hgl2).trans (hcell2 k hlt2 i u hu))
        have o3 := ok_new_line wr ms1[k].g 34
        have d3 := rd_new_line wr ms1[k].g 34
        have o4 : okCells ((wr.alloc (.cells (lineCells ms1[k].g) 34)).alloc (.cells (lineCells ms2[k].g) 34)) ⟨wr.heap.size, 0, none⟩ 38 = true := ok_alloc _ o3
        have d4 : rdCells ((wr.alloc (.cells (lineCells ms1[k].g) 34)).alloc (.cells (lineCells ms2[k].g) 34)) ⟨wr.heap.size, 0, none⟩ 38 = lineCells ms1[k].g := (rd_alloc _ o3).trans d3
        have o5 : okCells ((wr.alloc (.cells (lineCells ms1[k].g) 34)).alloc (.cells (lineCells ms2[k].g) 34)) ⟨wr.heap.size + 1, 0, none⟩ 38 = true := by
          have := ok_new_line (wr.alloc (.cells (lineCells ms1[k].g) 34)) ms2[k].g 34
          simpa using this
        have d5 : rdCells ((wr.alloc (.cells (lineCells ms1[k].g) 34)).alloc (.cells (lineCells ms2[k].g) 34)) ⟨wr.heap.size + 1, 0, none⟩ 38 = lineCells ms2[k].g := by
          have := rd_new_line (wr.alloc (.cells (lineCells ms1[k].g) 34)) ms2[k].g 34
          simpa using this
        have HB2 : Hid (Below w.heap.size w ((wr.alloc (.cells (lineCells ms1[k].g) 34)).alloc (.cells (lineCells ms2[k].g) 34))) := Lib.hid (HBa.out.alloc HBa.out.size _)
        have HC := Lib.hid (equal_any ms1[k].p ms2[k].p ms1[k].v ms2[k].v _ (((HL1.out.refs ms1[k] (List.getElem_mem hlt)).at).below HB2.out) (((HL2.out.refs ms2[k] (List.getElem_mem hlt2)).at).below HB2.out) (Nat.le_trans (HI1.out _ (List.getElem_mem hlt)) (by omega)))
        have HNO : Hid (eqP ms1[k].p ms2[k].p = false → eqMs ms1 ms2 = false) := Lib.hid fun h => eqMs_no hlt hlt2 h
        have HNX : Hid (eqP ms1[k].p ms2[k].p = true → ∀ j (h1 : j < ms1.length) (h2 : j < ms2.length), j < k + 1 → eqP ms1[j].p ms2[j].p = true) := Lib.hid fun h j h1 h2 hj => by
          by_cases e : j = k
          · subst e; exact h
          · exact HS.out j h1 h2 (by omega)
        clear hcell1 hcell2 HS hone1 hone2
        generalize ms1[k] = x1 at *
        generalize ms2[k] = x2 at *
        generalize eqP x1.p x2.p = res at HC HNO HNX
        go_wp2_with fail
        refine HC.out.mono ?_
        rintro r w2 ⟨rfl, hb2⟩
        have HB3 := Lib.hid (HB2.out.trans (hb2.mono HB2.out.size) : Below w.heap.size w w2)
        clear hb2 HC HB2 HBa HB o1 d1 o2 d2 o3 d3 o4 d4 o5 d5
        cases res with
        | true =>
          have HS2 := Lib.hid (HNX.out rfl)
          clear HNX HNO
          go_wp2
          go_roundw
          case rel => exact ⟨k + 1, by omega, by go_num, HB3, HS2⟩
          case measure => simp [intOf]; omega
        | false =>
          have HE := Lib.hid (HNO.out rfl)
          clear HNX HNO
          go_wp2
          go_ret
          exact ⟨by rw [HE.out]; rfl, HB3.out⟩
      · have HE : Hid (eqMs ms1 ms2 = true) := Lib.hid (eqMs_yes HLE.out fun j h1 h2 => HS.out j h1 h2 (by omega))
        have hltz : ¬ (k : Int) < (ms1.length : Int) := by omega
        go_wp2
        go_ret
        exact ⟨by rw [HE.out]; rfl, HB.out⟩
  · have hlz : ((ms1.length : Int) != (ms2.length : Int)) = true := by rw [bne_iff_ne]; omega
    have HE : Hid (eqMs ms1 ms2 = false) := Lib.hid (by unfold eqMs; rw [decide_eq_false hl]; rfl)
    clear hl
    go_enter Tryz.func78, Tryz.ntmps78
    go_wp2
    go_ret
    exact ⟨by rw [HE.out]; rfl, Below.refl _ _⟩

end Go.Proofs.YtdjaphcelpchaaaGreatDoor

namespace Go.Proofs.YtdjaphcelpchaaaGreatDoor
open Go Go.RowKit Go.Proofs
open Go.ChangeMaps (setBlock)

theorem GrpAt.slice {B : Nat} {w : World} {G : MG} (h : GrpAt B w G) : ∃ a c, G.v = .slice a G.ms.length c := by
  rcases h.lines.head with ⟨e, e2⟩ | ⟨g, cap, e, _⟩
  · exact ⟨none, 0, by rw [e, e2]; rfl⟩
  · exact ⟨_, _, e⟩
set_option maxRecDepth 100000 in
set_option maxHeartbeats 2000000 in
theorem eqGroup_any (B1 B2 : Nat) (G1 G2 : MG) (w : World) (h1 : GrpAt B1 w G1) (h2 : GrpAt B2 w G2) (hn1 : G1.ms.length ≤ 65536) :
    Calls Tryz.prog 77 #[.pointer (some ⟨G1.gb, 0, none⟩), .pointer (some ⟨G2.gb, 0, none⟩)] w fun r w' => r = .returned (.bool (eqMs G1.ms G2.ms)) ∧ Below w.heap.size w w' := by
  have hb0 : Below w.heap.size w w.drew := (Below.refl _ _).drew
  have HE := Lib.hid (eqLines_any B1 B2 G1.v G2.v G1.ms G2.ms w.drew (h1.lines.below hb0) (h2.lines.below hb0) hn1 (fun m hm => refs_len (h1.good m hm)) (fun m hm => refs_len (h2.good m hm)))
  have HB0 := Lib.hid hb0
  have c1 : w.cell? ⟨G1.gb, 0, none⟩ = some G1.v := cell_of_row w G1.gb 0 _ _ _ h1.blk
  have c2 : w.cell? ⟨G2.gb, 0, none⟩ = some G2.v := cell_of_row w G2.gb 0 _ _ _ h2.blk
  obtain ⟨a1, e1, hv1⟩ := h1.slice
  obtain ⟨a2, e2, hv2⟩ := h2.slice
  rw [hv1] at HE c1
  rw [hv2] at HE c2
  have z1 : ∀ z : Later w, z.1.cell? ⟨G1.gb, 0, none⟩ = some (.slice a1 G1.ms.length e1) := fun z => Later.cell c1 z
  have z2 : ∀ z : Later w, z.1.cell? ⟨G2.gb, 0, none⟩ = some (.slice a2 G2.ms.length e2) := fun z => Later.cell c2 z
  clear h1 h2 hb0 c1 c2 hv1 hv2
  go_enter Tryz.func77, Tryz.ntmps77
  go_wp2_with fail
  refine wp_region_mix0 [0, 1, 2, 3, 4, 5, 6, 7] [8, 9] (fun w' => ∃ z : Later w, w' = z.1) (by kernel_rfl) (by kernel_rfl) (by kernel_rfl) ⟨⟨_, (Below.refl _ _).drew⟩, rfl⟩ ?_
  simp only [opsAt, List.map_cons, List.map_nil, Array.getD_eq_getD_getElem?, List.getElem?_toArray, List.getElem?_cons_zero, List.getElem?_cons_succ, Option.getD_some]
  repeat (go_big_quiet_step (fail))
  refine wpQuiet_nil ?_
  clear z1 z2
  refine wpR_list [8, 9] _ _ (by kernel_rfl) ?_
  simp only [opsAt, List.map_cons, List.map_nil, Array.getD_eq_getD_getElem?, List.getElem?_toArray, List.getElem?_cons_zero, List.getElem?_cons_succ, Option.getD_some]
  go_wp2_with fail
  refine HE.out.mono ?_
  rintro r w1 ⟨rfl, hb1⟩
  have HB1 := Lib.hid (HB0.out.trans (hb1.mono HB0.out.size) : Below w.heap.size w w1)
  clear hb1 HE HB0
  go_wp2
  refine NoPanic.normal ?_
  go_wp2
  go_ret
  exact ⟨rfl, HB1.out⟩

/-- Two indexes with the same lines. -/
def eqG (gs1 gs2 : List MG) : Bool := decide (gs1.length = gs2.length) && gs1.all fun G => match groupOf gs2 G.name with | some H => eqMs G.ms H.ms | none => false
def okG (gs2 : List MG) (G : MG) : Bool := match groupOf gs2 G.name with | some H => eqMs G.ms H.ms | none => false
theorem eqG_eq (gs1 gs2 : List MG) : eqG gs1 gs2 = (decide (gs1.length = gs2.length) && gs1.all (okG gs2)) := rfl
theorem okG_no {gs2 : List MG} {G : MG} (h : groupOf gs2 G.name = none) : okG gs2 G = false := by unfold okG; rw [h]
theorem okG_some {gs2 : List MG} {G H : MG} (h : groupOf gs2 G.name = some H) : okG gs2 G = eqMs G.ms H.ms := by unfold okG; rw [h]

theorem heap_setBlock (w : World) (b : Nat) (o : Obj) (h : b < w.heap.size) : (setBlock w b o).heap[b]? = some o := by
  unfold setBlock
  simp [h]
theorem heap_setBlock_ne (w : World) (b k : Nat) (o : Obj) (h : k ≠ b) : (setBlock w b o).heap[k]? = w.heap[k]? := by
  unfold setBlock
  simp [Ne.symm h]
theorem below_setBlock {B : Nat} (w : World) (b : Nat) (o : Obj) (h : B ≤ b) : Below B w (setBlock w b o) :=
  ⟨rfl, rfl, rfl, by unfold setBlock; simp, fun k hk => heap_setBlock_ne w b k o (by omega)⟩
/-- The entries of an index's map. -/
def entsOf (gs : List MG) : Array MapEntry := ((gs.map MG.e).map (enE ekS)).toArray
theorem mem_ents {gs : List MG} {e : MapEntry} (h : e ∈ (entsOf gs).toList) : ∃ G ∈ gs, e = enE ekS G.e := by
  unfold entsOf at h
  simp only [List.mem_map] at h
  obtain ⟨_, ⟨G, hG, rfl⟩, rfl⟩ := h
  exact ⟨G, hG, rfl⟩
theorem ents_born (gs : List MG) : (entsOf gs).toList.map (·.born) = gs.map (·.born) := by
  unfold entsOf
  simp only [List.map_map]
  rfl

theorem born_inj : ∀ {l : List MG}, (l.map fun G => G.born).Nodup → ∀ A ∈ l, ∀ C ∈ l, A.born = C.born → A = C := by
  intro l hl
  induction l with
  | nil => intro A hA; cases hA
  | cons D l ih =>
    rw [List.map_cons, List.nodup_cons] at hl
    intro A hA C hC he
    rcases List.mem_cons.1 hA with hA' | hA'
    · rcases List.mem_cons.1 hC with hC' | hC'
      · rw [hA', hC']
      · exact absurd (hA' ▸ he ▸ List.mem_map.2 ⟨C, hC', rfl⟩) hl.1
    · rcases List.mem_cons.1 hC with hC' | hC'
      · exact absurd (hC' ▸ List.mem_map.2 ⟨A, hA', he⟩) hl.1
      · exact ih hl.2 A hA' C hC' he
/-- In the middle of the range over the groups of an index: which have come up is told by the iterator's block. -/
structure RdSt (B : Nat) (w : World) (ib M mc : Nat) (gs : List MG) (D : MG → Prop) (r : Nat) (X : World) (seen : Array Nat) : Prop where
  iter : X.heap[r]? = some (.mapIter (some M) mc seen mc)
  bl : Below w.heap.size w X
  lo : w.heap.size ≤ r
  idx : IdxAt B w ib M gs mc
  did : ∀ G ∈ gs, seen.contains G.born = true → D G
theorem RdSt.step {B : Nat} {w : World} {ib M mc : Nat} {gs : List MG} {D : MG → Prop} {r : Nat} {X Y : World} {seen : Array Nat} (h : RdSt B w ib M mc gs D r X seen) (hb : Below X.heap.size X Y) : RdSt B w ib M mc gs D r Y seen :=
  ⟨(hb.block r (Array.getElem?_eq_some_iff.1 h.iter).1).trans h.iter, h.bl.trans (hb.mono h.bl.size), h.lo, h.idx, h.did⟩
theorem RdSt.start {B : Nat} {w W : World} {ib M mc : Nat} {gs : List MG} {D : MG → Prop} (h : IdxAt B w ib M gs mc) (hb : Below w.heap.size w W) : RdSt B w ib M mc gs D W.heap.size (W.alloc (.mapIter (some M) mc #[] mc)) #[] :=
  ⟨heap_alloc_new _ _, hb.alloc hb.size _, hb.size, h, fun G _ hs => by simp at hs⟩
/-- One step: nothing is left, or one group comes up. -/
theorem RdSt.next {B : Nat} {w : World} {ib M mc : Nat} {gs : List MG} {D : MG → Prop} {r : Nat} {X : World} {seen : Array Nat} (h : RdSt B w ib M mc gs D r X seen) (ty : TypeId) :
    ((∀ G ∈ gs, D G) ∧ (Instr.next (.pointer (some ⟨r, 0, none⟩)) false ty).run Tryz.prog X = .ok (.tuple #[.bool false]) X) ∨
    ∃ G ∈ gs, ∃ X', (Instr.next (.pointer (some ⟨r, 0, none⟩)) false ty).run Tryz.prog X = .ok (.tuple #[.bool true, .string G.name, .pointer (some ⟨G.gb, 0, none⟩)]) X' ∧ Below w.heap.size X X' ∧
      (Instr.entry (.pointer (some ⟨r, 0, none⟩))).run Tryz.prog X' = .ok (.tuple #[.string G.name, .pointer (some ⟨G.gb, 0, none⟩)]) X' ∧ (leftOf (entsOf gs) (seen.push G.born)).size < (leftOf (entsOf gs) seen).size ∧
      (D G → RdSt B w ib M mc gs D r X' (seen.push G.born)) ∧ X'.heap[r]? = some (.mapIter (some M) mc (seen.push G.born) mc) ∧ seen.contains G.born = false := by
  have hX := h.idx.below h.bl
  have hmap : X.heap[M]? = some (.map (entsOf gs) mc) := hX.map
  have hrM : r ≠ M := fun e => by
    have := h.iter
    rw [e, hmap] at this
    cases this
  have hold : ∀ e ∈ (entsOf gs).toList, e.born < mc := fun e he => by
    obtain ⟨G, hG, rfl⟩ := mem_ents he
    exact h.idx.young G hG
  rcases run_next_at (P := Tryz.prog) X ty r M mc mc seen (entsOf gs) mc h.iter hmap hold (Nat.le_refl _) with ⟨h0, hr⟩ | ⟨e, he, X1, hX1, hr⟩
  · refine .inl ⟨fun G hG => h.did G hG ?_, hr⟩
    have := all_seen (entsOf gs) seen h0 (enE ekS G.e) (by unfold entsOf; simp only [List.mem_map]; exact ⟨_, ⟨G, hG, rfl⟩, rfl⟩)
    exact this
  · obtain ⟨hm, hns⟩ := mem_left he
    obtain ⟨G, hG, rfl⟩ := mem_ents hm
    have hrl := (Array.getElem?_eq_some_iff.1 h.iter).1
    have hX1h : X1.heap = X.heap := by rcases hX1 with rfl | rfl <;> rfl
    have hb1 : Below w.heap.size X X1 := by
      rcases hX1 with rfl | rfl
      · exact Below.refl _ _
      · exact (Below.refl _ _).drew
    have hit : (setBlock X1 r (.mapIter (some M) mc (seen.push G.born) mc)).heap[r]? = some (.mapIter (some M) mc (seen.push G.born) mc) := heap_setBlock _ _ _ (by rw [hX1h]; exact hrl)
    have hmp : (setBlock X1 r (.mapIter (some M) mc (seen.push G.born) mc)).heap[M]? = some (.map (entsOf gs) mc) := by
      rw [heap_setBlock_ne _ _ _ _ (Ne.symm hrM), hX1h]
      exact hmap
    have hb2 : Below w.heap.size X (setBlock X1 r (.mapIter (some M) mc (seen.push G.born) mc)) := hb1.trans (below_setBlock X1 r _ h.lo)
    refine .inr ⟨G, hG, _, hr, hb2, run_entry_at _ r M mc seen (entsOf gs) mc (enE ekS G.e) hit hmp hm (by rw [ents_born]; exact h.idx.born), left_shrinks _ _ _ he, fun hD => ⟨hit, h.bl.trans hb2, h.lo, h.idx, fun H hH hs => ?_⟩, hit, hns⟩
    rw [Array.contains_push] at hs
    rw [Bool.or_eq_true] at hs
    rcases hs with hs | hs
    · exact h.did H hH hs
    · have hb : H.born = G.born := by simpa using hs
      have : H = G := by
        have h1 := h.idx.born
        exact born_inj h1 H hH G hG hb
      rw [this]; exact hD

/-- How many are still to come, off the iterator's block. -/
def leftR (gs : List MG) (r : Nat) (w : World) : Nat := match w.heap[r]? with
  | some (.mapIter _ _ seen _) => (leftOf (entsOf gs) seen).size
  | _ => 0
theorem leftR_eq {gs : List MG} {r : Nat} {w : World} {m : Option Nat} {s c : Nat} {seen : Array Nat} (h : w.heap[r]? = some (.mapIter m s seen c)) : leftR gs r w = (leftOf (entsOf gs) seen).size := by
  unfold leftR
  rw [h]
theorem look_grp {B : Nat} {w : World} {ib M mc : Nat} {gs : List MG} (h : IdxAt B w ib M gs mc) (s : ByteArray) :
    (Instr.lookup 102 (.map (some M)) (.string s) true).run Tryz.prog w = .ok (.tuple #[((groupOf gs s).map fun G => Value.pointer (some ⟨G.gb, 0, none⟩)).getD (.pointer none), .bool (groupOf gs s).isSome]) w := by
  have h1 := look_ok keyS Tryz.underlying102 (.pointer none) zero_ptr w M _ mc h.map s
  have h2 := find_groups s gs 0
  have h3 : (findK s (gs.map MG.e) 0).isSome = (groupOf gs s).isSome := by
    have := congrArg Option.isSome h2
    rwa [Option.isSome_map, Option.isSome_map] at this
  rw [h2, h3] at h1
  exact h1
theorem len_map {B : Nat} {w : World} {ib M mc : Nat} {gs : List MG} (h : IdxAt B w ib M gs mc) (ty : TypeId) : (Builtin.len_ #[102] ty #[.map (some M)]).run Tryz.prog w = .ok (.int .i64 gs.length) w := by
  have := run_len_map (P := Tryz.prog) (w := w) 102 ty M _ mc (by kernel_rfl) h.map
  simpa [goInt] using this

set_option maxRecDepth 100000 in
set_option maxHeartbeats 4000000 in
theorem eqMaps_any (B1 B2 ib1 ib2 M1 M2 mc1 mc2 : Nat) (gs1 gs2 : List MG) (w : World) (h1 : IdxAt B1 w ib1 M1 gs1 mc1) (h2 : IdxAt B2 w ib2 M2 gs2 mc2) :
    Calls Tryz.prog 76 #[.map (some M1), .map (some M2), .func (.func 77) #[] #[]] w fun r w' => r = .returned (.bool (eqG gs1 gs2)) ∧ Below w.heap.size w w' := by
  have l1 := len_map h1
  have l2 := len_map h2
  have H1 := Lib.hid h1
  have H2 := Lib.hid h2
  have hrg := run_range_map (P := Tryz.prog) w 102 _ _ M1 _ mc1 Tryz.underlying102 h1.map
  have hg1 := h1.groups
  have hg2 := h2.groups
  have HST : Hid (RdSt B1 w ib1 M1 mc1 gs1 (fun G => okG gs2 G = true) w.heap.size (w.alloc (.mapIter (some M1) mc1 #[] mc1)) #[]) := Lib.hid (RdSt.start h1 (Below.refl _ _))
  clear h1 h2
  by_cases hl : gs1.length = gs2.length
  · have hlz : ((gs1.length : Int) != (gs2.length : Int)) = false := by rw [hl]; simp
    have HLE := Lib.hid hl
    clear hl
    go_enter Tryz.func76, Tryz.ntmps76
    go_wp2
    clear hrg l1 l2
    go_loopw [7, 8, 9, 10] (fun _ _ _ _ wr => ∃ seen, Hid (RdSt B1 w ib1 M1 mc1 gs1 (fun G => okG gs2 G = true) w.heap.size wr seen)) (fun _ _ _ _ wr => leftR gs1 w.heap.size wr)
    case atStart => exact ⟨_, HST⟩
    case round =>
      obtain ⟨seen, HR⟩ := hrel
      have HMU := Lib.hid (leftR_eq (gs := gs1) HR.out.iter)
      rcases HR.out.next 0 with ⟨hall, hn⟩ | ⟨G, hG, X', hn, hb, hen, hlt, hst, hit, hns⟩
      · have HE : Hid (eqG gs1 gs2 = true) := Lib.hid (by
          rw [eqG_eq, HLE.out, decide_eq_true rfl, Bool.true_and, List.all_eq_true]
          exact hall)
        have HB := Lib.hid HR.out.bl
        clear hall
        go_wp2
        go_ret
        exact ⟨by rw [HE.out]; rfl, HB.out⟩
      · have HB := Lib.hid (HR.out.bl.trans hb)
        have hlk := look_grp (H2.out.below HB.out) G.name
        have HST' := Lib.hid hst
        have HLT := Lib.hid hlt
        have HIT := Lib.hid hit
        have HGM := Lib.hid hG
        clear hb hst hlt hit hns hG
        cases hg : groupOf gs2 G.name with
        | none =>
          rw [hg] at hlk
          have HE : Hid (eqG gs1 gs2 = false) := Lib.hid (by
            rw [eqG_eq, Bool.and_eq_false_iff]
            right
            rw [List.all_eq_false]
            exact ⟨G, HGM.out, by rw [okG_no hg]; simp⟩)
          clear hg
          go_wp2
          go_ret
          exact ⟨by rw [HE.out]; rfl, HB.out⟩
        | some H =>
          rw [hg] at hlk
          have HEG := Lib.hid (eqGroup_any B1 B2 G H X' ((H1.out.below HB.out).grps G HGM.out) ((H2.out.below HB.out).grps H (groupOf_mem hg).1) (Nat.le_trans (length_le_total HGM.out) H1.out.few))
          have HOK := Lib.hid (okG_some hg)
          clear hg
          generalize eqMs G.ms H.ms = res at HEG HOK
          go_wp2_with fail
          refine HEG.out.mono ?_
          rintro r w2 ⟨rfl, hb2⟩
          have HB2 := Lib.hid hb2
          clear hb2 HEG hn hen hlk
          cases res with
          | true =>
            have HST2 := Lib.hid ((HST'.out HOK.out).step HB2.out)
            go_wp2
            go_roundw
            case rel => exact ⟨_, HST2⟩
            case measure =>
              rw [HMU.out, leftR_eq HST2.out.iter]
              exact HLT.out
          | false =>
            have HE : Hid (eqG gs1 gs2 = false) := Lib.hid (by
              rw [eqG_eq, Bool.and_eq_false_iff]
              right
              rw [List.all_eq_false]
              exact ⟨G, HGM.out, by rw [HOK.out]; simp⟩)
            go_wp2
            go_ret
            exact ⟨by rw [HE.out]; rfl, HB.out.trans (HB2.out.mono HB.out.size)⟩
  · have hlz : ((gs1.length : Int) != (gs2.length : Int)) = true := by rw [bne_iff_ne]; omega
    have HE : Hid (eqG gs1 gs2 = false) := Lib.hid (by unfold eqG; rw [decide_eq_false hl]; rfl)
    clear hl hrg
    go_enter Tryz.func76, Tryz.ntmps76
    go_wp2
    go_ret
    exact ⟨by rw [HE.out]; rfl, Below.refl _ _⟩

set_option maxRecDepth 100000 in
set_option maxHeartbeats 1000000 in
theorem equalIdx_any (B1 B2 ib1 ib2 M1 M2 mc1 mc2 : Nat) (gs1 gs2 : List MG) (w : World) (h1 : IdxAt B1 w ib1 M1 gs1 mc1) (h2 : IdxAt B2 w ib2 M2 gs2 mc2) :
    Calls Tryz.prog 34 #[.pointer (some ⟨ib1, 0, none⟩), .pointer (some ⟨ib2, 0, none⟩)] w fun r w' => r = .returned (.bool (eqG gs1 gs2)) ∧ Below w.heap.size w w' := by
  have hb0 : Below w.heap.size w w.drew := (Below.refl _ _).drew
  have HE := Lib.hid (eqMaps_any B1 B2 ib1 ib2 M1 M2 mc1 mc2 gs1 gs2 w.drew (h1.below hb0) (h2.below hb0))
  have HB0 := Lib.hid hb0
  have c1 := h1.cell0
  have c2 := h2.cell0
  have z1 : ∀ z : Later w, z.1.cell? ⟨ib1, 0, none⟩ = some (.map (some M1)) := fun z => Later.cell c1 z
  have z2 : ∀ z : Later w, z.1.cell? ⟨ib2, 0, none⟩ = some (.map (some M2)) := fun z => Later.cell c2 z
  clear h1 h2 hb0 c1 c2
  go_enter Tryz.func34, Tryz.ntmps34
  go_wp2_with fail
  refine wp_region_mix0 [0, 1, 2, 3, 4, 5, 6, 7] [8, 9] (fun w' => ∃ z : Later w, w' = z.1) (by kernel_rfl) (by kernel_rfl) (by kernel_rfl) ⟨⟨_, (Below.refl _ _).drew⟩, rfl⟩ ?_
  simp only [opsAt, List.map_cons, List.map_nil, Array.getD_eq_getD_getElem?, List.getElem?_toArray, List.getElem?_cons_zero, List.getElem?_cons_succ, Option.getD_some]
  repeat (go_big_quiet_step (fail))
  refine wpQuiet_nil ?_
  clear z1 z2
  refine wpR_list [8, 9] _ _ (by kernel_rfl) ?_
  simp only [opsAt, List.map_cons, List.map_nil, Array.getD_eq_getD_getElem?, List.getElem?_toArray, List.getElem?_cons_zero, List.getElem?_cons_succ, Option.getD_some]
  go_wp2_with fail
  refine HE.out.mono ?_
  rintro r w1 ⟨rfl, hb1⟩
  have HB1 := Lib.hid (HB0.out.trans (hb1.mono HB0.out.size) : Below w.heap.size w w1)
  clear hb1 HE HB0
  go_wp2
  refine NoPanic.normal ?_
  go_wp2
  go_ret
  exact ⟨rfl, HB1.out⟩

/-- Equal tells whether all groups have the same lines. -/
theorem eqG_iff {B1 B2 ib1 ib2 M1 M2 mc1 mc2 : Nat} {gs1 gs2 : List MG} {w1 w2 : World} (h1 : IdxAt B1 w1 ib1 M1 gs1 mc1) (h2 : IdxAt B2 w2 ib2 M2 gs2 mc2) : eqG gs1 gs2 = true ↔ ∀ t, (linesIn gs1 t).map (·.p) = (linesIn gs2 t).map (·.p) := by
  have hne1 : ∀ G ∈ gs1, G.ms ≠ [] := fun G hG => (h1.grps G hG).some'
  have hne2 : ∀ G ∈ gs2, G.ms ≠ [] := fun G hG => (h2.grps G hG).some'
  rw [eqG_eq, Bool.and_eq_true, decide_eq_true_eq, List.all_eq_true]
  constructor
  · rintro ⟨hl, hall⟩ t
    have hsub : ∀ G ∈ gs1, ∃ H, groupOf gs2 G.name = some H ∧ G.ms.map (·.p) = H.ms.map (·.p) := fun G hG => by
      have := hall G hG
      unfold okG at this
      cases hg : groupOf gs2 G.name with
      | none => rw [hg] at this; cases this
      | some H => rw [hg] at this; exact ⟨H, rfl, (eqMs_iff _ _).1 this⟩
    have hss : (gs1.map fun G => G.name) ⊆ gs2.map fun G => G.name := fun x hx => by
      obtain ⟨G, hG, rfl⟩ := List.mem_map.1 hx
      obtain ⟨H, hH, _⟩ := hsub G hG
      obtain ⟨e1, e2⟩ := groupOf_mem hH
      exact List.mem_map.2 ⟨H, e1, e2⟩
    by_cases ht : t ∈ gs1.map fun G => G.name
    · obtain ⟨G, hG, rfl⟩ := List.mem_map.1 ht
      obtain ⟨H, hH, e⟩ := hsub G hG
      unfold linesIn
      rw [groupOf_of h1.names hG, hH]
      exact e
    · have hn1 : groupOf gs1 t = none := by
        cases hg : groupOf gs1 t with
        | none => rfl
        | some G => exact absurd (List.mem_map.2 ⟨G, groupOf_mem hg⟩) ht
      have hn2 : groupOf gs2 t = none := by
        cases hg : groupOf gs2 t with
        | none => rfl
        | some G =>
          exfalso
          have h3 : (t :: gs1.map fun G => G.name).Nodup := List.nodup_cons.2 ⟨ht, h1.names⟩
          have h4 := h3.length_le_of_subset (l₂ := gs2.map fun G => G.name) (fun x hx => by
            rcases List.mem_cons.1 hx with rfl | hx
            · exact List.mem_map.2 ⟨G, groupOf_mem hg⟩
            · exact hss hx)
          rw [List.length_cons, List.length_map, List.length_map] at h4
          omega
      unfold linesIn
      rw [hn1, hn2]
  · intro h
    have hsub : ∀ {gsa gsb : List MG}, (∀ G ∈ gsa, G.ms ≠ []) → (gsa.map fun G => G.name).Nodup → (∀ t, (linesIn gsa t).map (·.p) = (linesIn gsb t).map (·.p)) → ∀ G ∈ gsa, ∃ H, groupOf gsb G.name = some H ∧ G.ms.map (·.p) = H.ms.map (·.p) := fun {gsa gsb} hn hd hh G hG => by
      have h0 := hh G.name
      unfold linesIn at h0
      rw [groupOf_of hd hG] at h0
      cases hg : groupOf gsb G.name with
      | none =>
        rw [hg] at h0
        exact absurd (List.map_eq_nil_iff.1 h0) (hn G hG)
      | some H => rw [hg] at h0; exact ⟨H, rfl, h0⟩
    have p1 : (gs1.map fun G => G.name) ⊆ gs2.map fun G => G.name := fun x hx => by
      obtain ⟨G, hG, rfl⟩ := List.mem_map.1 hx
      obtain ⟨H, hH, _⟩ := hsub hne1 h1.names h G hG
      obtain ⟨e1, e2⟩ := groupOf_mem hH
      exact List.mem_map.2 ⟨H, e1, e2⟩
    have p2 : (gs2.map fun G => G.name) ⊆ gs1.map fun G => G.name := fun x hx => by
      obtain ⟨G, hG, rfl⟩ := List.mem_map.1 hx
      obtain ⟨H, hH, _⟩ := hsub hne2 h2.names (fun t => (h t).symm) G hG
      obtain ⟨e1, e2⟩ := groupOf_mem hH
      exact List.mem_map.2 ⟨H, e1, e2⟩
    refine ⟨?_, fun G hG => ?_⟩
    · have a1 := h1.names.length_le_of_subset p1
      have a2 := h2.names.length_le_of_subset p2
      rw [List.length_map, List.length_map] at a1 a2
      omega
    · obtain ⟨H, hH, e⟩ := hsub hne1 h1.names h G hG
      rw [okG_some hH, eqMs_iff]
      exact e

end Go.Proofs.YtdjaphcelpchaaaGreatDoor

namespace Go.Proofs.YtdjaphcelpchaaaGreatDoor
open Go Go.RowKit Go.Proofs

/-- What Groups answers, and the type of its row. -/
def GroupsPostT (gs : List MG) (w : World) (r : Ending) (w' : World) : Prop := ∃ v ns, r = .returned v ∧ StrsAt w.heap.size w' v ns ∧ ordN ns ∧ (∀ t, t ∈ ns ↔ ∃ G ∈ gs, G.name = t) ∧ Below w.heap.size w w' ∧ ∀ b, v.ownBlock = some b → ∃ cs fz, w'.heap[b]? = some (.cells cs 9 fz)
theorem sortWorld_typed (w : World) (blk off m : Nat) (dk : Array SName) (os : Array Obj) {cur : Array Value} {ty : TypeId} {fz : Nat × Nat} (h : w.heap[blk]? = some (.cells cur ty fz)) : ∃ cs fz', (sortWorld encN w blk off m dk os).heap[blk]? = some (.cells cs ty fz') := by
  have hl := (Array.getElem?_eq_some_iff.1 h).1
  have h' : (Go.Sort.ahead w m).heap[blk]? = some (.cells cur ty fz) := h
  unfold sortWorld
  rw [Go.Sort.heap_grow_old _ _ (by simp; omega)]
  unfold Go.Sort.putRow Go.Sort.mapBlock
  simp only [Array.getElem?_modify]
  rw [if_pos trivial, h']
  exact ⟨_, _, rfl⟩

set_option maxRecDepth 100000 in
set_option maxHeartbeats 4000000 in
theorem groups_typed (B ib M mc : Nat) (gs : List MG) (w : World) (hG : Gl w) (h : IdxAt B w ib M gs mc) :
    Calls Tryz.prog 47 #[.pointer (some ⟨ib, 0, none⟩)] w fun r w' => GroupsPostT gs w r w' := by
  have hc := h.cell0
  obtain ⟨W1, hW1⟩ : ∃ W1, W1 = w.alloc (.cells #[.map (some M)] 102) := ⟨_, rfl⟩
  have hb1 : Below w.heap.size w W1 := by rw [hW1]; exact (Below.refl _ _).alloc (Nat.le_refl _) _
  have hX1 := h.below hb1
  have hs1 : W1.heap.size = w.heap.size + 1 := by rw [hW1]; simp
  have hm1 : W1.cell? ⟨w.heap.size, 0, none⟩ = some (.map (some M)) := by rw [hW1]; exact cells_new w _ _ 0
  have hown := hX1.owns h.groups
  have hseq : SeqGives Fence.wide 2 Tryz.prog 119 #[.pointer (some ⟨w.heap.size, 0, none⟩)] encStr (fun ss => ss.Perm (Go.strKeys (datumP Tryz.prog gs))) (Go.Maps.size (datumP Tryz.prog gs)) W1 :=
    AnyZ.keys_gives (ρ := Tryz.keysA_ren) { Tryz.keysA with } Fence.wide _ trivial rfl (by omega) w.heap.size M gs.length _ _ (by omega) hm1 hown
  have hK : Calls Tryz.prog 85 #[.map (some M)] w fun e w' => e = .returned (.func (.func 119) #[] #[.pointer (some ⟨w.heap.size, 0, none⟩)]) ∧ w' = W1 := by
    rw [hW1]
    exact (callsIn_wide (n := 5)).1 (AnyZ.keys_in Tryz.keysA Fence.wide 5 trivial rfl (some M) w)
  have hgl := h.groups
  have hC : Calls Tryz.prog 117 #[.func (.func 119) #[] #[.pointer (some ⟨w.heap.size, 0, none⟩)]] W1 fun e w' => ∃ (v : Value) (ss : List (List UInt8)), e = .returned v ∧ ss.Perm (Go.strKeys (datumP Tryz.prog gs)) ∧ w'.ownsRow W1.heap.size 9 1 v ss.length (ss.map encStr) ∧ (v = .slice none 0 0 ↔ ss = []) ∧ Below W1.heap.size W1 w' :=
    (callsIn_wide (n := 4)).1 (AnyZ.collect_in Tryz.collectA Fence.wide 4 trivial trivial rfl (by omega) 119 _ trivial (enters_of Tryz.func119 (by kernel_rfl) rfl) _ _ (by rw [size_datum]; unfold maxLen; omega) (by rw [size_datum]; omega) W1 hseq)
  have hkeys := strKeys_datum h
  have hnames : ∀ G ∈ gs, G.name.size ≤ 80 := fun G hG => name_size (h.grps G hG).named
  have hnd := h.names
  have HS : Hid (Calls Tryz.prog 84 #[.func (.func 119) #[] #[.pointer (some ⟨w.heap.size, 0, none⟩)], .func (.func 86) #[] #[]] W1 fun r w' => GroupsPostT gs w r w') := Lib.hid (by
    have HC := Lib.hid hC
    have HG := Lib.hid (hG.later hb1)
    have HB1 := Lib.hid hb1
    clear hC hK hseq hown hX1 hc h hG hb1 hm1 hW1
    go_enter Tryz.func84, Tryz.ntmps84
    go_wp2_with fail
    refine HC.out.mono ?_
    rintro r w2 ⟨v, ss, rfl, hp, hrow, hnil, hb2⟩
    have hB2 := HB1.out.trans (hb2.mono (by omega))
    have hpn : ss.Perm (gs.map fun G => G.name.data.toList) := hp.trans hkeys
    have hG2 := HG.out.later hb2
    have HB2 := Lib.hid hB2
    rcases hrow.2 with ⟨rfl, h0⟩ | ⟨g, cap, cur, rfl, hg, hcur, hle, hmx, hcs, htk⟩
    · have hss : ss = [] := List.length_eq_zero_iff.1 h0
      have hgs : gs = [] := by
        rw [hss] at hpn
        have := hpn.symm.eq_nil
        simpa using this
      clear hrow hnil hb2 hB2 hp hpn hG2 HG HC HB1 hkeys h0 hnames hnd hs1 hgl
      go_wp2_with fail
      refine (AnyF.slices_SortFunc_none (L := { Tryz.sortA with }) none 0 _ w2).mono ?_
      rintro r w' ⟨rfl, rfl⟩
      go_wp2
      go_ret
      exact ⟨_, [], rfl, .inl ⟨rfl, rfl⟩, .nil, fun t => by rw [hgs]; simp, HB2.out, fun b hb => by cases hb⟩
    · obtain ⟨bs, hbs⟩ : ∃ bs : List ByteArray, bs = ss.map str := ⟨_, rfl⟩
      have hbl : bs.length = ss.length := by rw [hbs]; simp
      have hbp : bs.Perm (gs.map fun G => G.name) := by
        rw [hbs]
        refine (hpn.map str).trans ?_
        rw [List.map_map]
        refine List.Perm.of_eq (List.map_congr_left fun G _ => ?_)
        rfl
      have hbn : bs.Nodup := hbp.nodup_iff.2 hnd
      have hbz : ∀ s ∈ bs, s.size ≤ 100000 := fun s hs => by
        obtain ⟨G, hG, e⟩ := List.mem_map.1 (hbp.mem_iff.1 hs)
        have := hnames G hG
        rw [← e]; omega
      have hlen : ss.length = gs.length := by
        have := hpn.length_eq
        simpa using this
      have hglt := (Array.getElem?_eq_some_iff.1 hcur).1
      have hsr : StrRow w2 g 0 bs := fun k x hx => by
        have := World.ownsRow.cells hrow (g := g) rfl k (.string x) (by
          rw [hbs, List.getElem?_map] at hx
          rw [List.getElem?_map]
          cases hk : ss[k]? with
          | none => rw [hk] at hx; cases hx
          | some l => rw [hk] at hx; cases hx; rfl)
        rwa [Addr.add_lit] at this
      have hHo : Go.Sort.Holds encN w2 g 0 (bs.pmap mkN hbz).toArray := fun j hj => by
        have hj' : j < bs.length := by simpa using hj
        refine ⟨?_, ?_⟩
        · rw [hsr j bs[j] (List.getElem?_eq_getElem hj'), getElem!_pos _ j hj]
          simp only [List.getElem_toArray, List.getElem_pmap]
          rfl
        · unfold World.frozen?
          rw [hcur]
          simp
      have hsz : (bs.pmap mkN hbz).toArray.size = ss.length := by simp [hbl]
      have HSO := Lib.hid (sort_any' g cap ss.length bs w2 hG2 hbz hglt (Nat.le_trans (HG.out.size) hg) hHo (by omega) hbl.symm)
      have HCUR := Lib.hid hcur
      have HFIN := Lib.hid (fun (w' : World) (d' : Array SName) n os hp hs hw => sorted_row (w := w2) (w' := w') hbz hbn hsr hglt d' n os hHo hp hs hw)
      have HMEM : Hid (∀ t, t ∈ bs ↔ ∃ G ∈ gs, G.name = t) := Lib.hid (fun t => by rw [hbp.mem_iff, List.mem_map])
      have HBL := Lib.hid hbl
      have HLEN := Lib.hid hlen
      clear hHo hsr hrow hnil hb2 hB2 hp hpn hG2 HC hkeys hnames hnd hcs htk hbn hbp hbs hcur hbl hlen hsz
      clear HG HB1
      go_wp2_with fail
      refine HSO.out.mono ?_
      rintro r w3 ⟨rfl, d', n, os, hp, hs, hw⟩
      obtain ⟨ns, hnl, hr3, ho3, hm3⟩ := HFIN.out w3 d' n os hp hs hw
      have hB3 : Below g w2 w3 := by rw [hw]; exact below_sortWorld w2 g 0 n d' os (by omega)
      have HB3 := Lib.hid (HB2.out.trans (hB3.mono (by omega)))
      have hl3 : g < w3.heap.size := Nat.lt_of_lt_of_le hglt hB3.size
      have HTY : Hid (∃ cs fz, w3.heap[g]? = some (.cells cs 9 fz)) := Lib.hid (by rw [hw]; exact sortWorld_typed w2 g 0 n d' os HCUR.out)
      clear hp hs hw HFIN HSO hB3
      have hnl' := Lib.hid (show ns.length = ss.length by rw [hnl, HBL.out])
      clear hnl
      go_wp2
      go_ret
      exact ⟨_, ns, rfl, .inr ⟨g, cap, by rw [hnl'.out]; rfl, by rw [hnl'.out]; exact hle, hr3, by omega, hl3⟩, ho3, fun t => (hm3 t).trans (HMEM.out t), HB3.out, fun b hb => by cases hb; exact HTY.out⟩)
  have HK := Lib.hid hK
  clear hC hK hseq hown hX1 h hG hb1 hm1 hkeys hnames hnd hs1 hgl
  clear hW1
  go_enter Tryz.func47, Tryz.ntmps47
  go_wp2_with fail
  refine HK.out.mono ?_
  rintro r w' ⟨rfl, rfl⟩
  go_wp2_with fail
  refine HS.out.mono ?_
  rintro r w' ⟨v, ns, rfl, hpost⟩
  have HP := Lib.hid hpost
  obtain ⟨va, vc, rfl⟩ := hpost.1.slice
  clear hpost
  go_wp2
  go_ret
  exact ⟨_, ns, rfl, HP.out⟩

end Go.Proofs.YtdjaphcelpchaaaGreatDoor

namespace Go.Proofs.YtdjaphcelpchaaaGreatDoor
open Go Go.RowKit Go.Proofs Go.Shelf

attribute [local go_sem ↓] ex_load_id ex_store_id ex_load_line ex_store_line ex_load_rline ex_store_rline ex_alloc_line ex_build_line ex_alloc_rline ex_build_rline

attribute [local go_sem] ld_id st_id ld_line st_line ld_rline st_rline guard_id okCells_drew rdCells_drew okCells_drewN rdCells_drewN rowOk_drew rowOk_cells okCells_cells rdCells_cells setRow_drew setRow_new setRow_past

/-- The text of a line with its end; of a group; of groups. -/
def txtP (p : PLine) : List UInt8 := lineTxt p.number.toNat p.id p.name p.date.toNat p.subject p.ids p.bytes.toNat ++ [10]
def grpHead (t : ByteArray) (n : Nat) : List UInt8 := [103, 114, 111, 117, 112, 32] ++ t.data.toList ++ [32] ++ Lib.decDigits n ++ [10]
def grpTxt (t : ByteArray) (ps : List PLine) : List UInt8 := grpHead t ps.length ++ ps.flatMap txtP
def encTxt (f : ByteArray → List PLine) (ts : List ByteArray) : List UInt8 := ts.flatMap fun t => grpTxt t (f t)

theorem good_bounds {p : PLine} (h : pErr p = 0) : (∃ n d b : Nat, p.number = (n : Int) ∧ p.date = (d : Int) ∧ p.bytes = (b : Int) ∧ n ≤ 9223372036854775807 ∧ d ≤ 9223372036854775807 ∧ b ≤ 9223372036854775807) ∧ p.name.size ≤ 1300 ∧ p.subject.size ≤ 1300 ∧ p.ids.length ≤ 20 := by
  obtain ⟨h1, h2, h3, h4, h5, h6⟩ := lineErr_zero h
  have h1' : 1 ≤ p.number ∧ p.number ≤ 2147483646 := h1
  have h2' : p.name.size ≤ 60 := h2
  have h3' : 0 ≤ p.date ∧ p.date ≤ 105190559 := h3
  have h4' : p.subject.size ≤ 200 := h4
  have h6' : 0 ≤ p.bytes ∧ p.bytes ≤ 65536 := h6
  exact ⟨⟨p.number.toNat, p.date.toNat, p.bytes.toNat, by omega, by omega, by omega, by omega, by omega, by omega⟩, by omega, by omega, h5⟩
theorem txtP_le {p : PLine} (h : pErr p = 0) : (txtP p).length ≤ 10001 := by
  obtain ⟨⟨n, d, b, h1, h2, h3, h4, h5, h6⟩, h7, h8, h9⟩ := good_bounds h
  have := lineTxt_le n p.id p.name d p.subject p.ids b h4 h5 h6 h7 h8 h9
  unfold txtP
  rw [h1, h2, h3]
  simp only [Int.toNat_natCast, List.length_append, List.length_singleton]
  omega
theorem flat_le {α : Type} (f : α → List UInt8) (m : Nat) : ∀ (l : List α), (∀ x ∈ l, (f x).length ≤ m) → (l.flatMap f).length ≤ l.length * m
  | [], _ => by simp
  | a :: l, h => by
    have h1 := h a (by simp)
    have h2 := flat_le f m l fun x hx => h x (by simp [hx])
    rw [List.flatMap_cons, List.length_append, List.length_cons, Nat.succ_mul]
    omega
theorem grpHead_le {t : ByteArray} {n : Nat} (ht : t.size ≤ 80) (hn : n ≤ 9223372036854775807) : (grpHead t n).length ≤ 200 := by
  have h1 := decDigits_len n hn
  have h2 : t.data.toList.length = t.size := Array.length_toList
  unfold grpHead
  simp only [List.length_append, List.length_cons, List.length_nil]
  omega
theorem grpTxt_le {t : ByteArray} {ps : List PLine} (ht : t.size ≤ 80) (hp : ∀ p ∈ ps, pErr p = 0) (hn : ps.length ≤ 65536) : (grpTxt t ps).length ≤ 700000000 := by
  have h1 := grpHead_le (n := ps.length) ht (by omega)
  have h2 := flat_le txtP 10001 ps fun p h => txtP_le (hp p h)
  have h3 : ps.length * 10001 ≤ 65536 * 10001 := Nat.mul_le_mul_right _ hn
  unfold grpTxt
  rw [List.length_append]
  omega

set_option maxHeartbeats 1000000 in
theorem lineText_p (m : ML) (w : World) (hG : Gl w) (hg : pErr m.p = 0) (h : IdsAt w m.v m.p.ids) :
    Calls Tryz.prog 54 #[.agg (lineCells m.g)] w fun r w' => r = .returned (.string (str (lineTxt m.p.number.toNat m.p.id m.p.name m.p.date.toNat m.p.subject m.p.ids m.p.bytes.toNat))) ∧ Below w.heap.size w w' := by
  obtain ⟨⟨n, d, b, e1, e2, e3, h4, h5, h6⟩, h7, h8, h9⟩ := good_bounds hg
  rw [e1, e2, e3]
  simp only [Int.toNat_natCast]
  exact lineText_any m.g m.p.ids n d b w hG ⟨h, by unfold maxLen; omega, by show m.p.name.size ≤ _; unfold maxLen; omega, by show m.p.subject.size ≤ _; unfold maxLen; omega⟩ e1 e2 e3 h4 h5 h6 h7 h8 h9

theorem lays166 : Go.Proofs.Lays.n166 Tryz.prog Tryz.lays156_ren := { Tryz.lays156 with }
theorem bytes_length (l : List UInt8) : (Lib.byteCells l).length = l.length := by simp [Lib.byteCells]
/-- A write behind a builder. -/
theorem wr_any (B b : Nat) (l : List UInt8) (s : ByteArray) (w : World) (h : Lib.IsBuilderF 126 5 B b (Lib.byteCells l) w) (hlen : l.length + s.size ≤ 140737488355328) (hBw : B ≤ w.heap.size) :
    Calls Tryz.prog 80 #[.pointer (some ⟨b, 0, none⟩), .string s] w fun e w' => e = .returned (.tuple #[.int .i64 s.size, .nilIface]) ∧ Lib.IsBuilderF 126 5 B b (Lib.byteCells (l ++ s.data.toList)) w' ∧ Below B w w' ∧ Lib.OthersKept 5 (some b) w w' := by
  refine (Any.Builder_WriteString_k lays166 Tryz.Builder_Extra_156 B b (Lib.byteCells l) s w h (by rw [bytes_length]; exact hlen) hBw).mono ?_
  rintro e w' ⟨he, h1, h2, h3⟩
  refine ⟨he, .inr ?_, h2, h3⟩
  have e1 : Lib.byteCells (l ++ s.data.toList) = Lib.byteCells l ++ Lib.strCells s := by unfold Lib.byteCells Lib.strCells; rw [List.map_append]
  rw [e1]
  exact h1
theorem builderF_below {B b : Nat} {bs : List Value} {w w' : World} (h : Lib.IsBuilderF 126 5 B b bs w) (hb : Below w.heap.size w w') : Lib.IsBuilderF 126 5 B b bs w' := by
  have one : ∀ {p : Value}, Lib.BuilderAtF 126 5 B b p bs w → Lib.BuilderAtF 126 5 B b p bs w' := fun {p} h => by
    have hlt := h.lt
    obtain ⟨hB, v, hbk, hown, hne⟩ := h
    exact ⟨hB, v, (hb.block b hlt).trans hbk, hown.kept (row := none) ⟨hb.os, hb.tape, hb.output, hb.size, fun k hk _ => hb.block k hk⟩ (by cases hv : v.ownBlock <;> simp), hne⟩
  exact h.elim (fun x => .inl (one x)) (fun x => .inr (one x))
theorem builderF_fresh (w : World) : Lib.IsBuilderF 126 5 w.heap.size w.heap.size (Lib.byteCells []) (w.alloc (.cells #[.pointer none, .slice none 0 0] 126)) := Lib.IsBuilderF.of (Lib.fresh_isBuilder 126 5 w)

/-- In the middle of Encode. -/
structure EncSt (w w1 : World) (bs : List UInt8) (W : World) : Prop where
  bu : Lib.IsBuilderF 126 5 w.heap.size w.heap.size (Lib.byteCells bs) W
  bl : Below w.heap.size w W
  ok : Lib.OthersKept 5 (some w.heap.size) w1 W
theorem EncSt.step {w w1 : World} {bs : List UInt8} {W W' : World} (h : EncSt w w1 bs W) (hb : Below W.heap.size W W') : EncSt w w1 bs W' :=
  ⟨builderF_below h.bu hb, h.bl.trans (hb.mono h.bl.size), fun k o hk h1 h2 => (hb.block k (Array.getElem?_eq_some_iff.1 (h.ok k o hk h1 h2)).1).trans (h.ok k o hk h1 h2)⟩
theorem EncSt.write {w w1 : World} {bs : List UInt8} {W W' : World} (h : EncSt w w1 bs W) {l : List UInt8} (h1 : Lib.IsBuilderF 126 5 w.heap.size w.heap.size (Lib.byteCells l) W') (h2 : Below w.heap.size W W') (h3 : Lib.OthersKept 5 (some w.heap.size) W W') : EncSt w w1 l W' :=
  ⟨h1, h.bl.trans h2, h.ok.trans h3⟩
/-- What Encode answers. -/
def EncPost (gs : List MG) (w : World) (r : Ending) (w' : World) : Prop := ∃ ns, r = .returned (.string (str (encTxt (fun t => (linesIn gs t).map (·.p)) ns))) ∧ ordN ns ∧ (∀ t, t ∈ ns ↔ ∃ G ∈ gs, G.name = t) ∧ Below w.heap.size w w'

theorem head_str (t : ByteArray) (n : Nat) : ((⟨#[103, 114, 111, 117, 112, 32]⟩ : ByteArray) ++ t ++ ⟨#[32]⟩ ++ str (Lib.decDigits n) ++ ⟨#[10]⟩) = str (grpHead t n) := by
  have e1 : (⟨#[103, 114, 111, 117, 112, 32]⟩ : ByteArray) = str [103, 114, 111, 117, 112, 32] := rfl
  have e2 : (⟨#[32]⟩ : ByteArray) = str [32] := rfl
  have e3 : (⟨#[10]⟩ : ByteArray) = str [10] := rfl
  rw [e1, e2, e3, str_append', str_append, str_append, str_append]
  rfl
theorem line_str (l : List UInt8) : (str l ++ (⟨#[10]⟩ : ByteArray)) = str (l ++ [10]) := by
  have e3 : (⟨#[10]⟩ : ByteArray) = str [10] := rfl
  rw [e3, str_append]

set_option maxRecDepth 100000 in
set_option maxHeartbeats 8000000 in
theorem encode_any (B ib M mc : Nat) (gs : List MG) (w : World) (hG : Gl w) (h : IdxAt B w ib M gs mc) :
    Calls Tryz.prog 35 #[.pointer (some ⟨ib, 0, none⟩)] w fun r w' => EncPost gs w r w' := by
  obtain ⟨W0, hW0⟩ : ∃ W0, W0 = w.alloc (.cells #[.pointer none, .slice none 0 0] 126) := ⟨_, rfl⟩
  have hb0 : Below w.heap.size w W0 := by rw [hW0]; exact (Below.refl _ _).alloc (Nat.le_refl _) _
  have hs0 : W0.heap.size = w.heap.size + 1 := by rw [hW0]; simp
  have hbu : Lib.IsBuilderF 126 5 w.heap.size w.heap.size (Lib.byteCells []) W0 := by rw [hW0]; exact builderF_fresh w
  have HGR := Lib.hid (groups_typed B ib M mc gs W0 (hG.later hb0) (h.below hb0))
  have HX := Lib.hid h
  have HG := Lib.hid hG
  have HB0 := Lib.hid hb0
  have HBU := Lib.hid hbu
  have hzs : ((lineCells zeroLine).size == 38) = true := by rw [lineCells_size]; rfl
  clear h hG hb0 hbu
  go_enter Tryz.func35, Tryz.ntmps35
  go_wp2_with fail
  rw [← hW0]
  clear hW0
  refine HGR.out.mono ?_
  rintro r w1 ⟨v, ns, rfl, hns, hord, hmem, hb1, htyp⟩
  have HST : Hid (EncSt w w1 [] w1) := Lib.hid ⟨builderF_below HBU.out hb1, HB0.out.trans (hb1.mono HB0.out.size), Lib.OthersKept.refl _ _ _⟩
  have HO := Lib.hid hord
  have HM := Lib.hid hmem
  have hnl : ns.length ≤ 65536 := by
    have h1 : ns.Nodup := hord.imp fun {a b} hab e => by rw [e, cmpN_refl] at hab; omega
    have h2 : ns.length ≤ (gs.map fun G => G.name).length := h1.length_le_of_subset fun t ht => by
      obtain ⟨G, hG, e⟩ := (hmem t).1 ht
      exact List.mem_map.2 ⟨G, hG, e⟩
    rw [List.length_map] at h2
    exact Nat.le_trans h2 HX.out.groups
  clear HGR hord hmem HBU
  obtain ⟨F, hF⟩ : ∃ F : ByteArray → List PLine, F = fun t => (linesIn gs t).map (·.p) := ⟨_, rfl⟩
  have HF := Lib.hid hF
  have HFL : Hid (∀ t, (F t).length = (linesIn gs t).length) := Lib.hid fun t => by rw [hF]; simp
  have HBND : Hid (∀ k, (encTxt F (ns.take k)).length ≤ 45875200000000) := Lib.hid fun k => by
    have h1 := flat_le (fun t => grpTxt t (F t)) 700000000 (ns.take k) fun t ht => by
      obtain ⟨G, hG, e⟩ := (HM.out t).1 (List.mem_of_mem_take ht)
      refine grpTxt_le (by rw [← e]; exact name_size (HX.out.grps G hG).named) (fun p hp => ?_) (by rw [HFL.out]; exact HX.out.len t)
      rw [hF] at hp
      obtain ⟨m, hm, rfl⟩ := List.mem_map.1 hp
      exact HX.out.good_in hm
    have h2 : (ns.take k).length * 700000000 ≤ 65536 * 700000000 := Nat.mul_le_mul_right _ (by rw [List.length_take]; omega)
    unfold encTxt
    omega
  clear hF
  obtain ⟨ga, gc, rfl, hgr⟩ : ∃ ga gc, v = .slice ga ns.length gc ∧ (ns ≠ [] → ∃ b, ga = some ⟨b, 0, none⟩ ∧ b ≠ w.heap.size ∧ StrRow w1 b 0 ns ∧ ∃ cs fz, w1.heap[b]? = some (.cells cs 9 fz)) := by
    rcases hns with ⟨e1, rfl⟩ | ⟨b, c, rfl, _, hrow, hbB, hbl⟩
    · exact ⟨none, 0, by rw [e1]; rfl, fun h => absurd e1 h⟩
    · exact ⟨_, c, rfl, fun _ => ⟨b, rfl, by omega, hrow, htyp b rfl⟩⟩
  have HGRR := Lib.hid hgr
  clear hns htyp hgr
  go_wp2
  go_loopw [5, 6, 8, 12] (fun _ _ _ i wr => ∃ k : Nat, k ≤ ns.length ∧ i = .int .i64 k ∧ Hid (EncSt w w1 (encTxt F (ns.take k)) wr)) (fun _ _ _ i _ => ns.length - (intOf i).toNat)
  case atStart => exact ⟨0, Nat.zero_le _, rfl, HST⟩
  case round =>
    obtain ⟨k, hk, rfl, HS⟩ := hrel
    by_cases hlt : k < ns.length
    · have hltz : (k : Int) < (ns.length : Int) := by omega
      obtain ⟨b, rfl, hbb, hrow, cs, fz, hcs⟩ := HGRR.out (by intro e; rw [e] at hlt; exact absurd hlt (by simp))
      have hwb : wr.heap[b]? = some (.cells cs 9 fz) := HS.out.ok b _ hcs (by intro e; cases e; exact hbb rfl) (fun c fz' e => by cases e)
      have hcell : wr.cell? ⟨b, k, none⟩ = some (.string ns[k]) := by
        have := hrow k ns[k] (List.getElem?_eq_getElem hlt)
        rw [Nat.zero_add] at this
        rw [← this]
        unfold World.cell?
        rw [hwb, hcs]
      have HLN := Lib.hid (linesOf_any B ib M mc gs ns[k] wr (HX.out.below HS.out.bl))
      have HTK : Hid (encTxt F (ns.take (k + 1)) = encTxt F (ns.take k) ++ grpTxt ns[k] (F ns[k])) := Lib.hid (by unfold encTxt; rw [List.take_succ_eq_append_getElem hlt, List.flatMap_append]; simp)
      have HLS := Lib.hid ((HX.out.below HS.out.bl).lines ns[k])
      have HKB := Lib.hid (HBND.out (k + 1))
      have hvl : ∃ la lc, valueOf gs ns[k] = .slice la (linesIn gs ns[k]).length lc := by
        rcases HLS.out.head with ⟨e, e2⟩ | ⟨g, cap, e, _⟩
        · exact ⟨none, 0, by rw [e, e2]; rfl⟩
        · exact ⟨_, _, e⟩
      obtain ⟨la, lc, hvl⟩ := hvl
      have HLEN := Lib.hid (HX.out.len ns[k])
      have HGT : Hid (∀ p ∈ F ns[k], pErr p = 0) := Lib.hid (by
        rw [HF.out]
        intro p hp
        obtain ⟨m, hm, rfl⟩ := List.mem_map.1 hp
        exact HX.out.good_in hm)
      have HFE : Hid (∀ j (h : j < (linesIn gs ns[k]).length), (F ns[k]).take (j + 1) = (F ns[k]).take j ++ [(linesIn gs ns[k])[j].p]) := Lib.hid (by
        rw [HF.out]
        intro j h
        rw [List.take_succ_eq_append_getElem (by simpa using h)]
        simp)
      have HLA : Hid (∀ W, EncSt w w1 (encTxt F (ns.take k)) W ∨ Below w.heap.size w W → LinesAt B W (valueOf gs ns[k]) (linesIn gs ns[k])) := Lib.hid (by
        rintro W (h | h)
        · exact (HX.out.below h.bl).lines ns[k]
        · exact (HX.out.below h).lines ns[k])
      have HFT := HFL.out ns[k]
      clear hrow hcs hwb
      have htz : ns[k].size ≤ 80 := by
        obtain ⟨G, hG, e⟩ := (HM.out ns[k]).1 (List.getElem_mem hlt)
        rw [← e]; exact name_size (HX.out.grps G hG).named
      generalize ns[k] = t at *
      rw [hvl] at HLN HLS HLA
      go_wp2_with fail
      refine HLN.out.mono ?_
      rintro r w2 ⟨rfl, rfl⟩
      have h20 : ¬ 9223372036854775807 < 6 + t.size := by omega
      have h21 : ¬ 9223372036854775807 < 6 + t.size + 1 := by omega
      have HGr := Lib.hid (HG.out.later HS.out.bl)
      have hnn : (linesIn gs t).length ≤ 9223372036854775807 := by have := HLEN.out; omega
      go_wp2_with fail
      refine (itoa_any _ _ hnn HGr.out).mono ?_
      rintro r wz ⟨rfl, hbz⟩
      have HSZ := Lib.hid (HS.out.step hbz)
      clear hbz
      have hdl := decDigits_len _ hnn
      have hds : (str (Lib.decDigits (linesIn gs t).length)).size ≤ 20 := by show (Lib.decDigits (linesIn gs t).length).toArray.size ≤ _; rw [List.size_toArray]; omega
      have h22 : ¬ 9223372036854775807 < 6 + t.size + 1 + (str (Lib.decDigits (linesIn gs t).length)).size := by omega
      have h23 : ¬ 9223372036854775807 < 6 + t.size + 1 + (str (Lib.decDigits (linesIn gs t).length)).size + 1 := by omega
      go_wp2_with fail
      rw [head_str]
      have hwl : (encTxt F (List.take k ns)).length + (grpHead t (linesIn gs t).length).length ≤ 45875200000000 := by
        have h1 := HKB.out
        rw [HTK.out] at h1
        unfold grpTxt at h1
        rw [List.length_append, List.length_append, HFT] at h1
        omega
      refine (wr_any w.heap.size w.heap.size _ _ wz HSZ.out.bu (by show _ + (grpHead t (linesIn gs t).length).toArray.size ≤ _; rw [List.size_toArray]; omega) HSZ.out.bl.size).mono ?_
      rintro r w2 ⟨rfl, h1, h2, h3⟩
      have HS2 : Hid (EncSt w w1 (encTxt F (ns.take k) ++ grpHead t (linesIn gs t).length) w2) := Lib.hid (HSZ.out.write h1 h2 h3)
      clear h1 h2 h3 HSZ HLN
      go_wp2
      go_loopw [8, 30] (fun _ i wr => ∃ j : Nat, j ≤ (linesIn gs t).length ∧ i = .int .i64 j ∧ Hid (EncSt w w1 (encTxt F (ns.take k) ++ grpHead t (linesIn gs t).length ++ ((F t).take j).flatMap txtP) wr)) (fun _ i _ => (linesIn gs t).length - (intOf i).toNat)
      case atStart => exact ⟨0, Nat.zero_le _, rfl, Lib.hid (by have := HS2.out; simpa using this)⟩
      case round =>
        obtain ⟨j, hj, rfl, HJ⟩ := hrel
        by_cases hlt2 : j < (linesIn gs t).length
        · have hltz2 : (j : Int) < ((linesIn gs t).length : Int) := by omega
          have HLJ := Lib.hid (HLA.out _ (.inr HJ.out.bl))
          rcases HLJ.out.head with ⟨_, e⟩ | ⟨g1, cap1, hv1, _, hgl1, _, _, hcell1⟩
          · rw [e] at hlt2; cases hlt2
          cases hv1
          have hmem := List.getElem_mem hlt2
          have hone1 := (HLJ.out.refs (linesIn gs t)[j] hmem).one
          have hft1 := fits_line (g := (linesIn gs t)[j].g) hone1
          have HGM : Hid (pErr (linesIn gs t)[j].p = 0) := Lib.hid (HGT.out _ (by
            have h1 := HFE.out j hlt2
            have h2 : (linesIn gs t)[j].p ∈ (F t).take (j + 1) := by rw [h1]; simp
            exact List.mem_of_mem_take h2))
          obtain ⟨o1, d1⟩ := lineAt_rd (w := wr) (g := g1) (off := j * 38) (l := (linesIn gs t)[j].g) (fun i u hu => hcell1 j hlt2 i u hu)
          have o2 := ok_new_line wr (linesIn gs t)[j].g 34
          have d2 := rd_new_line wr (linesIn gs t)[j].g 34
          have hba : Below wr.heap.size wr (wr.alloc (.cells (lineCells (linesIn gs t)[j].g) 34)) := (Below.refl _ _).alloc (Nat.le_refl _) _
          have HJ2 := Lib.hid (HJ.out.step hba)
          have HTX := Lib.hid (lineText_p (linesIn gs t)[j] _ (HG.out.later HJ2.out.bl) HGM.out (((HLJ.out.refs _ hmem).at).below hba))
          have HFJ := Lib.hid (HFE.out j hlt2)
          have HTL : Hid ((txtP (linesIn gs t)[j].p).length ≤ 10001) := Lib.hid (txtP_le HGM.out)
          have HFLT : Hid ((((F t).take j).flatMap txtP).length ≤ 655425536) := Lib.hid (by
            have h1 := flat_le txtP 10001 ((F t).take j) fun p hp => txtP_le (HGT.out p (List.mem_of_mem_take hp))
            have h2 : ((F t).take j).length * 10001 ≤ 65536 * 10001 := Nat.mul_le_mul_right _ (by rw [List.length_take]; have := HLEN.out; omega)
            omega)
          clear hcell1 hone1 hba HLJ hmem
          generalize (linesIn gs t)[j] = m at *
          obtain ⟨L, hL⟩ : ∃ L, L = lineTxt m.p.number.toNat m.p.id m.p.name m.p.date.toNat m.p.subject m.p.ids m.p.bytes.toNat := ⟨_, rfl⟩
          have hLp : txtP m.p = L ++ [10] := by rw [hL]; rfl
          have hLl : L.length ≤ 10000 := by
            have := HTL.out
            rw [hLp, List.length_append, List.length_singleton] at this
            omega
          rw [← hL] at HTX
          have hls : (str L).size ≤ 10000 := by show L.toArray.size ≤ _; rw [List.size_toArray]; exact hLl
          have h30 : ¬ 9223372036854775807 < (str L).size + 1 := by omega
          have HLP := Lib.hid hLp
          clear hL hLp
          go_wp2_with fail
          refine HTX.out.mono ?_
          rintro r w3 ⟨rfl, hb3⟩
          have HJ3 := Lib.hid (HJ2.out.step hb3)
          clear hb3 HTX HJ2 HJ o1 d1 o2 d2
          go_wp2_with fail
          rw [line_str, ← HLP.out]
          refine (wr_any w.heap.size w.heap.size _ _ w3 HJ3.out.bu (by
            have h1 := HBND.out k
            have h2 := grpHead_le htz hnn
            have h3 := HFLT.out
            have h4 := HTL.out
            show _ + (txtP m.p).toArray.size ≤ _
            rw [List.size_toArray]
            simp only [List.length_append]
            omega) HJ3.out.bl.size).mono ?_
          rintro r w4 ⟨rfl, h1, h2, h3⟩
          have HJ4 : Hid (EncSt w w1 (encTxt F (ns.take k) ++ grpHead t (linesIn gs t).length ++ ((F t).take (j + 1)).flatMap txtP) w4) := Lib.hid (by
            have := HJ3.out.write h1 h2 h3
            have e : [m.p].flatMap txtP = txtP m.p := by simp
            rw [HFJ.out, List.flatMap_append, ← List.append_assoc, e]
            exact this)
          clear h1 h2 h3 HJ3
          go_wp2
          go_roundw
          case rel => exact ⟨j + 1, by omega, by go_num, HJ4⟩
          case measure => simp [intOf]; omega
        · have hltz2 : ¬ (j : Int) < ((linesIn gs t).length : Int) := by omega
          have hjj : j = (linesIn gs t).length := by omega
          have HSN : Hid (EncSt w w1 (encTxt F (ns.take (k + 1))) _) := Lib.hid (by
            have h1 := HJ.out
            rw [hjj, ← HFT, List.take_length] at h1
            rw [HTK.out]
            unfold grpTxt
            rw [← List.append_assoc]
            exact h1)
          clear HJ
          go_wp2
          go_roundw
          case rel => exact ⟨k + 1, by omega, by go_num, HSN⟩
          case measure => simp [intOf]; omega
    · have hltz : ¬ (k : Int) < (ns.length : Int) := by omega
      have hkk : k = ns.length := by omega
      subst hkk
      rw [List.take_length] at HS
      have HSTR : Hid (Calls Tryz.prog 82 #[.pointer (some ⟨w.heap.size, 0, none⟩)] wr fun e w' => e = .returned (.string (str (encTxt F ns))) ∧ Below w.heap.size wr w') := Lib.hid (by
        by_cases he : encTxt F ns = []
        · have := HS.out.bu
          rw [he] at this ⊢
          refine (Tryz.Builder_String_empty_f w.heap.size w.heap.size wr this HS.out.bl.size).mono ?_
          rintro e w' ⟨h1, _, h3⟩
          exact ⟨h1, h3⟩
        · refine (Tryz.Builder_String_f w.heap.size w.heap.size (encTxt F ns) wr HS.out.bu he).mono ?_
          rintro e w' ⟨h1, _, h3⟩
          exact ⟨h1, h3⟩)
      go_wp2_with fail
      refine HSTR.out.mono ?_
      rintro r w2 ⟨rfl, hb2⟩
      have HB2 := Lib.hid (HS.out.bl.trans hb2)
      clear hb2
      go_wp2
      go_ret
      exact ⟨ns, by rw [← HF.out]; first | done | rfl, HO.out, HM.out, HB2.out⟩

end Go.Proofs.YtdjaphcelpchaaaGreatDoor

namespace Go.Proofs.YtdjaphcelpchaaaGreatDoor
open Go Go.RowKit Go.Proofs

attribute [local go_sem ↓] ex_load_id ex_store_id ex_load_line ex_store_line ex_load_rline ex_store_rline ex_alloc_line ex_build_line ex_alloc_rline ex_build_rline

attribute [local go_sem] ld_id st_id ld_line st_line ld_rline st_rline guard_id okCells_drew rdCells_drew okCells_drewN rdCells_drewN rowOk_drew rowOk_cells okCells_cells rdCells_cells setRow_drew setRow_new setRow_past

/-- The text of the first k lines. -/
def newGrp (rs : List MR) (k : Nat) : Bool := decide (k = 0) || !decide ((rs[k - 1]?).map (·.s) = (rs[k]?).map (·.s))
def stepTxt (rs : List MR) (k : Nat) : List UInt8 := match rs[k]? with
  | some r => (if newGrp rs k then grpHead r.s (ofR rs r.s).length else []) ++ txtP r.m.p
  | none => []
def refTxt (rs : List MR) (k : Nat) : List UInt8 := (List.range k).flatMap (stepTxt rs)
theorem refTxt_succ (rs : List MR) (k : Nat) : refTxt rs (k + 1) = refTxt rs k ++ stepTxt rs k := by
  unfold refTxt
  rw [List.range_succ, List.flatMap_append]
  simp

theorem head_str2 (T : List UInt8) (t : ByteArray) (n : Nat) : (str T ++ (⟨#[103, 114, 111, 117, 112, 32]⟩ : ByteArray) ++ t ++ ⟨#[32]⟩ ++ str (Lib.decDigits n) ++ ⟨#[10]⟩) = str (T ++ grpHead t n) := by
  have e1 : (⟨#[103, 114, 111, 117, 112, 32]⟩ : ByteArray) = str [103, 114, 111, 117, 112, 32] := rfl
  have e2 : (⟨#[32]⟩ : ByteArray) = str [32] := rfl
  have e3 : (⟨#[10]⟩ : ByteArray) = str [10] := rfl
  have e4 : t = str t.data.toList := rfl
  rw [e1, e2, e3, e4, str_append, str_append, str_append, str_append, str_append]
  unfold grpHead
  simp only [List.append_assoc]
  rfl
theorem line_str2 (T L : List UInt8) : (str T ++ str L ++ (⟨#[10]⟩ : ByteArray)) = str (T ++ (L ++ [10])) := by
  have e3 : (⟨#[10]⟩ : ByteArray) = str [10] := rfl
  rw [e3, str_append, str_append, List.append_assoc]
theorem stepTxt_le {rs : List MR} (h1 : ∀ r ∈ rs, r.s.size ≤ 100000) (h2 : ∀ r ∈ rs, pErr r.m.p = 0) (h3 : rs.length ≤ 100000) (k : Nat) : (stepTxt rs k).length ≤ 200000 := by
  unfold stepTxt
  cases hk : rs[k]? with
  | none => simp
  | some r =>
    have hm := List.mem_of_getElem? hk
    have hs := h1 r hm
    have hp := txtP_le (h2 r hm)
    have ho : (ofR rs r.s).length ≤ rs.length := by unfold ofR; exact List.length_filter_le _ _
    have hd := decDigits_len (ofR rs r.s).length (by omega)
    have he : r.s.data.toList.length = r.s.size := Array.length_toList
    simp only [List.length_append]
    split
    · unfold grpHead; simp only [List.length_append, List.length_cons, List.length_nil]; omega
    · simp only [List.length_nil]; omega
theorem refTxt_le {rs : List MR} (h1 : ∀ r ∈ rs, r.s.size ≤ 100000) (h2 : ∀ r ∈ rs, pErr r.m.p = 0) (h3 : rs.length ≤ 100000) (k : Nat) : (refTxt rs k).length ≤ k * 200000 := by
  have := flat_le (stepTxt rs) 200000 (List.range k) fun x _ => stepTxt_le h1 h2 h3 x
  rwa [List.length_range] at this
set_option maxHeartbeats 1000000 in
theorem refPrint_p (r : MR) (w : World) (hg : pErr r.m.p = 0) (h : IdsAt w r.m.v r.m.p.ids) :
    Calls Tryz.prog 20 #[.agg (rlineCells r.s r.m.g)] w fun x w' => x = .returned (.string (str (lineTxt r.m.p.number.toNat r.m.p.id r.m.p.name r.m.p.date.toNat r.m.p.subject r.m.p.ids r.m.p.bytes.toNat))) ∧ Below w.heap.size w w' := by
  obtain ⟨⟨n, d, b, e1, e2, e3, h4, h5, h6⟩, h7, h8, h9⟩ := good_bounds hg
  rw [e1, e2, e3]
  simp only [Int.toNat_natCast]
  exact refPrint_any r.s r.m.g r.m.p.ids n d b w ⟨h, by unfold maxLen; omega, by show r.m.p.name.size ≤ _; unfold maxLen; omega, by show r.m.p.subject.size ≤ _; unfold maxLen; omega⟩ e1 e2 e3 h4 h5 h6 h7 h8 h9

set_option maxRecDepth 100000 in
set_option maxHeartbeats 8000000 in
theorem refEncode_any (B : Nat) (v : Value) (rs : List MR) (w : World) (h : RefsAt B w v rs) (hI : ∀ r ∈ rs, IdsAt w r.m.v r.m.p.ids) (hg : ∀ r ∈ rs, pErr r.m.p = 0) :
    Calls Tryz.prog 45 #[v] w fun r w' => r = .returned (.string (str (refTxt rs rs.length))) ∧ Below w.heap.size w w' := by
  have hfew := h.few
  have HX := Lib.hid h
  have HI := Lib.hid hI
  have HGD := Lib.hid hg
  clear hI hg
  obtain ⟨va, vc, hve⟩ : ∃ a c, v = .slice a rs.length c := by
    rcases h.head with ⟨e, h0⟩ | ⟨g', cap', _, e, _⟩
    · exact ⟨none, 0, by rw [e, h0]; rfl⟩
    · exact ⟨_, _, e⟩
  subst hve
  clear h
  go_enter Tryz.func45, Tryz.ntmps45
  go_wp2
  go_loopw [3, 4] (fun s i wr => ∃ k : Nat, k ≤ rs.length ∧ i = .int .i64 k ∧ s = .string (str (refTxt rs k)) ∧ Hid (Below w.heap.size w wr)) (fun _ i _ => rs.length - (intOf i).toNat)
  case atStart => exact ⟨0, by omega, rfl, rfl, Lib.hid (Below.refl _ _)⟩
  case round =>
    obtain ⟨k, hk, rfl, rfl, HB⟩ := hrel
    by_cases hlt : k < rs.length
    · have hltz : (k : Int) < (rs.length : Int) := by omega
      rcases HX.out.head with ⟨_, e0⟩ | ⟨lg, lcap, cur, hlve, _, hll, hlle, _, hlcur, hlcell⟩
      · rw [e0] at hlt; cases hlt
      cases hlve
      have hcX : ∀ j u, (flatR rs)[j]? = some u → wr.cell? ⟨lg, j, none⟩ = some u := fun j u hu => (HB.out.cell (p := ⟨lg, j, none⟩) hll).trans (hlcell j u hu)
      have HCX := Lib.hid hcX
      have HGR : Hid (rs[k]? = some rs[k]) := Lib.hid (List.getElem?_eq_getElem hlt)
      have hmem : rs[k] ∈ rs := List.getElem_mem hlt
      have HST : Hid (stepTxt rs k = (if newGrp rs k then grpHead rs[k].s (ofR rs rs[k].s).length else []) ++ txtP rs[k].m.p) := Lib.hid (by unfold stepTxt; rw [HGR.out])
      have HSU := Lib.hid (refTxt_succ rs k)
      have HNM := Lib.hid (HX.out.names _ hmem)
      have HIK := Lib.hid (HI.out _ hmem)
      have HGK := Lib.hid (HGD.out _ hmem)
      have c0 : wr.cell? ⟨lg, k * 39, none⟩ = some (.string rs[k].s) := by have := rAt_cell hcX hlt (i := 0) (u := .string rs[k].s) rfl; rwa [Nat.add_zero] at this
      have z0 : ∀ z : Later wr, z.1.cell? ⟨lg, k * 39, none⟩ = some (.string rs[k].s) := fun z => Later.cell c0 z
      obtain ⟨o1, d1⟩ := rAt_rd (rs := rs) (k := k) hcX hlt
      have HRT : Hid ((refTxt rs k).length ≤ 20000000000) := Lib.hid (by
        have h1 := refTxt_le HX.out.names HGD.out HX.out.few k
        have h2 : k * 200000 ≤ 100000 * 200000 := Nat.mul_le_mul_right _ (by omega)
        omega)
      have hsz : (str (refTxt rs k)).size ≤ 20000000000 := by rw [str_size]; exact HRT.out
      have hnz : rs[k].s.size ≤ 100000 := HNM.out
      have h20 : ¬ 9223372036854775807 < (str (refTxt rs k)).size + 6 := by omega
      have h21 : ¬ 9223372036854775807 < (str (refTxt rs k)).size + 6 + rs[k].s.size := by omega
      have h22 : ¬ 9223372036854775807 < (str (refTxt rs k)).size + 6 + rs[k].s.size + 1 := by omega
      obtain ⟨L, hL⟩ : ∃ L, L = lineTxt rs[k].m.p.number.toNat rs[k].m.p.id rs[k].m.p.name rs[k].m.p.date.toNat rs[k].m.p.subject rs[k].m.p.ids rs[k].m.p.bytes.toNat := ⟨_, rfl⟩
      have HLP : Hid (txtP rs[k].m.p = L ++ [10]) := Lib.hid (by rw [hL]; rfl)
      have hLs : (str L).size ≤ 10001 := by
        have h1 := txtP_le HGK.out
        rw [HLP.out, List.length_append] at h1
        rw [str_size]; omega
      have HLE := Lib.hid hL
      clear hL
      have hol : (ofR rs rs[k].s).length ≤ 9223372036854775807 := by
        have h1 : (ofR rs rs[k].s).length ≤ rs.length := by unfold ofR; exact List.length_filter_le _ _
        omega
      have hdl := decDigits_len _ hol
      have hds : (str (Lib.decDigits (ofR rs rs[k].s).length)).size ≤ 20 := by rw [str_size]; exact hdl
      have h23 : ¬ 9223372036854775807 < (str (refTxt rs k)).size + 6 + rs[k].s.size + 1 + (str (Lib.decDigits (ofR rs rs[k].s).length)).size := by omega
      have h24 : ¬ 9223372036854775807 < (str (refTxt rs k)).size + 6 + rs[k].s.size + 1 + (str (Lib.decDigits (ofR rs rs[k].s).length)).size + 1 := by omega
      by_cases hk0 : k = 0
      · have HNG : Hid (newGrp rs k = true) := Lib.hid (by unfold newGrp; rw [decide_eq_true hk0]; rfl)
        have hkb : ((k : Int) == 0) = true := by rw [hk0]; rfl
        clear hk0
        go_wp2
        go_quiet (fail)
        go_upto_region 6 with (fail)
        refine wp_region_mix0 [0, 1, 2, 3, 4, 5, 6, 7, 8, 9, 10, 11, 12, 13, 14] [15, 16, 17, 18, 19, 20] (fun w' => ∃ z : Later wr, w' = z.1) (by kernel_rfl) (by kernel_rfl) (by kernel_rfl) ⟨⟨_, (below_drewN' (Below.refl _ _) _).drew⟩, rfl⟩ ?_
        simp only [opsAt, List.map_cons, List.map_nil, Array.getD_eq_getD_getElem?, List.getElem?_toArray, List.getElem?_cons_zero, List.getElem?_cons_succ, Option.getD_some]
        repeat (go_big_quiet_step (fail))
        refine wpQuiet_nil ?_
        refine wpR_cons true rfl (by kernel_rfl) ?_
        go_wp2_with fail
        refine (of_any B _ rs rs[k].s _ (HX.out.below (HB.out.trans ((below_drewN' (Below.refl _ _) _).mono HB.out.size)))).mono ?_
        rintro r w3 ⟨v3, rfl, hr3, hb3⟩
        obtain ⟨va3, vc3, rfl⟩ : ∃ a c, v3 = .slice a (ofR rs rs[k].s).length c := by
          rcases hr3.head with ⟨e, h0⟩ | ⟨g', cap', _, e, _⟩
          · exact ⟨none, 0, by rw [e, h0]; rfl⟩
          · exact ⟨_, _, e⟩
        have hb4 : Below wr.heap.size wr w3 := (below_drewN' (Below.refl wr.heap.size wr) _).trans hb3
        clear hb3 hr3
        go_wp2_with fail
        refine ⟨fun _ => ⟨⟨_, hb4⟩, rfl⟩, wpR_cons true rfl (by kernel_rfl) ?_⟩
        go_wp2_with fail
        refine ⟨fun _ => ⟨⟨_, hb4⟩, rfl⟩, wpR_cons true rfl (by kernel_rfl) ?_⟩
        go_wp2_with fail
        refine (decimal_any _ _ hol).mono ?_
        rintro r w4 ⟨rfl, hb5⟩
        have hb6 : Below wr.heap.size wr w4 := hb4.trans (hb5.mono hb4.size)
        clear hb4 hb5
        go_wp2_with fail
        refine ⟨fun _ => ⟨⟨_, hb6⟩, rfl⟩, wpR_list [18, 19, 20] _ _ (by kernel_rfl) ?_⟩
        simp only [opsAt, List.map_cons, List.map_nil, Array.getD_eq_getD_getElem?, List.getElem?_toArray, List.getElem?_cons_zero, List.getElem?_cons_succ, Option.getD_some]
        go_wp2
        refine NoPanic.normal ?_
        go_upto_region 7 with (fail)
        rw [head_str2]
        have hbX : Below w.heap.size w w4 := HB.out.trans (hb6.mono HB.out.size)
        obtain ⟨o2, d2⟩ := rAt_rd (w := w4) (g := lg) (rs := rs) (k := k) (fun j u hu => (hbX.cell (p := ⟨lg, j, none⟩) hll).trans (hlcell j u hu)) hlt
        obtain ⟨X, hX⟩ : ∃ X, X = refTxt rs k ++ grpHead rs[k].s (ofR rs rs[k].s).length := ⟨_, rfl⟩
        rw [← hX]
        have hXs : (str X).size ≤ 20000200000 := by rw [str_size, hX, List.length_append]; have h1 := HRT.out; have h2 : rs[k].s.data.toList.length = rs[k].s.size := Array.length_toList; unfold grpHead; simp only [List.length_append, List.length_cons, List.length_nil]; omega
        have HEQ : Hid (refTxt rs (k + 1) = X ++ (L ++ [10])) := Lib.hid (by rw [HSU.out, HST.out, HNG.out, HLP.out, hX]; simp)
        clear hX
        have h30 : ¬ 9223372036854775807 < (str X).size + (str L).size := by omega
        have h31 : ¬ 9223372036854775807 < (str X).size + (str L).size + 1 := by omega
        have HPR := Lib.hid (refPrint_p rs[k] w4 HGK.out (HIK.out.below hbX))
        rw [← HLE.out] at HPR
        go_wp2_with fail
        refine HPR.out.mono ?_
        rintro r w5 ⟨rfl, hb7⟩
        have HB7 := Lib.hid (hbX.trans (hb7.mono hbX.size) : Below w.heap.size w w5)
        clear hb7 HPR o2 d2 hbX
        go_wp2
        go_roundw
        case rel => exact ⟨k + 1, by omega, by go_num, by rw [line_str2, HEQ.out], HB7⟩
        case measure => simp [intOf]; omega
      · have hk1 : k - 1 < rs.length := by omega
        obtain ⟨i, hi⟩ : ∃ i : Nat, k - 1 = i := ⟨_, rfl⟩
        have hkb : ((k : Int) == 0) = false := by simp; omega
        rw [hi] at hk1
        have c1 : wr.cell? ⟨lg, i * 39, none⟩ = some (.string rs[i].s) := by have := rAt_cell hcX hk1 (i := 0) (u := .string rs[i].s) rfl; rwa [Nat.add_zero] at this
        have hiw : IntKind.i64.wrap (i : Int) = i := by rw [IntKind.wrap_i64]; omega
        have hiz : (i : Int) < (rs.length : Int) := by omega
        have HNG : Hid (newGrp rs k = !(rs[i].s.toList == rs[k].s.toList)) := Lib.hid (by
          unfold newGrp
          rw [decide_eq_false hk0, hi, List.getElem?_eq_getElem hlt, List.getElem?_eq_getElem hk1]
          simp only [Option.map_some, Option.some.injEq, Bool.false_or]
          by_cases e : rs[i].s = rs[k].s
          · rw [e]; simp
          · rw [decide_eq_false e]
            have : rs[i].s.toList ≠ rs[k].s.toList := fun h => e (by
              rw [ByteArray.toList_eq, ByteArray.toList_eq] at h
              exact ByteArray.ext (Array.toList_inj.1 h))
            simp [this])
        cases hne : (rs[i].s.toList == rs[k].s.toList) with
        | false =>
          rw [hne] at HNG
          go_wp2
          go_quiet (fail)
          go_upto_region 6 with (fail)
          refine wp_region_mix0 [0, 1, 2, 3, 4, 5, 6, 7, 8, 9, 10, 11, 12, 13, 14] [15, 16, 17, 18, 19, 20] (fun w' => ∃ z : Later wr, w' = z.1) (by kernel_rfl) (by kernel_rfl) (by kernel_rfl) ⟨⟨_, (below_drewN' (Below.refl _ _) _).drew⟩, rfl⟩ ?_
          simp only [opsAt, List.map_cons, List.map_nil, Array.getD_eq_getD_getElem?, List.getElem?_toArray, List.getElem?_cons_zero, List.getElem?_cons_succ, Option.getD_some]
          repeat (go_big_quiet_step (fail))
          refine wpQuiet_nil ?_
          refine wpR_cons true rfl (by kernel_rfl) ?_
          go_wp2_with fail
          refine (of_any B _ rs rs[k].s _ (HX.out.below (HB.out.trans ((below_drewN' (Below.refl _ _) _).mono HB.out.size)))).mono ?_
          rintro r w3 ⟨v3, rfl, hr3, hb3⟩
          obtain ⟨va3, vc3, rfl⟩ : ∃ a c, v3 = .slice a (ofR rs rs[k].s).length c := by
            rcases hr3.head with ⟨e, h0⟩ | ⟨g', cap', _, e, _⟩
            · exact ⟨none, 0, by rw [e, h0]; rfl⟩
            · exact ⟨_, _, e⟩
          have hb4 : Below wr.heap.size wr w3 := (below_drewN' (Below.refl wr.heap.size wr) _).trans hb3
          clear hb3 hr3
          go_wp2_with fail
          refine ⟨fun _ => ⟨⟨_, hb4⟩, rfl⟩, wpR_cons true rfl (by kernel_rfl) ?_⟩
          go_wp2_with fail
          refine ⟨fun _ => ⟨⟨_, hb4⟩, rfl⟩, wpR_cons true rfl (by kernel_rfl) ?_⟩
          go_wp2_with fail
          refine (decimal_any _ _ hol).mono ?_
          rintro r w4 ⟨rfl, hb5⟩
          have hb6 : Below wr.heap.size wr w4 := hb4.trans (hb5.mono hb4.size)
          clear hb4 hb5
          go_wp2_with fail
          refine ⟨fun _ => ⟨⟨_, hb6⟩, rfl⟩, wpR_list [18, 19, 20] _ _ (by kernel_rfl) ?_⟩
          simp only [opsAt, List.map_cons, List.map_nil, Array.getD_eq_getD_getElem?, List.getElem?_toArray, List.getElem?_cons_zero, List.getElem?_cons_succ, Option.getD_some]
          go_wp2
          refine NoPanic.normal ?_
          go_upto_region 7 with (fail)
          rw [head_str2]
          have hbX : Below w.heap.size w w4 := HB.out.trans (hb6.mono HB.out.size)
          obtain ⟨o2, d2⟩ := rAt_rd (w := w4) (g := lg) (rs := rs) (k := k) (fun j u hu => (hbX.cell (p := ⟨lg, j, none⟩) hll).trans (hlcell j u hu)) hlt
          obtain ⟨X, hX⟩ : ∃ X, X = refTxt rs k ++ grpHead rs[k].s (ofR rs rs[k].s).length := ⟨_, rfl⟩
          rw [← hX]
          have hXs : (str X).size ≤ 20000200000 := by rw [str_size, hX, List.length_append]; have h1 := HRT.out; have h2 : rs[k].s.data.toList.length = rs[k].s.size := Array.length_toList; unfold grpHead; simp only [List.length_append, List.length_cons, List.length_nil]; omega
          have HEQ : Hid (refTxt rs (k + 1) = X ++ (L ++ [10])) := Lib.hid (by rw [HSU.out, HST.out, HNG.out, HLP.out, hX]; simp)
          clear hX
          have h30 : ¬ 9223372036854775807 < (str X).size + (str L).size := by omega
          have h31 : ¬ 9223372036854775807 < (str X).size + (str L).size + 1 := by omega
          have HPR := Lib.hid (refPrint_p rs[k] w4 HGK.out (HIK.out.below hbX))
          rw [← HLE.out] at HPR
          go_wp2_with fail
          refine HPR.out.mono ?_
          rintro r w5 ⟨rfl, hb7⟩
          have HB7 := Lib.hid (hbX.trans (hb7.mono hbX.size) : Below w.heap.size w w5)
          clear hb7 HPR o2 d2 hbX
          go_wp2
          go_roundw
          case rel => exact ⟨k + 1, by omega, by go_num, by rw [line_str2, HEQ.out], HB7⟩
          case measure => simp [intOf]; omega
        | true =>
          rw [hne] at HNG
          go_wp2
          go_quiet (fail)
          have HEQ : Hid (refTxt rs (k + 1) = refTxt rs k ++ (L ++ [10])) := Lib.hid (by rw [HSU.out, HST.out, HNG.out, HLP.out]; simp)
          have h30 : ¬ 9223372036854775807 < (str (refTxt rs k)).size + (str L).size := by omega
          have h31 : ¬ 9223372036854775807 < (str (refTxt rs k)).size + (str L).size + 1 := by omega
          go_wp2_with fail
          have hbX : Below w.heap.size w (wr.drewN nq) := HB.out.trans ((below_drewN' (Below.refl _ _) _).mono HB.out.size)
          have HPR := Lib.hid (refPrint_p rs[k] (wr.drewN nq) HGK.out (HIK.out.below hbX))
          rw [← HLE.out] at HPR
          refine HPR.out.mono ?_
          rintro r w5 ⟨rfl, hb7⟩
          have HB7 := Lib.hid (hbX.trans (hb7.mono hbX.size) : Below w.heap.size w w5)
          clear hb7 HPR hbX
          go_wp2
          go_roundw
          case rel => exact ⟨k + 1, by omega, by go_num, by rw [line_str2, HEQ.out], HB7⟩
          case measure => simp [intOf]; omega
    · obtain rfl : k = rs.length := by omega
      go_wp2
      go_ret
      exact ⟨rfl, HB.out⟩

end Go.Proofs.YtdjaphcelpchaaaGreatDoor

namespace Go.Proofs.YtdjaphcelpchaaaGreatDoor
open Go Go.RowKit Go.Proofs

def txtGo (cnt : ByteArray → Nat) : Option ByteArray → List MR → List UInt8
  | _, [] => []
  | prev, r :: rest => (if prev = some r.s then [] else grpHead r.s (cnt r.s)) ++ txtP r.m.p ++ txtGo cnt (some r.s) rest

theorem txtGo_snoc (cnt : ByteArray → Nat) : ∀ (l : List MR) (prev : Option ByteArray) (r : MR), txtGo cnt prev (l ++ [r]) = txtGo cnt prev l ++ ((if (match l.getLast? with | some q => some q.s | none => prev) = some r.s then [] else grpHead r.s (cnt r.s)) ++ txtP r.m.p)
  | [], prev, r => by
    by_cases h : prev = some r.s <;> simp [txtGo, h]
  | a :: l, prev, r => by
    rw [List.cons_append]
    unfold txtGo
    rw [txtGo_snoc cnt l (some a.s) r]
    have e : (match (a :: l).getLast? with | some q => some q.s | none => prev) = (match l.getLast? with | some q => some q.s | none => some a.s) := by
      cases l with
      | nil => rfl
      | cons b l =>
        rw [List.getLast?_cons_cons]
        cases hx : (b :: l).getLast? with
        | none => simp at hx
        | some q => rfl
    rw [e]
    simp only [List.append_assoc]

theorem refTxt_go (rs : List MR) : ∀ k, k ≤ rs.length → refTxt rs k = txtGo (fun t => (ofR rs t).length) none (rs.take k)
  | 0, _ => rfl
  | k + 1, hk => by
    rw [refTxt_succ, refTxt_go rs k (by omega), List.take_succ_eq_append_getElem (by omega), txtGo_snoc]
    congr 1
    unfold stepTxt
    rw [List.getElem?_eq_getElem (by omega)]
    simp only
    congr 1
    have hl : (rs.take k).getLast? = if k = 0 then none else rs[k - 1]? := by
      by_cases h0 : k = 0
      · subst h0; rfl
      · rw [if_neg h0, List.getLast?_eq_getElem?, List.length_take, Nat.min_eq_left (by omega), List.getElem?_take, if_pos (by omega)]
    rw [hl]
    unfold newGrp
    by_cases h0 : k = 0
    · subst h0
      simp
    · rw [if_neg h0, List.getElem?_eq_getElem (show k - 1 < rs.length by omega), List.getElem?_eq_getElem (show k < rs.length by omega)]
      simp only [h0, decide_false, Bool.false_or, Option.map_some, Option.some.injEq]
      by_cases he : rs[k - 1].s = rs[k].s <;> simp [he]

theorem txtGo_block (cnt : ByteArray → Nat) (t : ByteArray) : ∀ (b : List MR) (rest : List MR), (∀ r ∈ b, r.s = t) → txtGo cnt (some t) (b ++ rest) = b.flatMap (fun r => txtP r.m.p) ++ txtGo cnt (some t) rest
  | [], rest, _ => rfl
  | a :: b, rest, h => by
    have ha := h a (by simp)
    rw [List.cons_append]
    conv => lhs; unfold txtGo
    rw [ha, if_pos rfl, txtGo_block cnt t b rest fun r hr => h r (by simp [hr])]
    simp
theorem txtGo_groups (cnt : ByteArray → Nat) (blk : ByteArray → List MR) : ∀ (ts : List ByteArray) (prev : Option ByteArray), (∀ t ∈ ts, blk t ≠ [] ∧ ∀ r ∈ blk t, r.s = t) → ts.Nodup → (∀ t ∈ ts, prev ≠ some t) →
    txtGo cnt prev (ts.flatMap blk) = ts.flatMap fun t => grpHead t (cnt t) ++ (blk t).flatMap fun r => txtP r.m.p
  | [], _, _, _, _ => rfl
  | t :: ts, prev, h, hn, hp => by
    obtain ⟨h1, h2⟩ := h t (by simp)
    rw [List.nodup_cons] at hn
    obtain ⟨a, b, hb⟩ : ∃ a b, blk t = a :: b := by
      cases hx : blk t with
      | nil => exact absurd hx h1
      | cons a b => exact ⟨a, b, rfl⟩
    have ha : a.s = t := h2 a (by rw [hb]; simp)
    have ih := txtGo_groups cnt blk ts (some t) (fun x hx => h x (by simp [hx])) hn.2 (fun x hx e => hn.1 (by cases e; exact hx))
    rw [List.flatMap_cons, List.flatMap_cons, hb, List.cons_append]
    conv => lhs; unfold txtGo
    rw [ha, if_neg (hp t (by simp)), txtGo_block cnt t b _ (fun r hr => h2 r (by rw [hb]; simp [hr])), ih]
    simp
theorem refTxt_enc {rs : List MR} (ho : ordR rs) : refTxt rs rs.length = encTxt (fun t => (ofR rs t).map (·.m.p)) (groupsR rs) := by
  obtain ⟨h1, h2, _⟩ := groupsR_ok rs ho
  have hnd : (groupsR rs).Nodup := h1.imp fun {a b} hab e => by rw [e, cmpN_refl] at hab; omega
  rw [refTxt_go rs _ (Nat.le_refl _), List.take_length]
  conv => lhs; rw [flat_groups ho]
  rw [txtGo_groups _ (ofR rs) (groupsR rs) none (fun t ht => ⟨fun e => ?_, fun r hr => (ofR_mem.1 hr).2⟩) hnd (fun _ _ e => by cases e)]
  · unfold encTxt grpTxt
    rw [← flat_groups ho]
    rw [List.flatMap_def, List.flatMap_def]
    refine congrArg List.flatten (List.map_congr_left fun t _ => ?_)
    rw [List.length_map, List.flatMap_map]
  · obtain ⟨r, hr, hs⟩ := (h2 t).1 ht
    have : r ∈ ofR rs t := ofR_mem.2 ⟨hr, hs⟩
    rw [e] at this
    cases this

end Go.Proofs.YtdjaphcelpchaaaGreatDoor

namespace Go.Proofs.YtdjaphcelpchaaaGreatDoor
open Go Go.RowKit Go.Proofs

/-- The line of a text, if it is one. -/
def gP (s : ByteArray) : GLine := gAt (splitS 9 s) (.slice none 0 0) 7
def parseP (s : ByteArray) : Option PLine := if (parseOut s).1 = 0 then some ⟨(gP s).number, (gP s).id, (gP s).name, (gP s).date, (gP s).subject, refIds (nth (splitS 9 s) 5), (gP s).bytes⟩ else none
theorem parsed_p {s : ByteArray} {G : GLine} {ids : List Id32} (h : ParsedIs s G ids) (h0 : (parseOut s).1 = 0) : ∃ p, parseP s = some p ∧ p.ids = ids ∧ G = ML.g ⟨p, G.refs⟩ := by
  obtain ⟨v, rfl, rfl⟩ := h.yes h0
  refine ⟨_, by unfold parseP; rw [if_pos h0], rfl, ?_⟩
  unfold ML.g gP
  rfl

abbrev LF : Type := ByteArray → List PLine
def setL (L : LF) (t : ByteArray) (ps : List PLine) : LF := fun u => if u = t then ps else L u
def numsP (ps : List PLine) : List Int := ps.map (·.number)
def addP (ps : List PLine) (p : PLine) : List PLine := ps.take (posN (numsP ps) p.number) ++ p :: ps.drop (posN (numsP ps) p.number)
def addErrP (ps : List PLine) (t : ByteArray) (p : PLine) : Int := if nameErr t ≠ 0 then nameErr t else if pErr p ≠ 0 then pErr p else if (numsP ps).contains p.number || ps.any (fun q => decide (q.id = p.id)) then 7 else 0
theorem addErr_p (ms : List ML) (t : ByteArray) (p : PLine) : addErr ms t p = addErrP (ms.map (·.p)) t p := by
  unfold addErr addErrP hasNum hasId nums numsP
  rw [List.map_map, List.any_map]
  rfl
theorem addMs_p (ms : List ML) (p : PLine) (v : Value) : (addMs ms (posN (nums ms) p.number) ⟨p, v⟩).map (·.p) = addP (ms.map (·.p)) p := by
  unfold addMs addP nums numsP
  rw [List.map_append, List.map_cons, List.map_take, List.map_drop, List.map_map]
  rfl

/-- The lines of a group. -/
def dgLoop (t : ByteArray) : Nat → Int → LF → List UInt8 → Option (List UInt8 × LF)
  | 0, _, L, rest => some (rest, L)
  | n + 1, last, L, rest => match parseP (str (Lib.cut rest [10]).1) with
    | none => none
    | some p => if (Lib.cut rest [10]).2.2 = true ∧ last < p.number ∧ addErrP (L t) t p = 0 then dgLoop t n p.number (setL L t (addP (L t) p)) (Lib.cut rest [10]).2.1 else none
def wordsOf (s : List UInt8) : List (List UInt8) := splitL 32 (Lib.cut s [10]).1
/-- A group. -/
def dg (L : LF) (s : List UInt8) : Option (List UInt8 × LF) :=
  if (Lib.cut s [10]).2.2 = true ∧ (wordsOf s).length = 3 ∧ (wordsOf s)[0]? = some [103, 114, 111, 117, 112] ∧ numOk ((wordsOf s).getD 2 []) = true then dgLoop (str ((wordsOf s).getD 1 [])) (numVal ((wordsOf s).getD 2 [])) 0 L (Lib.cut s [10]).2.1 else none
def decGo : Nat → LF → List UInt8 → Option LF
  | 0, _, _ => none
  | n + 1, L, s => if s = [] then some L else match dg L s with
    | none => none
    | some (rest, L') => decGo n L' rest

theorem cut_le (s : List UInt8) : (Lib.cut s [10]).2.1.length ≤ s.length ∧ ((Lib.cut s [10]).2.2 = true → (Lib.cut s [10]).2.1.length < s.length) := by
  unfold Lib.cut
  split
  · rename_i h
    have := Lib.index_room s [10] h
    simp only [List.length_drop, List.length_singleton] at this ⊢
    exact ⟨by omega, fun _ => by omega⟩
  · simp
theorem dgLoop_le (t : ByteArray) : ∀ (n : Nat) (last : Int) (L : LF) (s rest : List UInt8) (L' : LF), dgLoop t n last L s = some (rest, L') → rest.length ≤ s.length
  | 0, _, _, _, _, _, h => by cases h; exact Nat.le_refl _
  | n + 1, last, L, s, rest, L', h => by
    unfold dgLoop at h
    split at h
    · cases h
    · split at h
      · have := dgLoop_le t n _ _ _ _ _ h
        exact Nat.le_trans this (cut_le s).1
      · cases h
theorem dg_lt {L : LF} {s rest : List UInt8} {L' : LF} (h : dg L s = some (rest, L')) : rest.length < s.length := by
  unfold dg at h
  split at h
  · rename_i hc
    exact Nat.lt_of_le_of_lt (dgLoop_le _ _ _ _ _ _ _ h) ((cut_le s).2 hc.1)
  · cases h

/-! ## A text that an index has is taken back -/

theorem cut_pre (x l : List UInt8) (h : (10 : UInt8) ∉ x) : Lib.cut (x ++ 10 :: l) [10] = (x, l, true) := by
  have hi : Lib.index (x ++ 10 :: l) [10] = x.length := by
    refine Lib.index_first (by simp) ?_ fun j hj => ?_
    · unfold Lib.occAt
      simp
    · unfold Lib.occAt
      rw [List.drop_append_of_le_length (by omega)]
      have hne : x.drop j ≠ [] := by simp; omega
      obtain ⟨a, b, hab⟩ : ∃ a b, x.drop j = a :: b := by
        cases hx : x.drop j with
        | nil => exact absurd hx hne
        | cons a b => exact ⟨a, b, rfl⟩
      rw [hab, List.cons_append]
      have ha : a ≠ 10 := fun e => h (by rw [← e]; exact List.mem_of_mem_drop (by rw [hab]; simp : a ∈ x.drop j))
      simp [List.isPrefixOf, Ne.symm ha]
  unfold Lib.cut
  rw [hi, if_pos (by omega)]
  simp
theorem no_dig (c : UInt8) (hc : isDig c = false) (u : Nat) : c ∉ Lib.decDigits u := fun h => by
  have := List.all_eq_true.1 (dec_back u).2.1 c h
  rw [hc] at this
  cases this
theorem no10_text {l : List UInt8} {most : Int} (h : textErr l most = 0) : (10 : UInt8) ∉ l := fun h9 => by
  unfold textErr at h
  split at h
  · cases h
  · split at h
    · cases h
    · rename_i hb
      exact hb (List.any_eq_true.2 ⟨10, h9, by decide⟩)
theorem no10_refs (ids : List Id32) : (10 : UInt8) ∉ refsTxt ids := fun h => by
  rw [refsTxt_eq] at h
  rcases mem_join h with h | ⟨x, hx, hc⟩
  · revert h; decide
  · obtain ⟨y, _, rfl⟩ := List.mem_map.1 hx
    exact no_hex 10 (by decide) y hc
theorem no10_line {p : PLine} (h : pErr p = 0) : (10 : UInt8) ∉ lineTxt p.number.toNat p.id p.name p.date.toNat p.subject p.ids p.bytes.toNat := fun hm => by
  have hz := orErr_zero (show lineErr (ML.g ⟨p, .slice none 0 0⟩) p.ids = 0 from h)
  have z2 := hz (textErr p.name.data.toList 60) (by simp [ML.g])
  have z4 := hz (textErr p.subject.data.toList 200) (by simp [ML.g])
  unfold lineTxt joinS at hm
  rcases mem_join hm with hm | ⟨x, hx, hc⟩
  · revert hm; decide
  · simp only [lineParts, List.map_cons, List.map_nil, List.mem_cons, List.mem_nil_iff, or_false, str_data, hexS] at hx
    rcases hx with rfl | rfl | rfl | rfl | rfl | rfl | rfl
    · exact no_dig 10 (by decide) _ hc
    · exact no_hex 10 (by decide) _ hc
    · exact no10_text z2 hc
    · exact no_dig 10 (by decide) _ hc
    · exact no10_text z4 hc
    · exact no10_refs _ hc
    · exact no_dig 10 (by decide) _ hc
theorem cut_line {p : PLine} (h : pErr p = 0) (X : List UInt8) : Lib.cut (txtP p ++ X) [10] = (lineTxt p.number.toNat p.id p.name p.date.toNat p.subject p.ids p.bytes.toNat, X, true) := by
  unfold txtP
  rw [List.append_assoc]
  exact cut_pre _ _ (no10_line h)
theorem parse_txt {p : PLine} (h : pErr p = 0) : parseP (str (lineTxt p.number.toNat p.id p.name p.date.toNat p.subject p.ids p.bytes.toNat)) = some p := by
  obtain ⟨h1, h2⟩ := parse_print (g := ML.g ⟨p, .slice none 0 0⟩) (ids := p.ids) h
  have h1' : parseOut (str (lineTxt p.number.toNat p.id p.name p.date.toNat p.subject p.ids p.bytes.toNat)) = (0, 0) := h1
  have h0 : (parseOut (str (lineTxt p.number.toNat p.id p.name p.date.toNat p.subject p.ids p.bytes.toNat))).1 = 0 := by rw [h1']
  have hP : ParsedIs (str (lineTxt p.number.toNat p.id p.name p.date.toNat p.subject p.ids p.bytes.toNat)) (gP (str (lineTxt p.number.toNat p.id p.name p.date.toNat p.subject p.ids p.bytes.toNat))) (refIds (nth (splitS 9 (str (lineTxt p.number.toNat p.id p.name p.date.toNat p.subject p.ids p.bytes.toNat))) 5)) := ⟨fun hne => absurd h0 hne, fun _ => ⟨_, rfl, rfl⟩⟩
  obtain ⟨e1, e2⟩ := h2 _ _ hP
  unfold parseP
  rw [if_pos h0, e2, e1]
  rfl

/-- Lines that follow in order behind those that are there. -/
theorem addP_end {ps : List PLine} {p : PLine} (h : ∀ q ∈ ps, q.number < p.number) : addP ps p = ps ++ [p] := by
  have hp : posN (numsP ps) p.number = ps.length := by
    unfold posN numsP
    rw [List.countP_eq_length.2 (fun k hk => ?_), List.length_map]
    obtain ⟨q, hq, rfl⟩ := List.mem_map.1 hk
    simpa using h q hq
  unfold addP
  rw [hp, List.take_length, List.drop_length]
theorem addErrP_ok {ps : List PLine} {t : ByteArray} {p : PLine} (ht : nameErr t = 0) (hp : pErr p = 0) (h : ∀ q ∈ ps, q.number < p.number) (hi : ∀ q ∈ ps, q.id ≠ p.id) : addErrP ps t p = 0 := by
  unfold addErrP
  have h1 : (numsP ps).contains p.number = false := by
    cases hc : (numsP ps).contains p.number with
    | false => rfl
    | true =>
      unfold numsP at hc
      rw [List.contains_iff_mem] at hc
      obtain ⟨q, hq, e⟩ := List.mem_map.1 hc
      have := h q hq
      omega
  have h2 : ps.any (fun q => decide (q.id = p.id)) = false := by
    rw [List.any_eq_false]
    intro q hq
    simpa using hi q hq
  rw [if_neg (by simp [ht]), if_neg (by simp [hp]), h1, h2]
  rfl
theorem setL_setL (L : LF) (t : ByteArray) (a b : List PLine) : setL (setL L t a) t b = setL L t b := by
  funext u
  unfold setL
  by_cases h : u = t <;> simp [h]
theorem setL_at (L : LF) (t : ByteArray) (a : List PLine) : setL L t a t = a := by unfold setL; simp
/-- A good row of lines. -/
structure RowP (ps : List PLine) : Prop where
  good : ∀ p ∈ ps, pErr p = 0
  sorted : (numsP ps).Pairwise (· < ·)
  ids : (ps.map (·.id)).Nodup
theorem loop_ok {t : ByteArray} (ht : nameErr t = 0) (X : List UInt8) : ∀ (ps qs : List PLine) (last : Int) (L : LF), RowP (qs ++ ps) → L t = qs → (∀ p ∈ ps, last < p.number) →
    dgLoop t ps.length last L (ps.flatMap txtP ++ X) = some (X, setL L t (qs ++ ps))
  | [], qs, last, L, _, hL, _ => by
    have : setL L t (qs ++ []) = L := by
      funext u
      unfold setL
      by_cases h : u = t
      · rw [if_pos h, List.append_nil, h, hL]
      · rw [if_neg h]
    rw [this]
    rfl
  | p :: ps, qs, last, L, hR, hL, hlast => by
    have hp : pErr p = 0 := hR.good p (by simp)
    have hs := hR.sorted
    have hi := hR.ids
    unfold numsP at hs
    rw [List.map_append, List.map_cons, List.pairwise_append] at hs
    rw [List.map_append, List.map_cons, List.nodup_append] at hi
    have hq : ∀ q ∈ qs, q.number < p.number := fun q hq => hs.2.2 _ (List.mem_map.2 ⟨q, hq, rfl⟩) _ (by simp)
    have hqi : ∀ q ∈ qs, q.id ≠ p.id := fun q hq e => hi.2.2 q.id (List.mem_map.2 ⟨q, hq, rfl⟩) p.id (by simp) e
    have hn : ∀ r ∈ ps, p.number < r.number := fun r hr => (List.pairwise_cons.1 hs.2.1).1 _ (List.mem_map.2 ⟨r, hr, rfl⟩)
    rw [List.flatMap_cons, List.append_assoc, List.length_cons]
    unfold dgLoop
    rw [cut_line hp, parse_txt hp]
    simp only
    rw [if_pos ⟨trivial, hlast p (by simp), by rw [hL]; exact addErrP_ok ht hp hq hqi⟩, hL, addP_end hq, loop_ok ht X ps (qs ++ [p]) p.number _ (by rw [List.append_assoc]; exact hR) (setL_at _ _ _) hn, setL_setL, List.append_assoc]
    rfl

theorem name_no {t : ByteArray} (h : nameErr t = 0) {c : UInt8} (hc : badB c = true) (h46 : c ≠ 46) : c ∉ t.data.toList := fun hm => by
  unfold nameErr at h
  split at h
  · cases h
  · split at h
    · cases h
    · rename_i hb
      rw [← join_split 46 t.data.toList] at hm
      rcases mem_join hm with hm | ⟨x, hx, hcx⟩
      · exact h46 (by simpa using hm)
      · apply hb
        rw [List.any_eq_true]
        refine ⟨str x, List.mem_map.2 ⟨x, hx, rfl⟩, ?_⟩
        have : compB x = false := by
          cases x with
          | nil => cases hcx
          | cons a r =>
            have : (a :: r).any badB = true := List.any_eq_true.2 ⟨c, hcx, hc⟩
            unfold compB
            simp only [this, Bool.not_true, Bool.and_false]
        rw [str_list, this]
        rfl
theorem head_form (t : ByteArray) (n : Nat) (X : List UInt8) : grpHead t n ++ X = ([103, 114, 111, 117, 112] ++ 32 :: (t.data.toList ++ 32 :: Lib.decDigits n)) ++ 10 :: X := by
  unfold grpHead
  simp
theorem dg_ok {t : ByteArray} (ht : nameErr t = 0) {ps : List PLine} (hR : RowP ps) (hn : ps.length < 10000000000) {L : LF} (hL : L t = []) (X : List UInt8) : dg L (grpTxt t ps ++ X) = some (X, setL L t ps) := by
  have e : grpTxt t ps ++ X = ([103, 114, 111, 117, 112] ++ 32 :: (t.data.toList ++ 32 :: Lib.decDigits ps.length)) ++ 10 :: (ps.flatMap txtP ++ X) := by
    unfold grpTxt
    rw [List.append_assoc, head_form]
  have h10 : (10 : UInt8) ∉ ([103, 114, 111, 117, 112] ++ 32 :: (t.data.toList ++ 32 :: Lib.decDigits ps.length) : List UInt8) := fun hm => by
    simp only [List.mem_append, List.mem_cons] at hm
    rcases hm with hm | hm | hm | hm | hm
    · revert hm; decide
    · revert hm; decide
    · exact name_no ht (by decide) (by decide) hm
    · revert hm; decide
    · exact no_dig 10 (by decide) _ hm
  have hcut := cut_pre _ (ps.flatMap txtP ++ X) h10
  have hw : wordsOf (grpTxt t ps ++ X) = [[103, 114, 111, 117, 112], t.data.toList, Lib.decDigits ps.length] := by
    unfold wordsOf
    rw [e, hcut]
    simp only
    rw [splitL_pre 32 [103, 114, 111, 117, 112] _ (by decide), splitL_pre 32 _ _ (name_no ht (by decide) (by decide)), splitL_none 32 _ (no_dig 32 (by decide) _)]
  obtain ⟨n1, n2⟩ := num_dec ps.length hn
  unfold dg
  rw [hw, e, hcut]
  simp only [List.length_cons, List.length_nil, List.getElem?_cons_zero, List.getD_cons_succ, List.getD_cons_zero]
  rw [if_pos ⟨trivial, trivial, trivial, n1⟩, n2, str_of]
  exact loop_ok ht X ps [] 0 L hR hL fun p hp => by
    have := (lineErr_zero (show lineErr (ML.g ⟨p, .slice none 0 0⟩) p.ids = 0 from hR.good p hp)).1.1
    have h1 : 1 ≤ p.number := this
    omega
/-- The lines of some names. -/
def putAll (L F : LF) (ts : List ByteArray) : LF := fun u => if ts.any (fun t => decide (t = u)) = true then F u else L u
theorem dec_ok (F : LF) : ∀ (ts : List ByteArray) (L : LF) (n : Nat), (∀ t ∈ ts, nameErr t = 0 ∧ RowP (F t) ∧ (F t).length < 10000000000 ∧ L t = []) → ts.Nodup → (encTxt F ts).length < n → decGo n L (encTxt F ts) = some (putAll L F ts)
  | [], L, n, _, _, hn => by
    cases n with
    | zero => exact absurd hn (Nat.not_lt_zero _)
    | succ n =>
      unfold decGo
      rw [if_pos (show encTxt F [] = [] from rfl)]
      congr 1
  | t :: ts, L, n, h, hnd, hn => by
    obtain ⟨h1, h2, h3, h4⟩ := h t (by simp)
    rw [List.nodup_cons] at hnd
    have e : encTxt F (t :: ts) = grpTxt t (F t) ++ encTxt F ts := by unfold encTxt; rw [List.flatMap_cons]
    have hne : encTxt F (t :: ts) ≠ [] := by
      rw [e]
      unfold grpTxt grpHead
      simp
    cases n with
    | zero => exact absurd hn (Nat.not_lt_zero _)
    | succ n =>
      have hlt : (encTxt F ts).length < n := by
        have : 0 < (grpTxt t (F t)).length := by unfold grpTxt grpHead; simp
        rw [e, List.length_append] at hn
        omega
      unfold decGo
      rw [if_neg hne, e, dg_ok h1 h2 h3 h4]
      simp only
      rw [dec_ok F ts (setL L t (F t)) n (fun u hu => by
        obtain ⟨k1, k2, k3, k4⟩ := h u (by simp [hu])
        refine ⟨k1, k2, k3, ?_⟩
        unfold setL
        rw [if_neg (fun e' => hnd.1 (by rw [← e']; exact hu))]
        exact k4) hnd.2 hlt]
      congr 1
      funext u
      unfold putAll setL
      by_cases hu : u = t
      · subst hu
        simp
      · have hu' : ¬ t = u := fun e => hu e.symm
        rw [List.any_cons, decide_eq_false hu', Bool.false_or, if_neg hu]

end Go.Proofs.YtdjaphcelpchaaaGreatDoor
