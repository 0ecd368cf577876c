/- (*overview.Line).setReferences. -/
import Derived.Test.YtdjaphcelpchaaaGreatDoorSetRefs
namespace Go.Proofs.YtdjaphcelpchaaaGreatDoor
open Go Go.RowKit Go.Proofs

attribute [local go_sem ↓] ex_load_id ex_store_id ex_alloc_id ex_build_id ex_bs_id
attribute [local go_sem] ld_id st_id bs_id guard_id okCells_drew rdCells_drew okCells_drewN rdCells_drewN rowOk_drew rowOk_cells okCells_cells rdCells_cells okArr_id rdArr_id setRow_drew setRow_new setRow_past fits_id encId_length

theorem take_texts {T : List (List UInt8)} {k : Nat} (h : k < T.length) : (T.map idVal).take (k + 1) = (T.map idVal).take k ++ [idVal T[k]] := by
  rw [List.take_succ_eq_append_getElem (by simpa using h)]; simp
theorem all_take {T : List (List UInt8)} {k : Nat} (h : k < T.length) (ha : (T.take k).all idOk = true) (hk : idOk T[k] = true) : (T.take (k + 1)).all idOk = true := by
  rw [List.take_succ_eq_append_getElem h, List.all_append, ha]; simp [hk]
theorem not_all {T : List (List UInt8)} {k : Nat} (h : k < T.length) (hk : idOk T[k] = false) : T.all idOk = false :=
  List.all_eq_false.2 ⟨T[k], List.getElem_mem h, by simp [hk]⟩

theorem splitL_part (c : UInt8) : ∀ (l x : List UInt8), x ∈ splitL c l → x.length ≤ l.length
  | [], x, h => by simp [splitL] at h; simp [h]
  | b :: l, x, h => by
    have ih := splitL_part c l
    unfold splitL at h
    split at h
    · rcases List.mem_cons.1 h with rfl | h
      · simp
      · have := ih x h; simp; omega
    · have hne := splitL_ne c l
      cases hq : splitL c l with
      | nil => exact absurd hq hne
      | cons y t =>
        rw [hq] at h ih
        simp only at h
        rcases List.mem_cons.1 h with rfl | h
        · have := ih y (by simp); simp; omega
        · have := ih x (by simp [h]); simp; omega

/-- What the loop of setReferences keeps: the line's block, the row that grows, and what lay before. -/
structure RefsLoop (w1 wr : World) (lb off t : Nat) (cs : Array Value) (T : List (List UInt8)) (k : Nat) (v : Value) : Prop where
  blk : wr.heap[lb]? = some (.cells (cs.setIfInBounds off v) t (0, 0))
  own : wr.ownsRow w1.heap.size 23 32 v k (flatIds ((T.map idVal).take k))
  grown : w1.grownBy wr (some lb)

theorem RefsLoop.cell {w1 wr : World} {lb off t k : Nat} {cs : Array Value} {T : List (List UInt8)} {v : Value} (h : RefsLoop w1 wr lb off t cs T k v) (ho : off < cs.size) : wr.cell? ⟨lb, off, none⟩ = some v := by
  rw [cell_of_row wr lb off _ _ _ h.blk]; simp [ho]

set_option maxRecDepth 100000 in
set_option maxHeartbeats 2000000 in
theorem setReferences_some (lb t : Nat) (cs : Array Value) (p : ByteArray) (w : World) (hblk : w.heap[lb]? = some (.cells cs t (0, 0))) (h36 : cs[36]? = some (.slice none 0 0)) (hG : Gl w) (hp : p.size < 4294967281) (hne : p.size ≠ 0) :
    Calls Tryz.prog 98 #[.pointer (some ⟨lb, 0, none⟩), .string p] w fun r w' => r = .returned (.int .i64 (refsPart p)) ∧ w.grownBy w' (some lb) ∧ ∃ v, w'.heap[lb]? = some (.cells (cs.setIfInBounds 36 v) t (0, 0)) ∧ v.oneCell' = true ∧ v.ownBlock ≠ some lb ∧ (refsPart p = 0 → IdsAt w' v (refIds p)) := by
  have hoff : 36 < cs.size := (Array.getElem?_eq_some_iff.1 h36).1
  have hlb : lb < w.heap.size := (Array.getElem?_eq_some_iff.1 hblk).1
  obtain ⟨i0, hi, hz0, hz1, hz2⟩ := info_parts Tryz.info_id
  have hT : refTexts p = splitL 44 p.data.toList := by unfold refTexts; rw [if_neg hne]
  have hlen : (splitS 44 p).length = (refTexts p).length := by rw [hT]; simp [splitS]
  have hlen2 := (splitS_len 44 p).2
  have hpe : p.toList.isEmpty = false := by
    rw [ByteArray.toList_eq, List.isEmpty_eq_false_iff, ← List.length_pos_iff, size_list]; omega
  have HPE := Lib.hid hne
  obtain ⟨T, hTT⟩ : ∃ T, T = refTexts p := ⟨_, rfl⟩
  rw [← hTT] at hlen
  obtain ⟨n, hn⟩ : ∃ n, n = (splitS 44 p).length := ⟨_, rfl⟩
  have HS := Lib.hid (show splitS 44 p = T.map str by rw [hTT, hT]; rfl)
  have HT := Lib.hid hTT
  have HN := Lib.hid hn
  have HNT := Lib.hid (hn.trans hlen)
  have hn32 : n ≤ 4294967281 := by omega
  have HBLK := Lib.hid hblk
  have H36 := Lib.hid h36
  clear hT hTT hblk h36 hlen hlen2 hne
  go_enter Tryz.func98, Tryz.ntmps98
  go_wp2_with fail
  refine (split_any 44 p w hG hp).mono ?_
  rintro r w1 ⟨rfl, hw1⟩
  rw [HN.out.symm]
  have hrow : StrRow w1 w.heap.size 0 (T.map str) := by rw [← hw1, ← HS.out]; exact split_row _ _ _
  have hb1 : Below w.heap.size w w1 := by rw [← hw1]; exact (Below.refl _ _).alloc (Nat.le_refl _) _
  have hblk1 : w1.heap[lb]? = some (.cells cs t (0, 0)) := (hb1.block lb hlb).trans HBLK.out
  have hs1 : w.heap.size < w1.heap.size := by rw [← hw1]; simp
  have hset0 : cs.setIfInBounds 36 (.slice none 0 0) = cs := by
    obtain ⟨h1, h2⟩ := Array.getElem?_eq_some_iff.1 H36.out
    apply Array.ext_getElem?
    intro j
    rw [Array.getElem?_setIfInBounds]
    split
    · rename_i e; subst e; exact H36.out.symm
    · rfl
  have HW1 := Lib.hid hw1
  clear hw1 hn
  go_wp2
  go_loopw [14] (fun i wr => ∃ k v, k ≤ n ∧ i = .int .i64 (k : Nat) ∧ RefsLoop w1 wr lb 36 t cs T k v ∧ (T.take k).all idOk = true) (fun i _ => n - (intOf i).toNat)
  case atStart => exact ⟨0, .slice none 0 0, by omega, rfl, ⟨by rw [hset0]; exact hblk1, World.ownsRow_nil _ _ _ _, grown_refl _ _⟩, by simp⟩
  case round =>
    obtain ⟨k, v, hk, rfl, hL, hall⟩ := hrel
    have hlb1 : lb < w1.heap.size := by omega
    by_cases hlt : k < n
    · have hltz : (k : Int) < (n : Int) := by omega
      have hkT : k < T.length := by rw [← HNT.out]; exact hlt
      have htext : wr.cell? ⟨w.heap.size, k, none⟩ = some (.string (str T[k])) := by
        have h1 := hrow k (str T[k]) (by simp [hkT])
        rw [Nat.zero_add] at h1
        rw [← h1]
        unfold World.cell?
        rw [hL.grown.block w.heap.size hs1 (by simp; omega)]
      obtain ⟨X, hX⟩ : ∃ X, X = str T[k] := ⟨_, rfl⟩
      rw [← hX] at htext
      have hXs : X.size ≤ maxLen := by
        have h1 := splitL_part 44 p.data.toList T[k] (by
          have h0 : T[k] ∈ T := List.getElem_mem hkT
          have h2 : T = splitL 44 p.data.toList := by rw [HT.out, refTexts, if_neg HPE.out]
          exact h2 ▸ h0)
        rw [size_list] at h1
        rw [hX, str_size, maxLen]; omega
      have HX := Lib.hid hX
      clear hX
      have hcv := hL.cell hoff
      have hfv : wr.frozen? ⟨lb, 36, none⟩ = false := frozen_of_row wr lb 36 _ _ hL.blk
      go_wp2_with fail
      refine (parseId_any X wr hXs).mono ?_
      rintro r w2 ⟨rfl, hb2⟩
      by_cases hok : idOk X.data.toList = true
      · rw [hok]
        have hbz : ∀ b, b < wr.heap.size → (w2.alloc (.cells (encId (idVal X.data.toList)).toArray 23)).drew.heap[b]? = wr.heap[b]? := fun b hb => by
          show (w2.alloc _).heap[b]? = _
          rw [heap_alloc_old _ _ (Nat.lt_of_lt_of_le hb hb2.size), hb2.block b hb]
        have hlbr : lb < wr.heap.size := (Array.getElem?_eq_some_iff.1 hL.blk).1
        have hbase : (w2.alloc (.cells (encId (idVal X.data.toList)).toArray 23)).drew.cell? ⟨lb, 36, none⟩ = some v ∧ okCells (w2.alloc (.cells (encId (idVal X.data.toList)).toArray 23)).drew ⟨w2.heap.size, 0, none⟩ 32 = true ∧ rdCells (w2.alloc (.cells (encId (idVal X.data.toList)).toArray 23)).drew ⟨w2.heap.size, 0, none⟩ 32 = (encId (idVal X.data.toList)).toArray := by
          refine ⟨?_, ok_new_id _ _ _, rd_new_id _ _ _⟩
          rw [← hcv]
          unfold World.cell?
          rw [hbz lb hlbr]
        haveI : Nonempty (RefC lb 36 w2.heap.size v (idVal X.data.toList)) := ⟨⟨_, hbase⟩⟩
        have hz1' : ∀ z : RefC lb 36 w2.heap.size v (idVal X.data.toList), z.1.cell? ⟨lb, 36, none⟩ = some v := fun z => z.2.1
        have hz2' : ∀ z : RefC lb 36 w2.heap.size v (idVal X.data.toList), okCells z.1 ⟨w2.heap.size, 0, none⟩ 32 = true := fun z => z.2.2.1
        have hz3' : ∀ z : RefC lb 36 w2.heap.size v (idVal X.data.toList), rdCells z.1 ⟨w2.heap.size, 0, none⟩ 32 = (encId (idVal X.data.toList)).toArray := fun z => z.2.2.2
        go_wp2_with fail
        refine wp_region_mix0 [0, 1, 2, 3, 4, 5] [6, 7, 8, 9, 10] (fun w' => ∃ z : RefC lb 36 w2.heap.size v (idVal X.data.toList), w' = z.1) (by kernel_rfl) (by kernel_rfl) (by kernel_rfl) ⟨⟨_, hbase⟩, rfl⟩ ?_
        simp only [opsAt, List.map_cons, List.map_nil, Array.getD_eq_getD_getElem?, List.getElem?_toArray, List.getElem?_cons_zero, List.getElem?_cons_succ, Option.getD_some]
        repeat (go_big_quiet_step (fail))
        refine wpQuiet_nil ?_
        generalize hW0 : (w2.alloc (.cells (encId (idVal X.data.toList)).toArray 23)).drew = W at hbz hbase ⊢
        have hW := hW0.symm
        clear hW0
        refine wpR_cons true rfl (by kernel_rfl) ?_
        refine wpList_buildSlice rfl 24 23 1 _ rfl (encId (idVal X.data.toList)).toArray i0 _ Tryz.underlying24 hi hz0 (by rw [hz1]; decide) (by rw [hz1]; decide) (by rw [hz1]; simp only [List.map_toArray, List.map_cons, List.map_nil]; refine fill_one _ _ 32 (encId_size _) ?_; rw [Array.size_map, Array.size_range]) ?_
        clear hz1' hz2' hz3'
        go_wp2_with fail
        have hWs : wr.heap.size < W.heap.size := by have := hb2.size; rw [hW]; simp [World.drew]; omega
        have hownW : W.ownsRow w1.heap.size 23 32 v k (flatIds ((T.map idVal).take k)) := by rw [hW]; exact ((ownsRow_below hL.own hb2).alloc _).drew
        have hgW : wr.grownBy W none := by
          refine ⟨?_, ?_, ?_, by omega, fun b hb _ => hbz b hb⟩
          · rw [hW]; exact hb2.os
          · rw [hW]; exact hb2.tape
          · rw [hW]; exact hb2.output
        have hownA := hownW.alloc (.cells (encId (idVal X.data.toList)).toArray 23)
        have HW := Lib.hid hW
        clear hW
        refine ⟨fun _ => RefC.same hbase (heap_alloc_old _ _ (show lb < W.heap.size by omega)) (heap_alloc_old _ _ (show w2.heap.size < W.heap.size by rw [HW.out]; simp [World.drew])), wpR_cons true rfl (by kernel_rfl) ?_⟩
        have hW1 : w1.heap.size ≤ W.heap.size := by have := hL.grown.size; omega
        refine wpList_append_own _ rfl (.tmp 29) (.tmp 31) 24 rfl w1.heap.size 23 i0 (.agg (encId zeroId).toArray) 32 32 Tryz.underlying24 hi hz0 hz1 hz2 (encId_size zeroId) (by decide) _ _ _ rfl hownA ⟨W.heap.size, 0, none⟩ 1 1 (encId (idVal X.data.toList)) rfl (encId_length _) ?c1 ?c2 ?c3 ?c4 ?c5 ?_
        case c1 =>
          intro j u hj
          rw [Addr.add_lit, Nat.zero_add, cells_new, List.getElem?_toArray]; exact hj
        case c2 => exact encId_oneCell _
        case c3 => unfold maxLen; omega
        case c4 => omega
        case c5 => simp; omega
        intro v' w3 hown' hgrow _
        have hne : v.ownBlock ≠ some lb := fun e => by have := (hL.own.lt lb e).1; omega
        have hlt' := Lib.hid hown'.lt
        obtain ⟨g', cap', hv'⟩ : ∃ g' cap', v' = .slice (some ⟨g', 0, none⟩) (k + 1) cap' := by
          rcases hown'.2 with ⟨_, h0⟩ | ⟨g', cap', _, e, _⟩
          · omega
          · exact ⟨g', cap', e⟩
        subst hv'
        have hblk3 : w3.heap[lb]? = some (.cells (cs.setIfInBounds 36 v) t (0, 0)) := by
          rw [hgrow.block lb (by simp; omega) (fun e => hne e.symm), heap_alloc_old _ _ (by omega), hbz lb hlbr]
          exact hL.blk
        have hc3 : w3.cell? ⟨lb, 36, none⟩ = some v := by rw [cell_of_row w3 lb 36 _ _ _ hblk3]; simp [hoff]
        have hf3 : w3.frozen? ⟨lb, 36, none⟩ = false := frozen_of_row w3 lb 36 _ _ hblk3
        have hL' : RefsLoop w1 (w3.setCell ⟨lb, 36, none⟩ (.slice (some ⟨g', 0, none⟩) (k + 1) cap')) lb 36 t cs T (k + 1) (.slice (some ⟨g', 0, none⟩) (k + 1) cap') := by
          refine ⟨?_, ?_, ?_⟩
          · rw [heap_setCell_same w3 lb 36 _ _ _ hblk3, Array.setIfInBounds_setIfInBounds]
          · have hfl : flatIds ((T.map idVal).take (k + 1)) = flatIds ((T.map idVal).take k) ++ encId (idVal X.data.toList) := by
              rw [take_texts hkT, flat_snoc, HX.out]; rfl
            rw [hfl]
            exact hown'.kept (grown_set w3 lb 36 _) (Or.inr fun e => by have := (hlt'.out lb e).1; omega)
          · have hsz := hgrow.size
            have hg1 := hL.grown
            refine ⟨?_, ?_, ?_, ?_, fun b hb hnb => ?_⟩
            · exact hgrow.os.trans (hgW.os.trans hg1.os)
            · exact hgrow.tape.trans (hgW.tape.trans hg1.tape)
            · exact hgrow.output.trans (hgW.output.trans hg1.output)
            · simp [World.setCell] at hsz ⊢; omega
            · rw [heap_setCell_other w3 ⟨lb, 36, none⟩ b _ (fun e => hnb (by rw [e])), hgrow.block b (by simp; omega) (fun e => by have := (hL.own.lt b e.symm).1; omega), heap_alloc_old _ _ (by omega), hbz b (by have := hg1.size; omega)]
              exact hg1.block b hb hnb
        have HL' := Lib.hid hL'
        have HAL := Lib.hid (all_take hkT hall (by have := HX.out ▸ hok; exact this))
        have hC3 : ∃ z : RefC lb 36 w2.heap.size v (idVal X.data.toList), w3 = z.1 := by
          have hWw2 : w2.heap.size < W.heap.size := by rw [HW.out]; simp [World.drew]
          refine RefC.same hbase ?_ ?_
          · rw [hblk3, hbz lb hlbr, hL.blk]
          · rw [hgrow.block w2.heap.size (by simp; omega) (fun e => by have := (hL.own.lt _ e.symm).2; have := hb2.size; omega), heap_alloc_old _ _ hWw2]
        have HC3 := Lib.hid hC3
        clear hC3 hL' hown' hgrow hownA hownW hgW hbase hbz hall hL hblk3
        go_wp2_with fail
        refine ⟨fun _ => HC3.out, wpR_list [8, 9, 10] _ _ (by kernel_rfl) ?_⟩
        simp only [opsAt, List.map_cons, List.map_nil, Array.getD_eq_getD_getElem?, List.getElem?_toArray, List.getElem?_cons_zero, List.getElem?_cons_succ, Option.getD_some]
        go_wp2
        refine NoPanic.normal ?_
        go_wp2
        go_roundw
        case rel => exact ⟨k + 1, _, by omega, by go_num, HL'.out, HAL.out⟩
        case measure => simp [intOf]; omega
      · have hok' : idOk X.data.toList = false := by simpa using hok
        rw [hok']
        go_wp2
        go_ret
        have hblkf : (w2.alloc (.cells (encId (idVal X.data.toList)).toArray 23)).heap[lb]? = some (.cells (cs.setIfInBounds 36 v) t (0, 0)) := by
          have := (Array.getElem?_eq_some_iff.1 hL.blk).1
          rw [heap_alloc_old _ _ (Nat.lt_of_lt_of_le this hb2.size), hb2.block lb this]; exact hL.blk
        have hrp : refsPart p = 3 := by
          unfold refsPart
          rw [← HT.out, not_all hkT (by have := HX.out ▸ hok'; exact this)]; rfl
        refine ⟨by rw [hrp]; rfl, ?_, v, hblkf, own_one hL.own, fun e => by have := (hL.own.lt lb e).1; omega, fun e => by rw [hrp] at e; cases e⟩
        exact grown_trans (grown_below hb1 _) (grown_trans hL.grown (grown_below (hb2.alloc hb2.size _) _))
    · obtain rfl : k = n := by omega
      have hcv := hL.cell hoff
      have hids := idsAt_own (w := wr) (B := w1.heap.size) (v := v) (ids := (T.map idVal).take k) (by
        have : ((T.map idVal).take k).length = k := by rw [List.length_take, List.length_map, ← HNT.out]; omega
        rw [this]; exact hL.own)
      go_wp2_with fail
      refine (checkReferences_any v _ wr hids (by rw [List.length_take, List.length_map, maxLen]; omega)).mono ?_
      rintro r w2 ⟨rfl, hb2⟩
      go_wp2
      go_ret
      have hblkf : w2.heap[lb]? = some (.cells (cs.setIfInBounds 36 v) t (0, 0)) := (hb2.block lb (Array.getElem?_eq_some_iff.1 hL.blk).1).trans hL.blk
      have hrp : refsPart p = refsErr ((T.map idVal).take k) := by
        have ha : T.all idOk = true := by rw [← hall, List.take_of_length_le (by rw [← HNT.out]; omega)]
        unfold refsPart refIds
        rw [← HT.out, ha, List.take_of_length_le (by rw [List.length_map, ← HNT.out]; omega)]; rfl
      have hri : refIds p = (T.map idVal).take k := by
        unfold refIds
        rw [← HT.out, List.take_of_length_le (by rw [List.length_map, ← HNT.out]; omega)]
      refine ⟨by rw [hrp]; rfl, ?_, v, hblkf, own_one hL.own, fun e => by have := (hL.own.lt lb e).1; omega, fun _ => by rw [hri]; exact hids.below hb2⟩
      exact grown_trans (grown_below hb1 _) (grown_trans hL.grown (grown_below hb2 _))

set_option maxHeartbeats 1000000 in
theorem setReferences_any (lb t : Nat) (cs : Array Value) (p : ByteArray) (w : World) (hblk : w.heap[lb]? = some (.cells cs t (0, 0))) (h36 : cs[36]? = some (.slice none 0 0)) (hG : Gl w) (hp : p.size < 4294967281) :
    Calls Tryz.prog 98 #[.pointer (some ⟨lb, 0, none⟩), .string p] w fun r w' => r = .returned (.int .i64 (refsPart p)) ∧ w.grownBy w' (some lb) ∧ ∃ v, w'.heap[lb]? = some (.cells (cs.setIfInBounds 36 v) t (0, 0)) ∧ v.oneCell' = true ∧ v.ownBlock ≠ some lb ∧ (refsPart p = 0 → IdsAt w' v (refIds p)) := by
  by_cases hne : p.size = 0
  · have hpe : p.toList.isEmpty = true := by
      rw [ByteArray.toList_eq, List.isEmpty_iff, ← List.length_eq_zero_iff, size_list]; exact hne
    have HT := Lib.hid (show refTexts p = [] from if_pos hne)
    have HBLK := Lib.hid hblk
    have H36 := Lib.hid h36
    clear hne hblk h36
    go_enter Tryz.func98, Tryz.ntmps98
    go_wp2
    go_ret
    have hrp : refsPart p = 0 := by unfold refsPart refIds; rw [HT.out]; rfl
    have hset0 : cs.setIfInBounds 36 (.slice none 0 0) = cs := by
      apply Array.ext_getElem?
      intro j
      rw [Array.getElem?_setIfInBounds]
      split
      · rename_i e; subst e; rw [if_pos (Array.getElem?_eq_some_iff.1 H36.out).1]; exact H36.out.symm
      · rfl
    refine ⟨by rw [hrp]; rfl, grown_refl _ _, .slice none 0 0, by rw [hset0]; exact HBLK.out, rfl, by simp [Value.ownBlock], fun _ => ?_⟩
    have hri : refIds p = [] := by unfold refIds; rw [HT.out]; rfl
    rw [hri]
    exact ⟨none, 0, rfl, Nat.le_refl _, fun h => absurd rfl h⟩
  · exact setReferences_some lb t cs p w hblk h36 hG hp hne

end Go.Proofs.YtdjaphcelpchaaaGreatDoor
