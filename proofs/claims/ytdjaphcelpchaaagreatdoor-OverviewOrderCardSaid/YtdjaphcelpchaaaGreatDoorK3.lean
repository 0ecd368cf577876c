/- Parts of the proofs about bulletinlaw28: RPartRefs, RPart, RParse, Build, Back, Own, Same, Plain, Inv, LawCheck, LawParse, Maps, Known, Check, Clone. -/
import Derived.Test.YtdjaphcelpchaaaGreatDoorShelf
import Derived.Test.YtdjaphcelpchaaaGreatDoorK1
import Derived.Test.YtdjaphcelpchaaaGreatDoorK2

/- bulletinref28.part, the references. -/
namespace Go.Proofs.YtdjaphcelpchaaaGreatDoor
open Go Go.RowKit Go.Proofs

attribute [local go_sem ↓] ex_load_id ex_store_id ex_alloc_id ex_build_id ex_bs_id
attribute [local go_sem] ld_id st_id bs_id guard_id okCells_drew rdCells_drew okCells_drewN rdCells_drewN rowOk_drew rowOk_cells okCells_cells rdCells_cells okArr_id rdArr_id setRow_drew setRow_new setRow_past fits_id encId_length

set_option maxRecDepth 100000 in
set_option maxHeartbeats 2000000 in
theorem partRefs_some (lb t : Nat) (cs : Array Value) (p : ByteArray) (w : World) (hblk : w.heap[lb]? = some (.cells cs t (0, 0))) (h37 : cs[37]? = some (.slice none 0 0)) (hp : p.size < 4294967281) (hne : p.size ≠ 0) :
    Calls Tryz.prog 64 #[.pointer (some ⟨lb, 0, none⟩), .int .i64 5, .string p] w fun r w' => r = .returned (.int .i64 (refsPart p)) ∧ w.grownBy w' (some lb) ∧ ∃ v, w'.heap[lb]? = some (.cells (cs.setIfInBounds 37 v) t (0, 0)) ∧ v.oneCell' = true ∧ (∀ b, v.ownBlock = some b → w.heap.size ≤ b) ∧ (refsPart p = 0 → IdsAt w' v (refIds p)) := by
  have hoff : 37 < cs.size := (Array.getElem?_eq_some_iff.1 h37).1
  have hlb : lb < w.heap.size := (Array.getElem?_eq_some_iff.1 hblk).1
  obtain ⟨i0, hi, hz0, hz1, hz2⟩ := info_parts Tryz.info_id
  have hT : refTexts p = splitL 44 p.data.toList := by unfold refTexts; rw [if_neg hne]
  have hlen : (splitS 44 p).length = (refTexts p).length := by rw [hT]; simp [splitS]
  have hlen2 := (splitS_len 44 p).2
  have hlen1 := (splitS_len 44 p).1
  have hpe : p.toList.isEmpty = false := by
    rw [ByteArray.toList_eq, List.isEmpty_eq_false_iff, ← List.length_pos_iff, size_list]; omega
  have HPE := Lib.hid hne
  obtain ⟨T, hTT⟩ : ∃ T, T = refTexts p := ⟨_, rfl⟩
  rw [← hTT] at hlen
  obtain ⟨n, hn⟩ : ∃ n, n = (splitS 44 p).length := ⟨_, rfl⟩
  have HS := Lib.hid (show splitS 44 p = T.map str by rw [hTT, hT]; rfl)
  have HT := Lib.hid hTT
  have HN := Lib.hid hn
  have HNT := Lib.hid (hn.trans hlen)
  have hn32 : n ≤ 4294967281 := by omega
  have hn1 : 1 ≤ n := by omega
  have HBLK := Lib.hid hblk
  have H37 := Lib.hid h37
  clear hT hTT hblk h37 hlen hlen2 hlen1 hne
  go_enter Tryz.func64, Tryz.ntmps64
  go_wp2_with fail
  refine (parts_any p 44 w (by omega)).mono ?_
  rintro r w1 ⟨vp, rfl, hown1, hb1⟩
  rw [← HN.out, HS.out] at hown1
  obtain ⟨pb, pcap, hvp, hpb, hpb1, hncap⟩ : ∃ pb pcap, vp = .slice (some ⟨pb, 0, none⟩) n pcap ∧ w.heap.size ≤ pb ∧ pb < w1.heap.size ∧ n ≤ pcap := by
    rcases hown1.2 with ⟨_, h0⟩ | ⟨g, cap, cur, e, hg, hcur, hle, _⟩
    · omega
    · exact ⟨g, cap, e, hg, (Array.getElem?_eq_some_iff.1 hcur).1, hle⟩
  subst hvp
  have hrow : ∀ k, (h : k < T.length) → w1.cell? ⟨pb, k, none⟩ = some (.string (str T[k])) := fun k h => by
    rw [hown1.cellAt k (by rw [HNT.out]; omega)]
    simp [h]
  have hblk1 : w1.heap[lb]? = some (.cells cs t (0, 0)) := (hb1.block lb hlb).trans HBLK.out
  have hs1 : w.heap.size < w1.heap.size := by omega
  have hset0 : cs.setIfInBounds 37 (.slice none 0 0) = cs := by
    obtain ⟨h1, h2⟩ := Array.getElem?_eq_some_iff.1 H37.out
    apply Array.ext_getElem?
    intro j
    rw [Array.getElem?_setIfInBounds]
    split
    · rename_i e; subst e; exact H37.out.symm
    · rfl
  clear hn hown1
  go_wp2
  go_loopw [7, 9] (fun o i wr => ∃ k v, k ≤ n ∧ i = .int .i64 (k : Nat) ∧ RefsLoop w1 wr lb 37 t cs T k v ∧ o = .bool ((T.take k).all idOk)) (fun _ i _ => n - (intOf i).toNat)
  case atStart => exact ⟨0, .slice none 0 0, by omega, rfl, ⟨by rw [hset0]; exact hblk1, World.ownsRow_nil _ _ _ _, grown_refl _ _⟩, rfl⟩
  case round =>
    obtain ⟨k, v, hk, rfl, hL, rfl⟩ := hrel
    obtain ⟨bo, hbo⟩ : ∃ bo, bo = (T.take k).all idOk := ⟨_, rfl⟩
    rw [← hbo]
    have HBO := Lib.hid hbo
    clear hbo
    have hlb1 : lb < w1.heap.size := by omega
    by_cases hlt : k < n
    · have hltz : (k : Int) < (n : Int) := by omega
      have hkT : k < T.length := by rw [← HNT.out]; exact hlt
      have htext : wr.cell? ⟨pb, k, none⟩ = some (.string (str T[k])) := by
        rw [← hrow k hkT]
        unfold World.cell?
        rw [hL.grown.block pb hpb1 (by simp; omega)]
      obtain ⟨X, hX⟩ : ∃ X, X = str T[k] := ⟨_, rfl⟩
      rw [← hX] at htext
      have hXs : X.size ≤ maxLen := by
        have h1 := splitL_part 44 p.data.toList T[k] (by
          have h0 : T[k] ∈ T := List.getElem_mem hkT
          have h2 : T = splitL 44 p.data.toList := by rw [HT.out, refTexts, if_neg HPE.out]
          exact h2 ▸ h0)
        rw [size_list] at h1
        rw [hX, str_size, maxLen]; omega
      have HX := Lib.hid hX
      clear hX
      have hcv := hL.cell hoff
      have hfv : wr.frozen? ⟨lb, 37, none⟩ = false := frozen_of_row wr lb 37 _ _ hL.blk
      go_wp2_with fail
      refine (identity_any X wr hXs).mono ?_
      rintro r w2 ⟨rfl, hb2⟩
      have HAL := Lib.hid (show (T.take (k + 1)).all idOk = (bo && idOk X.data.toList) by
        rw [List.take_succ_eq_append_getElem hkT, List.all_append, HBO.out, HX.out]; simp [str])
      generalize idOk X.data.toList = io at HAL ⊢
      have hbz : ∀ b, b < wr.heap.size → (w2.alloc (.cells (encId (idVal X.data.toList)).toArray 23)).drew.heap[b]? = wr.heap[b]? := fun b hb => by
        show (w2.alloc _).heap[b]? = _
        rw [heap_alloc_old _ _ (Nat.lt_of_lt_of_le hb hb2.size), hb2.block b hb]
      have hlbr : lb < wr.heap.size := (Array.getElem?_eq_some_iff.1 hL.blk).1
      have hbase : (w2.alloc (.cells (encId (idVal X.data.toList)).toArray 23)).drew.cell? ⟨lb, 37, none⟩ = some v ∧ okCells (w2.alloc (.cells (encId (idVal X.data.toList)).toArray 23)).drew ⟨w2.heap.size, 0, none⟩ 32 = true ∧ rdCells (w2.alloc (.cells (encId (idVal X.data.toList)).toArray 23)).drew ⟨w2.heap.size, 0, none⟩ 32 = (encId (idVal X.data.toList)).toArray := by
        refine ⟨?_, ok_new_id _ _ _, rd_new_id _ _ _⟩
        rw [← hcv]
        unfold World.cell?
        rw [hbz lb hlbr]
      haveI : Nonempty (RefC lb 37 w2.heap.size v (idVal X.data.toList)) := ⟨⟨_, hbase⟩⟩
      have hz1' : ∀ z : RefC lb 37 w2.heap.size v (idVal X.data.toList), z.1.cell? ⟨lb, 37, none⟩ = some v := fun z => z.2.1
      have hz2' : ∀ z : RefC lb 37 w2.heap.size v (idVal X.data.toList), okCells z.1 ⟨w2.heap.size, 0, none⟩ 32 = true := fun z => z.2.2.1
      have hz3' : ∀ z : RefC lb 37 w2.heap.size v (idVal X.data.toList), rdCells z.1 ⟨w2.heap.size, 0, none⟩ 32 = (encId (idVal X.data.toList)).toArray := fun z => z.2.2.2
      cases bo <;> cases io
      all_goals (
      go_wp2_with fail
      refine wp_region_mix0 [0, 1, 2, 3, 4, 5] [6, 7, 8, 9, 10] (fun w' => ∃ z : RefC lb 37 w2.heap.size v (idVal X.data.toList), w' = z.1) (by kernel_rfl) (by kernel_rfl) (by kernel_rfl) ⟨⟨_, hbase⟩, rfl⟩ ?_
      simp only [opsAt, List.map_cons, List.map_nil, Array.getD_eq_getD_getElem?, List.getElem?_toArray, List.getElem?_cons_zero, List.getElem?_cons_succ, Option.getD_some]
      repeat (go_big_quiet_step (fail))
      refine wpQuiet_nil ?_
      generalize hW0 : (w2.alloc (.cells (encId (idVal X.data.toList)).toArray 23)).drew = W at hbz hbase ⊢
      have hW := hW0.symm
      clear hW0
      refine wpR_cons true rfl (by kernel_rfl) ?_
      refine wpList_buildSlice rfl 24 23 1 _ rfl (encId (idVal X.data.toList)).toArray i0 _ Tryz.underlying24 hi hz0 (by rw [hz1]; decide) (by rw [hz1]; decide) (by rw [hz1]; simp only [List.map_toArray, List.map_cons, List.map_nil]; refine fill_one _ _ 32 (encId_size _) ?_; rw [Array.size_map, Array.size_range]) ?_
      clear hz1' hz2' hz3'
      go_wp2_with fail
      have hWs : wr.heap.size < W.heap.size := by have := hb2.size; rw [hW]; simp [World.drew]; omega
      have hownW : W.ownsRow w1.heap.size 23 32 v k (flatIds ((T.map idVal).take k)) := by rw [hW]; exact ((ownsRow_below hL.own hb2).alloc _).drew
      have hgW : wr.grownBy W none := by
        refine ⟨?_, ?_, ?_, by omega, fun b hb _ => hbz b hb⟩
        · rw [hW]; exact hb2.os
        · rw [hW]; exact hb2.tape
        · rw [hW]; exact hb2.output
      have hownA := hownW.alloc (.cells (encId (idVal X.data.toList)).toArray 23)
      have HW := Lib.hid hW
      clear hW
      refine ⟨fun _ => RefC.same hbase (heap_alloc_old _ _ (show lb < W.heap.size by omega)) (heap_alloc_old _ _ (show w2.heap.size < W.heap.size by rw [HW.out]; simp [World.drew])), wpR_cons true rfl (by kernel_rfl) ?_⟩
      have hW1 : w1.heap.size ≤ W.heap.size := by have := hL.grown.size; omega
      refine wpList_append_own _ rfl (.tmp 126) (.tmp 128) 24 rfl w1.heap.size 23 i0 (.agg (encId zeroId).toArray) 32 32 Tryz.underlying24 hi hz0 hz1 hz2 (encId_size zeroId) (by decide) _ _ _ rfl hownA ⟨W.heap.size, 0, none⟩ 1 1 (encId (idVal X.data.toList)) rfl (encId_length _) ?c1 ?c2 ?c3 ?c4 ?c5 ?_
      case c1 =>
        intro j u hj
        rw [Addr.add_lit, Nat.zero_add, cells_new, List.getElem?_toArray]; exact hj
      case c2 => exact encId_oneCell _
      case c3 => unfold maxLen; omega
      case c4 => omega
      case c5 => simp; omega
      intro v' w3 hown' hgrow _
      have hne : v.ownBlock ≠ some lb := fun e => by have := (hL.own.lt lb e).1; omega
      have hlt' := Lib.hid hown'.lt
      obtain ⟨g', cap', hv'⟩ : ∃ g' cap', v' = .slice (some ⟨g', 0, none⟩) (k + 1) cap' := by
        rcases hown'.2 with ⟨_, h0⟩ | ⟨g', cap', _, e, _⟩
        · omega
        · exact ⟨g', cap', e⟩
      subst hv'
      have hblk3 : w3.heap[lb]? = some (.cells (cs.setIfInBounds 37 v) t (0, 0)) := by
        rw [hgrow.block lb (by simp; omega) (fun e => hne e.symm), heap_alloc_old _ _ (by omega), hbz lb hlbr]
        exact hL.blk
      have hc3 : w3.cell? ⟨lb, 37, none⟩ = some v := by rw [cell_of_row w3 lb 37 _ _ _ hblk3]; simp [hoff]
      have hf3 : w3.frozen? ⟨lb, 37, none⟩ = false := frozen_of_row w3 lb 37 _ _ hblk3
      have hL' : RefsLoop w1 (w3.setCell ⟨lb, 37, none⟩ (.slice (some ⟨g', 0, none⟩) (k + 1) cap')) lb 37 t cs T (k + 1) (.slice (some ⟨g', 0, none⟩) (k + 1) cap') := by
        refine ⟨?_, ?_, ?_⟩
        · rw [heap_setCell_same w3 lb 37 _ _ _ hblk3, Array.setIfInBounds_setIfInBounds]
        · have hfl : flatIds ((T.map idVal).take (k + 1)) = flatIds ((T.map idVal).take k) ++ encId (idVal X.data.toList) := by
            rw [take_texts hkT, flat_snoc, HX.out]; rfl
          rw [hfl]
          exact hown'.kept (grown_set w3 lb 37 _) (Or.inr fun e => by have := (hlt'.out lb e).1; omega)
        · have hsz := hgrow.size
          have hg1 := hL.grown
          refine ⟨?_, ?_, ?_, ?_, fun b hb hnb => ?_⟩
          · exact hgrow.os.trans (hgW.os.trans hg1.os)
          · exact hgrow.tape.trans (hgW.tape.trans hg1.tape)
          · exact hgrow.output.trans (hgW.output.trans hg1.output)
          · simp [World.setCell] at hsz ⊢; omega
          · rw [heap_setCell_other w3 ⟨lb, 37, none⟩ b _ (fun e => hnb (by rw [e])), hgrow.block b (by simp; omega) (fun e => by have := (hL.own.lt b e.symm).1; omega), heap_alloc_old _ _ (by omega), hbz b (by have := hg1.size; omega)]
            exact hg1.block b hb hnb
      have HL' := Lib.hid hL'
      have hC3 : ∃ z : RefC lb 37 w2.heap.size v (idVal X.data.toList), w3 = z.1 := by
        have hWw2 : w2.heap.size < W.heap.size := by rw [HW.out]; simp [World.drew]
        refine RefC.same hbase ?_ ?_
        · rw [hblk3, hbz lb hlbr, hL.blk]
        · rw [hgrow.block w2.heap.size (by simp; omega) (fun e => by have := (hL.own.lt _ e.symm).2; have := hb2.size; omega), heap_alloc_old _ _ hWw2]
      have HC3 := Lib.hid hC3
      clear hC3 hL' hown' hgrow hownA hownW hgW hbase hbz hL hblk3
      go_wp2_with fail
      refine ⟨fun _ => HC3.out, wpR_list [8, 9, 10] _ _ (by kernel_rfl) ?_⟩
      simp only [opsAt, List.map_cons, List.map_nil, Array.getD_eq_getD_getElem?, List.getElem?_toArray, List.getElem?_cons_zero, List.getElem?_cons_succ, Option.getD_some]
      go_wp2
      refine NoPanic.normal ?_
      go_wp2
      go_roundw
      case rel => exact ⟨k + 1, _, by omega, by go_num, HL'.out, by rw [HAL.out]; rfl⟩
      case measure => simp [intOf]; omega)
    · obtain rfl : k = n := by omega
      have hcv := hL.cell hoff
      have hTk : T.take k = T := List.take_of_length_le (by rw [← HNT.out]; omega)
      have hids := idsAt_own (w := wr) (B := w1.heap.size) (v := v) (ids := (T.map idVal).take k) (by
        have : ((T.map idVal).take k).length = k := by rw [List.length_take, List.length_map, ← HNT.out]; omega
        rw [this]; exact hL.own)
      have hIk : (T.map idVal).take k = T.map idVal := List.take_of_length_le (by rw [List.length_map, ← HNT.out]; omega)
      rw [hIk] at hids
      have HI := Lib.hid hids
      have hbo2 : bo = T.all idOk := by rw [HBO.out, hTk]
      have hri : refIds p = T.map idVal := by unfold refIds; rw [← HT.out]
      have hne' : ∀ b, v.ownBlock = some b → w.heap.size ≤ b := fun b e => by have := (hL.own.lt b e).1; omega
      have hone := own_one hL.own
      cases bo with
      | false =>
        have hrp : refsPart p = 3 := by unfold refsPart; rw [← HT.out, ← hbo2]; rfl
        have HF := Lib.hid (show (wr.heap[lb]? = some (.cells (cs.setIfInBounds 37 v) t (0, 0)) ∧ v.oneCell' = true ∧ (∀ b, v.ownBlock = some b → w.heap.size ≤ b) ∧ refsPart p = 3 ∧ w.grownBy wr (some lb)) from ⟨hL.blk, hone, hne', hrp, grown_trans (grown_below hb1 _) hL.grown⟩)
        clear hbo2 hri hne' hone hrp hids hL hcv
        go_wp2
        go_ret
        obtain ⟨f1, f2, f3, f4, f5⟩ := HF.out
        exact ⟨by rw [f4]; rfl, f5, v, f1, f2, f3, fun e => by rw [f4] at e; cases e⟩
      | true =>
        have hrp : refsPart p = refsErr (T.map idVal) := by unfold refsPart; rw [← HT.out, ← hbo2, hri]; rfl
        have HF := Lib.hid (show (wr.heap[lb]? = some (.cells (cs.setIfInBounds 37 v) t (0, 0)) ∧ v.oneCell' = true ∧ (∀ b, v.ownBlock = some b → w.heap.size ≤ b) ∧ refsPart p = refsErr (T.map idVal) ∧ w.grownBy wr (some lb) ∧ refIds p = T.map idVal) from ⟨hL.blk, hone, hne', hrp, grown_trans (grown_below hb1 _) hL.grown, hri⟩)
        clear hbo2 hri hne' hone hrp hids hL
        go_wp2_with fail
        refine (refs_any v _ wr HI.out (by rw [List.length_map, ← HNT.out, maxLen]; omega)).mono ?_
        rintro r w2 ⟨rfl, q, hq⟩
        have hbq := Lib.hid (show Below wr.heap.size wr w2 from ⟨by rw [hq]; rfl, by rw [hq]; rfl, by rw [hq]; rfl, by rw [hq]; exact Nat.le_refl _, fun _ _ => by rw [hq]; rfl⟩)
        clear hq
        go_wp2
        go_ret
        obtain ⟨f1, f2, f3, f4, f5, f6⟩ := HF.out
        have hbq := hbq.out
        exact ⟨by rw [f4]; rfl, grown_trans f5 (grown_below hbq _), v, (hbq.block lb (Array.getElem?_eq_some_iff.1 f1).1).trans f1, f2, f3, fun _ => by rw [f6]; exact HI.out.below hbq⟩

set_option maxHeartbeats 1000000 in
theorem partRefs_any (lb t : Nat) (cs : Array Value) (p : ByteArray) (w : World) (hblk : w.heap[lb]? = some (.cells cs t (0, 0))) (h37 : cs[37]? = some (.slice none 0 0)) (hp : p.size < 4294967281) :
    Calls Tryz.prog 64 #[.pointer (some ⟨lb, 0, none⟩), .int .i64 5, .string p] w fun r w' => r = .returned (.int .i64 (refsPart p)) ∧ w.grownBy w' (some lb) ∧ ∃ v, w'.heap[lb]? = some (.cells (cs.setIfInBounds 37 v) t (0, 0)) ∧ v.oneCell' = true ∧ (∀ b, v.ownBlock = some b → w.heap.size ≤ b) ∧ (refsPart p = 0 → IdsAt w' v (refIds p)) := by
  by_cases hne : p.size = 0
  · have hpe : p.toList.isEmpty = true := by
      rw [ByteArray.toList_eq, List.isEmpty_iff, ← List.length_eq_zero_iff, size_list]; exact hne
    have HT := Lib.hid (show refTexts p = [] from if_pos hne)
    have HBLK := Lib.hid hblk
    have H37 := Lib.hid h37
    clear hne hblk h37
    go_enter Tryz.func64, Tryz.ntmps64
    go_wp2
    go_ret
    have hrp : refsPart p = 0 := by unfold refsPart refIds; rw [HT.out]; rfl
    have hset0 : cs.setIfInBounds 37 (.slice none 0 0) = cs := by
      apply Array.ext_getElem?
      intro j
      rw [Array.getElem?_setIfInBounds]
      split
      · rename_i e; subst e; rw [if_pos (Array.getElem?_eq_some_iff.1 H37.out).1]; exact H37.out.symm
      · rfl
    refine ⟨by rw [hrp]; rfl, grown_refl _ _, .slice none 0 0, by rw [hset0]; exact HBLK.out, rfl, fun b e => by simp [Value.ownBlock] at e, fun _ => ?_⟩
    have hri : refIds p = [] := by unfold refIds; rw [HT.out]; rfl
    rw [hri]
    exact ⟨none, 0, rfl, Nat.le_refl _, fun h => absurd rfl h⟩
  · exact partRefs_some lb t cs p w hblk h37 hp hne

end Go.Proofs.YtdjaphcelpchaaaGreatDoor

/- bulletinref28.part: one part of a text into one field of the reference's line. -/
namespace Go.Proofs.YtdjaphcelpchaaaGreatDoor
open Go Go.RowKit Go.Proofs

attribute [local go_sem ↓] ex_load_id ex_store_id ex_alloc_id ex_build_id
attribute [local go_sem] ld_id st_id guard_id okCells_drew rdCells_drew okCells_drewN rdCells_drewN rowOk_drew rowOk_cells okCells_cells rdCells_cells okArr_id rdArr_id setRow_drew setRow_new setRow_past fits_id encId_length

def RVar (w : World) (lb : Nat) (s : ByteArray) (g : GLine) : Prop := w.heap[lb]? = some (.cells (rlineCells s g) 26 (0, 0))
theorem RVar.lt {w : World} {lb : Nat} {s : ByteArray} {g : GLine} (h : RVar w lb s g) : lb < w.heap.size := (Array.getElem?_eq_some_iff.1 h).1
theorem RVar.cell {w : World} {lb : Nat} {s : ByteArray} {g : GLine} (h : RVar w lb s g) (j : Nat) : w.cell? ⟨lb, j, none⟩ = (rlineCells s g)[j]? := cell_of_row w lb j _ _ _ h
theorem RVar.free {w : World} {lb : Nat} {s : ByteArray} {g : GLine} (h : RVar w lb s g) (j : Nat) : w.frozen? ⟨lb, j, none⟩ = false := frozen_of_row w lb j _ _ h
theorem RVar.grown {w w' : World} {lb : Nat} {s : ByteArray} {g : GLine} {row : Option Nat} (h : RVar w lb s g) (hg : w.grownBy w' row) (hne : some lb ≠ row) : RVar w' lb s g := (hg.block lb h.lt hne).trans h
theorem rset_succ (s : ByteArray) (g g' : GLine) (j : Nat) (v : Value) (h : (lineCells g).setIfInBounds j v = lineCells g') : (rlineCells s g).setIfInBounds (j + 1) v = rlineCells s g' := by
  unfold rlineCells lineCells at *
  rw [List.setIfInBounds_toArray] at h ⊢
  rw [List.set_cons_succ, List.toArray_inj h]
theorem RVar.set {w : World} {lb : Nat} {s : ByteArray} {g g' : GLine} (h : RVar w lb s g) (j : Nat) (v : Value) (e : (lineCells g).setIfInBounds j v = lineCells g') : RVar (w.setCell ⟨lb, j + 1, none⟩ v) lb s g' := by
  unfold RVar at *
  rw [heap_setCell_same w lb (j + 1) _ _ v h, rset_succ s g g' j v e]
theorem RVar.rd {w : World} {lb : Nat} {s : ByteArray} {g : GLine} (h : RVar w lb s g) : okCells w ⟨lb, 0, none⟩ 39 = true ∧ rdCells w ⟨lb, 0, none⟩ 39 = rlineCells s g := by
  have := rd_of_cells (w := w) (a := ⟨lb, 0, none⟩) (cs := Value.string s :: lineList g) (fun j v hj => by rw [Addr.add_lit, Nat.zero_add, h.cell j]; simpa [rlineCells] using hj)
  rwa [List.length_cons, lineList_length] at this
def RBlk (w : World) (lb : Nat) : Prop := ∃ cs, w.heap[lb]? = some (.cells cs 26 (0, 0)) ∧ cs.size = 39
theorem RVar.blk {w : World} {lb : Nat} {s : ByteArray} {g : GLine} (h : RVar w lb s g) : RBlk w lb := ⟨_, h, rlineCells_size s g⟩
theorem RBlk.row {w : World} {lb : Nat} (h : RBlk w lb) : rowOk w lb 39 = true := by
  obtain ⟨cs, h1, h2⟩ := h
  unfold rowOk; rw [h1]; simp [h2]
theorem RBlk.setRow {w : World} {lb : Nat} {s : ByteArray} {g' : GLine} (h : RBlk w lb) : RVar (w.setRow lb (rlineCells s g')) lb s g' := by
  obtain ⟨cs, h1, _⟩ := h
  exact setRow_heap w lb _ _ _ _ h1
theorem RBlk.grown {w w' : World} {lb : Nat} {row : Option Nat} (h : RBlk w lb) (hg : w.grownBy w' row) (hne : some lb ≠ row) : RBlk w' lb := by
  obtain ⟨cs, h1, h2⟩ := h
  exact ⟨cs, (hg.block lb (Array.getElem?_eq_some_iff.1 h1).1 hne).trans h1, h2⟩

def RSetPost (s : ByteArray) (g : GLine) (i : Nat) (p : ByteArray) (lb : Nat) (w w' : World) : Prop :=
  w.grownBy w' (some lb) ∧ RBlk w' lb ∧ (partErr i p = 0 → ∃ v, RVar w' lb s (setG g i p v) ∧ (i = 5 → v.oneCell' = true ∧ (∀ b, v.ownBlock = some b → w.heap.size ≤ b) ∧ IdsAt w' v (refIds p)))
theorem rpost_of {s : ByteArray} {g : GLine} {i : Nat} {p : ByteArray} {lb : Nat} {w w' : World} (hg : w.grownBy w' (some lb)) (hv : ∀ v, RVar w' lb s (setG g i p v)) (hi : i ≠ 5) : RSetPost s g i p lb w w' :=
  ⟨hg, (hv undef).blk, fun _ => ⟨undef, hv undef, fun e => absurd e hi⟩⟩
theorem rangeErr_in {n lo hi e : Int} (h1 : ¬ n < lo) (h2 : ¬ hi < n) : rangeErr n lo hi e = 0 := by unfold rangeErr; rw [if_neg (by omega)]
theorem rangeErr_out {n lo hi e : Int} (h : n < lo ∨ hi < n) : rangeErr n lo hi e = e := by unfold rangeErr; rw [if_pos h]

set_option maxHeartbeats 1000000 in
theorem rset0 (lb : Nat) (s : ByteArray) (g : GLine) (p : ByteArray) (w : World) (hv : RVar w lb s g) (hs : p.size ≤ maxLen) :
    Calls Tryz.prog 64 #[.pointer (some ⟨lb, 0, none⟩), .int .i64 0, .string p] w fun r w' => r = .returned (.int .i64 (partErr 0 p)) ∧ RSetPost s g 0 p lb w w' := by
  have hc := (hv.cell 1).trans (rc1 s g)
  have hf := hv.free 1
  have hblk := hv
  unfold RVar at hblk
  have hc2 : (w.setCell ⟨lb, 1, none⟩ (.int .i64 (numVal p.data.toList))).cell? ⟨lb, 1, none⟩ = some (.int .i64 (numVal p.data.toList)) :=
    ((hv.set 0 (.int .i64 (numVal p.data.toList)) (set_number g _)).cell 1).trans (rc1 _ _)
  have HP := Lib.hid (show RSetPost s g 0 p lb w (w.setCell ⟨lb, 1, none⟩ (.int .i64 (numVal p.data.toList))) from rpost_of (grown_set _ _ _ _) (fun v => hv.set 0 _ (set_number g _)) (by decide))
  clear hv hblk
  go_enter Tryz.func64, Tryz.ntmps64
  go_wp2_with fail
  refine (number_any p w hs).mono ?_
  rintro r w' ⟨rfl, rfl⟩
  have HE := Lib.hid (show partErr 0 p = numErr p.data.toList 1 2147483646 2 from rfl)
  unfold numErr at HE
  generalize numVal p.data.toList = m at HP HE hc2 ⊢
  by_cases hok : numOk p.data.toList = true
  · rw [hok] at HE ⊢
    clear hok
    by_cases h1 : (m : Int) < 1
    · have HF := Lib.hid (show partErr 0 p = 2 from HE.out.trans (rangeErr_out (Or.inl h1)))
      go_wp2
      go_ret
      exact ⟨ret_int HF.out.symm, HP.out⟩
    · by_cases h2 : 2147483646 < (m : Int)
      · have HF := Lib.hid (show partErr 0 p = 2 from HE.out.trans (rangeErr_out (Or.inr h2)))
        go_wp2
        go_ret
        exact ⟨ret_int HF.out.symm, HP.out⟩
      · have HF := Lib.hid (show partErr 0 p = 0 from HE.out.trans (rangeErr_in h1 h2))
        go_wp2
        go_ret
        exact ⟨ret_int HF.out.symm, HP.out⟩
  · have hok' : numOk p.data.toList = false := by simpa using hok
    rw [hok'] at HE ⊢
    clear hok hok'
    have HF := Lib.hid (show partErr 0 p = 3 from HE.out)
    go_wp2
    go_ret
    exact ⟨ret_int HF.out.symm, HP.out⟩

theorem rlineList_id (s : ByteArray) (g : GLine) (x : Id32) : (Value.string s :: lineList g).take 2 ++ encId x ++ (Value.string s :: lineList g).drop 34 = Value.string s :: lineList { g with id := x } := by
  simp [lineList, encId_length]
theorem st_rline_id (w : World) (lb : Nat) (s : ByteArray) (g : GLine) (x : Id32) (h : RVar w lb s g) : stRes Tryz.prog 23 w (.pointer (some ⟨lb, 2, none⟩)) (.agg (encId x).toArray) = .ok .skip (w.setRow lb (rlineCells s { g with id := x })) := by
  have h1 := run_storeCells_at Tryz.prog lb 2 26 (encId x) 0 (rlineCells s g) w h (by rw [encId_length, rlineCells_size]; omega) (encId_oneCell x)
  have e : ((rlineCells s g).toList.take (2 + 0) ++ encId x ++ (rlineCells s g).toList.drop (2 + 0 + (encId x).length)).toArray = rlineCells s { g with id := x } := by
    rw [encId_length]; exact congrArg List.toArray (rlineList_id s g x)
  rw [e] at h1
  unfold stRes
  rw [Sem.run_bind]
  have h2 : Sem.run Tryz.prog (Instr.storeAt 23 (.pointer (some ⟨lb, 2, none⟩)) (.agg (encId x).toArray)) w = .ok () (w.setRow lb (rlineCells s { g with id := x })) := by
    simp [Instr.storeAt, Instr.sureAddr, storeVar, Tryz.sizeOf23, Value.cells, encId_length, h1]
  rw [h2]; rfl

set_option maxRecDepth 100000 in
set_option maxHeartbeats 1000000 in
theorem rset1 (lb : Nat) (s : ByteArray) (g : GLine) (p : ByteArray) (w : World) (hv : RVar w lb s g) (hs : p.size ≤ maxLen) :
    Calls Tryz.prog 64 #[.pointer (some ⟨lb, 0, none⟩), .int .i64 1, .string p] w fun r w' => r = .returned (.int .i64 (partErr 1 p)) ∧ RSetPost s g 1 p lb w w' := by
  go_enter Tryz.func64, Tryz.ntmps64
  go_wp2_with fail
  refine (identity_any p w hs).mono ?_
  rintro r w2 ⟨rfl, hb2⟩
  have hv2 : RVar w2 lb s g := hv.grown (grown_below hb2 none) (by simp)
  have hst := st_rline_id _ lb s g (idVal p.data.toList) hv2
  have HP := Lib.hid (show RSetPost s g 1 p lb w (w2.setRow lb (rlineCells s { g with id := idVal p.data.toList })) from rpost_of (grown_trans (grown_below hb2 _) (grown_row _ _ _)) (fun v => hv2.blk.setRow) (by decide))
  clear hb2 hv hv2
  by_cases hok : idOk p.data.toList = true
  · have HF := Lib.hid (show partErr 1 p = 0 by unfold partErr; rw [hok]; rfl)
    rw [hok]
    clear hok
    go_wp2
    go_ret
    exact ⟨ret_int HF.out.symm, HP.out⟩
  · have hok' : idOk p.data.toList = false := by simpa using hok
    have HF := Lib.hid (show partErr 1 p = 3 by unfold partErr; rw [hok']; rfl)
    rw [hok']
    clear hok hok'
    go_wp2
    go_ret
    exact ⟨ret_int HF.out.symm, HP.out⟩

set_option maxHeartbeats 1000000 in
theorem rset2 (lb : Nat) (s : ByteArray) (g : GLine) (p : ByteArray) (w : World) (hv : RVar w lb s g) (hs : p.size ≤ maxLen) :
    Calls Tryz.prog 64 #[.pointer (some ⟨lb, 0, none⟩), .int .i64 2, .string p] w fun r w' => r = .returned (.int .i64 (partErr 2 p)) ∧ RSetPost s g 2 p lb w w' := by
  have hc := (hv.cell 34).trans (rc34 s g)
  have hf := hv.free 34
  have HV := Lib.hid hv
  clear hv
  go_enter Tryz.func64, Tryz.ntmps64
  go_wp2_with fail
  refine (text_any p 60 _ hs).mono ?_
  rintro r w' ⟨rfl, rfl⟩
  go_wp2
  go_ret
  exact ⟨rfl, rpost_of (grown_set _ _ _ _) (fun v => HV.out.set 33 _ (set_name g _)) (by decide)⟩

set_option maxHeartbeats 1000000 in
theorem rset3 (lb : Nat) (s : ByteArray) (g : GLine) (p : ByteArray) (w : World) (hv : RVar w lb s g) (hs : p.size ≤ maxLen) :
    Calls Tryz.prog 64 #[.pointer (some ⟨lb, 0, none⟩), .int .i64 3, .string p] w fun r w' => r = .returned (.int .i64 (partErr 3 p)) ∧ RSetPost s g 3 p lb w w' := by
  have hc := (hv.cell 35).trans (rc35 s g)
  have hf := hv.free 35
  have hblk := hv
  unfold RVar at hblk
  have hc2 : (w.setCell ⟨lb, 35, none⟩ (.int .i64 (numVal p.data.toList))).cell? ⟨lb, 35, none⟩ = some (.int .i64 (numVal p.data.toList)) :=
    ((hv.set 34 (.int .i64 (numVal p.data.toList)) (set_date g _)).cell 35).trans (rc35 _ _)
  have HP := Lib.hid (show RSetPost s g 3 p lb w (w.setCell ⟨lb, 35, none⟩ (.int .i64 (numVal p.data.toList))) from rpost_of (grown_set _ _ _ _) (fun v => hv.set 34 _ (set_date g _)) (by decide))
  clear hv hblk
  go_enter Tryz.func64, Tryz.ntmps64
  go_wp2_with fail
  refine (number_any p w hs).mono ?_
  rintro r w' ⟨rfl, rfl⟩
  have HE := Lib.hid (show partErr 3 p = numErr p.data.toList 0 105190559 13 from rfl)
  unfold numErr at HE
  generalize numVal p.data.toList = m at HP HE hc2 ⊢
  by_cases hok : numOk p.data.toList = true
  · rw [hok] at HE ⊢
    clear hok
    by_cases h2 : 105190559 < (m : Int)
    · have HF := Lib.hid (show partErr 3 p = 13 from HE.out.trans (rangeErr_out (Or.inr h2)))
      go_wp2
      go_ret
      exact ⟨ret_int HF.out.symm, HP.out⟩
    · have HF := Lib.hid (show partErr 3 p = 0 from HE.out.trans (rangeErr_in (by omega) h2))
      go_wp2
      go_ret
      exact ⟨ret_int HF.out.symm, HP.out⟩
  · have hok' : numOk p.data.toList = false := by simpa using hok
    rw [hok'] at HE ⊢
    clear hok hok'
    have HF := Lib.hid (show partErr 3 p = 3 from HE.out)
    go_wp2
    go_ret
    exact ⟨ret_int HF.out.symm, HP.out⟩

set_option maxHeartbeats 1000000 in
theorem rset4 (lb : Nat) (s : ByteArray) (g : GLine) (p : ByteArray) (w : World) (hv : RVar w lb s g) (hs : p.size ≤ maxLen) :
    Calls Tryz.prog 64 #[.pointer (some ⟨lb, 0, none⟩), .int .i64 4, .string p] w fun r w' => r = .returned (.int .i64 (partErr 4 p)) ∧ RSetPost s g 4 p lb w w' := by
  have hc := (hv.cell 36).trans (rc36 s g)
  have hf := hv.free 36
  have HV := Lib.hid hv
  clear hv
  go_enter Tryz.func64, Tryz.ntmps64
  go_wp2_with fail
  refine (text_any p 200 _ hs).mono ?_
  rintro r w' ⟨rfl, rfl⟩
  go_wp2
  go_ret
  exact ⟨rfl, rpost_of (grown_set _ _ _ _) (fun v => HV.out.set 35 _ (set_subject g _)) (by decide)⟩

set_option maxHeartbeats 1000000 in
theorem rset6 (lb : Nat) (s : ByteArray) (g : GLine) (p : ByteArray) (w : World) (hv : RVar w lb s g) (hs : p.size ≤ maxLen) :
    Calls Tryz.prog 64 #[.pointer (some ⟨lb, 0, none⟩), .int .i64 6, .string p] w fun r w' => r = .returned (.int .i64 (partErr 6 p)) ∧ RSetPost s g 6 p lb w w' := by
  have hc := (hv.cell 38).trans (rc38 s g)
  have hf := hv.free 38
  have hblk := hv
  unfold RVar at hblk
  have hc2 : (w.setCell ⟨lb, 38, none⟩ (.int .i64 (numVal p.data.toList))).cell? ⟨lb, 38, none⟩ = some (.int .i64 (numVal p.data.toList)) :=
    ((hv.set 37 (.int .i64 (numVal p.data.toList)) (set_bytes g _)).cell 38).trans (rc38 _ _)
  have HP := Lib.hid (show RSetPost s g 6 p lb w (w.setCell ⟨lb, 38, none⟩ (.int .i64 (numVal p.data.toList))) from rpost_of (grown_set _ _ _ _) (fun v => hv.set 37 _ (set_bytes g _)) (by decide))
  clear hv hblk
  go_enter Tryz.func64, Tryz.ntmps64
  go_wp2_with fail
  refine (number_any p w hs).mono ?_
  rintro r w' ⟨rfl, rfl⟩
  have HE := Lib.hid (show partErr 6 p = numErr p.data.toList 0 65536 2 from rfl)
  unfold numErr at HE
  generalize numVal p.data.toList = m at HP HE hc2 ⊢
  by_cases hok : numOk p.data.toList = true
  · rw [hok] at HE ⊢
    clear hok
    by_cases h2 : 65536 < (m : Int)
    · have HF := Lib.hid (show partErr 6 p = 2 from HE.out.trans (rangeErr_out (Or.inr h2)))
      go_wp2
      go_ret
      exact ⟨ret_int HF.out.symm, HP.out⟩
    · have HF := Lib.hid (show partErr 6 p = 0 from HE.out.trans (rangeErr_in (by omega) h2))
      go_wp2
      go_ret
      exact ⟨ret_int HF.out.symm, HP.out⟩
  · have hok' : numOk p.data.toList = false := by simpa using hok
    rw [hok'] at HE ⊢
    clear hok hok'
    have HF := Lib.hid (show partErr 6 p = 3 from HE.out)
    go_wp2
    go_ret
    exact ⟨ret_int HF.out.symm, HP.out⟩

theorem rset5 (lb : Nat) (s : ByteArray) (g : GLine) (p : ByteArray) (w : World) (hv : RVar w lb s g) (hr : g.refs = .slice none 0 0) (hs : p.size < 4294967281) :
    Calls Tryz.prog 64 #[.pointer (some ⟨lb, 0, none⟩), .int .i64 5, .string p] w fun r w' => r = .returned (.int .i64 (partErr 5 p)) ∧ RSetPost s g 5 p lb w w' := by
  refine (partRefs_any lb 26 (rlineCells s g) p w hv (by rw [rc37, hr]) hs).mono ?_
  rintro r w' ⟨rfl, hg, v, hb, h1, h2, h3⟩
  rw [rset_succ s g _ 36 v (set_refs g v)] at hb
  exact ⟨rfl, hg, RVar.blk (s := s) (g := { g with refs := v }) hb, fun e => ⟨v, hb, fun _ => ⟨h1, h2, h3 e⟩⟩⟩

theorem rset_any (i lb : Nat) (s : ByteArray) (g : GLine) (p : ByteArray) (w : World) (hi : i < 7) (hv : RVar w lb s g) (hr : i = 5 → g.refs = .slice none 0 0) (hs : p.size < 4294967281) :
    Calls Tryz.prog 64 #[.pointer (some ⟨lb, 0, none⟩), .int .i64 i, .string p] w fun r w' => r = .returned (.int .i64 (partErr i p)) ∧ RSetPost s g i p lb w w' := by
  have hm : p.size ≤ maxLen := by unfold maxLen; omega
  match i, hi, hr with
  | 0, _, _ => exact rset0 lb s g p w hv hm
  | 1, _, _ => exact rset1 lb s g p w hv hm
  | 2, _, _ => exact rset2 lb s g p w hv hm
  | 3, _, _ => exact rset3 lb s g p w hv hm
  | 4, _, _ => exact rset4 lb s g p w hv hm
  | 5, _, hr => exact rset5 lb s g p w hv (hr rfl) hs
  | 6, _, _ => exact rset6 lb s g p w hv hm

end Go.Proofs.YtdjaphcelpchaaaGreatDoor

/- bulletinref28.Parse. -/
namespace Go.Proofs.YtdjaphcelpchaaaGreatDoor
open Go Go.RowKit Go.Proofs

attribute [local go_sem ↓] ex_load_id ex_store_id ex_load_rline ex_store_rline ex_alloc_rline ex_build_rline
attribute [local go_sem] ld_id st_id ld_rline st_rline guard_id okCells_drew rdCells_drew okCells_drewN rdCells_drewN rowOk_drew rowOk_cells okCells_cells rdCells_cells setRow_drew setRow_new setRow_past

structure RLoop (lb : Nat) (W1 wr : World) (T : List ByteArray) (k : Nat) (v : Value) : Prop where
  var : RVar wr lb ⟨#[]⟩ (gAt T v k)
  grown : W1.grownBy wr (some lb)
  ids : 5 < k → v.oneCell' = true ∧ (∀ b, v.ownBlock = some b → W1.heap.size ≤ b) ∧ IdsAt wr v (refIds (nth T 5))
  ok : ∀ j, j < k → partErr j (nth T j) = 0
  lt : lb < W1.heap.size

theorem RLoop.next {lb : Nat} {W1 wr w' : World} {T : List ByteArray} {k : Nat} {v : Value} (h : RLoop lb W1 wr T k v) (hp : RSetPost ⟨#[]⟩ (gAt T v k) k (nth T k) lb wr w') (he : partErr k (nth T k) = 0) : ∃ v', RLoop lb W1 w' T (k + 1) v' := by
  obtain ⟨hg, _, hy⟩ := hp
  obtain ⟨v', hv', h5⟩ := hy he
  have hok : ∀ j, j < k + 1 → partErr j (nth T j) = 0 := fun j hj => by
    by_cases e : j = k
    · rw [e]; exact he
    · exact h.ok j (by omega)
  by_cases hk : k = 5
  · subst hk
    refine ⟨v', ?_, grown_trans h.grown hg, fun _ => ⟨(h5 rfl).1, fun b e => Nat.le_trans h.grown.size ((h5 rfl).2.1 b e), (h5 rfl).2.2⟩, hok, h.lt⟩
    rw [gAt, gAt_indep T v' v 5 (Nat.le_refl _)]
    exact hv'
  · by_cases hlt : k < 5
    · refine ⟨v', ?_, grown_trans h.grown hg, fun h6 => by omega, hok, h.lt⟩
      rw [gAt, gAt_indep T v' v k (by omega)]
      exact hv'
    · refine ⟨v, ?_, grown_trans h.grown hg, fun _ => ?_, hok, h.lt⟩
      · rw [gAt]
        have e : setG (gAt T v k) k (nth T k) v = setG (gAt T v k) k (nth T k) v' := by
          unfold setG
          split <;> first | rfl | omega
        rw [e]; exact hv'
      · obtain ⟨h1, h2, h3⟩ := h.ids (by omega)
        exact ⟨h1, h2, h3.grown hg (fun e => by have := h2 _ e; have := h.lt; omega)⟩

def RParsePost (s : ByteArray) (w : World) (r : Ending) (w' : World) : Prop := ∃ G ids, r = .returned (.tuple #[.agg (rlineCells ⟨#[]⟩ G), .int .i64 (parseOut s).2, .int .i64 (parseOut s).1]) ∧ ParsedIs s G ids ∧ IdsAt w' G.refs ids ∧ refsOne G ∧ Below w.heap.size w w'
theorem rparse_bad {s : ByteArray} {w w' : World} {e o : Int} (he : parseOut s = (e, o)) (hne : e ≠ 0) (hb : Below w.heap.size w w') : RParsePost s w (.returned (.tuple #[.agg (rlineCells ⟨#[]⟩ zeroLine), .int .i64 o, .int .i64 e])) w' :=
  ⟨zeroLine, [], by rw [he], ⟨fun _ => ⟨rfl, rfl⟩, fun h => absurd (by rw [he] at h; exact h) hne⟩, idsAt_nil w', rfl, hb⟩
theorem rparse_good {s : ByteArray} {lb rb : Nat} {w W1 wr : World} {v : Value} (h : RLoop lb W1 wr (splitS 9 s) 7 v) (hlen : (splitS 9 s).length = 7) (hb1 : Below w.heap.size w W1) (hlb : w.heap.size ≤ lb) (hrb : w.heap.size ≤ rb) (hvr : v.ownBlock ≠ some rb) :
    RParsePost s w (.returned (.tuple #[.agg (rlineCells ⟨#[]⟩ (gAt (splitS 9 s) v 7)), .int .i64 0, .int .i64 0])) (wr.setRow rb (rlineCells ⟨#[]⟩ (gAt (splitS 9 s) v 7))) := by
  have he : parseOut s = (0, 0) := by
    unfold parseOut
    rw [if_neg (by omega), if_neg (by omega), firstBad_none h.ok]
  obtain ⟨h1, h2, h3⟩ := h.ids (by omega)
  refine ⟨_, refIds (nth (splitS 9 s) 5), by rw [he], ⟨fun e => absurd (by rw [he]) e, fun _ => ⟨v, rfl, rfl⟩⟩, h3.grown (grown_row _ _ _) hvr, gAt_one _ _ h1, ?_⟩
  have hbr : Below w.heap.size w wr := below_grown hb1 h.grown hb1.size hlb
  exact below_grown hbr (grown_row _ _ _) hbr.size hrb

set_option maxRecDepth 100000 in
set_option maxHeartbeats 2000000 in
theorem rparse_any (s : ByteArray) (w : World) (hs : s.size < 4294967281) :
    Calls Tryz.prog 23 #[.string s] w (RParsePost s w) := by
  obtain ⟨T, hT⟩ : ∃ T, T = splitS 9 s := ⟨_, rfl⟩
  have hlen := splitS_len 9 s
  rw [← hT] at hlen
  obtain ⟨n, hn⟩ : ∃ n, n = T.length := ⟨_, rfl⟩
  rw [← hn] at hlen
  have HT := Lib.hid hT
  have HN := Lib.hid hn
  have hsz : ∀ k, k < n → (nth T k).size ≤ s.size := fun k hk => by
    have h1 : nth T k ∈ T := by
      have := nth_at T k (by omega)
      exact List.mem_of_getElem? this
    have e0 : T = (splitL 9 s.data.toList).map str := hT
    generalize nth T k = y at h1 ⊢
    rw [e0, List.mem_map] at h1
    obtain ⟨x, hx, e⟩ := h1
    have := splitL_part 9 s.data.toList x hx
    rw [size_list] at this
    rw [← e, str_size]; exact this
  have HSZ := Lib.hid hsz
  have hfz : fitsRow 39 (rlineCells ⟨#[]⟩ zeroLine) = true := fits_rline rfl
  clear hT hn hsz
  go_enter Tryz.func23, Tryz.ntmps23
  go_wp2_with fail
  refine (parts_any s 9 _ (by omega)).mono ?_
  rintro r W1 ⟨vp, rfl, hown1, hbA⟩
  rw [← HT.out, ← HN.out] at hown1
  obtain ⟨pb, pcap, hvp, hpb, hpb1, hncap⟩ : ∃ pb pcap, vp = .slice (some ⟨pb, 0, none⟩) n pcap ∧ w.heap.size + 1 ≤ pb ∧ pb < W1.heap.size ∧ n ≤ pcap := by
    rcases hown1.2 with ⟨_, h0⟩ | ⟨g, cap, cur, e, hg, hcur, hle, _⟩
    · omega
    · exact ⟨g, cap, e, by simpa using hg, (Array.getElem?_eq_some_iff.1 hcur).1, hle⟩
  subst hvp
  have hrow : ∀ k, (h : k < n) → W1.cell? ⟨pb, k, none⟩ = some (.string (nth T k)) := fun k h => by
    rw [hown1.cellAt k (by omega)]
    have := nth_at T k (by rw [← HN.out]; exact h)
    simp [this]
  have hvar1 : RVar W1 w.heap.size ⟨#[]⟩ zeroLine := by
    unfold RVar
    rw [hbA.block w.heap.size (by simp), heap_alloc_new]
  have hb1 : Below w.heap.size w W1 := ((Below.refl _ _).alloc (Nat.le_refl _) _).trans (hbA.mono (by simp))
  have hs1 : w.heap.size < W1.heap.size := by omega
  have hro1 := hvar1.blk.row
  have HV1 := Lib.hid hvar1
  clear hbA hvar1 hown1
  by_cases hlow : n < 7
  · have hlowz : (n : Int) < 7 := by omega
    have HPO := Lib.hid (show parseOut s = (4, (s.size : Int)) by unfold parseOut; rw [← HT.out, ← HN.out, if_pos hlow])
    go_wp2
    refine bodyPost_ret (v := .tuple #[.agg (rlineCells ⟨#[]⟩ zeroLine), .int .i64 (s.size : Int), .int .i64 4]) ?_ rfl (rparse_bad HPO.out (by decide) (below_grown hb1 (grown_row _ _ _) (by omega) (Nat.le_refl _)))
    exact results_agg3 rfl Tryz.isAgg26 Tryz.sizeOf26 _ _ ⟨w.heap.size, 0, none⟩ _ _ _ rfl rfl rfl (HV1.out.blk.setRow.rd.1) (HV1.out.blk.setRow.rd.2)
  · have hlowz : ¬ (n : Int) < 7 := by omega
    by_cases hhi : 7 < n
    · have hhiz : 7 < (n : Int) := by omega
      have HPO := Lib.hid (show parseOut s = (5, (offs T 7 : Int)) by unfold parseOut; rw [← HT.out, ← HN.out, if_neg hlow, if_pos hhi])
      go_wp2
      go_loop [6, 7] (fun o i => ∃ k : Nat, k ≤ 7 ∧ i = .int .i64 k ∧ o = .int .i64 (offs T k : Nat)) (fun _ i => 7 - (intOf i).toNat)
      case atStart => exact ⟨0, by omega, rfl, rfl⟩
      case round =>
        obtain ⟨k, hk7, rfl, rfl⟩ := hrel
        have hoff := offs_le T 4294967296 k (by rw [← HN.out]; omega) (fun j hj => by have := HSZ.out j (by omega); omega)
        by_cases h7 : k < 7
        · have h7z : (k : Int) < 7 := by omega
          have hkn : (k : Int) < (n : Int) := by omega
          have htext := hrow k (by omega)
          have hsk := HSZ.out k (by omega)
          have HO := Lib.hid (offs_succ T k (by rw [← HN.out]; omega))
          go_wp2
          go_round
          case rel => exact ⟨k + 1, by omega, by go_num, by rw [HO.out]; go_num⟩
          case measure => simp [intOf]; omega
        · obtain rfl : k = 7 := by omega
          rw [show ((7 : Nat) : Int) = 7 from rfl] at *
          go_wp2
          refine bodyPost_ret (v := .tuple #[.agg (rlineCells ⟨#[]⟩ zeroLine), .int .i64 (offs T 7 : Int), .int .i64 5]) ?_ rfl (rparse_bad HPO.out (by decide) (below_grown hb1 (grown_row _ _ _) (by omega) (Nat.le_refl _)))
          exact results_agg3 rfl Tryz.isAgg26 Tryz.sizeOf26 _ _ ⟨w.heap.size, 0, none⟩ _ _ _ rfl rfl rfl (HV1.out.blk.setRow.rd.1) (HV1.out.blk.setRow.rd.2)
    · have hhiz : ¬ 7 < (n : Int) := by omega
      obtain rfl : n = 7 := by omega
      go_wp2
      generalize hW2 : W1.alloc (.cells (rlineCells ⟨#[]⟩ zeroLine) 26) = W2
      have hv2 : RVar W2 W1.heap.size ⟨#[]⟩ zeroLine := by rw [← hW2]; exact heap_alloc_new _ _
      have hrb2 : RBlk W2 w.heap.size := by rw [← hW2]; exact HV1.out.blk.grown (grown_below ((Below.refl _ _).alloc (Nat.le_refl _) _) none) (by simp)
      have hb2 : Below w.heap.size w W2 := by rw [← hW2]; exact hb1.alloc (by omega) _
      have hs2 : W2.heap.size = W1.heap.size + 1 := by rw [← hW2]; simp
      have hrow2 : ∀ k, (h : k < 7) → W2.cell? ⟨pb, k, none⟩ = some (.string (nth T k)) := fun k h => by
        rw [← hrow k h, ← hW2]
        unfold World.cell?
        rw [heap_alloc_old _ _ hpb1]
      have HV2 := Lib.hid hv2
      have HRB2 := Lib.hid hrb2
      clear hW2 hv2 hrb2
      go_loopw [6, 9] (fun o i wr => ∃ (k : Nat) (v : Value), k ≤ 7 ∧ i = .int .i64 k ∧ o = .int .i64 (offs T k : Nat) ∧ RLoop W1.heap.size W2 wr T k v) (fun _ i _ => 7 - (intOf i).toNat)
      case atStart => exact ⟨0, undef, by omega, rfl, rfl, HV2.out, grown_refl _ _, fun h => by omega, fun j hj => by omega, by omega⟩
      case round =>
        obtain ⟨k, v, hk, rfl, rfl, hL⟩ := hrel
        have hoff2 := offs_le T 4294967296 k (by rw [← HN.out]; exact hk) (fun j hj => by have := HSZ.out j (by omega); omega)
        have hbr : Below w.heap.size w wr := below_grown hb2 hL.grown (by omega) (by omega)
        have hrbr : RBlk wr w.heap.size := HRB2.out.grown hL.grown (by simp; omega)
        by_cases hlt : k < 7
        · have hltz : (k : Int) < 7 := by omega
          have htext : wr.cell? ⟨pb, k, none⟩ = some (.string (nth T k)) := by
            rw [← hrow2 k hlt]
            unfold World.cell?
            rw [hL.grown.block pb (by omega) (by simp; omega)]
          have hsk := HSZ.out k hlt
          have HO := Lib.hid (offs_succ T k (by rw [← HN.out]; exact hlt))
          go_wp2_with fail
          refine (rset_any k W1.heap.size ⟨#[]⟩ (gAt T v k) (nth T k) wr hlt hL.var (fun e => by subst e; exact gAt_refs T v) (by omega)).mono ?_
          rintro r w2 ⟨rfl, hpost⟩
          by_cases he : partErr k (nth T k) = 0
          · have hnext := Lib.hid (hL.next hpost he)
            have htext2 : w2.cell? ⟨pb, k, none⟩ = some (.string (nth T k)) := by
              rw [← htext]
              unfold World.cell?
              rw [hpost.1.block pb (by have := hL.grown.size; omega) (by simp; omega)]
            rw [he]
            clear hL hpost hrbr
            go_wp2
            go_roundw
            case rel =>
              obtain ⟨v', hv'⟩ := hnext.out
              exact ⟨k + 1, v', by omega, by go_num, by rw [HO.out]; go_num, hv'⟩
            case measure => simp [intOf]; omega
          · have hb3 := Lib.hid (below_grown hb2 (grown_trans hL.grown hpost.1) (by omega) (show w.heap.size ≤ W1.heap.size by omega))
            have hrb3 : RBlk w2 w.heap.size := hrbr.grown hpost.1 (by simp; omega)
            have HB := Lib.hid hrb3
            have hro2 := hrb3.row
            have HPO := Lib.hid (show parseOut s = (partErr k (nth T k), (offs T k : Int)) by
              unfold parseOut
              rw [← HT.out, ← HN.out, if_neg (by omega), if_neg (by omega), firstBad_some hlt he hL.ok])
            have HE := Lib.hid he
            generalize partErr k (nth T k) = e at he HPO HE ⊢
            have hez : (e == 0) = false := by rw [beq_eq_false_iff_ne]; exact he
            clear hL hpost hrbr hrb3
            go_wp2
            refine bodyPost_ret (v := .tuple #[.agg (rlineCells ⟨#[]⟩ zeroLine), .int .i64 (offs T k : Int), .int .i64 e]) ?_ rfl (rparse_bad HPO.out HE.out (below_grown hb3.out (grown_row _ _ _) hb3.out.size (Nat.le_refl _)))
            exact results_agg3 rfl Tryz.isAgg26 Tryz.sizeOf26 _ _ ⟨w.heap.size, 0, none⟩ _ _ _ rfl rfl rfl (HB.out.setRow.rd.1) (HB.out.setRow.rd.2)
        · obtain rfl : k = 7 := by omega
          have hok := hL.var.rd.1
          have hrd := hL.var.rd.2
          have hro2 := hrbr.row
          have hft : fitsRow 39 (rlineCells ⟨#[]⟩ (gAt T v 7)) = true := fits_rline (gAt_one T v (hL.ids (by omega)).1)
          have HL := Lib.hid hL
          have HB := Lib.hid hrbr
          clear hL hrbr
          rw [show ((7 : Nat) : Int) = 7 from rfl] at *
          go_wp2
          have hT := HT.out
          have hpg := rparse_good (s := s) (lb := W1.heap.size) (rb := w.heap.size) (w := w) (W1 := W2) (wr := wr) (v := v) (hT ▸ HL.out) (by rw [← hT]; exact HN.out.symm) hb2 (by omega) (Nat.le_refl _) (fun e => by have := (HL.out.ids (by omega)).2.1 _ e; omega)
          rw [← hT] at hpg
          refine bodyPost_ret (v := .tuple #[.agg (rlineCells ⟨#[]⟩ (gAt T v 7)), .int .i64 0, .int .i64 0]) ?_ rfl hpg
          exact results_agg3 rfl Tryz.isAgg26 Tryz.sizeOf26 _ _ ⟨w.heap.size, 0, none⟩ _ _ _ rfl rfl rfl (HB.out.setRow.rd.1) (HB.out.setRow.rd.2)

end Go.Proofs.YtdjaphcelpchaaaGreatDoor

/- Lines as composite literals; 'append' of nothing. -/
namespace Go.Proofs.YtdjaphcelpchaaaGreatDoor
open Go Go.RowKit Go.Proofs

theorem fill_cons {place : Nat → Option (Nat × Nat)} {cells : Array Value} {i off size : Nat} {v : Value} {rest : List (Nat × Value)} (hp : place i = some (off, size)) (hs : v.cells.size = size) (hf : off + size ≤ cells.size) :
    Instr.fill place cells ((i, v) :: rest) = Instr.fill place (v.cells.zipIdx.foldl (fun cs (c, j) => cs.setIfInBounds (off + j) c) cells) rest := by
  rw [Instr.fill, hp]
  simp only [hs]
  rw [if_neg]
  simp; omega
theorem fill_one_cell {place : Nat → Option (Nat × Nat)} {cells cells' : Array Value} {i off : Nat} {v : Value} {rest : List (Nat × Value)} (hp : place i = some (off, 1)) (hs : v.cells = #[v]) (hf : off + 1 ≤ cells.size) (e : cells.setIfInBounds off v = cells') :
    Instr.fill place cells ((i, v) :: rest) = Instr.fill place cells' rest := by
  rw [fill_cons hp (by rw [hs]; rfl) hf, hs, ← e]
  rfl
theorem put_id (g : GLine) (x : Id32) : (encId x).toArray.zipIdx.foldl (fun cs (c, j) => cs.setIfInBounds (1 + j) c) (lineCells g) = lineCells { g with id := x } := by
  have h := put_list (encId x) 0 1 [.int .i64 g.number] (encId g.id) [.string g.name, .int .i64 g.date, .string g.subject, g.refs, .int .i64 g.bytes] rfl (by rw [encId_length, encId_length])
  rw [← Array.foldl_toList, Array.toList_zipIdx]
  exact h
theorem put_rid (s : ByteArray) (g : GLine) (x : Id32) : (encId x).toArray.zipIdx.foldl (fun cs (c, j) => cs.setIfInBounds (2 + j) c) (rlineCells s g) = rlineCells s { g with id := x } := by
  have h := put_list (encId x) 0 2 [.string s, .int .i64 g.number] (encId g.id) [.string g.name, .int .i64 g.date, .string g.subject, g.refs, .int .i64 g.bytes] rfl (by rw [encId_length, encId_length])
  rw [← Array.foldl_toList, Array.toList_zipIdx]
  exact h
def places34 (i : Nat) : Option (Nat × Nat) := #[(0, 1), (1, 32), (33, 1), (34, 1), (35, 1), (36, 1), (37, 1)][i]?
def places26 (i : Nat) : Option (Nat × Nat) := #[(0, 1), (1, 1), (2, 32), (34, 1), (35, 1), (36, 1), (37, 1), (38, 1)][i]?
theorem built34 (parts : List (Nat × Value)) : Tryz.prog.built 34 parts = Instr.fill places34 (lineCells zeroLine) parts := by kernel_rfl
theorem built26 (parts : List (Nat × Value)) : Tryz.prog.built 26 parts = Instr.fill places26 (rlineCells ⟨#[]⟩ zeroLine) parts := by kernel_rfl
theorem built_line (g : GLine) (hr : g.refs.cells = #[g.refs]) :
    Tryz.prog.built 34 [(0, .int .i64 g.number), (1, .agg (encId g.id).toArray), (2, .string g.name), (3, .int .i64 g.date), (4, .string g.subject), (5, g.refs), (6, .int .i64 g.bytes)] = some (lineCells g) := by
  rw [built34]
  rw [fill_one_cell (off := 0) rfl rfl (by rw [lineCells_size]; omega) (set_number _ _)]
  rw [fill_cons (off := 1) (size := 32) (v := .agg (encId g.id).toArray) rfl (encId_size _) (by rw [lineCells_size]; omega)]
  show Instr.fill _ ((encId g.id).toArray.zipIdx.foldl (fun cs (c, j) => cs.setIfInBounds (1 + j) c) _) _ = _
  rw [put_id]
  rw [fill_one_cell (off := 33) rfl rfl (by rw [lineCells_size]; omega) (set_name _ _)]
  rw [fill_one_cell (off := 34) rfl rfl (by rw [lineCells_size]; omega) (set_date _ _)]
  rw [fill_one_cell (off := 35) rfl rfl (by rw [lineCells_size]; omega) (set_subject _ _)]
  rw [fill_one_cell (off := 36) rfl hr (by rw [lineCells_size]; omega) (set_refs _ _)]
  rw [fill_one_cell (off := 37) rfl rfl (by rw [lineCells_size]; omega) (set_bytes _ _)]
  rfl
theorem set_rname (s s' : ByteArray) (g : GLine) : (rlineCells s g).setIfInBounds 0 (.string s') = rlineCells s' g := by simp [rlineCells]
theorem built_rline (s : ByteArray) (g : GLine) (hr : g.refs.cells = #[g.refs]) :
    Tryz.prog.built 26 [(0, .string s), (1, .int .i64 g.number), (2, .agg (encId g.id).toArray), (3, .string g.name), (4, .int .i64 g.date), (5, .string g.subject), (6, g.refs), (7, .int .i64 g.bytes)] = some (rlineCells s g) := by
  rw [built26]
  rw [fill_one_cell (off := 0) rfl rfl (by rw [rlineCells_size]; omega) (set_rname _ _ _)]
  rw [fill_one_cell (off := 1) rfl rfl (by rw [rlineCells_size]; omega) (rset_succ _ _ _ 0 _ (set_number _ _))]
  rw [fill_cons (off := 2) (size := 32) (v := .agg (encId g.id).toArray) rfl (encId_size _) (by rw [rlineCells_size]; omega)]
  show Instr.fill _ ((encId g.id).toArray.zipIdx.foldl (fun cs (c, j) => cs.setIfInBounds (2 + j) c) _) _ = _
  rw [put_rid]
  rw [fill_one_cell (off := 34) rfl rfl (by rw [rlineCells_size]; omega) (rset_succ _ _ _ 33 _ (set_name _ _))]
  rw [fill_one_cell (off := 35) rfl rfl (by rw [rlineCells_size]; omega) (rset_succ _ _ _ 34 _ (set_date _ _))]
  rw [fill_one_cell (off := 36) rfl rfl (by rw [rlineCells_size]; omega) (rset_succ _ _ _ 35 _ (set_subject _ _))]
  rw [fill_one_cell (off := 37) rfl hr (by rw [rlineCells_size]; omega) (rset_succ _ _ _ 36 _ (set_refs _ _))]
  rw [fill_one_cell (off := 38) rfl rfl (by rw [rlineCells_size]; omega) (rset_succ _ _ _ 37 _ (set_bytes _ _))]
  rfl

def blRes (P : Program) (t : Nat) (w : World) (parts : Array (Nat × Value)) : Result Next := Sem.run P (do pure (Next.value (← Instr.build t parts))) w
theorem blRes_of {P : Program} {t : Nat} {w : World} {parts : Array (Nat × Value)} {cells : Array Value} (h : P.built t parts.toList = some cells) : blRes P t w parts = .ok (.value (.agg cells)) w := by
  unfold blRes
  rw [Sem.run_bind, run_build w t parts cells h]; rfl
theorem ex_build_line7 (ρ : Operand → Value) (d : Option Tmp) (x0 x1 x2 x3 x4 x5 x6 : Operand) (ty : TypeId) (pos : String) (af : Array Edge) (gd : Option (Nat × Bool)) (w : World) :
    Sem.run Tryz.prog (execOp ρ ⟨d, .build 34 #[(0, x0), (1, x1), (2, x2), (3, x3), (4, x4), (5, x5), (6, x6)], ty, pos, af, gd⟩) w = blRes Tryz.prog 34 w #[(0, ρ x0), (1, ρ x1), (2, ρ x2), (3, ρ x3), (4, ρ x4), (5, ρ x5), (6, ρ x6)] := by kernel_rfl
theorem ex_build_rline8 (ρ : Operand → Value) (d : Option Tmp) (x0 x1 x2 x3 x4 x5 x6 x7 : Operand) (ty : TypeId) (pos : String) (af : Array Edge) (gd : Option (Nat × Bool)) (w : World) :
    Sem.run Tryz.prog (execOp ρ ⟨d, .build 26 #[(0, x0), (1, x1), (2, x2), (3, x3), (4, x4), (5, x5), (6, x6), (7, x7)], ty, pos, af, gd⟩) w = blRes Tryz.prog 26 w #[(0, ρ x0), (1, ρ x1), (2, ρ x2), (3, ρ x3), (4, ρ x4), (5, ρ x5), (6, ρ x6), (7, ρ x7)] := by kernel_rfl

/-- append(s, x...) of an x without elements onto a slice that has no room and no element: s itself. -/
theorem wpList_append_zero {ops : Array Oper} {rest : List Oper} {o : Oper} {a : Act} {w : World} {Q : Exit → Act → World → Prop} (hgd : o.guard = none) (s x : Operand)
    (ho : o.op = .call { callee := .builtin .append, args := #[s, x], argTypes := #[24, 24] }) (g c : Nat) (ad : Option Addr) (hs : a.eval s = .slice (some ⟨g, 0, none⟩) 0 0) (hx : a.eval x = .slice ad 0 c)
    (h : wpList Tryz.prog ops Q rest (a.put o.dst (.slice (some ⟨g, 0, none⟩) 0 0)) w) : wpList Tryz.prog ops Q (o :: rest) a w := by
  refine wpList_plain hgd fun K hK => ?_
  have hr : (Builtin.append_ #[24, 24] o.type #[.slice (some ⟨g, 0, none⟩) 0 0, .slice ad 0 c]).run Tryz.prog w = .ok (.slice (some ⟨g, 0, none⟩) 0 0) w := by
    cases ad with
    | none => kernel_rfl
    | some b => kernel_rfl
  unfold Oper.wp execOp
  simp only [ho, resolve, invoke, builtin, Sem.run_bind, Sem.run_pure, Result.andThen_ok, List.map_toArray, List.map_cons, List.map_nil, hs, hx, hr]
  exact hK _ _ h

end Go.Proofs.YtdjaphcelpchaaaGreatDoor

/- bulletinlaw28.Back and bulletinlaw28.small. -/
namespace Go.Proofs.YtdjaphcelpchaaaGreatDoor
open Go Go.RowKit Go.Proofs

attribute [local go_sem ↓] ex_load_id ex_store_id ex_load_line ex_store_line ex_load_rline ex_store_rline ex_alloc_line ex_build_line ex_alloc_rline ex_build_rline ex_build_line7 ex_build_rline8
attribute [local go_sem] ld_id st_id ld_line st_line ld_rline st_rline guard_id okCells_drew rdCells_drew okCells_drewN rdCells_drewN rowOk_drew rowOk_cells okCells_cells rdCells_cells setRow_drew setRow_new setRow_past
attribute [local go_sem] lc0 lc33 lc34 lc35 lc36 lc37 rc0 rc1 rc34 rc35 rc36 rc37 rc38

theorem okArr_lid (g : GLine) : okArr (lineCells g) 1 32 = true := okArr_le (by rw [lineCells_size]; omega)
theorem rdArr_lid (g : GLine) : rdArr (lineCells g) 1 32 = (encId g.id).toArray := by rw [rdArr_extract (by rw [lineCells_size]; omega)]; exact extract_id g
theorem okArr_rid (s : ByteArray) (g : GLine) : okArr (rlineCells s g) 2 32 = true := okArr_le (by rw [rlineCells_size]; omega)
theorem rdArr_rid (s : ByteArray) (g : GLine) : rdArr (rlineCells s g) 2 32 = (encId g.id).toArray := by rw [rdArr_extract (by rw [rlineCells_size]; omega)]; exact extract_rid s g
attribute [local go_sem] okArr_lid rdArr_lid okArr_rid rdArr_rid

theorem results_agg1 {P : Program} {fn : Func} {p : Tmp} {ty n : Nat} (h : fn.results = #[.cell p ty]) (hA : ∀ w, Sem.run P (isAgg ty) w = .ok true w) (hs : ∀ w, Sem.run P (Go.sizeOf ty) w = .ok n w)
    (tmps : Array Value) (w : World) (a : Addr) (cs : Array Value) (hp : tmps.getD p undef = .pointer (some a)) (hok : okCells w a n = true) (hrd : rdCells w a n = cs) :
    (results fn tmps).run P w = .ok (.agg cs) w := by
  have hp' : tmps[p]?.getD undef = .pointer (some a) := by simpa using hp
  have hl : (loadVar ty a).run P w = .ok (.agg cs) w := by
    simp [loadVar, hA, hs, run_loadCells_rd w a n hok, hrd]
  simp [results, h, hp', asAddr, hl]

set_option maxRecDepth 100000 in
set_option maxHeartbeats 1000000 in
theorem back_any (s : ByteArray) (g : GLine) (w : World) (hr : g.refs.cells = #[g.refs]) (h1 : refsOne g) :
    Calls Tryz.prog 22 #[.string s, .agg (lineCells g)] w fun r w' => r = .returned (.agg (rlineCells s g)) ∧ Below w.heap.size w w' := by
  have hb : ∀ w, blRes Tryz.prog 26 w #[(0, .string s), (1, .int .i64 g.number), (2, .agg (encId g.id).toArray), (3, .string g.name), (4, .int .i64 g.date), (5, .string g.subject), (6, g.refs), (7, .int .i64 g.bytes)] = .ok (.value (.agg (rlineCells s g))) w := fun w => blRes_of (built_rline s g hr)
  have hft := fits_rline (s := s) h1
  have hrsz : ((rlineCells ⟨#[]⟩ zeroLine).size == 39) = true := by rw [rlineCells_size]; rfl
  go_enter Tryz.func22, Tryz.ntmps22
  go_wp2
  refine bodyPost_ret (v := .agg (rlineCells s g)) ?_ rfl ⟨rfl, ((Below.refl _ _).alloc (Nat.le_refl _) _).alloc (by simp) _⟩
  exact results_agg1 rfl Tryz.isAgg26 Tryz.sizeOf26 _ _ ⟨w.heap.size + 1, 0, none⟩ _ rfl (by simpa using ok_new_rline (w.alloc (.cells (lineCells g) 34)) s g _) (by simpa using rd_new_rline (w.alloc (.cells (lineCells g) 34)) s g 26)

set_option maxHeartbeats 1000000 in
theorem small_any (s : ByteArray) (g : GLine) (w : World) (a : Option Addr) (n c : Nat) (hr : g.refs = .slice a n c) (hn : n ≤ maxLen) (h1 : s.size ≤ maxLen / 4) (h2 : g.name.size ≤ maxLen / 4) (h3 : g.subject.size ≤ maxLen / 4) :
    Calls Tryz.prog 14 #[.agg (rlineCells s g)] w fun r w' => r = .returned (.bool (decide (n ≤ 30) && decide (s.size + g.name.size + g.subject.size ≤ 600))) ∧ Below w.heap.size w w' := by
  unfold maxLen at *
  have hbw := Lib.hid (show Below w.heap.size w (w.alloc (.cells (rlineCells s g) 26)) from (Below.refl _ _).alloc (Nat.le_refl _) _)
  by_cases hq : n ≤ 30
  · have hqz : (n : Int) ≤ 30 := by omega
    by_cases hp : s.size + g.name.size + g.subject.size ≤ 600
    · have hpz : (s.size : Int) + g.name.size + g.subject.size ≤ 600 := by omega
      go_enter Tryz.func14, Tryz.ntmps14
      go_wp2
      go_ret
      exact ⟨by simp; exact ⟨hq, hp⟩, hbw.out⟩
    · have hpz : ¬ (s.size : Int) + g.name.size + g.subject.size ≤ 600 := by omega
      go_enter Tryz.func14, Tryz.ntmps14
      go_wp2
      go_ret
      exact ⟨by simp, hbw.out⟩
  · have hqz : ¬ (n : Int) ≤ 30 := by omega
    go_enter Tryz.func14, Tryz.ntmps14
    go_wp2
    go_ret
    exact ⟨by simp, hbw.out⟩

end Go.Proofs.YtdjaphcelpchaaaGreatDoor

/- bulletinlaw28.Own. -/
namespace Go.Proofs.YtdjaphcelpchaaaGreatDoor
open Go Go.RowKit Go.Proofs

attribute [local go_sem ↓] ex_load_id ex_store_id ex_load_line ex_store_line ex_load_rline ex_store_rline ex_alloc_line ex_build_line ex_alloc_rline ex_build_rline ex_build_line7 ex_build_rline8
attribute [local go_sem] ld_id st_id ld_line st_line ld_rline st_rline guard_id okCells_drew rdCells_drew okCells_drewN rdCells_drewN rowOk_drew rowOk_cells okCells_cells rdCells_cells setRow_drew setRow_new setRow_past
attribute [local go_sem] lc0 lc33 lc34 lc35 lc36 lc37 rc0 rc1 rc34 rc35 rc36 rc37 rc38 okArr_lid rdArr_lid okArr_rid rdArr_rid

theorem ex_bs_zero (ρ : Operand → Value) (d : Option Tmp) (ty : TypeId) (pos : String) (af : Array Edge) (g : Option (Nat × Bool)) (w : World) :
    Sem.run Tryz.prog (execOp ρ ⟨d, .buildSlice 24 0 #[], ty, pos, af, g⟩) w = .ok (.value (.slice (some ⟨w.heap.size, 0, none⟩) 0 0)) (w.alloc (.cells #[] 23)) := by kernel_rfl
attribute [local go_sem ↓] ex_bs_zero

theorem flat_row {w : World} {b off : Nat} {ids : List Id32} (h : IdRow w b off ids) : ∀ j u, (flatIds ids)[j]? = some u → w.cell? ((⟨b, off, none⟩ : Addr).add j) = some u := by
  intro j u hj
  have hlt : j < ids.length * 32 := by have := (List.getElem?_eq_some_iff.1 hj).1; rwa [flat_length] at this
  rw [Addr.add_lit]
  have h1 := flat_get ids (j / 32) (j % 32) (by omega) (by omega)
  rw [show j / 32 * 32 + j % 32 = j by omega, hj] at h1
  have := h (j / 32) (by omega) (j % 32) u h1.symm
  rwa [show off + j / 32 * 32 + j % 32 = off + j by omega] at this
theorem flat_one (ids : List Id32) : ∀ u ∈ flatIds ids, u.oneCell' = true := by
  intro u hu
  unfold flatIds at hu
  rw [List.mem_flatMap] at hu
  obtain ⟨x, _, hx⟩ := hu
  exact encId_oneCell x u hx

set_option maxRecDepth 100000 in
set_option maxHeartbeats 2000000 in
theorem own_any (s : ByteArray) (g : GLine) (ids : List Id32) (w : World) (hI : IdsAt w g.refs ids) (hn : ids.length ≤ 1000000) :
    Calls Tryz.prog 17 #[.agg (rlineCells s g)] w fun r w' => ∃ b cap, r = .returned (.agg (lineCells { g with refs := .slice (some ⟨b, 0, none⟩) ids.length cap })) ∧ IdsAt w' (.slice (some ⟨b, 0, none⟩) ids.length cap) ids ∧ Below w.heap.size w w' := by
  obtain ⟨i0, hi, hz0, hz1, hz2⟩ := info_parts Tryz.info_id
  obtain ⟨ra, rc, hrefs, hrc, hrow⟩ := hI
  obtain ⟨W0, hW0⟩ : ∃ W0, W0 = (w.alloc (.cells (rlineCells s g) 26)).alloc (.cells (lineCells zeroLine) 34) := ⟨_, rfl⟩
  have hs0 : W0.heap.size = w.heap.size + 2 := by rw [hW0]; simp
  have hb0 : Below w.heap.size w W0 := by rw [hW0]; exact ((Below.refl _ _).alloc (Nat.le_refl _) _).alloc (by simp) _
  have hR : RVar W0 w.heap.size s g := by
    unfold RVar
    rw [hW0, heap_alloc_old _ _ (by simp), heap_alloc_new]
  have hV : LineVar W0 (w.heap.size + 1) zeroLine := by
    unfold LineVar
    have := heap_alloc_new (w.alloc (.cells (rlineCells s g) 26)) (.cells (lineCells zeroLine) 34)
    rw [hW0]
    simpa using this
  have hzR : ∀ z : Later W0, RVar z.1 w.heap.size s g := fun z => (z.2.block w.heap.size (by omega)).trans hR
  have q1 : ∀ z : Later W0, z.1.cell? ⟨w.heap.size, 1, none⟩ = some (.int .i64 g.number) := fun z => ((hzR z).cell 1).trans (rc1 s g)
  have q2 : ∀ z : Later W0, z.1.cell? ⟨w.heap.size, 34, none⟩ = some (.string g.name) := fun z => ((hzR z).cell 34).trans (rc34 s g)
  have q3 : ∀ z : Later W0, z.1.cell? ⟨w.heap.size, 35, none⟩ = some (.int .i64 g.date) := fun z => ((hzR z).cell 35).trans (rc35 s g)
  have q4 : ∀ z : Later W0, z.1.cell? ⟨w.heap.size, 36, none⟩ = some (.string g.subject) := fun z => ((hzR z).cell 36).trans (rc36 s g)
  have q5 : ∀ z : Later W0, z.1.cell? ⟨w.heap.size, 37, none⟩ = some (.slice ra ids.length rc) := fun z => ((hzR z).cell 37).trans ((rc37 s g).trans (by rw [hrefs]))
  have q6 : ∀ z : Later W0, z.1.cell? ⟨w.heap.size, 38, none⟩ = some (.int .i64 g.bytes) := fun z => ((hzR z).cell 38).trans (rc38 s g)
  have hid : ∀ z : Later W0, okCells z.1 ⟨w.heap.size, 2, none⟩ 32 = true ∧ rdCells z.1 ⟨w.heap.size, 2, none⟩ 32 = (encId g.id).toArray := fun z => by
    have := rd_of_cells (w := z.1) (a := ⟨w.heap.size, 2, none⟩) (cs := encId g.id) (fun j v hj => by
      have hj32 : j < 32 := by have := (List.getElem?_eq_some_iff.1 hj).1; rwa [encId_length] at this
      rw [Addr.add_lit, (hzR z).cell, show 2 + j = (1 + j) + 1 by omega, rc_succ, ← hj]
      simp only [lineCells, lineList, List.getElem?_toArray]
      rw [show 1 + j = j + 1 by omega, List.getElem?_cons_succ, List.getElem?_append_left (by rw [encId_length]; exact hj32)])
    rwa [encId_length] at this
  have q7 := fun z => (hid z).1
  have q8 := fun z => (hid z).2
  have HR := Lib.hid (show IdsAt W0 (.slice ra ids.length rc) ids from IdsAt.below (w := w) ⟨ra, rc, rfl, hrc, hrow⟩ hb0)
  clear hid hzR hR hrow hrc
  go_enter Tryz.func17, Tryz.ntmps17
  go_wp2
  rw [← hW0]
  clear hW0
  refine wp_region_mix0 [0, 1, 2, 3, 4, 5, 6, 7, 8, 9, 11, 12, 14, 15] [10, 13, 16, 17] (fun w' => ∃ z : Later W0, w' = z.1) (by kernel_rfl) (by kernel_rfl) (by kernel_rfl) ⟨⟨_, (Below.refl _ _).drew⟩, rfl⟩ ?_
  simp only [opsAt, List.map_cons, List.map_nil, Array.getD_eq_getD_getElem?, List.getElem?_toArray, List.getElem?_cons_zero, List.getElem?_cons_succ, Option.getD_some]
  repeat (go_big_quiet_step (fail))
  refine wpQuiet_nil ?_
  clear q1 q2 q3 q4 q5 q6 q7 q8
  generalize hWd : W0.drew = Wd
  have hbd : Below W0.heap.size W0 Wd := by rw [← hWd]; exact (Below.refl _ _).drew
  have hsd : Wd.heap.size = W0.heap.size := by rw [← hWd]; rfl
  have hVd : LineVar Wd (w.heap.size + 1) zeroLine := by rw [← hWd]; exact hV
  clear hWd
  refine wpR_cons true rfl (by kernel_rfl) ?_
  go_wp2_with fail
  refine ⟨fun _ => ⟨⟨_, hbd.alloc (by omega) _⟩, rfl⟩, wpR_cons true rfl (by kernel_rfl) ?_⟩
  have hsd2 : Wd.heap.size = w.heap.size + 2 := by omega
  by_cases hids : ids = []
  · subst hids
    refine wpList_append_zero rfl (.tmp 13) (.tmp 15) rfl (w.heap.size + 2) rc ra rfl rfl ?_
    have hI3 : IdsAt (Wd.alloc (.cells #[] 23)) (.slice (some ⟨(w.heap.size + 2), 0, none⟩) 0 0) [] := ⟨_, 0, rfl, Nat.le_refl _, fun h => absurd rfl h⟩
    have hb3 : Below W0.heap.size W0 (Wd.alloc (.cells #[] 23)) := hbd.alloc (by omega) _
    generalize Wd.alloc (.cells #[] 23) = w3 at hI3 hb3 ⊢
    have hbl : ∀ u, blRes Tryz.prog 34 u #[(0, .int .i64 g.number), (1, .agg (encId g.id).toArray), (2, .string g.name), (3, .int .i64 g.date), (4, .string g.subject), (5, .slice (some ⟨(w.heap.size + 2), 0, none⟩) 0 0), (6, .int .i64 g.bytes)] = .ok (.value (.agg (lineCells { g with refs := .slice (some ⟨(w.heap.size + 2), 0, none⟩) 0 0 }))) u := fun u => blRes_of (built_line { g with refs := .slice (some ⟨(w.heap.size + 2), 0, none⟩) 0 0 } rfl)
    have hft : fitsRow 38 (lineCells { g with refs := .slice (some ⟨(w.heap.size + 2), 0, none⟩) 0 0 }) = true := fits_line rfl
    have hV3 : LineVar w3 (w.heap.size + 1) zeroLine := (hb3.block (w.heap.size + 1) (by omega)).trans hV
    have hro := hV3.row
    have HV3 := Lib.hid hV3
    have HI3 := Lib.hid hI3
    have HB3 := Lib.hid hb3
    clear hV3 hI3 hb3 hV hVd hbd
    go_wp2_with fail
    refine ⟨fun _ => ⟨⟨_, HB3.out⟩, rfl⟩, wpR_list [16, 17] _ _ (by kernel_rfl) ?_⟩
    simp only [opsAt, List.map_cons, List.map_nil, Array.getD_eq_getD_getElem?, List.getElem?_toArray, List.getElem?_cons_zero, List.getElem?_cons_succ, Option.getD_some]
    go_wp2
    refine NoPanic.normal ?_
    go_wp2
    have hbf : Below w.heap.size w w3 := hb0.trans (HB3.out.mono hb0.size)
    refine bodyPost_ret (v := .agg (lineCells { g with refs := .slice (some ⟨(w.heap.size + 2), 0, none⟩) 0 0 })) ?_ rfl ⟨(w.heap.size + 2), 0, rfl, HI3.out.grown (grown_row _ _ _) (fun e => by have e' := Option.some.inj e; simp only at e'; omega), below_grown hbf (grown_row _ _ _) hbf.size (by omega)⟩
    exact results_agg1 rfl Tryz.isAgg34 Tryz.sizeOf34 _ _ ⟨w.heap.size + 1, 0, none⟩ _ rfl (HV3.out.blk.setRow.rd.1) (HV3.out.blk.setRow.rd.2)
  · obtain ⟨ra', rc', e1, hrc, hrow⟩ := HR.out
    obtain ⟨rb, ro, e2, hrw⟩ := hrow hids
    cases e1
    subst e2
    have hown : (Wd.alloc (.cells #[] 23)).ownsRow (w.heap.size + 2) 23 32 (.slice (some ⟨(w.heap.size + 2), 0, none⟩) 0 0) 0 [] :=
      ⟨rfl, .inr ⟨w.heap.size + 2, 0, #[], rfl, Nat.le_refl _, by rw [← hsd2]; exact heap_alloc_new _ _, Nat.le_refl _, by unfold maxLen; omega, rfl, rfl⟩⟩
    have hrw' : IdRow (Wd.alloc (.cells #[] 23)) rb ro ids := hrw.below (hbd.alloc (by omega) (.cells #[] 23)) (hrw.lt hids)
    have hpos : 0 < ids.length := List.length_pos_iff.2 hids
    refine wpList_append_own _ rfl (.tmp 13) (.tmp 15) 24 rfl (w.heap.size + 2) 23 i0 (.agg (encId zeroId).toArray) 32 32 Tryz.underlying24 hi hz0 hz1 hz2 (encId_size zeroId) (by decide) _ _ _ rfl hown ⟨rb, ro, none⟩ ids.length rc (flatIds ids) rfl (flat_length ids) (flat_row hrw') (flat_one ids) (by unfold maxLen; omega) (by omega) (by simp; omega) ?_
    intro v' w3 hown' hgrow _
    obtain ⟨gb, cap, hv', hgb⟩ : ∃ gb cap, v' = .slice (some ⟨gb, 0, none⟩) ids.length cap ∧ (w.heap.size + 2) ≤ gb := by
      rcases hown'.2 with ⟨_, h0⟩ | ⟨g', cap', _, e, hge, _⟩
      · omega
      · exact ⟨g', cap', by rw [e, Nat.zero_add], hge⟩
    subst hv'
    have hI3 : IdsAt w3 (.slice (some ⟨gb, 0, none⟩) ids.length cap) ids := by
      rw [Nat.zero_add, List.nil_append] at hown'
      exact idsAt_own hown'
    have hb3 : Below W0.heap.size W0 w3 := (hbd.alloc (by omega) (.cells #[] 23)).grown hgrow (by simp; omega) (fun k e => by have e' : w.heap.size + 2 = k := Option.some.inj e; omega)
    clear hown hown' hgrow hrw hrw' hrow HR hids
    have hbl : ∀ u, blRes Tryz.prog 34 u #[(0, .int .i64 g.number), (1, .agg (encId g.id).toArray), (2, .string g.name), (3, .int .i64 g.date), (4, .string g.subject), (5, .slice (some ⟨gb, 0, none⟩) ids.length cap), (6, .int .i64 g.bytes)] = .ok (.value (.agg (lineCells { g with refs := .slice (some ⟨gb, 0, none⟩) ids.length cap }))) u := fun u => blRes_of (built_line { g with refs := .slice (some ⟨gb, 0, none⟩) ids.length cap } rfl)
    have hft : fitsRow 38 (lineCells { g with refs := .slice (some ⟨gb, 0, none⟩) ids.length cap }) = true := fits_line rfl
    have hV3 : LineVar w3 (w.heap.size + 1) zeroLine := (hb3.block (w.heap.size + 1) (by omega)).trans hV
    have hro := hV3.row
    have HV3 := Lib.hid hV3
    have HI3 := Lib.hid hI3
    have HB3 := Lib.hid hb3
    clear hV3 hI3 hb3 hV hVd hbd
    go_wp2_with fail
    refine ⟨fun _ => ⟨⟨_, HB3.out⟩, rfl⟩, wpR_list [16, 17] _ _ (by kernel_rfl) ?_⟩
    simp only [opsAt, List.map_cons, List.map_nil, Array.getD_eq_getD_getElem?, List.getElem?_toArray, List.getElem?_cons_zero, List.getElem?_cons_succ, Option.getD_some]
    go_wp2
    refine NoPanic.normal ?_
    go_wp2
    have hbf : Below w.heap.size w w3 := hb0.trans (HB3.out.mono hb0.size)
    refine bodyPost_ret (v := .agg (lineCells { g with refs := .slice (some ⟨gb, 0, none⟩) ids.length cap })) ?_ rfl ⟨gb, cap, rfl, HI3.out.grown (grown_row _ _ _) (fun e => by have e' := Option.some.inj e; simp only at e'; omega), below_grown hbf (grown_row _ _ _) hbf.size (by omega)⟩
    exact results_agg1 rfl Tryz.isAgg34 Tryz.sizeOf34 _ _ ⟨w.heap.size + 1, 0, none⟩ _ rfl (HV3.out.blk.setRow.rd.1) (HV3.out.blk.setRow.rd.2)

end Go.Proofs.YtdjaphcelpchaaaGreatDoor

/- bulletinref28.Same of two equal lines. -/
namespace Go.Proofs.YtdjaphcelpchaaaGreatDoor
open Go Go.RowKit Go.Proofs

attribute [local go_sem ↓] ex_load_id ex_store_id ex_load_line ex_store_line ex_load_rline ex_store_rline ex_alloc_line ex_build_line ex_alloc_rline ex_build_rline
attribute [local go_sem] ld_id st_id ld_line st_line ld_rline st_rline guard_id okCells_drew rdCells_drew okCells_drewN rdCells_drewN rowOk_drew rowOk_cells okCells_cells rdCells_cells setRow_drew setRow_new setRow_past
attribute [local go_sem] lc0 lc33 lc34 lc35 lc36 lc37 rc0 rc1 rc34 rc35 rc36 rc37 rc38 okArr_lid rdArr_lid okArr_rid rdArr_rid run_eql_id run_neq_id eqIn_id

set_option maxRecDepth 100000 in
set_option maxHeartbeats 2000000 in
theorem same_true (s : ByteArray) (g : GLine) (v1 v2 : Value) (ids : List Id32) (w : World) (hI1 : IdsAt w v1 ids) (hI2 : IdsAt w v2 ids) (hn : ids.length ≤ 1000000) :
    Calls Tryz.prog 21 #[.agg (rlineCells s { g with refs := v1 }), .agg (rlineCells s { g with refs := v2 })] w fun r w' => r = .returned (.bool true) ∧ Below w.heap.size w w' := by
  obtain ⟨a1, c1, rfl, hc1, hr1⟩ := hI1
  obtain ⟨a2, c2, rfl, hc2, hr2⟩ := hI2
  have hbA := Lib.hid (show Below w.heap.size w ((w.alloc (.cells (rlineCells s { g with refs := .slice a1 ids.length c1 }) 26)).alloc (.cells (rlineCells s { g with refs := .slice a2 ids.length c2 }) 26)) from ((Below.refl _ _).alloc (Nat.le_refl _) _).alloc (by simp) _)
  have HR1 := Lib.hid hr1
  have HR2 := Lib.hid hr2
  clear hr1 hr2
  go_enter Tryz.func21, Tryz.ntmps21
  go_wp2
  have hA1 : ∀ j, ((w.alloc (.cells (rlineCells s { g with refs := .slice a1 ids.length c1 }) 26)).alloc (.cells (rlineCells s { g with refs := .slice a2 ids.length c2 }) 26)).cell? ⟨w.heap.size, j, none⟩ = (rlineCells s { g with refs := .slice a1 ids.length c1 })[j]? := fun j => by
    rw [cell_of_row _ w.heap.size j _ _ (0, 0) (by rw [heap_alloc_old _ _ (by simp), heap_alloc_new])]
  have hA2 : ∀ j, ((w.alloc (.cells (rlineCells s { g with refs := .slice a1 ids.length c1 }) 26)).alloc (.cells (rlineCells s { g with refs := .slice a2 ids.length c2 }) 26)).cell? ⟨w.heap.size + 1, j, none⟩ = (rlineCells s { g with refs := .slice a2 ids.length c2 })[j]? := fun j => by
    rw [cell_of_row _ (w.heap.size + 1) j _ _ (0, 0) (by have := heap_alloc_new (w.alloc (.cells (rlineCells s { g with refs := .slice a1 ids.length c1 }) 26)) (.cells (rlineCells s { g with refs := .slice a2 ids.length c2 }) 26); simpa using this)]
  generalize hW : (w.alloc (.cells (rlineCells s { g with refs := .slice a1 ids.length c1 }) 26)).alloc (.cells (rlineCells s { g with refs := .slice a2 ids.length c2 }) 26) = W at hbA hA1 hA2 ⊢
  clear hW
  go_loopw [5] (fun i wr => ∃ k q : Nat, k ≤ ids.length ∧ i = .int .i64 k ∧ wr = W.drewN q) (fun i _ => ids.length - (intOf i).toNat)
  case atStart => exact ⟨0, 0, Nat.zero_le _, rfl, rfl⟩
  case round =>
    obtain ⟨k, q, hk, rfl, rfl⟩ := hrel
    have q1 := (hA1 37).trans (rc37 _ _)
    have q2 := (hA2 37).trans (rc37 _ _)
    by_cases hlt : k < ids.length
    · have hltz : (k : Int) < (ids.length : Int) := by omega
      have hne : ids ≠ [] := by intro e; rw [e] at hlt; simp at hlt
      obtain ⟨b1, o1, rfl, hw1⟩ := HR1.out hne
      obtain ⟨b2, o2, rfl, hw2⟩ := HR2.out hne
      have hr1 := (hw1.below hbA.out (hw1.lt hne)).rd hlt
      have hr2 := (hw2.below hbA.out (hw2.lt hne)).rd hlt
      generalize ids[k]! = x at hr1 hr2
      obtain ⟨e1, e2⟩ := hr1
      obtain ⟨e3, e4⟩ := hr2
      clear hw1 hw2 hA1 hA2 hne
      go_wp2
      go_quiet (fail)
      go_wp2
      go_roundw
      case rel => exact ⟨k + 1, q + nq, by omega, by go_num, by first | rfl | rw [World.drewN_drewN]⟩
      case measure => simp [intOf]; omega
    · have hltz : ¬ (k : Int) < (ids.length : Int) := by omega
      clear hA1 hA2
      go_wp2
      go_ret
      have := hbA.out
      exact ⟨rfl, this.os, this.tape, this.output, this.size, this.block⟩

end Go.Proofs.YtdjaphcelpchaaaGreatDoor

/- Plain laws: cutting and joining texts, numbers and identities there and back. No program in sight. -/
namespace Go.Proofs.YtdjaphcelpchaaaGreatDoor
open Go Go.RowKit Go.Proofs

/-! ## parts and joins -/
theorem join_two (x y : List UInt8) (r : List (List UInt8)) (sep : List UInt8) : Lib.join (x :: y :: r) sep = x ++ sep ++ Lib.join (y :: r) sep := by
  simp [Lib.join, List.intercalate, List.intersperse]
theorem splitL_none (c : UInt8) : ∀ l : List UInt8, c ∉ l → splitL c l = [l]
  | [], _ => rfl
  | b :: l, h => by
    have h1 : b ≠ c := fun e => h (by rw [e]; exact List.mem_cons_self)
    have h2 : c ∉ l := fun e => h (List.mem_cons_of_mem _ e)
    rw [splitL, if_neg h1, splitL_none c l h2]
theorem splitL_pre (c : UInt8) : ∀ (x l : List UInt8), c ∉ x → splitL c (x ++ c :: l) = x :: splitL c l
  | [], l, _ => by simp [splitL]
  | b :: x, l, h => by
    have h1 : b ≠ c := fun e => h (by rw [e]; exact List.mem_cons_self)
    have h2 : c ∉ x := fun e => h (List.mem_cons_of_mem _ e)
    rw [List.cons_append, splitL, if_neg h1, splitL_pre c x l h2]
theorem split_join (c : UInt8) : ∀ (xs : List (List UInt8)), xs ≠ [] → (∀ x ∈ xs, c ∉ x) → splitL c (Lib.join xs [c]) = xs
  | [], h, _ => absurd rfl h
  | [x], _, h => by rw [Lib.join_one]; exact splitL_none c x (h x (by simp))
  | x :: y :: r, _, h => by
    rw [join_two, List.append_assoc, List.singleton_append, splitL_pre c x _ (h x (by simp)), split_join c (y :: r) (by simp) (fun z hz => h z (List.mem_cons_of_mem _ hz))]
theorem join_split (c : UInt8) : ∀ l : List UInt8, Lib.join (splitL c l) [c] = l
  | [] => by rw [splitL, Lib.join_one]
  | b :: l => by
    have ih := join_split c l
    have hne := splitL_ne c l
    unfold splitL
    cases hq : splitL c l with
    | nil => exact absurd hq hne
    | cons y t =>
      rw [hq] at ih
      split
      · rename_i e; rw [join_two, ih, e]; rfl
      · cases t with
        | nil => rw [Lib.join_one] at ih ⊢; rw [ih]
        | cons z t => rw [join_two] at ih ⊢; rw [List.cons_append, List.cons_append, ih]

/-! ## numbers -/
theorem dec_rec (u : Nat) (h : ¬ u < 10) : Lib.decDigits u = Lib.decDigits (u / 10) ++ [UInt8.ofNat (48 + u % 10)] := by
  rw [Lib.decDigits, dif_neg h]
theorem dec_back : ∀ u : Nat, decVal (Lib.decDigits u) = u ∧ (Lib.decDigits u).all isDig = true ∧ 1 ≤ (Lib.decDigits u).length ∧ (1 < (Lib.decDigits u).length → (Lib.decDigits u).head? ≠ some 48) ∧ (u ≠ 0 → (Lib.decDigits u).head? ≠ some 48) := by
  intro u
  induction u using Nat.strongRecOn with
  | ind u ih =>
    by_cases h : u < 10
    · rw [Lib.decDigits_one h]
      have : u = 0 ∨ u = 1 ∨ u = 2 ∨ u = 3 ∨ u = 4 ∨ u = 5 ∨ u = 6 ∨ u = 7 ∨ u = 8 ∨ u = 9 := by omega
      rcases this with rfl | rfl | rfl | rfl | rfl | rfl | rfl | rfl | rfl | rfl <;> decide
    · obtain ⟨h1, h2, h3, h4, h5⟩ := ih (u / 10) (by omega)
      rw [dec_rec u h, decVal_snoc, h1]
      have hd : (UInt8.ofNat (48 + u % 10)).toNat = 48 + u % 10 := by simp; omega
      have hne : Lib.decDigits (u / 10) ≠ [] := by intro e; rw [e] at h3; simp at h3
      have hhead : (Lib.decDigits (u / 10) ++ [UInt8.ofNat (48 + u % 10)]).head? = (Lib.decDigits (u / 10)).head? := by
        cases hq : Lib.decDigits (u / 10) with
        | nil => exact absurd hq hne
        | cons a r => rfl
      refine ⟨by rw [hd]; omega, ?_, by simp, fun _ => ?_, fun _ => ?_⟩
      · rw [List.all_append, h2]; simp [isDig]; omega
      · rw [hhead]; exact h5 (by omega)
      · rw [hhead]; exact h5 (by omega)

theorem nDigits_le : ∀ (k u : Nat), u < 10 ^ (k + 1) → Lib.nDigits u ≤ k + 1
  | 0, u, h => by rw [Lib.nDigits_small (by simpa using h)]; omega
  | k + 1, u, h => by
    by_cases h10 : u < 10
    · rw [Lib.nDigits_small h10]; omega
    · have := nDigits_le k (u / 10) (by rw [Nat.pow_succ] at h; omega)
      rw [Lib.nDigits_big h10]; omega
theorem num_dec (u : Nat) (h : u < 10000000000) : numOk (Lib.decDigits u) = true ∧ numVal (Lib.decDigits u) = u := by
  obtain ⟨h1, h2, h3, h4, _⟩ := dec_back u
  have hl : (Lib.decDigits u).length ≤ 10 := by rw [Lib.decDigits_length]; exact nDigits_le 9 u (by omega)
  have hok : numOk (Lib.decDigits u) = true := by
    unfold numOk
    rw [h2]
    have e : (decide (1 < (Lib.decDigits u).length) && (Lib.decDigits u).head? == some 48) = false := by
      by_cases hq : 1 < (Lib.decDigits u).length
      · have := h4 hq; simp [this]
      · simp [hq]
    rw [e]
    simp [h3, hl]
  exact ⟨hok, by rw [numVal_yes hok, h1]⟩
theorem dec_of : ∀ (n : Nat) (p : List UInt8), p.length = n → p ≠ [] → p.all isDig = true → (1 < p.length → p.head? ≠ some 48) → Lib.decDigits (decVal p) = p := by
  intro n
  induction n with
  | zero => intro p h hne; exact absurd (List.eq_nil_of_length_eq_zero h) hne
  | succ n ih =>
    intro p hl hne hall hh
    obtain ⟨q, c, rfl⟩ : ∃ q c, p = q ++ [c] := ⟨p.dropLast, p.getLast hne, (List.dropLast_concat_getLast hne).symm⟩
    have hc : isDig c = true := by rw [List.all_append] at hall; simp at hall; exact hall.2
    have hq : q.all isDig = true := by rw [List.all_append] at hall; simp at hall ⊢; exact hall.1
    have hc2 : 48 ≤ c.toNat ∧ c.toNat ≤ 57 := by simp [isDig] at hc; omega
    have hcc : ∀ d, d = c.toNat - 48 → UInt8.ofNat (48 + d) = c := fun d hd => by
      rw [hd, show 48 + (c.toNat - 48) = c.toNat by omega]; exact UInt8.ofNat_toNat
    rw [decVal_snoc]
    by_cases hqn : q = []
    · subst hqn
      have e0 : decVal [] = 0 := rfl
      rw [e0, Lib.decDigits_one (by omega), hcc _ (by omega)]
      rfl
    · have hqh : q.head? ≠ some 48 := by
        have h1 : (q ++ [c]).head? = q.head? := by
          cases q with
          | nil => exact absurd rfl hqn
          | cons a r => rfl
        rw [← h1]
        apply hh
        have := List.length_pos_iff.2 hqn
        simp; omega
      have hI := ih q (by simpa using hl) hqn hq (fun _ => hqh)
      have hpos : 1 ≤ decVal q := by
        rcases Nat.eq_zero_or_pos (decVal q) with h0 | h0
        · rw [h0, Lib.decDigits_one (by omega)] at hI
          rw [← hI] at hqh
          exact absurd rfl hqh
        · exact h0
      rw [dec_rec _ (by omega), show (10 * decVal q + (c.toNat - 48)) / 10 = decVal q by omega, hI, hcc _ (by omega)]
theorem dec_num {p : List UInt8} (h : numOk p = true) : Lib.decDigits (numVal p) = p := by
  rw [numVal_yes h]
  unfold numOk at h
  simp only [Bool.and_eq_true, decide_eq_true_eq, Bool.not_eq_true'] at h
  obtain ⟨⟨⟨h1, _⟩, h2⟩, h3⟩ := h
  refine dec_of p.length p rfl (List.length_pos_iff.1 (by omega)) h3 (fun hl => ?_)
  rw [Bool.and_eq_false_iff] at h2
  rcases h2 with h2 | h2
  · simp [hl] at h2
  · simpa using h2

/-! ## identities -/
theorem hexL_at : ∀ (l : List UInt8) (j : Nat) (h : j < l.length), (hexL l)[2 * j]? = some (hexDig (l[j].toNat / 16)) ∧ (hexL l)[2 * j + 1]? = some (hexDig (l[j].toNat % 16))
  | [], j, h => by simp at h
  | b :: l, 0, _ => by simp [hexL, hexB]
  | b :: l, j + 1, h => by
    have ih := hexL_at l j (by simpa using h)
    have e : hexL (b :: l) = hexDig (b.toNat / 16) :: hexDig (b.toNat % 16) :: hexL l := by simp [hexL, hexB]
    rw [e, show 2 * (j + 1) = 2 * j + 1 + 1 by omega]
    simpa using ih
theorem hv_dig : ∀ n : Nat, n < 16 → hv (hexDig n) = n := by decide
theorem dig_hvN : ∀ n : Nat, n < 256 → hv (UInt8.ofNat n) < 16 → hexDig (hv (UInt8.ofNat n)) = UInt8.ofNat n := by decide +kernel
theorem dig_hv (c : UInt8) (h : hv c < 16) : hexDig (hv c) = c := by
  have := dig_hvN c.toNat c.toNat_lt
  rw [UInt8.ofNat_toNat] at this
  exact this h
theorem id_hex (x : Id32) : idOk (hexOf x) = true ∧ idVal (hexOf x) = x := by
  have hl : (hexOf x).length = 64 := hexOf_length x
  have hx : x.1.length = 32 := x.2
  have hat : ∀ j, (h : j < 32) → chr (hexOf x) (2 * j) = hexDig ((x.1[j]'(by omega)).toNat / 16) ∧ chr (hexOf x) (2 * j + 1) = hexDig ((x.1[j]'(by omega)).toNat % 16) := fun j h => by
    have := hexL_at x.1 j (by omega)
    unfold chr
    rw [List.getD_eq_getElem?_getD, List.getD_eq_getElem?_getD]
    rw [show hexOf x = hexL x.1 from rfl, this.1, this.2]
    exact ⟨rfl, rfl⟩
  have hall : (hexOf x).all isHex = true := by
    rw [List.all_eq_true]
    intro c hc
    have hm : c ∈ hexL x.1 := hc
    unfold hexL at hm
    rw [List.mem_flatMap] at hm
    obtain ⟨b, _, hb⟩ := hm
    have hb255 := b.toNat_lt
    simp only [hexB, List.mem_cons, List.mem_nil_iff, or_false] at hb
    rcases hb with rfl | rfl
    · simp only [isHex, decide_eq_true_eq]; rw [hv_dig _ (by omega)]; omega
    · simp only [isHex, decide_eq_true_eq]; rw [hv_dig _ (by omega)]; omega
  have hok : idOk (hexOf x) = true := by unfold idOk; rw [hl, hall]; rfl
  refine ⟨hok, ?_⟩
  rw [idVal_yes hok]
  apply Subtype.ext
  apply List.ext_getElem
  · simp [accId, hx]
  · intro j h1 h2
    have hj : j < 32 := by omega
    have hb := (x.1[j]'(by omega)).toNat_lt
    simp only [accId, List.getElem_map, List.getElem_range]
    unfold accB
    rw [if_pos (by omega), (hat j hj).1, (hat j hj).2, hv_dig _ (by omega), hv_dig _ (by omega), show (x.1[j]'(by omega)).toNat / 16 * 16 + (x.1[j]'(by omega)).toNat % 16 = (x.1[j]'(by omega)).toNat by omega]
    exact UInt8.ofNat_toNat
theorem hex_id {p : List UInt8} (h : idOk p = true) : hexOf (idVal p) = p := by
  rw [idVal_yes h]
  unfold idOk at h
  simp only [Bool.and_eq_true, decide_eq_true_eq, List.all_eq_true] at h
  obtain ⟨hl, hall⟩ := h
  have hchr : ∀ i, (hi : i < 64) → chr p i = p[i]'(by omega) ∧ hv (p[i]'(by omega)) < 16 := fun i hi => by
    refine ⟨by unfold chr; rw [List.getD_eq_getElem?_getD, List.getElem?_eq_getElem (by omega)]; rfl, ?_⟩
    have := hall _ (List.getElem_mem (show i < p.length by omega))
    simpa [isHex] using this
  apply List.ext_getElem
  · rw [hexOf_length, hl]
  · intro i h1 h2
    have hi : i < 64 := by omega
    have hat := hexL_at (accId p 64).1 (i / 2) (by rw [(accId p 64).2]; omega)
    have hj : (accId p 64).1[i / 2]'(by rw [(accId p 64).2]; omega) = UInt8.ofNat (accB p 64 (i / 2)) := by simp [accId]
    rw [hj] at hat
    have hA : accB p 64 (i / 2) = hv (chr p (2 * (i / 2))) * 16 + hv (chr p (2 * (i / 2) + 1)) := by unfold accB; rw [if_pos (by omega)]
    have c1 := hchr (2 * (i / 2)) (by omega)
    have c2 := hchr (2 * (i / 2) + 1) (by omega)
    have hlt : accB p 64 (i / 2) < 256 := by rw [hA, c1.1, c2.1]; omega
    have hnat : (UInt8.ofNat (accB p 64 (i / 2))).toNat = accB p 64 (i / 2) := by simp; omega
    rw [hnat] at hat
    have e1 : accB p 64 (i / 2) / 16 = hv (chr p (2 * (i / 2))) := by rw [hA, c1.1, c2.1]; omega
    have e2 : accB p 64 (i / 2) % 16 = hv (chr p (2 * (i / 2) + 1)) := by rw [hA, c1.1, c2.1]; omega
    rw [e1, e2, c1.1, c2.1, dig_hv _ c1.2, dig_hv _ c2.2, ← List.getElem?_eq_getElem, ← List.getElem?_eq_getElem] at hat
    have hg : (hexOf (accId p 64))[i]? = some (p[i]'h2) := by
      have : i = 2 * (i / 2) ∨ i = 2 * (i / 2) + 1 := by omega
      rcases this with e | e
      · have hh := hat.1
        rw [← e] at hh
        rw [show hexOf (accId p 64) = hexL (accId p 64).1 from rfl, hh]
        exact List.getElem?_eq_getElem h2
      · have hh := hat.2
        rw [← e] at hh
        rw [show hexOf (accId p 64) = hexL (accId p 64).1 from rfl, hh]
        exact List.getElem?_eq_getElem h2
    exact Option.some.inj ((List.getElem?_eq_getElem h1).symm.trans hg)

end Go.Proofs.YtdjaphcelpchaaaGreatDoor

/- A line's text there and back: what Parse tells of the text that Print writes, and the other way round. -/
namespace Go.Proofs.YtdjaphcelpchaaaGreatDoor
open Go Go.RowKit Go.Proofs

theorem str_data (l : List UInt8) : (str l).data.toList = l := by simp [str]
theorem no9_dig (u : Nat) : (9 : UInt8) ∉ Lib.decDigits u := fun h => by
  have := List.all_eq_true.1 (dec_back u).2.1 9 h
  revert this; decide
theorem no_hex (c : UInt8) (hc : isHex c = false) (x : Id32) : c ∉ hexOf x := fun h => by
  have h1 := (id_hex x).1
  unfold idOk at h1
  simp only [Bool.and_eq_true, List.all_eq_true] at h1
  rw [h1.2 c h] at hc
  cases hc
theorem no9_text {l : List UInt8} {most : Int} (h : textErr l most = 0) : (9 : UInt8) ∉ l := fun h9 => by
  unfold textErr at h
  split at h
  · cases h
  · split at h
    · cases h
    · rename_i hb
      exact hb (List.any_eq_true.2 ⟨9, h9, by decide⟩)
theorem mem_join {c : UInt8} {sep : List UInt8} : ∀ {xs : List (List UInt8)}, c ∈ Lib.join xs sep → c ∈ sep ∨ ∃ x ∈ xs, c ∈ x
  | [], h => by simp [Lib.join_nil] at h
  | [x], h => by rw [Lib.join_one] at h; exact Or.inr ⟨x, by simp, h⟩
  | x :: y :: r, h => by
    rw [join_two, List.append_assoc, List.mem_append, List.mem_append] at h
    rcases h with h | h | h
    · exact Or.inr ⟨x, by simp, h⟩
    · exact Or.inl h
    · rcases mem_join h with h | ⟨z, hz, hc⟩
      · exact Or.inl h
      · exact Or.inr ⟨z, List.mem_cons_of_mem _ hz, hc⟩
theorem refsTxt_eq (ids : List Id32) : refsTxt ids = Lib.join (ids.map hexOf) [44] := by
  unfold refsTxt joinS
  rw [List.map_map]
  congr 1
theorem no9_refs (ids : List Id32) : (9 : UInt8) ∉ refsTxt ids := fun h => by
  rw [refsTxt_eq] at h
  rcases mem_join h with h | ⟨x, hx, hc⟩
  · revert h; decide
  · obtain ⟨y, _, rfl⟩ := List.mem_map.1 hx
    exact no_hex 9 (by decide) y hc
theorem refTexts_txt (ids : List Id32) : refTexts (str (refsTxt ids)) = ids.map hexOf := by
  unfold refTexts
  rw [str_size, str_data, refsTxt_eq]
  cases ids with
  | nil => rfl
  | cons x r =>
    have hs := split_join 44 ((x :: r).map hexOf) (by simp) (fun y hy => by
      obtain ⟨z, _, rfl⟩ := List.mem_map.1 hy
      exact no_hex 44 (by decide) z)
    rw [if_neg, hs]
    intro e
    rw [List.length_eq_zero_iff] at e
    rw [e] at hs
    have h64 := hexOf_length x
    cases r with
    | nil =>
      simp only [List.map_cons, List.map_nil, splitL, List.cons.injEq] at hs
      rw [← hs.1] at h64; simp at h64
    | cons y t => simp [splitL] at hs
theorem refIds_txt (ids : List Id32) : refIds (str (refsTxt ids)) = ids ∧ refsPart (str (refsTxt ids)) = refsErr ids := by
  have h1 : refIds (str (refsTxt ids)) = ids := by
    unfold refIds
    rw [refTexts_txt, List.map_map]
    conv => rhs; rw [← List.map_id ids]
    apply List.map_congr_left
    intro x _
    exact (id_hex x).2
  refine ⟨h1, ?_⟩
  unfold refsPart
  rw [h1, if_pos]
  rw [refTexts_txt, List.all_eq_true]
  intro y hy
  obtain ⟨z, _, rfl⟩ := List.mem_map.1 hy
  exact (id_hex z).1
theorem txt_refIds {p : ByteArray} (h : refsPart p = 0) : refsTxt (refIds p) = p.data.toList ∧ refsErr (refIds p) = 0 := by
  unfold refsPart at h
  split at h
  · rename_i hall
    refine ⟨?_, h⟩
    rw [refsTxt_eq]
    unfold refIds
    rw [List.map_map]
    have e : (refTexts p).map (hexOf ∘ idVal) = refTexts p := by
      conv => rhs; rw [← List.map_id (refTexts p)]
      apply List.map_congr_left
      intro x hx
      exact hex_id (List.all_eq_true.1 hall x hx)
    rw [e]
    unfold refTexts
    split
    · rename_i h0
      rw [Lib.join_nil]
      exact (List.length_eq_zero_iff.1 (by rw [size_list]; exact h0)).symm
    · exact join_split 44 _
  · cases h
theorem split_line (n : Nat) (id : Id32) (name : ByteArray) (d : Nat) (subject : ByteArray) (ids : List Id32) (b : Nat) (h1 : (9 : UInt8) ∉ name.data.toList) (h2 : (9 : UInt8) ∉ subject.data.toList) :
    splitS 9 (str (lineTxt n id name d subject ids b)) = lineParts n id name d subject ids b := by
  unfold splitS lineTxt joinS
  rw [str_data, split_join]
  · rw [List.map_map]
    conv => rhs; rw [← List.map_id (lineParts n id name d subject ids b)]
    apply List.map_congr_left
    intro x _
    exact str_of x
  · simp [lineParts]
  · intro x hx
    simp only [lineParts, List.map_cons, List.map_nil, List.mem_cons, List.mem_nil_iff, or_false, str_data, hexS] at hx
    rcases hx with rfl | rfl | rfl | rfl | rfl | rfl | rfl
    · exact no9_dig n
    · exact no_hex 9 (by decide) id
    · exact h1
    · exact no9_dig d
    · exact h2
    · exact no9_refs ids
    · exact no9_dig b
theorem lineErr_of {g : GLine} {ids : List Id32} (h1 : rangeErr g.number 1 2147483646 2 = 0) (h2 : textErr g.name.data.toList 60 = 0) (h3 : rangeErr g.date 0 105190559 13 = 0) (h4 : textErr g.subject.data.toList 200 = 0) (h5 : refsErr ids = 0) (h6 : rangeErr g.bytes 0 65536 2 = 0) : lineErr g ids = 0 := by
  unfold lineErr
  rw [h1, h2, h3, h4, h5, h6]; rfl
theorem numErr_zero {l : List UInt8} {lo hi e : Int} (h : numErr l lo hi e = 0) : numOk l = true ∧ rangeErr (numVal l) lo hi e = 0 := by
  unfold numErr at h
  split at h
  · rename_i hk; exact ⟨hk, h⟩
  · cases h
theorem range_zero {n lo hi e : Int} (he : e ≠ 0) (h : rangeErr n lo hi e = 0) : lo ≤ n ∧ n ≤ hi := by
  unfold rangeErr at h
  split at h
  · exact absurd h he
  · omega

/-- What Parse tells of the text that Print writes of a line without error. -/
theorem parse_print {g : GLine} {ids : List Id32} (he : lineErr g ids = 0) :
    parseOut (str (lineTxt g.number.toNat g.id g.name g.date.toNat g.subject ids g.bytes.toNat)) = (0, 0) ∧
    ∀ G is, ParsedIs (str (lineTxt g.number.toNat g.id g.name g.date.toNat g.subject ids g.bytes.toNat)) G is → G = { g with refs := G.refs } ∧ is = ids := by
  obtain ⟨e1, e2, e3, e4, e5, e6⟩ := lineErr_zero he
  have hz := orErr_zero he
  have z1 := hz (rangeErr g.number 1 2147483646 2) (by simp)
  have z2 := hz (textErr g.name.data.toList 60) (by simp)
  have z3 := hz (rangeErr g.date 0 105190559 13) (by simp)
  have z4 := hz (textErr g.subject.data.toList 200) (by simp)
  have z5 := hz (refsErr ids) (by simp)
  have z6 := hz (rangeErr g.bytes 0 65536 2) (by simp)
  obtain ⟨n, hn⟩ : ∃ n : Nat, g.number = n := ⟨g.number.toNat, by omega⟩
  obtain ⟨d, hd⟩ : ∃ n : Nat, g.date = n := ⟨g.date.toNat, by omega⟩
  obtain ⟨b, hb⟩ : ∃ n : Nat, g.bytes = n := ⟨g.bytes.toNat, by omega⟩
  rw [hn] at z1 ⊢
  rw [hd] at z3 ⊢
  rw [hb] at z6 ⊢
  simp only [Int.toNat_natCast]
  obtain ⟨n1, n2⟩ := num_dec n (by omega)
  obtain ⟨d1, d2⟩ := num_dec d (by omega)
  obtain ⟨b1, b2⟩ := num_dec b (by omega)
  obtain ⟨i1, i2⟩ := id_hex g.id
  obtain ⟨r1, r2⟩ := refIds_txt ids
  have hT := split_line n g.id g.name d g.subject ids b (no9_text z2) (no9_text z4)
  have hbad : firstBad (lineParts n g.id g.name d g.subject ids b) = none := firstBad_none (fun j hj => by
    match j, hj with
    | 0, _ => show numErr (Lib.decDigits n) 1 2147483646 2 = 0; rw [numErr_yes n1, n2]; exact z1
    | 1, _ => show (if idOk (hexOf g.id) then (0 : Int) else 3) = 0; rw [i1]; rfl
    | 2, _ => exact z2
    | 3, _ => show numErr (Lib.decDigits d) 0 105190559 13 = 0; rw [numErr_yes d1, d2]; exact z3
    | 4, _ => exact z4
    | 5, _ => show refsPart (str (refsTxt ids)) = 0; rw [r2]; exact z5
    | 6, _ => show numErr (Lib.decDigits b) 0 65536 2 = 0; rw [numErr_yes b1, b2]; exact z6)
  have hpo : parseOut (str (lineTxt n g.id g.name d g.subject ids b)) = (0, 0) := by
    unfold parseOut
    rw [hT, hbad]; rfl
  refine ⟨hpo, fun G is hP => ?_⟩
  obtain ⟨v, hG, hi⟩ := hP.yes (by rw [hpo])
  rw [hT] at hG hi
  have hG2 : G = ⟨(numVal (Lib.decDigits n) : Nat), idVal (hexOf g.id), g.name, (numVal (Lib.decDigits d) : Nat), g.subject, v, (numVal (Lib.decDigits b) : Nat)⟩ := hG
  rw [n2, i2, d2, b2] at hG2
  refine ⟨?_, ?_⟩
  · rw [hG2]
  · rw [hi]; exact r1
/-- What Print writes of the line that Parse reads without error. -/
theorem print_parse {s : ByteArray} {G : GLine} {is : List Id32} (h0 : (parseOut s).1 = 0) (hP : ParsedIs s G is) :
    lineErr G is = 0 ∧ str (lineTxt G.number.toNat G.id G.name G.date.toNat G.subject is G.bytes.toNat) = s := by
  obtain ⟨v, hG, hi⟩ := hP.yes h0
  have hlen : (splitS 9 s).length = 7 := by
    unfold parseOut at h0
    split at h0
    · cases h0
    · split at h0
      · cases h0
      · omega
  have hok : ∀ j, j < 7 → partErr j (nth (splitS 9 s) j) = 0 := by
    have hb : firstBad (splitS 9 s) = none := by
      unfold parseOut at h0
      rw [if_neg (by omega), if_neg (by omega)] at h0
      cases hq : firstBad (splitS 9 s) with
      | none => rfl
      | some k =>
        rw [hq] at h0
        have := List.find?_some hq
        simp at this h0
        exact absurd h0 this
    intro j hj
    unfold firstBad at hb
    rw [List.find?_eq_none] at hb
    have := hb j (by simpa using hj)
    simpa using this
  have hjoin : joinS (splitS 9 s) [9] = s.data.toList := by
    unfold joinS splitS
    rw [List.map_map]
    have e : (splitL 9 s.data.toList).map ((fun x => x.data.toList) ∘ str) = splitL 9 s.data.toList := by
      conv => rhs; rw [← List.map_id (splitL 9 s.data.toList)]
      rfl
    rw [e]
    exact join_split 9 _
  have hT : splitS 9 s = [nth (splitS 9 s) 0, nth (splitS 9 s) 1, nth (splitS 9 s) 2, nth (splitS 9 s) 3, nth (splitS 9 s) 4, nth (splitS 9 s) 5, nth (splitS 9 s) 6] := by
    generalize splitS 9 s = T at hlen
    match T, hlen with
    | [a, b, c, d, e, f, g], _ => rfl
  generalize splitS 9 s = T at hG hi hok hjoin hT
  have hG2 : G = ⟨(numVal (nth T 0).data.toList : Nat), idVal (nth T 1).data.toList, nth T 2, (numVal (nth T 3).data.toList : Nat), nth T 4, v, (numVal (nth T 6).data.toList : Nat)⟩ := hG
  have k0 := numErr_zero (show numErr (nth T 0).data.toList 1 2147483646 2 = 0 from hok 0 (by omega))
  have k1 : idOk (nth T 1).data.toList = true := by
    have h1 : (if idOk (nth T 1).data.toList then (0 : Int) else 3) = 0 := hok 1 (by omega)
    split at h1
    · assumption
    · cases h1
  have k2 : textErr (nth T 2).data.toList 60 = 0 := hok 2 (by omega)
  have k3 := numErr_zero (show numErr (nth T 3).data.toList 0 105190559 13 = 0 from hok 3 (by omega))
  have k4 : textErr (nth T 4).data.toList 200 = 0 := hok 4 (by omega)
  have k5 := txt_refIds (show refsPart (nth T 5) = 0 from hok 5 (by omega))
  have k6 := numErr_zero (show numErr (nth T 6).data.toList 0 65536 2 = 0 from hok 6 (by omega))
  rw [hG2, hi]
  refine ⟨lineErr_of k0.2 k2 k3.2 k4 k5.2 k6.2, ?_⟩
  unfold lineTxt
  have e : lineParts (numVal (nth T 0).data.toList) (idVal (nth T 1).data.toList) (nth T 2) (numVal (nth T 3).data.toList) (nth T 4) (refIds (nth T 5)) (numVal (nth T 6).data.toList) = T := by
    unfold lineParts hexS
    rw [dec_num k0.1, hex_id k1, dec_num k3.1, k5.1, dec_num k6.1, str_of, str_of, str_of, str_of, str_of]
    exact hT.symm
  simp only [Int.toNat_natCast]
  rw [e, hjoin]
  exact str_of s

end Go.Proofs.YtdjaphcelpchaaaGreatDoor

/- bulletinlaw28.OverviewCheck: the walk, given that 'known' answers true. -/
namespace Go.Proofs.YtdjaphcelpchaaaGreatDoor
open Go Go.RowKit Go.Proofs

attribute [local go_sem ↓] ex_load_id ex_store_id ex_load_line ex_store_line ex_load_rline ex_store_rline ex_alloc_line ex_build_line ex_alloc_rline ex_build_rline
attribute [local go_sem] ld_id st_id ld_line st_line ld_rline st_rline guard_id okCells_drew rdCells_drew okCells_drewN rdCells_drewN rowOk_drew rowOk_cells okCells_cells rdCells_cells setRow_drew setRow_new setRow_past

/-- 'known' answers true in every world that holds the program's tables. -/
def Knows : Prop := ∀ w : World, Gl w → Calls Tryz.prog 13 #[] w fun r w' => r = .returned (.bool true) ∧ Below w.heap.size w w'

theorem RVar.below {w w' : World} {lb B : Nat} {s : ByteArray} {g : GLine} (h : RVar w lb s g) (hb : Below B w w') (hlt : lb < B) : RVar w' lb s g := (hb.block lb hlt).trans h
theorem LineVar.below {w w' : World} {lb B : Nat} {g : GLine} (h : LineVar w lb g) (hb : Below B w w') (hlt : lb < B) : LineVar w' lb g := (hb.block lb hlt).trans h

set_option maxRecDepth 100000 in
set_option maxHeartbeats 2000000 in
theorem law_check (hK : Knows) (s : ByteArray) (g : GLine) (ids : List Id32) (w : World) (hG : Gl w) (hI : IdsAt w g.refs ids) (hn : ids.length ≤ maxLen) (h1 : s.size ≤ maxLen / 4) (h2 : g.name.size ≤ maxLen / 4) (h3 : g.subject.size ≤ maxLen / 4) :
    Calls Tryz.prog 3 #[.agg (rlineCells s g)] w fun r w' => r = .returned (.bool true) ∧ Below w.heap.size w w' := by
  have HK := Lib.hid hK
  clear hK
  have hbA : Below w.heap.size w (w.alloc (.cells (rlineCells s g) 26)) := (Below.refl _ _).alloc (Nat.le_refl _) _
  have hRA : RVar (w.alloc (.cells (rlineCells s g) 26)) w.heap.size s g := heap_alloc_new _ _
  have HBA := Lib.hid hbA
  have HRA := Lib.hid hRA
  clear hbA hRA
  go_enter Tryz.func3, Tryz.ntmps3
  go_wp2_with fail
  refine (HK.out _ (hG.later HBA.out)).mono ?_
  rintro r w1 ⟨rfl, hb1⟩
  have hR1 : RVar w1 w.heap.size s g := HRA.out.below hb1 (by simp)
  have hB1 : Below w.heap.size w w1 := HBA.out.trans (hb1.mono (by simp))
  have hs1 : w.heap.size < w1.heap.size := by have := hb1.size; simp at this; omega
  obtain ⟨o1, d1⟩ := hR1.rd
  have HR1 := Lib.hid hR1
  have HB1 := Lib.hid hB1
  clear hb1 hR1 hB1 HBA HRA
  go_wp2_with fail
  obtain ⟨ra, rc, hrefs, hrc, hrow⟩ := hI
  have hIw : IdsAt w g.refs ids := ⟨ra, rc, hrefs, hrc, hrow⟩
  refine (small_any s g w1 ra ids.length rc hrefs hn h1 h2 h3).mono ?_
  rintro r w2 ⟨rfl, hb2⟩
  have hR2 : RVar w2 w.heap.size s g := HR1.out.below hb2 hs1
  have hB2 : Below w.heap.size w w2 := HB1.out.trans (hb2.mono (by omega))
  have hs2 : w.heap.size < w2.heap.size := by have := hb2.size; omega
  clear hb2 HR1 HB1 o1 d1 hrow
  by_cases hsm : (decide (ids.length ≤ 30) && decide (s.size + g.name.size + g.subject.size ≤ 600)) = true
  · rw [hsm]
    simp only [Bool.and_eq_true, decide_eq_true_eq] at hsm
    have hc2 := (hR2.cell 0).trans (rc0 s g)
    have hf2 := hR2.free 0
    have hR3 : RVar (w2.setCell ⟨w.heap.size, 0, none⟩ (.string ⟨#[]⟩)) w.heap.size ⟨#[]⟩ g := by
      unfold RVar at hR2 ⊢
      rw [heap_setCell_same w2 w.heap.size 0 _ _ _ hR2, set_rname]
    have hB3 : Below w.heap.size w (w2.setCell ⟨w.heap.size, 0, none⟩ (.string ⟨#[]⟩)) := below_grown hB2 (grown_set _ _ _ _) hB2.size (Nat.le_refl _)
    have hs3 : w.heap.size < (w2.setCell ⟨w.heap.size, 0, none⟩ (.string ⟨#[]⟩)).heap.size := by simp [World.setCell]; omega
    obtain ⟨o3, d3⟩ := hR3.rd
    have HR3 := Lib.hid hR3
    have HB3 := Lib.hid hB3
    have HS3 := Lib.hid hs3
    clear hR2 hB2 hs2 hR3 hB3 hs3
    go_wp2_with fail
    generalize w2.setCell ⟨w.heap.size, 0, none⟩ (.string ⟨#[]⟩) = w3 at HR3 HB3 HS3 o3 d3 ⊢
    clear hc2 hf2 w2
    have hok : ∀ w', Below w.heap.size w w' → LineOk w' g ids := fun w' hb => ⟨hIw.below hb, hn, by unfold maxLen at *; omega, by unfold maxLen at *; omega⟩
    have HOK := Lib.hid hok
    clear hok
    refine (refCheck_any ⟨#[]⟩ g ids w3 (HOK.out w3 HB3.out)).mono ?_
    rintro r w4 ⟨rfl, hb4⟩
    have hR4 : RVar w4 w.heap.size ⟨#[]⟩ g := HR3.out.below hb4 HS3.out
    have hB4 : Below w.heap.size w w4 := HB3.out.trans (hb4.mono HB3.out.size)
    have hs4 : w.heap.size < w4.heap.size := by have := hb4.size; have := HS3.out; omega
    obtain ⟨o4, d4⟩ := hR4.rd
    have HR4 := Lib.hid hR4
    have HB4 := Lib.hid hB4
    clear hb4 hR4 hB4 o3 d3 HR3 HB3 HS3
    go_wp2_with fail
    refine (own_any ⟨#[]⟩ g ids w4 (hIw.below HB4.out) (by omega)).mono ?_
    rintro r w5 ⟨b5, cap5, rfl, hI5, hb5⟩
    have hR5 : RVar w5 w.heap.size ⟨#[]⟩ g := HR4.out.below hb5 hs4
    have hB5 : Below w.heap.size w w5 := HB4.out.trans (hb5.mono HB4.out.size)
    have hs5 : w.heap.size < w5.heap.size := by have := hb5.size; omega
    have HR5 := Lib.hid hR5
    have HB5 := Lib.hid hB5
    clear hb5 hR5 hB5 o4 d4 HR4 HB4 hs4
    go_wp2_with fail
    refine (print_any { g with refs := .slice (some ⟨b5, 0, none⟩) ids.length cap5 } ids w5 (hG.later HB5.out) ⟨hI5, hn, by show g.name.size ≤ _; unfold maxLen at *; omega, by show g.subject.size ≤ _; unfold maxLen at *; omega⟩).mono ?_
    rintro r w6 ⟨rfl, hb6⟩
    have hR6 : RVar w6 w.heap.size ⟨#[]⟩ g := HR5.out.below hb6 hs5
    have hB6 : Below w.heap.size w w6 := HB5.out.trans (hb6.mono HB5.out.size)
    have hs6 : w.heap.size < w6.heap.size := by have := hb6.size; omega
    obtain ⟨o6, d6⟩ := hR6.rd
    have HR6 := Lib.hid hR6
    have HB6 := Lib.hid hB6
    clear hb6 hR6 hB6 HR5 HB5 hs5 hI5
    have hle : lineErr { g with refs := .slice (some ⟨b5, 0, none⟩) ids.length cap5 } ids = lineErr g ids := rfl
    rw [hle]
    clear hle
    obtain ⟨e, he⟩ : ∃ e, e = lineErr g ids := ⟨_, rfl⟩
    obtain ⟨tx, htx⟩ : ∃ tx, tx = if lineErr g ids = 0 then str (lineTxt g.number.toNat g.id g.name g.date.toNat g.subject ids g.bytes.toNat) else ⟨#[]⟩ := ⟨_, rfl⟩
    have htx' : (if lineErr g ids = 0 then str (lineTxt ({ g with refs := .slice (some ⟨b5, 0, none⟩) ids.length cap5 } : GLine).number.toNat ({ g with refs := .slice (some ⟨b5, 0, none⟩) ids.length cap5 } : GLine).id ({ g with refs := .slice (some ⟨b5, 0, none⟩) ids.length cap5 } : GLine).name ({ g with refs := .slice (some ⟨b5, 0, none⟩) ids.length cap5 } : GLine).date.toNat ({ g with refs := .slice (some ⟨b5, 0, none⟩) ids.length cap5 } : GLine).subject ids ({ g with refs := .slice (some ⟨b5, 0, none⟩) ids.length cap5 } : GLine).bytes.toNat) else ⟨#[]⟩) = tx := htx.symm
    rw [htx', ← he]
    have HE := Lib.hid he
    have HTX := Lib.hid htx
    clear he htx htx'
    go_wp2_with fail
    refine (own_any ⟨#[]⟩ g ids w6 (hIw.below HB6.out) (by omega)).mono ?_
    rintro r w7 ⟨b7, cap7, rfl, hI7, hb7⟩
    have hR7 : RVar w7 w.heap.size ⟨#[]⟩ g := HR6.out.below hb7 hs6
    have hB7 : Below w.heap.size w w7 := HB6.out.trans (hb7.mono HB6.out.size)
    have hs7 : w.heap.size < w7.heap.size := by have := hb7.size; omega
    have HR7 := Lib.hid hR7
    have HB7 := Lib.hid hB7
    clear hb7 hR7 hB7 o6 d6 HR6 HB6 hs6
    go_wp2_with fail
    refine (lineCheck_any { g with refs := .slice (some ⟨b7, 0, none⟩) ids.length cap7 } ids w7 ⟨hI7, hn, by show g.name.size ≤ _; unfold maxLen at *; omega, by show g.subject.size ≤ _; unfold maxLen at *; omega⟩).mono ?_
    rintro r w8 ⟨rfl, hb8⟩
    have hle : lineErr { g with refs := .slice (some ⟨b7, 0, none⟩) ids.length cap7 } ids = e := HE.out.symm
    rw [hle]
    have hR8 : RVar w8 w.heap.size ⟨#[]⟩ g := HR7.out.below hb8 hs7
    have hB8 : Below w.heap.size w w8 := HB7.out.trans (hb8.mono HB7.out.size)
    have hs8 : w.heap.size < w8.heap.size := by have := hb8.size; omega
    have HR8 := Lib.hid hR8
    have HB8 := Lib.hid hB8
    clear hb8 hR8 hB8 HR7 HB7 hs7 hI7 hle
    by_cases he0 : e = 0
    · subst he0
      have he := HE.out.symm
      obtain ⟨f1, f2, f3, f4, f5, f6⟩ := lineErr_zero he
      have htx : tx = str (lineTxt g.number.toNat g.id g.name g.date.toNat g.subject ids g.bytes.toNat) := by rw [HTX.out, if_pos he]
      have htl := lineTxt_le g.number.toNat g.id g.name g.date.toNat g.subject ids g.bytes.toNat (by omega) (by omega) (by omega) (by omega) (by omega) f5
      have hsz : tx.size < 4294967281 := by rw [htx, str_size]; omega
      obtain ⟨hpo, hpp⟩ := parse_print he
      rw [← htx] at hpo hpp
      have HPP := Lib.hid hpp
      have HPO := Lib.hid hpo
      have HTX2 := Lib.hid htx
      clear htl hpp hpo htx HTX HE
      go_wp2_with fail
      refine (parse_any tx w8 (hG.later HB8.out) hsz).mono ?_
      rintro r w9 ⟨G, is, rfl, hP, hI9, hone, hb9⟩
      obtain ⟨hGe, rfl⟩ := HPP.out G is hP
      obtain ⟨v, hv⟩ : ∃ v, v = G.refs := ⟨_, rfl⟩
      rw [← hv] at hGe hI9
      rw [HPO.out]
      subst hGe
      have hR9 : RVar w9 w.heap.size ⟨#[]⟩ g := HR8.out.below hb9 hs8
      have hB9 : Below w.heap.size w w9 := HB8.out.trans (hb9.mono HB8.out.size)
      have hs9 : w.heap.size < w9.heap.size := by have := hb9.size; omega
      have hft := fits_line hone
      have hzs : ((lineCells zeroLine).size == 38) = true := by rw [lineCells_size]; rfl
      clear hP hb9 HR8 HB8 hs8 hv
      have hbW : Below w9.heap.size w9 (w9.alloc (.cells (lineCells { g with refs := v }) 34)) := (Below.refl _ _).alloc (Nat.le_refl _) _
      have hVW : LineVar (w9.alloc (.cells (lineCells { g with refs := v }) 34)) w9.heap.size { g with refs := v } := heap_alloc_new _ _
      have hRW : RVar (w9.alloc (.cells (lineCells { g with refs := v }) 34)) w.heap.size ⟨#[]⟩ g := hR9.below hbW hs9
      have hIW := hI9.below hbW
      have hBW : Below w.heap.size w (w9.alloc (.cells (lineCells { g with refs := v }) 34)) := hB9.trans (hbW.mono hB9.size)
      have hsW : w.heap.size < (w9.alloc (.cells (lineCells { g with refs := v }) 34)).heap.size := by simp; omega
      have hsV : w9.heap.size < (w9.alloc (.cells (lineCells { g with refs := v }) 34)).heap.size := by simp
      go_wp2_with fail
      generalize w9.alloc (.cells (lineCells { g with refs := v }) 34) = W at hVW hRW hIW hBW hsW hsV ⊢
      clear hbW hB9 hR9 hI9
      have p1 : ∀ z : Later W, okCells z.1 ⟨w.heap.size, 0, none⟩ 39 = true := fun z => (hRW.below z.2 hsW).rd.1
      have p2 : ∀ z : Later W, rdCells z.1 ⟨w.heap.size, 0, none⟩ 39 = rlineCells ⟨#[]⟩ g := fun z => (hRW.below z.2 hsW).rd.2
      have p3 : ∀ z : Later W, okCells z.1 ⟨w9.heap.size, 0, none⟩ 38 = true := fun z => (hVW.below z.2 hsV).rd.1
      have p4 : ∀ z : Later W, rdCells z.1 ⟨w9.heap.size, 0, none⟩ 38 = lineCells { g with refs := v } := fun z => (hVW.below z.2 hsV).rd.2
      have c1 : ∀ z : Later W, Calls Tryz.prog 20 #[.agg (rlineCells ⟨#[]⟩ g)] z.1 fun e w'' => e = .returned (.string tx) ∧ ∃ z' : Later W, w'' = z'.1 := fun z => Later.call (by
        have := refPrint_any ⟨#[]⟩ g is g.number.toNat g.date.toNat g.bytes.toNat z.1 (HOK.out z.1 (hBW.trans (z.2.mono hBW.size))) (by omega) (by omega) (by omega) (by omega) (by omega) (by omega) (by omega) (by omega) f5
        rw [← HTX2.out] at this
        exact this)
      have hrv : v.cells = #[v] := by obtain ⟨a', c', e', _⟩ := hIW; rw [e']; rfl
      have c2 : ∀ z : Later W, Calls Tryz.prog 22 #[.string ⟨#[]⟩, .agg (lineCells { g with refs := v })] z.1 fun e w'' => e = .returned (.agg (rlineCells ⟨#[]⟩ { g with refs := v })) ∧ ∃ z' : Later W, w'' = z'.1 := fun z => Later.call (back_any ⟨#[]⟩ { g with refs := v } z.1 hrv hone)
      have c3 : ∀ z : Later W, Calls Tryz.prog 21 #[.agg (rlineCells ⟨#[]⟩ { g with refs := v }), .agg (rlineCells ⟨#[]⟩ g)] z.1 fun e w'' => e = .returned (.bool true) ∧ ∃ z' : Later W, w'' = z'.1 := fun z => Later.call (same_true ⟨#[]⟩ g v g.refs is z.1 (hIW.below z.2) (hIw.below (hBW.trans (z.2.mono hBW.size))) (by omega))
      have C1 := Lib.hid c1
      have C2 := Lib.hid c2
      have C3 := Lib.hid c3
      have HBW := Lib.hid hBW
      clear c1 c2 c3 hVW hRW hIW hBW hrv hft hone HOK HPO HPP HTX2 hIw hrefs
      refine wp_region_ht 18 (fun w' => ∃ z : Later W, w' = z.1) (by kernel_rfl) (by kernel_rfl) ⟨⟨_, (Below.refl _ _).drew⟩, rfl⟩ ?_
      simp only [List.take_succ_cons, List.take_zero, List.drop_succ_cons, List.drop_zero]
      repeat (go_big_quiet_step (first | (go_at_call 20; exact C1.out _) | (go_at_call 22; exact C2.out _) | (go_at_call 21; exact C3.out _)))
      refine wpQuiet_nil ?_
      rintro _ ⟨z, rfl⟩
      have hz := z.2
      generalize z.1 = wz at hz ⊢
      clear p1 p2 p3 p4
      go_wp2
      go_ret
      exact ⟨rfl, HBW.out.trans (hz.mono HBW.out.size)⟩
    · have hez : (e == 0) = false := by rw [beq_eq_false_iff_ne]; exact he0
      obtain rfl : tx = ⟨#[]⟩ := by rw [HTX.out, if_neg (by rw [← HE.out]; exact he0)]
      clear he0
      go_wp2
      go_ret
      exact ⟨rfl, HB8.out⟩
  · have hsm' : (decide (ids.length ≤ 30) && decide (s.size + g.name.size + g.subject.size ≤ 600)) = false := by simpa using hsm
    rw [hsm']
    have HB2 := Lib.hid hB2
    clear hsm hsm' hR2 hB2
    go_wp2_with fail
    refine (HK.out _ (hG.later HB2.out)).mono ?_
    rintro r w3 ⟨rfl, hb3⟩
    go_wp2
    go_ret
    exact ⟨rfl, HB2.out.trans (hb3.mono (by omega))⟩

end Go.Proofs.YtdjaphcelpchaaaGreatDoor

/- bulletinlaw28.OverviewParse: the walk, given that 'known' answers true. -/
namespace Go.Proofs.YtdjaphcelpchaaaGreatDoor
open Go Go.RowKit Go.Proofs

attribute [local go_sem ↓] ex_load_id ex_store_id ex_load_line ex_store_line ex_load_rline ex_store_rline ex_alloc_line ex_build_line ex_alloc_rline ex_build_rline
attribute [local go_sem] ld_id st_id ld_line st_line ld_rline st_rline guard_id okCells_drew rdCells_drew okCells_drewN rdCells_drewN rowOk_drew rowOk_cells okCells_cells rdCells_cells setRow_drew setRow_new setRow_past

theorem ParsedIs.same {s : ByteArray} {G1 G2 : GLine} {i1 i2 : List Id32} (h1 : ParsedIs s G1 i1) (h2 : ParsedIs s G2 i2) : G2 = { G1 with refs := G2.refs } ∧ i2 = i1 := by
  by_cases h : (parseOut s).1 = 0
  · obtain ⟨v1, e1, j1⟩ := h1.yes h
    obtain ⟨v2, e2, j2⟩ := h2.yes h
    refine ⟨?_, j2.trans j1.symm⟩
    rw [e1, e2]; rfl
  · obtain ⟨e1, j1⟩ := h1.no h
    obtain ⟨e2, j2⟩ := h2.no h
    refine ⟨?_, j2.trans j1.symm⟩
    rw [e1, e2]
theorem ParsedIs.len {s : ByteArray} {G : GLine} {is : List Id32} (h : ParsedIs s G is) (hs : s.size ≤ 2500) : is.length ≤ 1000000 ∧ G.name.size ≤ 1000000 ∧ G.subject.size ≤ 1000000 := by
  have hpart : ∀ k, (nth (splitS 9 s) k).size ≤ s.size := fun k => by
    by_cases hk : k < (splitS 9 s).length
    · have h1 : nth (splitS 9 s) k ∈ splitS 9 s := List.mem_of_getElem? (nth_at _ k hk)
      generalize nth (splitS 9 s) k = y at h1 ⊢
      obtain ⟨x, hx, rfl⟩ := List.mem_map.1 (show y ∈ (splitL 9 s.data.toList).map str from h1)
      have := splitL_part 9 s.data.toList x hx
      rw [size_list] at this
      rw [str_size]; exact this
    · have : nth (splitS 9 s) k = ⟨#[]⟩ := by unfold nth; rw [List.getD_eq_getElem?_getD, List.getElem?_eq_none (by omega)]; rfl
      rw [this]; exact Nat.zero_le _
  by_cases h0 : (parseOut s).1 = 0
  · obtain ⟨v, e, j⟩ := h.yes h0
    have p2 := hpart 2
    have p4 := hpart 4
    have p5 := hpart 5
    rw [e, j]
    refine ⟨?_, ?_, ?_⟩
    · unfold refIds refTexts
      rw [List.length_map]
      split
      · simp
      · have := (splitS_len 44 (nth (splitS 9 s) 5)).2
        unfold splitS at this p5
        rw [List.length_map] at this
        unfold splitS
        omega
    · show (nth (splitS 9 s) 2).size ≤ _; omega
    · show (nth (splitS 9 s) 4).size ≤ _; omega
  · obtain ⟨e, j⟩ := h.no h0
    rw [e, j]
    decide

set_option maxRecDepth 100000 in
set_option maxHeartbeats 2000000 in
theorem law_parse (hK : Knows) (s : ByteArray) (w : World) (hG : Gl w) (hm : s.size ≤ maxLen) :
    Calls Tryz.prog 4 #[.string s] w fun r w' => r = .returned (.bool true) ∧ Below w.heap.size w w' := by
  unfold maxLen at hm
  have HK := Lib.hid hK
  clear hK
  by_cases hbig : 2500 < s.size
  · have hbz : 2500 < (s.size : Int) := by omega
    go_enter Tryz.func4, Tryz.ntmps4
    go_wp2_with fail
    refine (HK.out _ hG).mono ?_
    rintro r w1 ⟨rfl, hb1⟩
    have HB1 := Lib.hid hb1
    clear hb1
    go_wp2_with fail
    refine (HK.out _ (hG.later HB1.out)).mono ?_
    rintro r w2 ⟨rfl, hb2⟩
    have HB2 := Lib.hid (HB1.out.trans (hb2.mono HB1.out.size))
    clear hb2
    go_wp2
    go_ret
    exact ⟨rfl, HB2.out⟩
  · have hbz : ¬ 2500 < (s.size : Int) := by omega
    go_enter Tryz.func4, Tryz.ntmps4
    go_wp2_with fail
    refine (HK.out _ hG).mono ?_
    rintro r w1 ⟨rfl, hb1⟩
    have HB1 := Lib.hid hb1
    clear hb1
    go_wp2_with fail
    refine (parse_any s w1 (hG.later HB1.out) (by omega)).mono ?_
    rintro r w2 ⟨G1, is, rfl, hP1, hI2, hone1, hb2⟩
    have hB2 : Below w.heap.size w w2 := HB1.out.trans (hb2.mono HB1.out.size)
    obtain ⟨e, he⟩ : ∃ e, e = (parseOut s).1 := ⟨_, rfl⟩
    obtain ⟨o, ho⟩ : ∃ o, o = (parseOut s).2 := ⟨_, rfl⟩
    rw [← he, ← ho]
    have hft1 := fits_line hone1
    have hzs : ((lineCells zeroLine).size == 38) = true := by rw [lineCells_size]; rfl
    have hrzs : ((rlineCells ⟨#[]⟩ zeroLine).size == 39) = true := by rw [rlineCells_size]; rfl
    have hb3 : Below w2.heap.size w2 (w2.alloc (.cells (lineCells G1) 34)) := (Below.refl _ _).alloc (Nat.le_refl _) _
    have hB3 : Below w.heap.size w (w2.alloc (.cells (lineCells G1) 34)) := hB2.trans (hb3.mono hB2.size)
    have hV3 : LineVar (w2.alloc (.cells (lineCells G1) 34)) w2.heap.size G1 := heap_alloc_new _ _
    have hI3 := hI2.below hb3
    have hs3 : w2.heap.size < (w2.alloc (.cells (lineCells G1) 34)).heap.size := by simp
    have HB3 := Lib.hid hB3
    have HV3 := Lib.hid hV3
    have HI3 := Lib.hid hI3
    have HS3 := Lib.hid hs3
    have HE := Lib.hid he
    have HO := Lib.hid ho
    clear hb2 hb3 hB2 hB3 hV3 hI3 hs3 hI2 he ho HB1
    go_wp2_with fail
    generalize w2.alloc (.cells (lineCells G1) 34) = w3 at HB3 HV3 HI3 HS3 ⊢
    refine (rparse_any s w3 (by omega)).mono ?_
    rintro r w4 ⟨G2, is2, rfl, hP2, hI4, hone2, hb4⟩
    rw [← HE.out, ← HO.out]
    obtain ⟨hGe, rfl⟩ := hP1.same hP2
    obtain ⟨v2, hv2⟩ : ∃ v2, v2 = G2.refs := ⟨_, rfl⟩
    rw [← hv2] at hGe hI4
    subst hGe
    have hft2 := fits_rline (s := ⟨#[]⟩) hone2
    have hlenP := Lib.hid (hP1.len (by omega))
    have HP1 := Lib.hid hP1
    have hB4 : Below w.heap.size w w4 := HB3.out.trans (hb4.mono HB3.out.size)
    have hV4 : LineVar w4 w2.heap.size G1 := HV3.out.below hb4 HS3.out
    have hI4a := HI3.out.below hb4
    have hs4 : w2.heap.size < w4.heap.size := by have := hb4.size; have := HS3.out; omega
    have hb5 : Below w4.heap.size w4 (w4.alloc (.cells (rlineCells ⟨#[]⟩ { G1 with refs := v2 }) 26)) := (Below.refl _ _).alloc (Nat.le_refl _) _
    have hB5 := hB4.trans (hb5.mono hB4.size)
    have hV5 := hV4.below hb5 hs4
    have hR5 : RVar (w4.alloc (.cells (rlineCells ⟨#[]⟩ { G1 with refs := v2 }) 26)) w4.heap.size ⟨#[]⟩ { G1 with refs := v2 } := heap_alloc_new _ _
    have hI5a := hI4a.below hb5
    have hI5b := hI4.below hb5
    have hs5a : w2.heap.size < (w4.alloc (.cells (rlineCells ⟨#[]⟩ { G1 with refs := v2 }) 26)).heap.size := by simp; omega
    have hs5b : w4.heap.size < (w4.alloc (.cells (rlineCells ⟨#[]⟩ { G1 with refs := v2 }) 26)).heap.size := by simp
    clear hb4 hb5 hV4 hI4 hI4a hB4 HB3 HV3 HI3 HS3 hP1 hP2 hv2
    go_wp2_with fail
    generalize w4.alloc (.cells (rlineCells ⟨#[]⟩ { G1 with refs := v2 }) 26) = W at hB5 hV5 hR5 hI5a hI5b hs5a hs5b ⊢
    have p1 : ∀ z : Later W, okCells z.1 ⟨w4.heap.size, 0, none⟩ 39 = true := fun z => (hR5.below z.2 hs5b).rd.1
    have p2 : ∀ z : Later W, rdCells z.1 ⟨w4.heap.size, 0, none⟩ 39 = rlineCells ⟨#[]⟩ { G1 with refs := v2 } := fun z => (hR5.below z.2 hs5b).rd.2
    have p3 : ∀ z : Later W, okCells z.1 ⟨w2.heap.size, 0, none⟩ 38 = true := fun z => (hV5.below z.2 hs5a).rd.1
    have p4 : ∀ z : Later W, rdCells z.1 ⟨w2.heap.size, 0, none⟩ 38 = lineCells G1 := fun z => (hV5.below z.2 hs5a).rd.2
    have hrv : G1.refs.cells = #[G1.refs] := by obtain ⟨a', c', e', _⟩ := hI5a; rw [e']; rfl
    have c2 : ∀ z : Later W, Calls Tryz.prog 22 #[.string ⟨#[]⟩, .agg (lineCells G1)] z.1 fun e w'' => e = .returned (.agg (rlineCells ⟨#[]⟩ G1)) ∧ ∃ z' : Later W, w'' = z'.1 := fun z => Later.call (back_any ⟨#[]⟩ G1 z.1 hrv hone1)
    have c3 : ∀ z : Later W, Calls Tryz.prog 21 #[.agg (rlineCells ⟨#[]⟩ G1), .agg (rlineCells ⟨#[]⟩ { G1 with refs := v2 })] z.1 fun e w'' => e = .returned (.bool true) ∧ ∃ z' : Later W, w'' = z'.1 := fun z => Later.call (same_true ⟨#[]⟩ G1 G1.refs v2 is2 z.1 (hI5a.below z.2) (hI5b.below z.2) hlenP.out.1)
    have C2 := Lib.hid c2
    have C3 := Lib.hid c3
    have HB5 := Lib.hid hB5
    have HV5 := Lib.hid hV5
    have HI5 := Lib.hid hI5a
    clear c2 c3 hV5 hR5 hI5a hI5b hrv hft1 hft2 hone1 hone2 hB5
    refine wp_region_ht 14 (fun w' => ∃ z : Later W, w' = z.1) (by kernel_rfl) (by kernel_rfl) ⟨⟨_, (Below.refl _ _).drew⟩, rfl⟩ ?_
    simp only [List.take_succ_cons, List.take_zero, List.drop_succ_cons, List.drop_zero]
    repeat (go_big_quiet_step (first | (go_at_call 22; exact C2.out _) | (go_at_call 21; exact C3.out _)))
    refine wpQuiet_nil ?_
    rintro _ ⟨z, rfl⟩
    have hz := z.2
    generalize z.1 = wz at hz ⊢
    clear p1 p2 p3 p4
    have hVz := HV5.out.below hz hs5a
    obtain ⟨oz, dz⟩ := hVz.rd
    have hBz := Lib.hid (HB5.out.trans (hz.mono HB5.out.size))
    have hIz := Lib.hid (HI5.out.below hz)
    clear hVz hz
    go_wp2_with fail
    refine (print_any G1 is2 wz (hG.later hBz.out) ⟨hIz.out, by have := hlenP.out.1; unfold maxLen; omega, by have := hlenP.out.2.1; unfold maxLen; omega, by have := hlenP.out.2.2; unfold maxLen; omega⟩).mono ?_
    rintro r w6 ⟨rfl, hb6⟩
    have HB6 := Lib.hid (hBz.out.trans (hb6.mono hBz.out.size))
    clear hb6 oz dz
    by_cases he0 : e = 0
    · subst he0
      obtain ⟨q1, q2⟩ := print_parse (HE.out.symm) HP1.out
      rw [q1, if_pos rfl]
      have Q2 := Lib.hid q2
      clear q1 q2 HE HO
      go_wp2
      go_ret
      refine ⟨?_, HB6.out⟩
      show Ending.returned (.bool ((str (lineTxt G1.number.toNat G1.id G1.name G1.date.toNat G1.subject is2 G1.bytes.toNat)).toList == s.toList)) = _
      rw [Q2.out]; simp
    · have hez : (e == 0) = false := by rw [beq_eq_false_iff_ne]; exact he0
      have hez2 : (e != 0) = true := by simp [he0]
      generalize (if lineErr G1 is2 = 0 then str (lineTxt G1.number.toNat G1.id G1.name G1.date.toNat G1.subject is2 G1.bytes.toNat) else ⟨#[]⟩) = tx
      generalize lineErr G1 is2 = e2
      go_wp2
      go_ret
      exact ⟨rfl, HB6.out⟩

end Go.Proofs.YtdjaphcelpchaaaGreatDoor

/- What 'known' asks of maps: look-ups and stores in a map of no entry or of one. -/
namespace Go.Proofs.YtdjaphcelpchaaaGreatDoor
open Go Go.RowKit Go.Proofs

theorem look_empty (w : World) (M : Nat) (k : ByteArray) (h : w.heap[M]? = some (.map #[] 0)) : (Instr.lookup 102 (.map (some M)) (.string k) false).run Tryz.prog w = .ok (.pointer none) w := by
  have hg : (getObj M).run Tryz.prog w = .ok (.map #[] 0) w := by simp [getObj, Sem.run, h]
  have hu : (underlying 102).run Tryz.prog w = .ok (.map 9 112) w := by kernel_rfl
  unfold Instr.lookup
  rw [Sem.run_bind, hu]
  simp only [Result.andThen_ok, Sem.run_bind, hg]
  show (_ : Result Value) = _
  first | kernel_rfl | rfl
theorem look_one (w : World) (M : Nat) (v : Value) (h : w.heap[M]? = some (.map #[{ key := .string ⟨#[97, 46, 98]⟩, val := v, born := 0 }] 1)) : (Instr.lookup 102 (.map (some M)) (.string ⟨#[97, 46, 98]⟩) false).run Tryz.prog w = .ok v w := by
  have hg : (getObj M).run Tryz.prog w = .ok (.map #[{ key := .string ⟨#[97, 46, 98]⟩, val := v, born := 0 }] 1) w := by simp [getObj, Sem.run, h]
  have hu : (underlying 102).run Tryz.prog w = .ok (.map 9 112) w := by kernel_rfl
  unfold Instr.lookup
  rw [Sem.run_bind, hu]
  simp only [Result.andThen_ok, Sem.run_bind, hg]
  show (_ : Result Value) = _
  first | kernel_rfl | rfl

theorem put_empty (w : World) (M : Nat) (k v : Value) (hk : k = .string ⟨#[97, 46, 98]⟩) (h : w.heap[M]? = some (.map #[] 0)) : (Instr.mapUpdate 102 (.map (some M)) k v).run Tryz.prog w = (setObj M (.map #[{ key := k, val := v, born := 0 }] 1)).run Tryz.prog w := by
  subst hk
  have hg : (getObj M).run Tryz.prog w = .ok (.map #[] 0) w := by simp [getObj, Sem.run, h]
  have hu : (underlying 102).run Tryz.prog w = .ok (.map 9 112) w := by kernel_rfl
  unfold Instr.mapUpdate
  rw [Sem.run_bind, hu]
  simp only [Result.andThen_ok, Sem.run_bind, hg]
  show (_ : Result Unit) = _
  kernel_rfl
theorem put_id_empty (w : World) (M : Nat) (v : Value) (h : w.heap[M]? = some (.map #[] 0)) : (Instr.mapUpdate 113 (.map (some M)) (.agg (encId zeroId).toArray) v).run Tryz.prog w = (setObj M (.map #[{ key := .agg (encId zeroId).toArray, val := v, born := 0 }] 1)).run Tryz.prog w := by
  have hg : (getObj M).run Tryz.prog w = .ok (.map #[] 0) w := by simp [getObj, Sem.run, h]
  have hu : (underlying 113).run Tryz.prog w = .ok (.map 23 3) w := by kernel_rfl
  unfold Instr.mapUpdate
  rw [Sem.run_bind, hu]
  simp only [Result.andThen_ok, Sem.run_bind, hg]
  show (_ : Result Unit) = _
  kernel_rfl

end Go.Proofs.YtdjaphcelpchaaaGreatDoor

/- The functions that 'known' calls, at a fresh index. -/
namespace Go.Proofs.YtdjaphcelpchaaaGreatDoor
open Go Go.RowKit Go.Proofs

attribute [local go_sem ↓] ex_load_id ex_store_id ex_load_line ex_store_line ex_alloc_line ex_build_line
attribute [local go_sem] ld_id st_id ld_line st_line guard_id okCells_drew rdCells_drew okCells_drewN rdCells_drewN rowOk_drew rowOk_cells okCells_cells rdCells_cells setRow_drew setRow_new setRow_past

set_option maxHeartbeats 1000000 in
theorem linesOf_none (IB M : Nat) (s : ByteArray) (w : World) (hc : w.cell? ⟨IB, 0, none⟩ = some (.map (some M))) (hm : w.heap[M]? = some (.map #[] 0)) :
    Calls Tryz.prog 68 #[.pointer (some ⟨IB, 0, none⟩), .string s] w fun r w' => r = .returned (.slice none 0 0) ∧ w = w' := by
  have hl := look_empty w M s hm
  clear hm
  go_enter Tryz.func68, Tryz.ntmps68
  go_wp2
  go_ret
  exact ⟨rfl, rfl⟩

set_option maxHeartbeats 1000000 in
theorem linesOf_one (IB M gb n c : Nat) (w : World) (a : Option Addr) (hc : w.cell? ⟨IB, 0, none⟩ = some (.map (some M))) (hm : w.heap[M]? = some (.map #[{ key := .string ⟨#[97, 46, 98]⟩, val := .pointer (some ⟨gb, 0, none⟩), born := 0 }] 1)) (hg : w.cell? ⟨gb, 0, none⟩ = some (.slice a n c)) :
    Calls Tryz.prog 68 #[.pointer (some ⟨IB, 0, none⟩), .string ⟨#[97, 46, 98]⟩] w fun r w' => r = .returned (.slice a n c) ∧ w = w' := by
  have hl := look_one w M _ hm
  clear hm
  go_enter Tryz.func68, Tryz.ntmps68
  go_wp2
  go_ret
  exact ⟨rfl, rfl⟩

set_option maxRecDepth 100000 in
set_option maxHeartbeats 1000000 in
theorem search_none (x : Int) (w : World) :
    Calls Tryz.prog 69 #[.slice none 0 0, .int .i64 x] w fun r w' => r = .returned (.tuple #[.int .i64 0, .bool false]) ∧ w = w' := by
  go_enter Tryz.func69, Tryz.ntmps69
  go_wp2_with fail
  have hs : ∀ f, Calls Tryz.prog 101 #[.slice none 0 0, .int .i64 x, f] w fun r w' => r = .returned (.tuple #[.int .i64 0, .bool false]) ∧ w = w' := fun f => by
    go_enter Tryz.func101, Tryz.ntmps101
    go_wp2
    go_loop [9, 10] (fun a b => a = .int .i64 0 ∧ b = .int .i64 0) (fun _ _ => 0)
    case atStart => exact ⟨rfl, rfl⟩
    case round =>
      obtain ⟨rfl, rfl⟩ := hrel
      go_wp2
      go_ret2
      exact ⟨rfl, rfl⟩
  refine (hs _).mono ?_
  rintro r w' ⟨rfl, rfl⟩
  go_wp2
  go_ret2
  exact ⟨rfl, rfl⟩

set_option maxRecDepth 100000 in
set_option maxHeartbeats 1000000 in
theorem find_none (IB M : Nat) (s : ByteArray) (x : Id32) (w : World) (hc : w.cell? ⟨IB, 0, none⟩ = some (.map (some M))) (hm : w.heap[M]? = some (.map #[] 0)) :
    Calls Tryz.prog 41 #[.pointer (some ⟨IB, 0, none⟩), .string s, .agg (encId x).toArray] w fun r w' => r = .returned (.tuple #[.agg (lineCells zeroLine), .bool false]) ∧ Below w.heap.size w w' := by
  have hb0 : Below w.heap.size w ((w.alloc (.cells (encId x).toArray 23)).alloc (.cells (lineCells zeroLine) 34)) := ((Below.refl _ _).alloc (Nat.le_refl _) _).alloc (by simp) _
  have hcW : ((w.alloc (.cells (encId x).toArray 23)).alloc (.cells (lineCells zeroLine) 34)).cell? ⟨IB, 0, none⟩ = some (.map (some M)) := (hb0.cell (block_lt_of_cell hc)).trans hc
  have hmW := (hb0.block M (Array.getElem?_eq_some_iff.1 hm).1).trans hm
  have HC := Lib.hid hcW
  have HM := Lib.hid hmW
  have HB := Lib.hid hb0
  have hft : fitsRow 38 (lineCells zeroLine) = true := fits_line rfl
  have hzs : ((lineCells zeroLine).size == 38) = true := by rw [lineCells_size]; rfl
  clear hc hm hcW hmW hb0
  go_enter Tryz.func41, Tryz.ntmps41
  go_wp2_with fail
  refine (linesOf_none IB M s _ HC.out HM.out).mono ?_
  rintro r w' ⟨rfl, rfl⟩
  go_wp2
  refine bodyPost_ret (v := .tuple #[.agg (lineCells zeroLine), .bool false]) ?_ rfl ⟨rfl, HB.out⟩
  exact results_agg2 rfl Tryz.isAgg34 Tryz.sizeOf34 _ _ ⟨w.heap.size + 1, 0, none⟩ _ _ rfl rfl (by simpa using ok_new_line (w.alloc (.cells (encId x).toArray 23)) zeroLine _) (by simpa using rd_new_line (w.alloc (.cells (encId x).toArray 23)) zeroLine 34)

set_option maxHeartbeats 1000000 in
theorem isLower_yes (c : Int) (w : World) (h1 : 97 ≤ c) (h2 : c ≤ 122) : Calls Tryz.prog 134 #[.int .u8 c] w fun r w' => r = .returned (.bool true) ∧ w = w' := by
  go_enter Tryz.func134, Tryz.ntmps134
  go_wp2
  go_ret
  exact ⟨by simp, rfl⟩
set_option maxHeartbeats 1000000 in
theorem notOther_lower (c : Int) (w : World) (h1 : 97 ≤ c) (h2 : c ≤ 122) : Calls Tryz.prog 136 #[.int .u8 c] w fun r w' => r = .returned (.bool false) ∧ w = w' := by
  go_enter Tryz.func136, Tryz.ntmps136
  go_wp2_with fail
  refine (isLower_yes c w h1 h2).mono ?_
  rintro r w' ⟨rfl, rfl⟩
  go_wp2
  go_ret
  exact ⟨rfl, rfl⟩

/-- The lower letters. -/
def Low : Type := { c : Nat // 97 ≤ c ∧ c ≤ 122 }
instance : Inhabited Low := ⟨⟨97, by omega⟩⟩
def encLow (x : Low) : Value := .int .u8 x.1
theorem pred_low (w : World) : PredAt Tryz.prog 136 #[] encLow (fun _ => false) w := fun W x _ =>
  (notOther_lower x.1 W (by have := x.2; omega) (by have := x.2; omega)).mono fun _ _ ⟨he, hw⟩ => ⟨he, 0, hw.symm⟩

end Go.Proofs.YtdjaphcelpchaaaGreatDoor

/- groupname.isLower, isComponent, Check and the reference's Component, Check: what they answer at any string. -/
namespace Go.Proofs.YtdjaphcelpchaaaGreatDoor
open Go Go.RowKit Go.Proofs

/-- A lower-case letter; a byte that no component holds; a component; the error of a name. -/
def lowB (c : UInt8) : Bool := decide (97 ≤ c.toNat) && decide (c.toNat ≤ 122)
def badB (c : UInt8) : Bool := !lowB c && (decide (c.toNat < 48) || decide (57 < c.toNat)) && c.toNat != 45 && c.toNat != 43 && c.toNat != 95
def compB (l : List UInt8) : Bool := match l with
  | [] => false
  | c :: r => decide ((c :: r).length ≤ 20) && lowB c && !(c :: r).any badB
def nameErr (s : ByteArray) : Int := if 80 < s.size then 5 else if (splitS 46 s).any (fun x => !compB x.data.toList) then 12 else if 10 < (splitS 46 s).length then 9 else 0

set_option maxHeartbeats 1000000 in
theorem isLower_any (c : UInt8) (w : World) : Calls Tryz.prog 134 #[.int .u8 c.toNat] w fun r w' => r = .returned (.bool (lowB c)) ∧ w = w' := by
  unfold lowB
  by_cases h1 : 97 ≤ c.toNat
  · by_cases h2 : c.toNat ≤ 122
    · rw [decide_eq_true h1, decide_eq_true h2]
      have h1' : (97 : Int) ≤ (c.toNat : Int) := by omega
      have h2' : (c.toNat : Int) ≤ 122 := by omega
      go_enter Tryz.func134, Tryz.ntmps134
      go_wp2
      go_ret
      exact ⟨by simp, rfl⟩
    · rw [decide_eq_true h1, decide_eq_false h2]
      have h1' : (97 : Int) ≤ (c.toNat : Int) := by omega
      have h2' : decide ((c.toNat : Int) ≤ 122) = false := by simp; omega
      go_enter Tryz.func134, Tryz.ntmps134
      go_wp2
      go_ret
      exact ⟨by simp, rfl⟩
  · rw [decide_eq_false h1]
    have h1' : decide ((97 : Int) ≤ (c.toNat : Int)) = false := by simp; omega
    go_enter Tryz.func134, Tryz.ntmps134
    go_wp2
    go_ret
    exact ⟨by simp, rfl⟩

set_option maxHeartbeats 2000000 in
theorem other_any (c : UInt8) (w : World) : Calls Tryz.prog 136 #[.int .u8 c.toNat] w fun r w' => r = .returned (.bool (badB c)) ∧ w = w' := by
  unfold badB
  have hlow := isLower_any c w
  generalize lowB c = b at hlow
  have HL := Lib.hid hlow
  clear hlow
  cases b with
  | true =>
    go_enter Tryz.func136, Tryz.ntmps136
    go_wp2_with fail
    refine HL.out.mono ?_
    rintro r w' ⟨rfl, rfl⟩
    go_wp2
    go_ret
    exact ⟨rfl, rfl⟩
  | false =>
    by_cases h1 : c.toNat < 48
    case pos =>
      have n45 : ((c.toNat : Int) != 45) = (c.toNat != 45) := by
        rw [Bool.eq_iff_iff]; simp; omega
      have n43 : ((c.toNat : Int) != 43) = (c.toNat != 43) := by
        rw [Bool.eq_iff_iff]; simp; omega
      have n95 : ((c.toNat : Int) != 95) = (c.toNat != 95) := by
        rw [Bool.eq_iff_iff]; simp; omega
      have h1' : (c.toNat : Int) < 48 := by omega
      rw [decide_eq_true h1, ← n45, ← n43, ← n95]
      cases e45 : ((c.toNat : Int) != 45) <;> cases e43 : ((c.toNat : Int) != 43) <;> cases e95 : ((c.toNat : Int) != 95) <;>
      · clear n45 n43 n95
        go_enter Tryz.func136, Tryz.ntmps136
        go_wp2_with fail
        refine HL.out.mono ?_
        rintro r w' ⟨rfl, rfl⟩
        go_wp2
        go_ret
        exact ⟨rfl, rfl⟩
    by_cases h2 : 57 < c.toNat
    case neg =>
      have h1' : decide ((c.toNat : Int) < 48) = false := by simp; omega
      have h2' : decide (57 < (c.toNat : Int)) = false := by simp; omega
      rw [decide_eq_false h1, decide_eq_false h2]
      go_enter Tryz.func136, Tryz.ntmps136
      go_wp2_with fail
      refine HL.out.mono ?_
      rintro r w' ⟨rfl, rfl⟩
      go_wp2
      go_ret
      exact ⟨rfl, rfl⟩
    have n45 : ((c.toNat : Int) != 45) = (c.toNat != 45) := by
      rw [Bool.eq_iff_iff]; simp; omega
    have n43 : ((c.toNat : Int) != 43) = (c.toNat != 43) := by
      rw [Bool.eq_iff_iff]; simp; omega
    have n95 : ((c.toNat : Int) != 95) = (c.toNat != 95) := by
      rw [Bool.eq_iff_iff]; simp; omega
    have h1' : decide ((c.toNat : Int) < 48) = false := by simp; omega
    have h2' : 57 < (c.toNat : Int) := by omega
    rw [decide_eq_false h1, decide_eq_true h2, ← n45, ← n43, ← n95]
    cases e45 : ((c.toNat : Int) != 45) <;> cases e43 : ((c.toNat : Int) != 43) <;> cases e95 : ((c.toNat : Int) != 95) <;>
    · clear n45 n43 n95
      go_enter Tryz.func136, Tryz.ntmps136
      go_wp2_with fail
      refine HL.out.mono ?_
      rintro r w' ⟨rfl, rfl⟩
      go_wp2
      go_ret
      exact ⟨rfl, rfl⟩

def encB (x : UInt8) : Value := .int .u8 x.toNat
theorem pred_bad (w : World) : PredAt Tryz.prog 136 #[] encB badB w := fun W x _ =>
  (other_any x W).mono fun _ _ ⟨he, hw⟩ => ⟨he, 0, hw.symm⟩

theorem bytesRow_get (s : ByteArray) (cap j : Nat) (h : j < s.size) : (bytesRow s cap)[j]? = some (.int .u8 (s.data.toList[j]!).toNat) := by
  unfold bytesRow
  have h' : j < s.data.size := h
  rw [Array.getElem?_append_left (by simpa using h'), Array.getElem?_map, Array.getElem?_eq_getElem h']
  simp only [Option.map_some]
  have : s.data.toList[j]! = s.data[j] := by rw [getElem!_pos s.data.toList j (by simpa using h')]; rfl
  rw [this]

theorem compB_eq {s : ByteArray} (h0 : 0 < s.size) : compB s.data.toList = (decide (s.size ≤ 20) && lowB s[0] && !s.data.toList.any badB) := by
  obtain ⟨⟨l⟩⟩ := s
  cases l with
  | nil => exact absurd h0 (by simp [ByteArray.size])
  | cons c r => rfl

set_option maxRecDepth 100000 in
set_option maxHeartbeats 1000000 in
theorem isComponent_any (s : ByteArray) (w : World) (hs : s.size ≤ maxLen) : Calls Tryz.prog 108 #[.string s] w fun r w' => r = .returned (.bool (compB s.data.toList)) ∧ Below w.heap.size w w' := by
  unfold maxLen at hs
  by_cases h0 : 0 < s.size
  case neg =>
    obtain ⟨⟨l⟩⟩ := s
    cases l with
    | nil =>
      go_enter Tryz.func108, Tryz.ntmps108
      go_wp2
      go_ret
      exact ⟨rfl, Below.refl _ _⟩
    | cons c r => exact absurd h0 (by simp [ByteArray.size])
  have hc := compB_eq h0
  have hpe : s.toList.isEmpty = false := by
    rw [ByteArray.toList_eq, List.isEmpty_eq_false_iff, ← List.length_pos_iff, size_list]; omega
  rw [hc]
  clear hc
  by_cases h20 : s.size ≤ 20
  case neg =>
    rw [decide_eq_false h20]
    have h20' : (20 : Int) < (s.size : Int) := by omega
    go_enter Tryz.func108, Tryz.ntmps108
    go_wp2
    go_ret
    exact ⟨rfl, Below.refl _ _⟩
  rw [decide_eq_true h20]
  have h20' : decide ((20 : Int) < (s.size : Int)) = false := by simp; omega
  have hlow := isLower_any s[0] w
  generalize lowB s[0] = b at hlow
  have HL := Lib.hid hlow
  clear hlow
  generalize hbb : s.data.toList.any badB = bb
  have HBB := Lib.hid hbb
  clear hbb
  go_enter Tryz.func108, Tryz.ntmps108
  go_wp2_with fail
  refine HL.out.mono ?_
  rintro r w' ⟨rfl, rfl⟩
  cases b with
  | false =>
    go_wp2
    go_ret
    exact ⟨rfl, Below.refl _ _⟩
  | true =>
    have hcv := run_bytes_of_string (P := Tryz.prog) w 9 124 5 s Tryz.underlying9 Tryz.underlying124 Tryz.underlying5
    go_wp2_with fail
    have hcf := AnyE.slices_ContainsFunc Tryz.containsFuncByte encB badB 136 #[] (enters_of Tryz.func136 (by decide) rfl) w.heap.size 0 s.size (grownCap w s.size 0 5) s.data.toList (w.alloc (.cells (bytesRow s (grownCap w s.size 0 5)) 5 ((bytesRow s (grownCap w s.size 0 5)).size, (bytesRow s (grownCap w s.size 0 5)).size + 1))).drew (pred_bad _) (Nat.le_of_eq (size_list s).symm) (by omega) (fun j hj => by
      have hj' : j < s.size := by rw [size_list] at hj; exact hj
      have := bytesRow_get s (grownCap w s.size 0 5) j hj'
      rw [World.cell?_drew, World.cell?_alloc_mark, Nat.zero_add]
      exact this)
    have hany : (s.data.toList.take s.size).any badB = s.data.toList.any badB := by rw [List.take_of_length_le (Nat.le_of_eq (size_list s))]
    rw [hany] at hcf
    rw [HBB.out] at hcf
    have HF := Lib.hid hcf
    clear hcf hcv hany HBB
    refine HF.out.mono ?_
    rintro r w' ⟨rfl, q, rfl⟩
    go_wp2
    go_ret
    exact ⟨by simp, below_drewN' ((Below.refl _ _).alloc (Nat.le_refl _) _) (1 + q)⟩

set_option maxHeartbeats 1000000 in
theorem notComp_any (s : ByteArray) (w : World) (hs : s.size ≤ maxLen) : Calls Tryz.prog 107 #[.string s] w fun r w' => r = .returned (.bool (!compB s.data.toList)) ∧ Below w.heap.size w w' := by
  have hc := isComponent_any s w hs
  generalize compB s.data.toList = b at hc ⊢
  have HC := Lib.hid hc
  clear hc
  go_enter Tryz.func107, Tryz.ntmps107
  go_wp2_with fail
  refine HC.out.mono ?_
  rintro r w' ⟨rfl, hb⟩
  go_wp2
  go_ret
  exact ⟨by simp, hb⟩

/-- The first index of a bad part, or -1. -/
def badAt : List ByteArray → Nat → Int
  | [], _ => -1
  | x :: r, k => if compB x.data.toList then badAt r (k + 1) else k
theorem badAt_all : ∀ (xs : List ByteArray) (k : Nat), (0 ≤ badAt xs k) ↔ xs.any (fun x => !compB x.data.toList) = true
  | [], k => by simp [badAt]
  | x :: r, k => by
    have := badAt_all r (k + 1)
    by_cases h : compB x.data.toList = true
    · simp only [badAt, h, if_true, List.any_cons, Bool.not_true, Bool.false_or]; exact this
    · simp only [badAt, h, List.any_cons]
      simp

set_option maxRecDepth 100000 in
set_option maxHeartbeats 1000000 in
theorem indexBad_any (b c : Nat) (xs : List ByteArray) (w : World) (hx : StrRow w b 0 xs) (hm : xs.length ≤ 1000000) (hlen : ∀ x ∈ xs, x.size ≤ maxLen) :
    Calls Tryz.prog 133 #[.slice (some ⟨b, 0, none⟩) xs.length c, .func (.func 107) #[] #[]] w fun r w' => r = .returned (.int .i64 (badAt xs 0)) ∧ Below w.heap.size w w' := by
  have HX := Lib.hid hx
  have HL := Lib.hid hlen
  clear hx hlen
  go_enter Tryz.func133, Tryz.ntmps133
  go_wp2
  go_loopw [5, 8] (fun _ i wr => ∃ k : Nat, k ≤ xs.length ∧ i = .int .i64 k ∧ Hid (badAt xs 0 = badAt (xs.drop k) k) ∧ Below w.heap.size w wr) (fun _ i _ => xs.length - (intOf i).toNat)
  case atStart => exact ⟨0, by omega, rfl, Lib.hid rfl, Below.refl _ _⟩
  case round =>
    obtain ⟨k, hk, rfl, HB, hb⟩ := hrel
    by_cases hlt : k < xs.length
    · have hltz : (k : Int) < (xs.length : Int) := by omega
      have hget : xs[k]? = some xs[k] := List.getElem?_eq_getElem hlt
      have hc0 := HX.out k _ hget
      rw [Nat.zero_add] at hc0
      have hcell : wr.cell? ⟨b, k, none⟩ = some (.string xs[k]) := (hb.cell (block_lt_of_cell hc0)).trans hc0
      have hsz := HL.out xs[k] (List.getElem_mem hlt)
      have hst : Hid (badAt xs 0 = if compB xs[k].data.toList then badAt (xs.drop (k + 1)) (k + 1) else k) := Lib.hid (by
        rw [HB.out, List.drop_eq_getElem_cons hlt]; rfl)
      have hcall := notComp_any xs[k] wr hsz
      have HBB := Lib.hid hb
      clear HB hc0 hget hsz hb
      generalize xs[k] = x at hcell hst hcall
      generalize compB x.data.toList = bb at hcall hst
      have HC := Lib.hid hcall
      clear hcall
      cases bb with
      | true =>
        go_wp2_with fail
        refine HC.out.mono ?_
        rintro r w' ⟨rfl, hb1⟩
        have hb2 := HBB.out.trans (hb1.mono HBB.out.size)
        go_wp2
        go_roundw
        case rel => exact ⟨k + 1, by omega, by go_num, Lib.hid (by rw [hst.out]; rfl), hb2⟩
        case measure => simp [intOf]; omega
      | false =>
        go_wp2_with fail
        refine HC.out.mono ?_
        rintro r w' ⟨rfl, hb1⟩
        have hb2 := HBB.out.trans (hb1.mono HBB.out.size)
        go_wp2
        go_ret
        exact ⟨ret_int (by rw [hst.out]; rfl), hb2⟩
    · have hend : Hid (badAt xs 0 = -1) := Lib.hid (by rw [HB.out, List.drop_eq_nil_of_le (by omega)]; rfl)
      clear HB
      go_wp2
      go_ret
      exact ⟨ret_int (by rw [hend.out]), hb⟩

set_option maxHeartbeats 1000000 in
theorem anyBad_any (b c : Nat) (xs : List ByteArray) (w : World) (hx : StrRow w b 0 xs) (hm : xs.length ≤ 1000000) (hlen : ∀ x ∈ xs, x.size ≤ maxLen) :
    Calls Tryz.prog 106 #[.slice (some ⟨b, 0, none⟩) xs.length c, .func (.func 107) #[] #[]] w fun r w' => r = .returned (.bool (xs.any fun x => !compB x.data.toList)) ∧ Below w.heap.size w w' := by
  have HI := Lib.hid (indexBad_any b c xs w hx hm hlen)
  have hiff := badAt_all xs 0
  have hd : (xs.any fun x => !compB x.data.toList) = decide (0 ≤ badAt xs 0) := by
    rw [Bool.eq_iff_iff, decide_eq_true_eq]; exact hiff.symm
  rw [hd]
  clear hiff hd hx hlen
  generalize badAt xs 0 = n at HI ⊢
  go_enter Tryz.func106, Tryz.ntmps106
  go_wp2_with fail
  refine HI.out.mono ?_
  rintro r w' ⟨rfl, hb⟩
  go_wp2
  go_ret
  exact ⟨by simp, hb⟩

set_option maxHeartbeats 1000000 in
theorem dots_any (s : ByteArray) (w : World) (hG : Gl w) (hs : s.size < 4294967281) :
    Calls Tryz.prog 105 #[.string s] w fun r w' => r = .returned (.slice (some ⟨w.heap.size, 0, none⟩) (splitS 46 s).length (splitS 46 s).length) ∧ w.alloc (.cells ((splitS 46 s).map Value.string).toArray 9) = w' := by
  go_enter Tryz.func105, Tryz.ntmps105
  go_wp2_with fail
  refine (split_any 46 s w hG hs).mono ?_
  rintro r w' ⟨rfl, rfl⟩
  go_wp2
  go_ret
  exact ⟨rfl, rfl⟩

theorem splitL_le (c : UInt8) : ∀ l : List UInt8, ∀ x ∈ splitL c l, x.length ≤ l.length
  | [], x, hx => by simp [splitL] at hx; simp [hx]
  | b :: l, x, hx => by
    have ih := splitL_le c l
    unfold splitL at hx
    split at hx
    · simp only [List.mem_cons] at hx
      rcases hx with rfl | hx
      · simp
      · have := ih x hx; simp; omega
    · split at hx
      · rename_i h t e
        rw [e] at ih
        simp only [List.mem_cons] at hx
        rcases hx with rfl | hx
        · have := ih h (by simp); simp; omega
        · have := ih x (by simp [hx]); simp; omega
      · simp at hx; subst hx; simp
theorem splitS_le (c : UInt8) (s : ByteArray) : ∀ x ∈ splitS c s, x.size ≤ s.size := by
  intro x hx
  unfold splitS at hx
  obtain ⟨l, hl, rfl⟩ := List.mem_map.1 hx
  rw [str_size, ← size_list]
  exact splitL_le c _ l hl

set_option maxRecDepth 100000 in
set_option maxHeartbeats 1000000 in
theorem nameCheck_any (s : ByteArray) (w : World) (hG : Gl w) (hs : s.size ≤ maxLen) :
    Calls Tryz.prog 72 #[.string s] w fun r w' => r = .returned (.int .i64 (nameErr s)) ∧ Below w.heap.size w w' := by
  unfold maxLen at hs
  unfold nameErr
  by_cases h80 : 80 < s.size
  · rw [if_pos h80]
    have h80' : (80 : Int) < (s.size : Int) := by omega
    go_enter Tryz.func72, Tryz.ntmps72
    go_wp2
    go_ret
    exact ⟨rfl, Below.refl _ _⟩
  · rw [if_neg h80]
    have h80' : ¬ (80 : Int) < (s.size : Int) := by omega
    have hle := splitS_le 46 s
    have hln := splitS_len 46 s
    have hD := Lib.hid (dots_any s w hG (by omega))
    have hbw : Below w.heap.size w (w.alloc (.cells ((splitS 46 s).map Value.string).toArray 9)) := (Below.refl _ _).alloc (Nat.le_refl _) _
    have hA := anyBad_any w.heap.size (splitS 46 s).length (splitS 46 s) (w.alloc (.cells ((splitS 46 s).map Value.string).toArray 9)) (split_row w _ _) (by omega) (fun x hx => by have := hle x hx; unfold maxLen; omega)
    have hm : (splitS 46 s).length ≤ 81 := by omega
    generalize splitS 46 s = xs at hD hA hbw hm ⊢
    generalize (xs.any fun x => !compB x.data.toList) = b at hA ⊢
    generalize xs.length = n at hD hA hm ⊢
    have HA := Lib.hid hA
    have HB := Lib.hid hbw
    clear hA hbw hle hln
    cases b with
    | true =>
      go_enter Tryz.func72, Tryz.ntmps72
      go_wp2_with fail
      refine hD.out.mono ?_
      rintro r w' ⟨rfl, rfl⟩
      go_wp2_with fail
      refine HA.out.mono ?_
      rintro r w' ⟨rfl, hb⟩
      go_wp2
      go_ret
      exact ⟨rfl, HB.out.trans (hb.mono HB.out.size)⟩
    | false =>
      by_cases h10 : 10 < n
      · have h10' : (10 : Int) < (n : Int) := by omega
        rw [if_pos h10]
        go_enter Tryz.func72, Tryz.ntmps72
        go_wp2_with fail
        refine hD.out.mono ?_
        rintro r w' ⟨rfl, rfl⟩
        go_wp2_with fail
        refine HA.out.mono ?_
        rintro r w' ⟨rfl, hb⟩
        go_wp2
        go_ret
        exact ⟨rfl, HB.out.trans (hb.mono HB.out.size)⟩
      · have h10' : ¬ (10 : Int) < (n : Int) := by omega
        rw [if_neg h10]
        go_enter Tryz.func72, Tryz.ntmps72
        go_wp2_with fail
        refine hD.out.mono ?_
        rintro r w' ⟨rfl, rfl⟩
        go_wp2_with fail
        refine HA.out.mono ?_
        rintro r w' ⟨rfl, hb⟩
        go_wp2
        go_ret
        exact ⟨rfl, HB.out.trans (hb.mono HB.out.size)⟩

end Go.Proofs.YtdjaphcelpchaaaGreatDoor

/- (overview.Line).clone: a copy whose references lie in a block of their own. -/
namespace Go.Proofs.YtdjaphcelpchaaaGreatDoor
open Go Go.RowKit Go.Proofs

attribute [local go_sem ↓] ex_load_id ex_store_id ex_load_line ex_store_line ex_alloc_line ex_build_line
attribute [local go_sem] ld_id st_id ld_line st_line guard_id okCells_drew rdCells_drew okCells_drewN rdCells_drewN rowOk_drew rowOk_cells okCells_cells rdCells_cells setRow_drew setRow_new setRow_past

/-- The references of a line as a row of their own: nil, or the head of a block at or beyond a number. -/
def IdsOwn (B : Nat) (w : World) (v : Value) (ids : List Id32) : Prop := w.ownsRow B 23 32 v ids.length (flatIds ids)
theorem IdsOwn.at {B : Nat} {w : World} {v : Value} {ids : List Id32} (h : IdsOwn B w v ids) : IdsAt w v ids := idsAt_own h
theorem IdsOwn.mono {B B' : Nat} {w : World} {v : Value} {ids : List Id32} (h : IdsOwn B w v ids) (hB : B' ≤ B) : IdsOwn B' w v ids := by
  refine ⟨h.1, ?_⟩
  rcases h.2 with h0 | ⟨g, cap, cur, e, hg, hr⟩
  · exact .inl h0
  · exact .inr ⟨g, cap, cur, e, Nat.le_trans hB hg, hr⟩
theorem IdsOwn.block {B : Nat} {w w' : World} {v : Value} {ids : List Id32} (h : IdsOwn B w v ids) (hk : ∀ k, v.ownBlock = some k → w'.heap[k]? = w.heap[k]?) : IdsOwn B w' v ids := by
  refine ⟨h.1, ?_⟩
  rcases h.2 with h0 | ⟨g, cap, cur, e, hg, hcur, hr⟩
  · exact .inl h0
  · exact .inr ⟨g, cap, cur, e, hg, (hk g (by rw [e]; rfl)).trans hcur, hr⟩
theorem IdsOwn.lt {B : Nat} {w : World} {v : Value} {ids : List Id32} (h : IdsOwn B w v ids) {k : Nat} (hk : v.ownBlock = some k) : B ≤ k ∧ k < w.heap.size := World.ownsRow.lt h k hk
theorem IdsOwn.below {B : Nat} {w w' : World} {v : Value} {ids : List Id32} (h : IdsOwn B w v ids) (hb : Below w.heap.size w w') : IdsOwn B w' v ids := h.block fun k hk => hb.block k (h.lt hk).2
theorem IdsOwn.one {B : Nat} {w : World} {v : Value} {ids : List Id32} (h : IdsOwn B w v ids) : v.oneCell' = true := h.at.one

theorem cloneIds_any (B : Nat) (v : Value) (ids : List Id32) (w : World) (h : IdsOwn B w v ids) (hn : ids.length ≤ 1000000) :
    Calls Tryz.prog 104 #[v] w fun r w' => ∃ v', r = .returned v' ∧ IdsOwn w.heap.size w' v' ids ∧ Below w.heap.size w w' := by
  obtain ⟨i0, hi, hz0, hz1, hz2⟩ := info_parts Tryz.info_id
  rcases h.2 with ⟨rfl, h0⟩ | ⟨g, cap, cur, rfl, hg, hcur, hle, hmx, hcs, htk⟩
  · refine (AnyE.slices_Clone_nil Tryz.cloneId 0 0 w).mono ?_
    rintro r w' ⟨rfl, rfl⟩
    obtain rfl : ids = [] := List.length_eq_zero_iff.1 h0
    exact ⟨_, rfl, World.ownsRow_nil _ _ _ _, Below.refl _ _⟩
  · refine (AnyE.slices_Clone Tryz.cloneId i0 (.agg (encId zeroId).toArray) 32 32 hi hz0 hz1 hz2 (encId_size zeroId) (by decide) Tryz.sizeOf23 g 0 ids.length cap (flatIds ids) w h.1 (by unfold maxLen; omega) (by omega) (fun j u hj => ?_) (flat_one ids)).mono ?_
    · have := World.ownsRow.cells h (g := g) rfl j u hj
      rwa [Addr.add_lit] at this
    · rintro r w' ⟨v', rfl, hown, _, hb⟩
      exact ⟨v', rfl, hown, hb⟩

set_option maxRecDepth 100000 in
set_option maxHeartbeats 1000000 in
theorem clone_any (B : Nat) (g : GLine) (ids : List Id32) (w : World) (h : IdsOwn B w g.refs ids) (hn : ids.length ≤ 1000000) :
    Calls Tryz.prog 70 #[.agg (lineCells g)] w fun r w' => ∃ v, r = .returned (.agg (lineCells { g with refs := v })) ∧ IdsOwn w.heap.size w' v ids ∧ Below w.heap.size w w' := by
  obtain ⟨W0, hW0⟩ : ∃ W0, W0 = (w.alloc (.cells (lineCells g) 34)).alloc (.cells (lineCells zeroLine) 34) := ⟨_, rfl⟩
  have hs0 : W0.heap.size = w.heap.size + 2 := by rw [hW0]; simp
  have hb0 : Below w.heap.size w W0 := by rw [hW0]; exact ((Below.refl _ _).alloc (Nat.le_refl _) _).alloc (by simp) _
  have hV0 : LineVar W0 w.heap.size g := by
    unfold LineVar
    rw [hW0, heap_alloc_old _ _ (by simp), heap_alloc_new]
  have hZ0 : LineVar W0 (w.heap.size + 1) zeroLine := by
    unfold LineVar
    have := heap_alloc_new (w.alloc (.cells (lineCells g) 34)) (.cells (lineCells zeroLine) 34)
    rw [hW0]
    simpa using this
  have hcl := cloneIds_any B g.refs ids W0 (h.below hb0) hn
  have c36 : W0.cell? ⟨w.heap.size, 36, none⟩ = some g.refs := (hV0.cell 36).trans (lc36 g)
  have HC := Lib.hid hcl
  have HV := Lib.hid hV0
  have HZ := Lib.hid hZ0
  have HB := Lib.hid hb0
  clear hcl hV0 hZ0 hb0
  go_enter Tryz.func70, Tryz.ntmps70
  rw [hW0] at c36
  go_wp2_with fail
  rw [← hW0]
  clear c36 hW0
  refine HC.out.mono ?_
  rintro r w1 ⟨v, rfl, hI, hb1⟩
  have hone := hI.one
  obtain ⟨va, vn, vc, hv⟩ : ∃ a n c, v = .slice a n c := by obtain ⟨a, c, e, _⟩ := hI.at; exact ⟨a, _, c, e⟩
  have hV1 : LineVar w1 w.heap.size g := HV.out.below hb1 (by omega)
  have hZ1 : LineVar w1 (w.heap.size + 1) zeroLine := HZ.out.below hb1 (by omega)
  have hB1 : Below w.heap.size w w1 := HB.out.trans (hb1.mono HB.out.size)
  have hV2 := hV1.set 36 v (set_refs g v)
  have hZ2 : LineVar (w1.setCell ⟨w.heap.size, 36, none⟩ v) (w.heap.size + 1) zeroLine := hZ1.grown (grown_set w1 w.heap.size 36 v) (by simp)
  have hI2 : IdsOwn W0.heap.size (w1.setCell ⟨w.heap.size, 36, none⟩ v) v ids := hI.block fun k hk => heap_setCell_other w1 ⟨w.heap.size, 36, none⟩ k v (by have := (hI.lt hk).1; simp; omega)
  have hB2 : Below w.heap.size w (w1.setCell ⟨w.heap.size, 36, none⟩ v) := hB1.setCell (Nat.le_refl _) v
  have hc := (hV1.cell 36).trans (lc36 g)
  have hf := hV1.free 36
  have ho2 := hV2.rd.1
  have hr2 := hV2.rd.2
  have hro := hZ2.row
  have hft := fits_line (g := { g with refs := v }) hone
  have HV2 := Lib.hid hV2
  have HZ2 := Lib.hid hZ2
  have HI2 := Lib.hid hI2
  have HB2 := Lib.hid hB2
  clear hV1 hZ1 hB1 hV2 hZ2 hI2 hB2 hI hb1 HC HV HZ HB h
  subst hv
  go_wp2
  refine bodyPost_ret (v := .agg (lineCells { g with refs := .slice va vn vc })) ?_ rfl ⟨_, rfl, ?_, below_grown HB2.out (grown_row _ _ _) HB2.out.size (by omega)⟩
  · exact results_agg1 rfl Tryz.isAgg34 Tryz.sizeOf34 _ _ ⟨w.heap.size + 1, 0, none⟩ _ rfl (HZ2.out.blk.setRow.rd.1) (HZ2.out.blk.setRow.rd.2)
  · refine (HI2.out.mono (by omega)).block fun k hk => (grown_row _ (w.heap.size + 1) _).block k (HI2.out.lt hk).2 ?_
    intro e
    have := (HI2.out.lt hk).1
    cases e
    omega

end Go.Proofs.YtdjaphcelpchaaaGreatDoor
