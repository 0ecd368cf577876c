/- Parts of the proofs about bulletinlaw28: RPartRefs, RPart, RParse, Build, Back, Own, Same, Plain, Inv, LawCheck, Maps, Known, Check, Clone, Insert, Add0, Knows, Join. -/
import Derived.Test.YtdjaphcelpchaaaGreatDoorShelf
import Derived.Test.YtdjaphcelpchaaaGreatDoorK1
import Derived.Test.YtdjaphcelpchaaaGreatDoorK2
import Derived.Test.YtdjaphcelpchaaaGreatDoorShelf2
import Derived.Deep.QuietTactic
import Derived.WalkSpells
import Derived.Outline
import Derived.Carry
import Derived.WideMake
import Derived.RangeFuncRecord
import Derived.Deep.CutBlock
import Derived.Test.YtdjaphcelpchaaaGreatDoorCards
import Derived.Test.YtdjaphcelpchaaaGreatDoorTie
import Derived.ProofKit
import Derived.OpenShut
import Derived.Lay
import Derived.LaidSub
import Derived.Deep.DeepHandedRow
import Derived.Lib.LaidTab
import Derived.Shelf.Vars

namespace Go.Proofs.YtdjaphcelpchaaaGreatDoor
open Go Go.RowKit Go.Proofs

attribute [local go_sem ↓] ex_load_id ex_store_id ex_alloc_id ex_build_id ex_bs_id

attribute [local go_sem] ld_id st_id bs_id guard_id okCells_drew rdCells_drew okCells_drewN rdCells_drewN rowOk_drew rowOk_cells okCells_cells rdCells_cells okArr_id rdArr_id setRow_drew setRow_new setRow_past fits_id encId_length

set_option maxRecDepth 100000 in
set_option maxHeartbeats 2000000 in
theorem partRefs_some (lb t : Nat) (cs : Array Value) (p : ByteArray) (w : World) (hblk : w.heap[lb]? = some (.cells cs t (0, 0))) (h37 : cs[37]? = some (.slice none 0 0)) (hp : p.size < 4294967281) (hne : p.size ≠ 0) :
    Calls Tryz.prog 64 #[.pointer (some ⟨lb, 0, none⟩), .int .i64 5, .string p] w fun r w' => r = .returned (.int .i64 (refsPart p)) ∧ w.grownBy w' (some lb) ∧ ∃ v, w'.heap[lb]? = some (.cells (cs.setIfInBounds 37 v) t (0, 0)) ∧ v.oneCell' = true ∧ (∀ b, v.ownBlock = some b → w.heap.size ≤ b) ∧ (refsPart p = 0 → IdsAt w' v (refIds p)) := by
  have hoff : 37 < cs.size := (Array.getElem?_eq_some_iff.1 h37).1
  have hlb : lb < w.heap.size := (Array.getElem?_eq_some_iff.1 hblk).1
  obtain ⟨i0, hi, hz0, hz1, hz2⟩ := info_parts Tryz.info_id
  have hT : refTexts p = splitL 44 p.data.toList := by unfold refTexts; rw [if_neg hne]
  have hlen : (splitS 44 p).length = (refTexts p).length := by rw [hT]; simp [splitS]
  have hlen2 := (splitS_len 44 p).2
  have hlen1 := (splitS_len 44 p).1
  have hpe : p.toList.isEmpty = false := by
    rw [ByteArray.toList_eq, List.isEmpty_eq_false_iff, ← List.length_pos_iff, size_list]; omega
  have HPE := Lib.hid hne
  obtain ⟨T, hTT⟩ : ∃ T, T = refTexts p := ⟨_, rfl⟩
  rw [← hTT] at hlen
  obtain ⟨n, hn⟩ : ∃ n, n = (splitS 44 p).length := ⟨_, rfl⟩
  have HS := Lib.hid (show splitS 44 p = T.map str by rw [hTT, hT]; rfl)
  have HT := Lib.hid hTT
  have HN := Lib.hid hn
  have HNT := Lib.hid (hn.trans hlen)
  have hn32 : n ≤ 4294967281 := by omega
  have hn1 : 1 ≤ n := by omega
  have HBLK := Lib.hid hblk
  have H37 := Lib.hid h37
  clear hT hTT hblk h37 hlen hlen2 hlen1 hne
  go_enter Tryz.func64, Tryz.ntmps64
  go_wp2_with fail
  refine (parts_any p 44 w (by omega)).mono ?_
  rintro r w1 ⟨vp, rfl, hown1, hb1⟩
  rw [← HN.out, HS.out] at hown1
  obtain ⟨pb, pcap, hvp, hpb, hpb1, hncap⟩ : ∃ pb pcap, vp = .slice (some ⟨pb, 0, none⟩) n pcap ∧ w.heap.size ≤ pb ∧ pb < w1.heap.size ∧ n ≤ pcap := by
    rcases hown1.2 with ⟨_, h0⟩ | ⟨g, cap, cur, e, hg, hcur, hle, _⟩
    · omega
    · exact ⟨g, cap, e, hg, (Array.getElem?_eq_some_iff.1 hcur).1, hle⟩
  subst hvp
  have hrow : ∀ k, (h : k < T.length) → w1.cell? ⟨pb, k, none⟩ = some (.string (str T[k])) := fun k h => by
    rw [hown1.cellAt k (by rw [HNT.out]; omega)]
    simp [h]
  have hblk1 : w1.heap[lb]? = some (.cells cs t (0, 0)) := (hb1.block lb hlb).trans HBLK.out
  have hs1 : w.heap.size < w1.heap.size := by omega
  have hset0 : cs.setIfInBounds 37 (.slice none 0 0) = cs := by
    obtain ⟨h1, h2⟩ := Array.getElem?_eq_some_iff.1 H37.out
    apply Array.ext_getElem?
    intro j
    rw [Array.getElem?_setIfInBounds]
    split
    · rename_i e; subst e; exact H37.out.symm
    · rfl
  clear hn hown1
  go_wp2
  go_loopw [7, 9] (fun o i wr => ∃ k v, k ≤ n ∧ i = .int .i64 (k : Nat) ∧ RefsLoop w1 wr lb 37 t cs T k v ∧ o = .bool ((T.take k).all idOk)) (fun _ i _ => n - (intOf i).toNat)
  case atStart => exact ⟨0, .slice none 0 0, by omega, rfl, ⟨by rw [hset0]; exact hblk1, World.ownsRow_nil _ _ _ _, grown_refl _ _⟩, rfl⟩
  case round =>
    obtain ⟨k, v, hk, rfl, hL, rfl⟩ := hrel
    obtain ⟨bo, hbo⟩ : ∃ bo, bo = (T.take k).all idOk := ⟨_, rfl⟩
    rw [← hbo]
    have HBO := Lib.hid hbo
    clear hbo
    have hlb1 : lb < w1.heap.size := by omega
    by_cases hlt : k < n
    · have hltz : (k : Int) < (n : Int) := by omega
      have hkT : k < T.length := by rw [← HNT.out]; exact hlt
      have htext : wr.cell? ⟨pb, k, none⟩ = some (.string (str T[k])) := by
        rw [← hrow k hkT]
        unfold World.cell?
        rw [hL.grown.block pb hpb1 (by simp; omega)]
      obtain ⟨X, hX⟩ : ∃ X, X = str T[k] := ⟨_, rfl⟩
      rw [← hX] at htext
      have hXs : X.size ≤ maxLen := by
        have h1 := splitL_part 44 p.data.toList T[k] (by
          have h0 : T[k] ∈ T := List.getElem_mem hkT
          have h2 : T = splitL 44 p.data.toList := by rw [HT.out, refTexts, if_neg HPE.out]
          exact h2 ▸ h0)
        rw [size_list] at h1
        rw [hX, str_size, maxLen]; omega
      have HX := Lib.hid hX
      clear hX
      have hcv := hL.cell hoff
      have hfv : wr.frozen? ⟨lb, 37, none⟩ = false := frozen_of_row wr lb 37 _ _ hL.blk
      go_wp2_with fail
      refine (identity_any X wr hXs).mono ?_
      rintro r w2 ⟨rfl, hb2⟩
      have HAL := Lib.hid (show (T.take (k + 1)).all idOk = (bo && idOk X.data.toList) by
        rw [List.take_succ_eq_append_getElem hkT, List.all_append, HBO.out, HX.out]; simp [str])
      generalize idOk X.data.toList = io at HAL ⊢
      have hbz : ∀ b, b < wr.heap.size → (w2.alloc (.cells (encId (idVal X.data.toList)).toArray 23)).drew.heap[b]? = wr.heap[b]? := fun b hb => by
        show (w2.alloc _).heap[b]? = _
        rw [heap_alloc_old _ _ (Nat.lt_of_lt_of_le hb hb2.size), hb2.block b hb]
      have hlbr : lb < wr.heap.size := (Array.getElem?_eq_some_iff.1 hL.blk).1
      have hbase : (w2.alloc (.cells (encId (idVal X.data.toList)).toArray 23)).drew.cell? ⟨lb, 37, none⟩ = some v ∧ okCells (w2.alloc (.cells (encId (idVal X.data.toList)).toArray 23)).drew ⟨w2.heap.size, 0, none⟩ 32 = true ∧ rdCells (w2.alloc (.cells (encId (idVal X.data.toList)).toArray 23)).drew ⟨w2.heap.size, 0, none⟩ 32 = (encId (idVal X.data.toList)).toArray := by
        refine ⟨?_, ok_new_id _ _ _, rd_new_id _ _ _⟩
        rw [← hcv]
        unfold World.cell?
        rw [hbz lb hlbr]
      haveI : Nonempty (RefC lb 37 w2.heap.size v (idVal X.data.toList)) := ⟨⟨_, hbase⟩⟩
      have hz1' : ∀ z : RefC lb 37 w2.heap.size v (idVal X.data.toList), z.1.cell? ⟨lb, 37, none⟩ = some v := fun z => z.2.1
      have hz2' : ∀ z : RefC lb 37 w2.heap.size v (idVal X.data.toList), okCells z.1 ⟨w2.heap.size, 0, none⟩ 32 = true := fun z => z.2.2.1
      have hz3' : ∀ z : RefC lb 37 w2.heap.size v (idVal X.data.toList), rdCells z.1 ⟨w2.heap.size, 0, none⟩ 32 = (encId (idVal X.data.toList)).toArray := fun z => z.2.2.2
      cases bo <;> cases io
      all_goals (
      go_wp2_with fail
      refine wp_region_mix0 [0, 1, 2, 3, 4, 5] [6, 7, 8, 9, 10] (fun w' => ∃ z : RefC lb 37 w2.heap.size v (idVal X.data.toList), w' = z.1) (by kernel_rfl) (by kernel_rfl) (by kernel_rfl) ⟨⟨_, hbase⟩, rfl⟩ ?_
      simp only [opsAt, List.map_cons, List.map_nil, Array.getD_eq_getD_getElem?, List.getElem?_toArray, List.getElem?_cons_zero, List.getElem?_cons_succ, Option.getD_some]
      repeat (go_big_quiet_step (fail))
      refine wpQuiet_nil ?_
      generalize hW0 : (w2.alloc (.cells (encId (idVal X.data.toList)).toArray 23)).drew = W at hbz hbase ⊢
      have hW := hW0.symm
      clear hW0
      refine wpR_cons true rfl (by kernel_rfl) ?_
      refine wpList_buildSlice rfl 24 23 1 _ rfl (encId (idVal X.data.toList)).toArray i0 _ Tryz.underlying24 hi hz0 (by rw [hz1]; decide) (by rw [hz1]; decide) (by rw [hz1]; simp only [List.map_toArray, List.map_cons, List.map_nil]; refine fill_one _ _ 32 (encId_size _) ?_; rw [Array.size_map, Array.size_range]) ?_
      clear hz1' hz2' hz3'
      go_wp2_with fail
      have hWs : wr.heap.size < W.heap.size := by have := hb2.size; rw [hW]; simp [World.drew]; omega
      have hownW : W.ownsRow w1.heap.size 23 32 v k (flatIds ((T.map idVal).take k)) := by rw [hW]; exact ((ownsRow_below hL.own hb2).alloc _).drew
      have hgW : wr.grownBy W none := by
        refine ⟨?_, ?_, ?_, by omega, fun b hb _ => hbz b hb⟩
        · rw [hW]; exact hb2.os
        · rw [hW]; exact hb2.tape
        · rw [hW]; exact hb2.output
      have hownA := hownW.alloc (.cells (encId (idVal X.data.toList)).toArray 23)
      have HW := Lib.hid hW
      clear hW
      refine ⟨fun _ => RefC.same hbase (heap_alloc_old _ _ (show lb < W.heap.size by omega)) (heap_alloc_old _ _ (show w2.heap.size < W.heap.size by rw [HW.out]; simp [World.drew])), wpR_cons true rfl (by kernel_rfl) ?_⟩
      have hW1 : w1.heap.size ≤ W.heap.size := by have := hL.grown.size; omega
      refine wpList_append_own _ rfl (.tmp 126) (.tmp 128) 24 rfl w1.heap.size 23 i0 (.agg (encId zeroId).toArray) 32 32 Tryz.underlying24 hi hz0 hz1 hz2 (encId_size zeroId) (by decide) _ _ _ rfl hownA ⟨W.heap.size, 0, none⟩ 1 1 (encId (idVal X.data.toList)) rfl (encId_length _) ?c1 ?c2 ?c3 ?c4 ?c5 ?_
      case c1 =>
        intro j u hj
        rw [Addr.add_lit, Nat.zero_add, cells_new, List.getElem?_toArray]; exact hj
      case c2 => exact encId_oneCell _
      case c3 => unfold maxLen; omega
      case c4 => omega
      case c5 => simp; omega
      intro v' w3 hown' hgrow _
      have hne : v.ownBlock ≠ some lb := fun e => by have := (hL.own.lt lb e).1; omega
      have hlt' := Lib.hid hown'.lt
      obtain ⟨g', cap', hv'⟩ : ∃ g' cap', v' = .slice (some ⟨g', 0, none⟩) (k + 1) cap' := by
        rcases hown'.2 with ⟨_, h0⟩ | ⟨g', cap', _, e, _⟩
        · omega
        · exact ⟨g', cap', e⟩
      subst hv'
      have hblk3 : w3.heap[lb]? = some (.cells (cs.setIfInBounds 37 v) t (0, 0)) := by
        rw [hgrow.block lb (by simp; omega) (fun e => hne e.symm), heap_alloc_old _ _ (by omega), hbz lb hlbr]
        exact hL.blk
      have hc3 : w3.cell? ⟨lb, 37, none⟩ = some v := by rw [cell_of_row w3 lb 37 _ _ _ hblk3]; simp [hoff]
      have hf3 : w3.frozen? ⟨lb, 37, none⟩ = false := frozen_of_row w3 lb 37 _ _ hblk3
      have hL' : RefsLoop w1 (w3.setCell ⟨lb, 37, none⟩ (.slice (some ⟨g', 0, none⟩) (k + 1) cap')) lb 37 t cs T (k + 1) (.slice (some ⟨g', 0, none⟩) (k + 1) cap') := by
        refine ⟨?_, ?_, ?_⟩
        · rw [heap_setCell_same w3 lb 37 _ _ _ hblk3, Array.setIfInBounds_setIfInBounds]
        · have hfl : flatIds ((T.map idVal).take (k + 1)) = flatIds ((T.map idVal).take k) ++ encId (idVal X.data.toList) := by
            rw [take_texts hkT, flat_snoc, HX.out]; rfl
          rw [hfl]
          exact hown'.kept (grown_set w3 lb 37 _) (Or.inr fun e => by have := (hlt'.out lb e).1; omega)
        · have hsz := hgrow.size
          have hg1 := hL.grown
          refine ⟨?_, ?_, ?_, ?_, fun b hb hnb => ?_⟩
          · exact hgrow.os.trans (hgW.os.trans hg1.os)
          · exact hgrow.tape.trans (hgW.tape.trans hg1.tape)
          · exact hgrow.output.trans (hgW.output.trans hg1.output)
          · simp [World.setCell] at hsz ⊢; omega
          · rw [heap_setCell_other w3 ⟨lb, 37, none⟩ b _ (fun e => hnb (by rw [e])), hgrow.block b (by simp; omega) (fun e => by have := (hL.own.lt b e.symm).1; omega), heap_alloc_old _ _ (by omega), hbz b (by have := hg1.size; omega)]
            exact hg1.block b hb hnb
      have HL' := Lib.hid hL'
      have hC3 : ∃ z : RefC lb 37 w2.heap.size v (idVal X.data.toList), w3 = z.1 := by
        have hWw2 : w2.heap.size < W.heap.size := by rw [HW.out]; simp [World.drew]
        refine RefC.same hbase ?_ ?_
        · rw [hblk3, hbz lb hlbr, hL.blk]
        · rw [hgrow.block w2.heap.size (by simp; omega) (fun e => by have := (hL.own.lt _ e.symm).2; have := hb2.size; omega), heap_alloc_old _ _ hWw2]
      have HC3 := Lib.hid hC3
      clear hC3 hL' hown' hgrow hownA hownW hgW hbase hbz hL hblk3
      go_wp2_with fail
      refine ⟨fun _ => HC3.out, wpR_list [8, 9, 10] _ _ (by kernel_rfl) ?_⟩
      simp only [opsAt, List.map_cons, List.map_nil, Array.getD_eq_getD_getElem?, List.getElem?_toArray, List.getElem?_cons_zero, List.getElem?_cons_succ, Option.getD_some]
      go_wp2
      refine NoPanic.normal ?_
      go_wp2
      go_roundw
      case rel => exact ⟨k + 1, _, by omega, by go_num, HL'.out, by rw [HAL.out]; rfl⟩
      case measure => simp [intOf]; omega)
    · obtain rfl : k = n := by omega
      have hcv := hL.cell hoff
      have hTk : T.take k = T := List.take_of_length_le (by rw [← HNT.out]; omega)
      have hids := idsAt_own (w := wr) (B := w1.heap.size) (v := v) (ids := (T.map idVal).take k) (by
        have : ((T.map idVal).take k).length = k := by rw [List.length_take, List.length_map, ← HNT.out]; omega
        rw [this]; exact hL.own)
      have hIk : (T.map idVal).take k = T.map idVal := List.take_of_length_le (by rw [List.length_map, ← HNT.out]; omega)
      rw [hIk] at hids
      have HI := Lib.hid hids
      have hbo2 : bo = T.all idOk := by rw [HBO.out, hTk]
      have hri : refIds p = T.map idVal := by unfold refIds; rw [← HT.out]
      have hne' : ∀ b, v.ownBlock = some b → w.heap.size ≤ b := fun b e => by have := (hL.own.lt b e).1; omega
      have hone := own_one hL.own
      cases bo with
      | false =>
        have hrp : refsPart p = 3 := by unfold refsPart; rw [← HT.out, ← hbo2]; rfl
        have HF := Lib.hid (show (wr.heap[lb]? = some (.cells (cs.setIfInBounds 37 v) t (0, 0)) ∧ v.oneCell' = true ∧ (∀ b, v.ownBlock = some b → w.heap.size ≤ b) ∧ refsPart p = 3 ∧ w.grownBy wr (some lb)) from ⟨hL.blk, hone, hne', hrp, grown_trans (grown_below hb1 _) hL.grown⟩)
        clear hbo2 hri hne' hone hrp hids hL hcv
        go_wp2
        go_ret
        obtain ⟨f1, f2, f3, f4, f5⟩ := HF.out
        exact ⟨by rw [f4]; rfl, f5, v, f1, f2, f3, fun e => by rw [f4] at e; cases e⟩
      | true =>
        have hrp : refsPart p = refsErr (T.map idVal) := by unfold refsPart; rw [← HT.out, ← hbo2, hri]; rfl
        have HF := Lib.hid (show (wr.heap[lb]? = some (.cells (cs.setIfInBounds 37 v) t (0, 0)) ∧ v.oneCell' = true ∧ (∀ b, v.ownBlock = some b → w.heap.size ≤ b) ∧ refsPart p = refsErr (T.map idVal) ∧ w.grownBy wr (some lb) ∧ refIds p = T.map idVal) from ⟨hL.blk, hone, hne', hrp, grown_trans (grown_below hb1 _) hL.grown, hri⟩)
        clear hbo2 hri hne' hone hrp hids hL
        go_wp2_with fail
        refine (refs_any v _ wr HI.out (by rw [List.length_map, ← HNT.out, maxLen]; omega)).mono ?_
        rintro r w2 ⟨rfl, q, hq⟩
        have hbq := Lib.hid (show Below wr.heap.size wr w2 from ⟨by rw [hq]; rfl, by rw [hq]; rfl, by rw [hq]; rfl, by rw [hq]; exact Nat.le_refl _, fun _ _ => by rw [hq]; rfl⟩)
        clear hq
        go_wp2
        go_ret
        obtain ⟨f1, f2, f3, f4, f5, f6⟩ := HF.out
        have hbq := hbq.out
        exact ⟨by rw [f4]; rfl, grown_trans f5 (grown_below hbq _), v, (hbq.block lb (Array.getElem?_eq_some_iff.1 f1).1).trans f1, f2, f3, fun _ => by rw [f6]; exact HI.out.below hbq⟩

set_option maxHeartbeats 1000000 in
theorem partRefs_any (lb t : Nat) (cs : Array Value) (p : ByteArray) (w : World) (hblk : w.heap[lb]? = some (.cells cs t (0, 0))) (h37 : cs[37]? = some (.slice none 0 0)) (hp : p.size < 4294967281) :
    Calls Tryz.prog 64 #[.pointer (some ⟨lb, 0, none⟩), .int .i64 5, .string p] w fun r w' => r = .returned (.int .i64 (refsPart p)) ∧ w.grownBy w' (some lb) ∧ ∃ v, w'.heap[lb]? = some (.cells (cs.setIfInBounds 37 v) t (0, 0)) ∧ v.oneCell' = true ∧ (∀ b, v.ownBlock = some b → w.heap.size ≤ b) ∧ (refsPart p = 0 → IdsAt w' v (refIds p)) := by
  by_cases hne : p.size = 0
  · have hpe : p.toList.isEmpty = true := by
      rw [ByteArray.toList_eq, List.isEmpty_iff, ← List.length_eq_zero_iff, size_list]; exact hne
    have HT := Lib.hid (show refTexts p = [] from if_pos hne)
    have HBLK := Lib.hid hblk
    have H37 := Lib.hid h37
    clear hne hblk h37
    go_enter Tryz.func64, Tryz.ntmps64
    go_wp2
    go_ret
    have hrp : refsPart p = 0 := by unfold refsPart refIds; rw [HT.out]; rfl
    have hset0 : cs.setIfInBounds 37 (.slice none 0 0) = cs := by
      apply Array.ext_getElem?
      intro j
      rw [Array.getElem?_setIfInBounds]
      split
      · rename_i e; subst e; rw [if_pos (Array.getElem?_eq_some_iff.1 H37.out).1]; exact H37.out.symm
      · rfl
    refine ⟨by rw [hrp]; rfl, grown_refl _ _, .slice none 0 0, by rw [hset0]; exact HBLK.out, rfl, fun b e => by simp [Value.ownBlock] at e, fun _ => ?_⟩
    have hri : refIds p = [] := by unfold refIds; rw [HT.out]; rfl
    rw [hri]
    exact ⟨none, 0, rfl, Nat.le_refl _, fun h => absurd rfl h⟩
  · exact partRefs_some lb t cs p w hblk h37 hp hne

end Go.Proofs.YtdjaphcelpchaaaGreatDoor

namespace Go.Proofs.YtdjaphcelpchaaaGreatDoor
open Go Go.RowKit Go.Proofs

attribute [local go_sem ↓] ex_load_id ex_store_id ex_alloc_id ex_build_id

attribute [local go_sem] ld_id st_id guard_id okCells_drew rdCells_drew okCells_drewN rdCells_drewN rowOk_drew rowOk_cells okCells_cells rdCells_cells okArr_id rdArr_id setRow_drew setRow_new setRow_past fits_id encId_length

def RVar (w : World) (lb : Nat) (s : ByteArray) (g : GLine) : Prop := w.heap[lb]? = some (.cells (rlineCells s g) 26 (0, 0))
theorem RVar.lt {w : World} {lb : Nat} {s : ByteArray} {g : GLine} (h : RVar w lb s g) : lb < w.heap.size := (Array.getElem?_eq_some_iff.1 h).1
theorem RVar.cell {w : World} {lb : Nat} {s : ByteArray} {g : GLine} (h : RVar w lb s g) (j : Nat) : w.cell? ⟨lb, j, none⟩ = (rlineCells s g)[j]? := cell_of_row w lb j _ _ _ h
theorem RVar.free {w : World} {lb : Nat} {s : ByteArray} {g : GLine} (h : RVar w lb s g) (j : Nat) : w.frozen? ⟨lb, j, none⟩ = false := frozen_of_row w lb j _ _ h
theorem RVar.grown {w w' : World} {lb : Nat} {s : ByteArray} {g : GLine} {row : Option Nat} (h : RVar w lb s g) (hg : w.grownBy w' row) (hne : some lb ≠ row) : RVar w' lb s g := (hg.block lb h.lt hne).trans h
theorem rset_succ (s : ByteArray) (g g' : GLine) (j : Nat) (v : Value) (h : (lineCells g).setIfInBounds j v = lineCells g') : (rlineCells s g).setIfInBounds (j + 1) v = rlineCells s g' := by
  unfold rlineCells lineCells at *
  rw [List.setIfInBounds_toArray] at h ⊢
  rw [List.set_cons_succ, List.toArray_inj h]
theorem RVar.set {w : World} {lb : Nat} {s : ByteArray} {g g' : GLine} (h : RVar w lb s g) (j : Nat) (v : Value) (e : (lineCells g).setIfInBounds j v = lineCells g') : RVar (w.setCell ⟨lb, j + 1, none⟩ v) lb s g' := by
  unfold RVar at *
  rw [heap_setCell_same w lb (j + 1) _ _ v h, rset_succ s g g' j v e]
theorem RVar.rd {w : World} {lb : Nat} {s : ByteArray} {g : GLine} (h : RVar w lb s g) : okCells w ⟨lb, 0, none⟩ 39 = true ∧ rdCells w ⟨lb, 0, none⟩ 39 = rlineCells s g := by
  have := rd_of_cells (w := w) (a := ⟨lb, 0, none⟩) (cs := Value.string s :: lineList g) (fun j v hj => by rw [Addr.add_lit, Nat.zero_add, h.cell j]; simpa [rlineCells] using hj)
  rwa [List.length_cons, lineList_length] at this
def RBlk (w : World) (lb : Nat) : Prop := ∃ cs, w.heap[lb]? = some (.cells cs 26 (0, 0)) ∧ cs.size = 39
theorem RVar.blk {w : World} {lb : Nat} {s : ByteArray} {g : GLine} (h : RVar w lb s g) : RBlk w lb := ⟨_, h, rlineCells_size s g⟩
theorem RBlk.row {w : World} {lb : Nat} (h : RBlk w lb) : rowOk w lb 39 = true := by
  obtain ⟨cs, h1, h2⟩ := h
  unfold rowOk; rw [h1]; simp [h2]
theorem RBlk.setRow {w : World} {lb : Nat} {s : ByteArray} {g' : GLine} (h : RBlk w lb) : RVar (w.setRow lb (rlineCells s g')) lb s g' := by
  obtain ⟨cs, h1, _⟩ := h
  exact setRow_heap w lb _ _ _ _ h1
theorem RBlk.grown {w w' : World} {lb : Nat} {row : Option Nat} (h : RBlk w lb) (hg : w.grownBy w' row) (hne : some lb ≠ row) : RBlk w' lb := by
  obtain ⟨cs, h1, h2⟩ := h
  exact ⟨cs, (hg.block lb (Array.getElem?_eq_some_iff.1 h1).1 hne).trans h1, h2⟩

def RSetPost (s : ByteArray) (g : GLine) (i : Nat) (p : ByteArray) (lb : Nat) (w w' : World) : Prop :=
  w.grownBy w' (some lb) ∧ RBlk w' lb ∧ (partErr i p = 0 → ∃ v, RVar w' lb s (setG g i p v) ∧ (i = 5 → v.oneCell' = true ∧ (∀ b, v.ownBlock = some b → w.heap.size ≤ b) ∧ IdsAt w' v (refIds p)))
theorem rpost_of {s : ByteArray} {g : GLine} {i : Nat} {p : ByteArray} {lb : Nat} {w w' : World} (hg : w.grownBy w' (some lb)) (hv : ∀ v, RVar w' lb s (setG g i p v)) (hi : i ≠ 5) : RSetPost s g i p lb w w' :=
  ⟨hg, (hv undef).blk, fun _ => ⟨undef, hv undef, fun e => absurd e hi⟩⟩
theorem rangeErr_in {n lo hi e : Int} (h1 : ¬ n < lo) (h2 : ¬ hi < n) : rangeErr n lo hi e = 0 := by unfold rangeErr; rw [if_neg (by omega)]
theorem rangeErr_out {n lo hi e : Int} (h : n < lo ∨ hi < n) : rangeErr n lo hi e = e := by unfold rangeErr; rw [if_pos h]

set_option maxHeartbeats 1000000 in
theorem rset0 (lb : Nat) (s : ByteArray) (g : GLine) (p : ByteArray) (w : World) (hv : RVar w lb s g) (hs : p.size ≤ maxLen) :
    Calls Tryz.prog 64 #[.pointer (some ⟨lb, 0, none⟩), .int .i64 0, .string p] w fun r w' => r = .returned (.int .i64 (partErr 0 p)) ∧ RSetPost s g 0 p lb w w' := by
  have hc := (hv.cell 1).trans (rc1 s g)
  have hf := hv.free 1
  have hblk := hv
  unfold RVar at hblk
  have hc2 : (w.setCell ⟨lb, 1, none⟩ (.int .i64 (numVal p.data.toList))).cell? ⟨lb, 1, none⟩ = some (.int .i64 (numVal p.data.toList)) :=
    ((hv.set 0 (.int .i64 (numVal p.data.toList)) (set_number g _)).cell 1).trans (rc1 _ _)
  have HP := Lib.hid (show RSetPost s g 0 p lb w (w.setCell ⟨lb, 1, none⟩ (.int .i64 (numVal p.data.toList))) from rpost_of (grown_set _ _ _ _) (fun v => hv.set 0 _ (set_number g _)) (by decide))
  clear hv hblk
  go_enter Tryz.func64, Tryz.ntmps64
  go_wp2_with fail
  refine (number_any p w hs).mono ?_
  rintro r w' ⟨rfl, rfl⟩
  have HE := Lib.hid (show partErr 0 p = numErr p.data.toList 1 2147483646 2 from rfl)
  unfold numErr at HE
  generalize numVal p.data.toList = m at HP HE hc2 ⊢
  by_cases hok : numOk p.data.toList = true
  · rw [hok] at HE ⊢
    clear hok
    by_cases h1 : (m : Int) < 1
    · have HF := Lib.hid (show partErr 0 p = 2 from HE.out.trans (rangeErr_out (Or.inl h1)))
      go_wp2
      go_ret
      exact ⟨ret_int HF.out.symm, HP.out⟩
    · by_cases h2 : 2147483646 < (m : Int)
      · have HF := Lib.hid (show partErr 0 p = 2 from HE.out.trans (rangeErr_out (Or.inr h2)))
        go_wp2
        go_ret
        exact ⟨ret_int HF.out.symm, HP.out⟩
      · have HF := Lib.hid (show partErr 0 p = 0 from HE.out.trans (rangeErr_in h1 h2))
        go_wp2
        go_ret
        exact ⟨ret_int HF.out.symm, HP.out⟩
  · have hok' : numOk p.data.toList = false := by simpa using hok
    rw [hok'] at HE ⊢
    clear hok hok'
    have HF := Lib.hid (show partErr 0 p = 3 from HE.out)
    go_wp2
    go_ret
    exact ⟨ret_int HF.out.symm, HP.out⟩

theorem rlineList_id (s : ByteArray) (g : GLine) (x : Id32) : (Value.string s :: lineList g).take 2 ++ encId x ++ (Value.string s :: lineList g).drop 34 = Value.string s :: lineList { g with id := x } := by
  simp [lineList, encId_length]
theorem st_rline_id (w : World) (lb : Nat) (s : ByteArray) (g : GLine) (x : Id32) (h : RVar w lb s g) : stRes Tryz.prog 23 w (.pointer (some ⟨lb, 2, none⟩)) (.agg (encId x).toArray) = .ok .skip (w.setRow lb (rlineCells s { g with id := x })) := by
  have h1 := run_storeCells_at Tryz.prog lb 2 26 (encId x) 0 (rlineCells s g) w h (by rw [encId_length, rlineCells_size]; omega) (encId_oneCell x)
  have e : ((rlineCells s g).toList.take (2 + 0) ++ encId x ++ (rlineCells s g).toList.drop (2 + 0 + (encId x).length)).toArray = rlineCells s { g with id := x } := by
    rw [encId_length]; exact congrArg List.toArray (rlineList_id s g x)
  rw [e] at h1
  unfold stRes
  rw [Sem.run_bind]
  have h2 : Sem.run Tryz.prog (Instr.storeAt 23 (.pointer (some ⟨lb, 2, none⟩)) (.agg (encId x).toArray)) w = .ok () (w.setRow lb (rlineCells s { g with id := x })) := by
    simp [Instr.storeAt, Instr.sureAddr, storeVar, Tryz.sizeOf23, Value.cells, encId_length, h1]
  rw [h2]; rfl

set_option maxRecDepth 100000 in
set_option maxHeartbeats 1000000 in
theorem rset1 (lb : Nat) (s : ByteArray) (g : GLine) (p : ByteArray) (w : World) (hv : RVar w lb s g) (hs : p.size ≤ maxLen) :
    Calls Tryz.prog 64 #[.pointer (some ⟨lb, 0, none⟩), .int .i64 1, .string p] w fun r w' => r = .returned (.int .i64 (partErr 1 p)) ∧ RSetPost s g 1 p lb w w' := by
  go_enter Tryz.func64, Tryz.ntmps64
  go_wp2_with fail
  refine (identity_any p w hs).mono ?_
  rintro r w2 ⟨rfl, hb2⟩
  have hv2 : RVar w2 lb s g := hv.grown (grown_below hb2 none) (by simp)
  have hst := st_rline_id _ lb s g (idVal p.data.toList) hv2
  have HP := Lib.hid (show RSetPost s g 1 p lb w (w2.setRow lb (rlineCells s { g with id := idVal p.data.toList })) from rpost_of (grown_trans (grown_below hb2 _) (grown_row _ _ _)) (fun v => hv2.blk.setRow) (by decide))
  clear hb2 hv hv2
  by_cases hok : idOk p.data.toList = true
  · have HF := Lib.hid (show partErr 1 p = 0 by unfold partErr; rw [hok]; rfl)
    rw [hok]
    clear hok
    go_wp2
    go_ret
    exact ⟨ret_int HF.out.symm, HP.out⟩
  · have hok' : idOk p.data.toList = false := by simpa using hok
    have HF := Lib.hid (show partErr 1 p = 3 by unfold partErr; rw [hok']; rfl)
    rw [hok']
    clear hok hok'
    go_wp2
    go_ret
    exact ⟨ret_int HF.out.symm, HP.out⟩

set_option maxHeartbeats 1000000 in
theorem rset2 (lb : Nat) (s : ByteArray) (g : GLine) (p : ByteArray) (w : World) (hv : RVar w lb s g) (hs : p.size ≤ maxLen) :
    Calls Tryz.prog 64 #[.pointer (some ⟨lb, 0, none⟩), .int .i64 2, .string p] w fun r w' => r = .returned (.int .i64 (partErr 2 p)) ∧ RSetPost s g 2 p lb w w' := by
  have hc := (hv.cell 34).trans (rc34 s g)
  have hf := hv.free 34
  have HV := Lib.hid hv
  clear hv
  go_enter Tryz.func64, Tryz.ntmps64
  go_wp2_with fail
  refine (text_any p 60 _ hs).mono ?_
  rintro r w' ⟨rfl, rfl⟩
  go_wp2
  go_ret
  exact ⟨rfl, rpost_of (grown_set _ _ _ _) (fun v => HV.out.set 33 _ (set_name g _)) (by decide)⟩

set_option maxHeartbeats 1000000 in
theorem rset3 (lb : Nat) (s : ByteArray) (g : GLine) (p : ByteArray) (w : World) (hv : RVar w lb s g) (hs : p.size ≤ maxLen) :
    Calls Tryz.prog 64 #[.pointer (some ⟨lb, 0, none⟩), .int .i64 3, .string p] w fun r w' => r = .returned (.int .i64 (partErr 3 p)) ∧ RSetPost s g 3 p lb w w' := by
  have hc := (hv.cell 35).trans (rc35 s g)
  have hf := hv.free 35
  have hblk := hv
  unfold RVar at hblk
  have hc2 : (w.setCell ⟨lb, 35, none⟩ (.int .i64 (numVal p.data.toList))).cell? ⟨lb, 35, none⟩ = some (.int .i64 (numVal p.data.toList)) :=
    ((hv.set 34 (.int .i64 (numVal p.data.toList)) (set_date g _)).cell 35).trans (rc35 _ _)
  have HP := Lib.hid (show RSetPost s g 3 p lb w (w.setCell ⟨lb, 35, none⟩ (.int .i64 (numVal p.data.toList))) from rpost_of (grown_set _ _ _ _) (fun v => hv.set 34 _ (set_date g _)) (by decide))
  clear hv hblk
  go_enter Tryz.func64, Tryz.ntmps64
  go_wp2_with fail
  refine (number_any p w hs).mono ?_
  rintro r w' ⟨rfl, rfl⟩
  have HE := Lib.hid (show partErr 3 p = numErr p.data.toList 0 105190559 13 from rfl)
  unfold numErr at HE
  generalize numVal p.data.toList = m at HP HE hc2 ⊢
  by_cases hok : numOk p.data.toList = true
  · rw [hok] at HE ⊢
    clear hok
    by_cases h2 : 105190559 < (m : Int)
    · have HF := Lib.hid (show partErr 3 p = 13 from HE.out.trans (rangeErr_out (Or.inr h2)))
      go_wp2
      go_ret
      exact ⟨ret_int HF.out.symm, HP.out⟩
    · have HF := Lib.hid (show partErr 3 p = 0 from HE.out.trans (rangeErr_in (by omega) h2))
      go_wp2
      go_ret
      exact ⟨ret_int HF.out.symm, HP.out⟩
  · have hok' : numOk p.data.toList = false := by simpa using hok
    rw [hok'] at HE ⊢
    clear hok hok'
    have HF := Lib.hid (show partErr 3 p = 3 from HE.out)
    go_wp2
    go_ret
    exact ⟨ret_int HF.out.symm, HP.out⟩

set_option maxHeartbeats 1000000 in
theorem rset4 (lb : Nat) (s : ByteArray) (g : GLine) (p : ByteArray) (w : World) (hv : RVar w lb s g) (hs : p.size ≤ maxLen) :
    Calls Tryz.prog 64 #[.pointer (some ⟨lb, 0, none⟩), .int .i64 4, .string p] w fun r w' => r = .returned (.int .i64 (partErr 4 p)) ∧ RSetPost s g 4 p lb w w' := by
  have hc := (hv.cell 36).trans (rc36 s g)
  have hf := hv.free 36
  have HV := Lib.hid hv
  clear hv
  go_enter Tryz.func64, Tryz.ntmps64
  go_wp2_with fail
  refine (text_any p 200 _ hs).mono ?_
  rintro r w' ⟨rfl, rfl⟩
  go_wp2
  go_ret
  exact ⟨rfl, rpost_of (grown_set _ _ _ _) (fun v => HV.out.set 35 _ (set_subject g _)) (by decide)⟩

set_option maxHeartbeats 1000000 in
theorem rset6 (lb : Nat) (s : ByteArray) (g : GLine) (p : ByteArray) (w : World) (hv : RVar w lb s g) (hs : p.size ≤ maxLen) :
    Calls Tryz.prog 64 #[.pointer (some ⟨lb, 0, none⟩), .int .i64 6, .string p] w fun r w' => r = .returned (.int .i64 (partErr 6 p)) ∧ RSetPost s g 6 p lb w w' := by
  have hc := (hv.cell 38).trans (rc38 s g)
  have hf := hv.free 38
  have hblk := hv
  unfold RVar at hblk
  have hc2 : (w.setCell ⟨lb, 38, none⟩ (.int .i64 (numVal p.data.toList))).cell? ⟨lb, 38, none⟩ = some (.int .i64 (numVal p.data.toList)) :=
    ((hv.set 37 (.int .i64 (numVal p.data.toList)) (set_bytes g _)).cell 38).trans (rc38 _ _)
  have HP := Lib.hid (show RSetPost s g 6 p lb w (w.setCell ⟨lb, 38, none⟩ (.int .i64 (numVal p.data.toList))) from rpost_of (grown_set _ _ _ _) (fun v => hv.set 37 _ (set_bytes g _)) (by decide))
  clear hv hblk
  go_enter Tryz.func64, Tryz.ntmps64
  go_wp2_with fail
  refine (number_any p w hs).mono ?_
  rintro r w' ⟨rfl, rfl⟩
  have HE := Lib.hid (show partErr 6 p = numErr p.data.toList 0 65536 2 from rfl)
  unfold numErr at HE
  generalize numVal p.data.toList = m at HP HE hc2 ⊢
  by_cases hok : numOk p.data.toList = true
  · rw [hok] at HE ⊢
    clear hok
    by_cases h2 : 65536 < (m : Int)
    · have HF := Lib.hid (show partErr 6 p = 2 from HE.out.trans (rangeErr_out (Or.inr h2)))
      go_wp2
      go_ret
      exact ⟨ret_int HF.out.symm, HP.out⟩
    · have HF := Lib.hid (show partErr 6 p = 0 from HE.out.trans (rangeErr_in (by omega) h2))
      go_wp2
      go_ret
      exact ⟨ret_int HF.out.symm, HP.out⟩
  · have hok' : numOk p.data.toList = false := by simpa using hok
    rw [hok'] at HE ⊢
    clear hok hok'
    have HF := Lib.hid (show partErr 6 p = 3 from HE.out)
    go_wp2
    go_ret
    exact ⟨ret_int HF.out.symm, HP.out⟩

theorem rset5 (lb : Nat) (s : ByteArray) (g : GLine) (p : ByteArray) (w : World) (hv : RVar w lb s g) (hr : g.refs = .slice none 0 0) (hs : p.size < 4294967281) :
    Calls Tryz.prog 64 #[.pointer (some ⟨lb, 0, none⟩), .int .i64 5, .string p] w fun r w' => r = .returned (.int .i64 (partErr 5 p)) ∧ RSetPost s g 5 p lb w w' := by
  refine (partRefs_any lb 26 (rlineCells s g) p w hv (by rw [rc37, hr]) hs).mono ?_
  rintro r w' ⟨rfl, hg, v, hb, h1, h2, h3⟩
  rw [rset_succ s g _ 36 v (set_refs g v)] at hb
  exact ⟨rfl, hg, RVar.blk (s := s) (g := { g with refs := v }) hb, fun e => ⟨v, hb, fun _ => ⟨h1, h2, h3 e⟩⟩⟩

theorem rset_any (i lb : Nat) (s : ByteArray) (g : GLine) (p : ByteArray) (w : World) (hi : i < 7) (hv : RVar w lb s g) (hr : i = 5 → g.refs = .slice none 0 0) (hs : p.size < 4294967281) :
    Calls Tryz.prog 64 #[.pointer (some ⟨lb, 0, none⟩), .int .i64 i, .string p] w fun r w' => r = .returned (.int .i64 (partErr i p)) ∧ RSetPost s g i p lb w w' := by
  have hm : p.size ≤ maxLen := by unfold maxLen; omega
  match i, hi, hr with
  | 0, _, _ => exact rset0 lb s g p w hv hm
  | 1, _, _ => exact rset1 lb s g p w hv hm
  | 2, _, _ => exact rset2 lb s g p w hv hm
  | 3, _, _ => exact rset3 lb s g p w hv hm
  | 4, _, _ => exact rset4 lb s g p w hv hm
  | 5, _, hr => exact rset5 lb s g p w hv (hr rfl) hs
  | 6, _, _ => exact rset6 lb s g p w hv hm

end Go.Proofs.YtdjaphcelpchaaaGreatDoor

namespace Go.Proofs.YtdjaphcelpchaaaGreatDoor
open Go Go.RowKit Go.Proofs

attribute [local go_sem ↓] ex_load_id ex_store_id ex_load_rline ex_store_rline ex_alloc_rline ex_build_rline

attribute [local go_sem] ld_id st_id ld_rline st_rline guard_id okCells_drew rdCells_drew okCells_drewN rdCells_drewN rowOk_drew rowOk_cells okCells_cells rdCells_cells setRow_drew setRow_new setRow_past

structure RLoop (lb : Nat) (W1 wr : World) (T : List ByteArray) (k : Nat) (v : Value) : Prop where
  var : RVar wr lb ⟨#[]⟩ (gAt T v k)
  grown : W1.grownBy wr (some lb)
  ids : 5 < k → v.oneCell' = true ∧ (∀ b, v.ownBlock = some b → W1.heap.size ≤ b) ∧ IdsAt wr v (refIds (nth T 5))
  ok : ∀ j, j < k → partErr j (nth T j) = 0
  lt : lb < W1.heap.size

theorem RLoop.next {lb : Nat} {W1 wr w' : World} {T : List ByteArray} {k : Nat} {v : Value} (h : RLoop lb W1 wr T k v) (hp : RSetPost ⟨#[]⟩ (gAt T v k) k (nth T k) lb wr w') (he : partErr k (nth T k) = 0) : ∃ v', RLoop lb W1 w' T (k + 1) v' := by
  obtain ⟨hg, _, hy⟩ := hp
  obtain ⟨v', hv', h5⟩ := hy he
  have hok : ∀ j, j < k + 1 → partErr j (nth T j) = 0 := fun j hj => by
    by_cases e : j = k
    · rw [e]; exact he
    · exact h.ok j (by omega)
  by_cases hk : k = 5
  · subst hk
    refine ⟨v', ?_, grown_trans h.grown hg, fun _ => ⟨(h5 rfl).1, fun b e => Nat.le_trans h.grown.size ((h5 rfl).2.1 b e), (h5 rfl).2.2⟩, hok, h.lt⟩
    rw [gAt, gAt_indep T v' v 5 (Nat.le_refl _)]
    exact hv'
  · by_cases hlt : k < 5
    · refine ⟨v', ?_, grown_trans h.grown hg, fun h6 => by omega, hok, h.lt⟩
      rw [gAt, gAt_indep T v' v k (by omega)]
      exact hv'
    · refine ⟨v, ?_, grown_trans h.grown hg, fun _ => ?_, hok, h.lt⟩
      · rw [gAt]
        have e : setG (gAt T v k) k (nth T k) v = setG (gAt T v k) k (nth T k) v' := by
          unfold setG
          split <;> first | rfl | omega
        rw [e]; exact hv'
      · obtain ⟨h1, h2, h3⟩ := h.ids (by omega)
        exact ⟨h1, h2, h3.grown hg (fun e => by have := h2 _ e; have := h.lt; omega)⟩

def RParsePost (s : ByteArray) (w : World) (r : Ending) (w' : World) : Prop := ∃ G ids, r = .returned (.tuple #[.agg (rlineCells ⟨#[]⟩ G), .int .i64 (parseOut s).2, .int .i64 (parseOut s).1]) ∧ ParsedIs s G ids ∧ IdsAt w' G.refs ids ∧ refsOne G ∧ Below w.heap.size w w'
theorem rparse_bad {s : ByteArray} {w w' : World} {e o : Int} (he : parseOut s = (e, o)) (hne : e ≠ 0) (hb : Below w.heap.size w w') : RParsePost s w (.returned (.tuple #[.agg (rlineCells ⟨#[]⟩ zeroLine), .int .i64 o, .int .i64 e])) w' :=
  ⟨zeroLine, [], by rw [he], ⟨fun _ => ⟨rfl, rfl⟩, fun h => absurd (by rw [he] at h; exact h) hne⟩, idsAt_nil w', rfl, hb⟩
theorem rparse_good {s : ByteArray} {lb rb : Nat} {w W1 wr : World} {v : Value} (h : RLoop lb W1 wr (splitS 9 s) 7 v) (hlen : (splitS 9 s).length = 7) (hb1 : Below w.heap.size w W1) (hlb : w.heap.size ≤ lb) (hrb : w.heap.size ≤ rb) (hvr : v.ownBlock ≠ some rb) :
    RParsePost s w (.returned (.tuple #[.agg (rlineCells ⟨#[]⟩ (gAt (splitS 9 s) v 7)), .int .i64 0, .int .i64 0])) (wr.setRow rb (rlineCells ⟨#[]⟩ (gAt (splitS 9 s) v 7))) := by
  have he : parseOut s = (0, 0) := by
    unfold parseOut
    rw [if_neg (by omega), if_neg (by omega), firstBad_none h.ok]
  obtain ⟨h1, h2, h3⟩ := h.ids (by omega)
  refine ⟨_, refIds (nth (splitS 9 s) 5), by rw [he], ⟨fun e => absurd (by rw [he]) e, fun _ => ⟨v, rfl, rfl⟩⟩, h3.grown (grown_row _ _ _) hvr, gAt_one _ _ h1, ?_⟩
  have hbr : Below w.heap.size w wr := below_grown hb1 h.grown hb1.size hlb
  exact below_grown hbr (grown_row _ _ _) hbr.size hrb

set_option maxRecDepth 100000 in
set_option maxHeartbeats 2000000 in
theorem rparse_any (s : ByteArray) (w : World) (hs : s.size < 4294967281) :
    Calls Tryz.prog 23 #[.string s] w (RParsePost s w) := by
  obtain ⟨T, hT⟩ : ∃ T, T = splitS 9 s := ⟨_, rfl⟩
  have hlen := splitS_len 9 s
  rw [← hT] at hlen
  obtain ⟨n, hn⟩ : ∃ n, n = T.length := ⟨_, rfl⟩
  rw [← hn] at hlen
  have HT := Lib.hid hT
  have HN := Lib.hid hn
  have hsz : ∀ k, k < n → (nth T k).size ≤ s.size := fun k hk => by
    have h1 : nth T k ∈ T := by
      have := nth_at T k (by omega)
      exact List.mem_of_getElem? this
    have e0 : T = (splitL 9 s.data.toList).map str := hT
    generalize nth T k = y at h1 ⊢
    rw [e0, List.mem_map] at h1
    obtain ⟨x, hx, e⟩ := h1
    have := splitL_part 9 s.data.toList x hx
    rw [size_list] at this
    rw [← e, str_size]; exact this
  have HSZ := Lib.hid hsz
  have hfz : fitsRow 39 (rlineCells ⟨#[]⟩ zeroLine) = true := fits_rline rfl
  clear hT hn hsz
  go_enter Tryz.func23, Tryz.ntmps23
  go_wp2_with fail
  refine (parts_any s 9 _ (by omega)).mono ?_
  rintro r W1 ⟨vp, rfl, hown1, hbA⟩
  rw [← HT.out, ← HN.out] at hown1
  obtain ⟨pb, pcap, hvp, hpb, hpb1, hncap⟩ : ∃ pb pcap, vp = .slice (some ⟨pb, 0, none⟩) n pcap ∧ w.heap.size + 1 ≤ pb ∧ pb < W1.heap.size ∧ n ≤ pcap := by
    rcases hown1.2 with ⟨_, h0⟩ | ⟨g, cap, cur, e, hg, hcur, hle, _⟩
    · omega
    · exact ⟨g, cap, e, by simpa using hg, (Array.getElem?_eq_some_iff.1 hcur).1, hle⟩
  subst hvp
  have hrow : ∀ k, (h : k < n) → W1.cell? ⟨pb, k, none⟩ = some (.string (nth T k)) := fun k h => by
    rw [hown1.cellAt k (by omega)]
    have := nth_at T k (by rw [← HN.out]; exact h)
    simp [this]
  have hvar1 : RVar W1 w.heap.size ⟨#[]⟩ zeroLine := by
    unfold RVar
    rw [hbA.block w.heap.size (by simp), heap_alloc_new]
  have hb1 : Below w.heap.size w W1 := ((Below.refl _ _).alloc (Nat.le_refl _) _).trans (hbA.mono (by simp))
  have hs1 : w.heap.size < W1.heap.size := by omega
  have hro1 := hvar1.blk.row
  have HV1 := Lib.hid hvar1
  clear hbA hvar1 hown1
  by_cases hlow : n < 7
  · have hlowz : (n : Int) < 7 := by omega
    have HPO := Lib.hid (show parseOut s = (4, (s.size : Int)) by unfold parseOut; rw [← HT.out, ← HN.out, if_pos hlow])
    go_wp2
    refine bodyPost_ret (v := .tuple #[.agg (rlineCells ⟨#[]⟩ zeroLine), .int .i64 (s.size : Int), .int .i64 4]) ?_ rfl (rparse_bad HPO.out (by decide) (below_grown hb1 (grown_row _ _ _) (by omega) (Nat.le_refl _)))
    exact results_agg3 rfl Tryz.isAgg26 Tryz.sizeOf26 _ _ ⟨w.heap.size, 0, none⟩ _ _ _ rfl rfl rfl (HV1.out.blk.setRow.rd.1) (HV1.out.blk.setRow.rd.2)
  · have hlowz : ¬ (n : Int) < 7 := by omega
    by_cases hhi : 7 < n
    · have hhiz : 7 < (n : Int) := by omega
      have HPO := Lib.hid (show parseOut s = (5, (offs T 7 : Int)) by unfold parseOut; rw [← HT.out, ← HN.out, if_neg hlow, if_pos hhi])
      go_wp2
      go_loop [6, 7] (fun o i => ∃ k : Nat, k ≤ 7 ∧ i = .int .i64 k ∧ o = .int .i64 (offs T k : Nat)) (fun _ i => 7 - (intOf i).toNat)
      case atStart => exact ⟨0, by omega, rfl, rfl⟩
      case round =>
        obtain ⟨k, hk7, rfl, rfl⟩ := hrel
        have hoff := offs_le T 4294967296 k (by rw [← HN.out]; omega) (fun j hj => by have := HSZ.out j (by omega); omega)
        by_cases h7 : k < 7
        · have h7z : (k : Int) < 7 := by omega
          have hkn : (k : Int) < (n : Int) := by omega
          have htext := hrow k (by omega)
          have hsk := HSZ.out k (by omega)
          have HO := Lib.hid (offs_succ T k (by rw [← HN.out]; omega))
          go_wp2
          go_round
          case rel => exact ⟨k + 1, by omega, by go_num, by rw [HO.out]; go_num⟩
          case measure => simp [intOf]; omega
        · obtain rfl : k = 7 := by omega
          rw [show ((7 : Nat) : Int) = 7 from rfl] at *
          go_wp2
          refine bodyPost_ret (v := .tuple #[.agg (rlineCells ⟨#[]⟩ zeroLine), .int .i64 (offs T 7 : Int), .int .i64 5]) ?_ rfl (rparse_bad HPO.out (by decide) (below_grown hb1 (grown_row _ _ _) (by omega) (Nat.le_refl _)))
          exact results_agg3 rfl Tryz.isAgg26 Tryz.sizeOf26 _ _ ⟨w.heap.size, 0, none⟩ _ _ _ rfl rfl rfl (HV1.out.blk.setRow.rd.1) (HV1.out.blk.setRow.rd.2)
    · have hhiz : ¬ 7 < (n : Int) := by omega
      obtain rfl : n = 7 := by omega
      go_wp2
      generalize hW2 : W1.alloc (.cells (rlineCells ⟨#[]⟩ zeroLine) 26) = W2
      have hv2 : RVar W2 W1.heap.size ⟨#[]⟩ zeroLine := by rw [← hW2]; exact heap_alloc_new _ _
      have hrb2 : RBlk W2 w.heap.size := by rw [← hW2]; exact HV1.out.blk.grown (grown_below ((Below.refl _ _).alloc (Nat.le_refl _) _) none) (by simp)
      have hb2 : Below w.heap.size w W2 := by rw [← hW2]; exact hb1.alloc (by omega) _
      have hs2 : W2.heap.size = W1.heap.size + 1 := by rw [← hW2]; simp
      have hrow2 : ∀ k, (h : k < 7) → W2.cell? ⟨pb, k, none⟩ = some (.string (nth T k)) := fun k h => by
        rw [← hrow k h, ← hW2]
        unfold World.cell?
        rw [heap_alloc_old _ _ hpb1]
      have HV2 := Lib.hid hv2
      have HRB2 := Lib.hid hrb2
      clear hW2 hv2 hrb2
      go_loopw [6, 9] (fun o i wr => ∃ (k : Nat) (v : Value), k ≤ 7 ∧ i = .int .i64 k ∧ o = .int .i64 (offs T k : Nat) ∧ RLoop W1.heap.size W2 wr T k v) (fun _ i _ => 7 - (intOf i).toNat)
      case atStart => exact ⟨0, undef, by omega, rfl, rfl, HV2.out, grown_refl _ _, fun h => by omega, fun j hj => by omega, by omega⟩
      case round =>
        obtain ⟨k, v, hk, rfl, rfl, hL⟩ := hrel
        have hoff2 := offs_le T 4294967296 k (by rw [← HN.out]; exact hk) (fun j hj => by have := HSZ.out j (by omega); omega)
        have hbr : Below w.heap.size w wr := below_grown hb2 hL.grown (by omega) (by omega)
        have hrbr : RBlk wr w.heap.size := HRB2.out.grown hL.grown (by simp; omega)
        by_cases hlt : k < 7
        · have hltz : (k : Int) < 7 := by omega
          have htext : wr.cell? ⟨pb, k, none⟩ = some (.string (nth T k)) := by
            rw [← hrow2 k hlt]
            unfold World.cell?
            rw [hL.grown.block pb (by omega) (by simp; omega)]
          have hsk := HSZ.out k hlt
          have HO := Lib.hid (offs_succ T k (by rw [← HN.out]; exact hlt))
          go_wp2_with fail
          refine (rset_any k W1.heap.size ⟨#[]⟩ (gAt T v k) (nth T k) wr hlt hL.var (fun e => by subst e; exact gAt_refs T v) (by omega)).mono ?_
          rintro r w2 ⟨rfl, hpost⟩
          by_cases he : partErr k (nth T k) = 0
          · have hnext := Lib.hid (hL.next hpost he)
            have htext2 : w2.cell? ⟨pb, k, none⟩ = some (.string (nth T k)) := by
              rw [← htext]
              unfold World.cell?
              rw [hpost.1.block pb (by have := hL.grown.size; omega) (by simp; omega)]
            rw [he]
            clear hL hpost hrbr
            go_wp2
            go_roundw
            case rel =>
              obtain ⟨v', hv'⟩ := hnext.out
              exact ⟨k + 1, v', by omega, by go_num, by rw [HO.out]; go_num, hv'⟩
            case measure => simp [intOf]; omega
          · have hb3 := Lib.hid (below_grown hb2 (grown_trans hL.grown hpost.1) (by omega) (show w.heap.size ≤ W1.heap.size by omega))
            have hrb3 : RBlk w2 w.heap.size := hrbr.grown hpost.1 (by simp; omega)
            have HB := Lib.hid hrb3
            have hro2 := hrb3.row
            have HPO := Lib.hid (show parseOut s = (partErr k (nth T k), (offs T k : Int)) by
              unfold parseOut
              rw [← HT.out, ← HN.out, if_neg (by omega), if_neg (by omega), firstBad_some hlt he hL.ok])
            have HE := Lib.hid he
            generalize partErr k (nth T k) = e at he HPO HE ⊢
            have hez : (e == 0) = false := by rw [beq_eq_false_iff_ne]; exact he
            clear hL hpost hrbr hrb3
            go_wp2
            refine bodyPost_ret (v := .tuple #[.agg (rlineCells ⟨#[]⟩ zeroLine), .int .i64 (offs T k : Int), .int .i64 e]) ?_ rfl (rparse_bad HPO.out HE.out (below_grown hb3.out (grown_row _ _ _) hb3.out.size (Nat.le_refl _)))
            exact results_agg3 rfl Tryz.isAgg26 Tryz.sizeOf26 _ _ ⟨w.heap.size, 0, none⟩ _ _ _ rfl rfl rfl (HB.out.setRow.rd.1) (HB.out.setRow.rd.2)
        · obtain rfl : k = 7 := by omega
          have hok := hL.var.rd.1
          have hrd := hL.var.rd.2
          have hro2 := hrbr.row
          have hft : fitsRow 39 (rlineCells ⟨#[]⟩ (gAt T v 7)) = true := fits_rline (gAt_one T v (hL.ids (by omega)).1)
          have HL := Lib.hid hL
          have HB := Lib.hid hrbr
          clear hL hrbr
          rw [show ((7 : Nat) : Int) = 7 from rfl] at *
          go_wp2
          have hT := HT.out
          have hpg := rparse_good (s := s) (lb := W1.heap.size) (rb := w.heap.size) (w := w) (W1 := W2) (wr := wr) (v := v) (hT ▸ HL.out) (by rw [← hT]; exact HN.out.symm) hb2 (by omega) (Nat.le_refl _) (fun e => by have := (HL.out.ids (by omega)).2.1 _ e; omega)
          rw [← hT] at hpg
          refine bodyPost_ret (v := .tuple #[.agg (rlineCells ⟨#[]⟩ (gAt T v 7)), .int .i64 0, .int .i64 0]) ?_ rfl hpg
          exact results_agg3 rfl Tryz.isAgg26 Tryz.sizeOf26 _ _ ⟨w.heap.size, 0, none⟩ _ _ _ rfl rfl rfl (HB.out.setRow.rd.1) (HB.out.setRow.rd.2)

end Go.Proofs.YtdjaphcelpchaaaGreatDoor

namespace Go.Proofs.YtdjaphcelpchaaaGreatDoor
open Go Go.RowKit Go.Proofs

theorem fill_cons {place : Nat → Option (Nat × Nat)} {cells : Array Value} {i off size : Nat} {v : Value} {rest : List (Nat × Value)} (hp : place i = some (off, size)) (hs : v.cells.size = size) (hf : off + size ≤ cells.size) :
    Instr.fill place cells ((i, v) :: rest) = Instr.fill place (v.cells.zipIdx.foldl (fun cs (c, j) => cs.setIfInBounds (off + j) c) cells) rest := by
  rw [Instr.fill, hp]
  simp only [hs]
  rw [if_neg]
  simp; omega
theorem fill_one_cell {place : Nat → Option (Nat × Nat)} {cells cells' : Array Value} {i off : Nat} {v : Value} {rest : List (Nat × Value)} (hp : place i = some (off, 1)) (hs : v.cells = #[v]) (hf : off + 1 ≤ cells.size) (e : cells.setIfInBounds off v = cells') :
    Instr.fill place cells ((i, v) :: rest) = Instr.fill place cells' rest := by
  rw [fill_cons hp (by rw [hs]; rfl) hf, hs, ← e]
  rfl
theorem put_rid (s : ByteArray) (g : GLine) (x : Id32) : (encId x).toArray.zipIdx.foldl (fun cs (c, j) => cs.setIfInBounds (2 + j) c) (rlineCells s g) = rlineCells s { g with id := x } := by
  have h := put_list (encId x) 0 2 [.string s, .int .i64 g.number] (encId g.id) [.string g.name, .int .i64 g.date, .string g.subject, g.refs, .int .i64 g.bytes] rfl (by rw [encId_length, encId_length])
  rw [← Array.foldl_toList, Array.toList_zipIdx]
  exact h
def places26 (i : Nat) : Option (Nat × Nat) := #[(0, 1), (1, 1), (2, 32), (34, 1), (35, 1), (36, 1), (37, 1), (38, 1)][i]?
theorem built26 (parts : List (Nat × Value)) : Tryz.prog.built 26 parts = Instr.fill places26 (rlineCells ⟨#[]⟩ zeroLine) parts := by kernel_rfl
theorem set_rname (s s' : ByteArray) (g : GLine) : (rlineCells s g).setIfInBounds 0 (.string s') = rlineCells s' g := by simp [rlineCells]
theorem built_rline (s : ByteArray) (g : GLine) (hr : g.refs.cells = #[g.refs]) :
    Tryz.prog.built 26 [(0, .string s), (1, .int .i64 g.number), (2, .agg (encId g.id).toArray), (3, .string g.name), (4, .int .i64 g.date), (5, .string g.subject), (6, g.refs), (7, .int .i64 g.bytes)] = some (rlineCells s g) := by
  rw [built26]
  rw [fill_one_cell (off := 0) rfl rfl (by rw [rlineCells_size]; omega) (set_rname _ _ _)]
  rw [fill_one_cell (off := 1) rfl rfl (by rw [rlineCells_size]; omega) (rset_succ _ _ _ 0 _ (set_number _ _))]
  rw [fill_cons (off := 2) (size := 32) (v := .agg (encId g.id).toArray) rfl (encId_size _) (by rw [rlineCells_size]; omega)]
  show Instr.fill _ ((encId g.id).toArray.zipIdx.foldl (fun cs (c, j) => cs.setIfInBounds (2 + j) c) _) _ = _
  rw [put_rid]
  rw [fill_one_cell (off := 34) rfl rfl (by rw [rlineCells_size]; omega) (rset_succ _ _ _ 33 _ (set_name _ _))]
  rw [fill_one_cell (off := 35) rfl rfl (by rw [rlineCells_size]; omega) (rset_succ _ _ _ 34 _ (set_date _ _))]
  rw [fill_one_cell (off := 36) rfl rfl (by rw [rlineCells_size]; omega) (rset_succ _ _ _ 35 _ (set_subject _ _))]
  rw [fill_one_cell (off := 37) rfl hr (by rw [rlineCells_size]; omega) (rset_succ _ _ _ 36 _ (set_refs _ _))]
  rw [fill_one_cell (off := 38) rfl rfl (by rw [rlineCells_size]; omega) (rset_succ _ _ _ 37 _ (set_bytes _ _))]
  rfl

def blRes (P : Program) (t : Nat) (w : World) (parts : Array (Nat × Value)) : Result Next := Sem.run P (do pure (Next.value (← Instr.build t parts))) w
theorem blRes_of {P : Program} {t : Nat} {w : World} {parts : Array (Nat × Value)} {cells : Array Value} (h : P.built t parts.toList = some cells) : blRes P t w parts = .ok (.value (.agg cells)) w := by
  unfold blRes
  rw [Sem.run_bind, run_build w t parts cells h]; rfl
theorem ex_build_line7 (ρ : Operand → Value) (d : Option Tmp) (x0 x1 x2 x3 x4 x5 x6 : Operand) (ty : TypeId) (pos : String) (af : Array Edge) (gd : Option (Nat × Bool)) (w : World) :
    Sem.run Tryz.prog (execOp ρ ⟨d, .build 34 #[(0, x0), (1, x1), (2, x2), (3, x3), (4, x4), (5, x5), (6, x6)], ty, pos, af, gd⟩) w = blRes Tryz.prog 34 w #[(0, ρ x0), (1, ρ x1), (2, ρ x2), (3, ρ x3), (4, ρ x4), (5, ρ x5), (6, ρ x6)] := by kernel_rfl
theorem ex_build_rline8 (ρ : Operand → Value) (d : Option Tmp) (x0 x1 x2 x3 x4 x5 x6 x7 : Operand) (ty : TypeId) (pos : String) (af : Array Edge) (gd : Option (Nat × Bool)) (w : World) :
    Sem.run Tryz.prog (execOp ρ ⟨d, .build 26 #[(0, x0), (1, x1), (2, x2), (3, x3), (4, x4), (5, x5), (6, x6), (7, x7)], ty, pos, af, gd⟩) w = blRes Tryz.prog 26 w #[(0, ρ x0), (1, ρ x1), (2, ρ x2), (3, ρ x3), (4, ρ x4), (5, ρ x5), (6, ρ x6), (7, ρ x7)] := by kernel_rfl

end Go.Proofs.YtdjaphcelpchaaaGreatDoor

namespace Go.Proofs.YtdjaphcelpchaaaGreatDoor
open Go Go.RowKit Go.Proofs

attribute [local go_sem ↓] ex_load_id ex_store_id ex_load_line ex_store_line ex_load_rline ex_store_rline ex_alloc_line ex_build_line ex_alloc_rline ex_build_rline ex_build_line7 ex_build_rline8

attribute [local go_sem] ld_id st_id ld_line st_line ld_rline st_rline guard_id okCells_drew rdCells_drew okCells_drewN rdCells_drewN rowOk_drew rowOk_cells okCells_cells rdCells_cells setRow_drew setRow_new setRow_past

attribute [local go_sem] lc0 lc33 lc34 lc35 lc36 lc37 rc0 rc1 rc34 rc35 rc36 rc37 rc38

theorem okArr_lid (g : GLine) : okArr (lineCells g) 1 32 = true := okArr_le (by rw [lineCells_size]; omega)
theorem rdArr_lid (g : GLine) : rdArr (lineCells g) 1 32 = (encId g.id).toArray := by rw [rdArr_extract (by rw [lineCells_size]; omega)]; exact extract_id g
theorem okArr_rid (s : ByteArray) (g : GLine) : okArr (rlineCells s g) 2 32 = true := okArr_le (by rw [rlineCells_size]; omega)
theorem rdArr_rid (s : ByteArray) (g : GLine) : rdArr (rlineCells s g) 2 32 = (encId g.id).toArray := by rw [rdArr_extract (by rw [rlineCells_size]; omega)]; exact extract_rid s g
attribute [local go_sem] okArr_lid rdArr_lid okArr_rid rdArr_rid

theorem results_agg1 {P : Program} {fn : Func} {p : Tmp} {ty n : Nat} (h : fn.results = #[.cell p ty]) (hA : ∀ w, Sem.run P (isAgg ty) w = .ok true w) (hs : ∀ w, Sem.run P (Go.sizeOf ty) w = .ok n w)
    (tmps : Array Value) (w : World) (a : Addr) (cs : Array Value) (hp : tmps.getD p undef = .pointer (some a)) (hok : okCells w a n = true) (hrd : rdCells w a n = cs) :
    (results fn tmps).run P w = .ok (.agg cs) w := by
  have hp' : tmps[p]?.getD undef = .pointer (some a) := by simpa using hp
  have hl : (loadVar ty a).run P w = .ok (.agg cs) w := by
    simp [loadVar, hA, hs, run_loadCells_rd w a n hok, hrd]
  simp [results, h, hp', asAddr, hl]

set_option maxRecDepth 100000 in
set_option maxHeartbeats 1000000 in
theorem back_any (s : ByteArray) (g : GLine) (w : World) (hr : g.refs.cells = #[g.refs]) (h1 : refsOne g) :
    Calls Tryz.prog 22 #[.string s, .agg (lineCells g)] w fun r w' => r = .returned (.agg (rlineCells s g)) ∧ Below w.heap.size w w' := by
  have hb : ∀ w, blRes Tryz.prog 26 w #[(0, .string s), (1, .int .i64 g.number), (2, .agg (encId g.id).toArray), (3, .string g.name), (4, .int .i64 g.date), (5, .string g.subject), (6, g.refs), (7, .int .i64 g.bytes)] = .ok (.value (.agg (rlineCells s g))) w := fun w => blRes_of (built_rline s g hr)
  have hft := fits_rline (s := s) h1
  have hrsz : ((rlineCells ⟨#[]⟩ zeroLine).size == 39) = true := by rw [rlineCells_size]; rfl
  go_enter Tryz.func22, Tryz.ntmps22
  go_wp2
  refine bodyPost_ret (v := .agg (rlineCells s g)) ?_ rfl ⟨rfl, ((Below.refl _ _).alloc (Nat.le_refl _) _).alloc (by simp) _⟩
  exact results_agg1 rfl Tryz.isAgg26 Tryz.sizeOf26 _ _ ⟨w.heap.size + 1, 0, none⟩ _ rfl (by simpa using ok_new_rline (w.alloc (.cells (lineCells g) 34)) s g _) (by simpa using rd_new_rline (w.alloc (.cells (lineCells g) 34)) s g 26)

end Go.Proofs.YtdjaphcelpchaaaGreatDoor

namespace Go.Proofs.YtdjaphcelpchaaaGreatDoor
open Go Go.RowKit Go.Proofs

attribute [local go_sem ↓] ex_load_id ex_store_id ex_load_line ex_store_line ex_load_rline ex_store_rline ex_alloc_line ex_build_line ex_alloc_rline ex_build_rline ex_build_line7 ex_build_rline8

attribute [local go_sem] ld_id st_id ld_line st_line ld_rline st_rline guard_id okCells_drew rdCells_drew okCells_drewN rdCells_drewN rowOk_drew rowOk_cells okCells_cells rdCells_cells setRow_drew setRow_new setRow_past

attribute [local go_sem] lc0 lc33 lc34 lc35 lc36 lc37 rc0 rc1 rc34 rc35 rc36 rc37 rc38 okArr_lid rdArr_lid okArr_rid rdArr_rid

theorem ex_bs_zero (ρ : Operand → Value) (d : Option Tmp) (ty : TypeId) (pos : String) (af : Array Edge) (g : Option (Nat × Bool)) (w : World) :
    Sem.run Tryz.prog (execOp ρ ⟨d, .buildSlice 24 0 #[], ty, pos, af, g⟩) w = .ok (.value (.slice (some ⟨w.heap.size, 0, none⟩) 0 0)) (w.alloc (.cells #[] 23)) := by kernel_rfl
attribute [local go_sem ↓] ex_bs_zero

theorem flat_one (ids : List Id32) : ∀ u ∈ flatIds ids, u.oneCell' = true := by
  intro u hu
  unfold flatIds at hu
  rw [List.mem_flatMap] at hu
  obtain ⟨x, _, hx⟩ := hu
  exact encId_oneCell x u hx

end Go.Proofs.YtdjaphcelpchaaaGreatDoor

namespace Go.Proofs.YtdjaphcelpchaaaGreatDoor
open Go Go.RowKit Go.Proofs

attribute [local go_sem ↓] ex_load_id ex_store_id ex_load_line ex_store_line ex_load_rline ex_store_rline ex_alloc_line ex_build_line ex_alloc_rline ex_build_rline

attribute [local go_sem] ld_id st_id ld_line st_line ld_rline st_rline guard_id okCells_drew rdCells_drew okCells_drewN rdCells_drewN rowOk_drew rowOk_cells okCells_cells rdCells_cells setRow_drew setRow_new setRow_past

attribute [local go_sem] lc0 lc33 lc34 lc35 lc36 lc37 rc0 rc1 rc34 rc35 rc36 rc37 rc38 okArr_lid rdArr_lid okArr_rid rdArr_rid run_eql_id run_neq_id eqIn_id

set_option maxRecDepth 100000 in
set_option maxHeartbeats 2000000 in
theorem same_true (s : ByteArray) (g : GLine) (v1 v2 : Value) (ids : List Id32) (w : World) (hI1 : IdsAt w v1 ids) (hI2 : IdsAt w v2 ids) (hn : ids.length ≤ 1000000) :
    Calls Tryz.prog 21 #[.agg (rlineCells s { g with refs := v1 }), .agg (rlineCells s { g with refs := v2 })] w fun r w' => r = .returned (.bool true) ∧ Below w.heap.size w w' := by
  obtain ⟨a1, c1, rfl, hc1, hr1⟩ := hI1
  obtain ⟨a2, c2, rfl, hc2, hr2⟩ := hI2
  have hbA := Lib.hid (show Below w.heap.size w ((w.alloc (.cells (rlineCells s { g with refs := .slice a1 ids.length c1 }) 26)).alloc (.cells (rlineCells s { g with refs := .slice a2 ids.length c2 }) 26)) from ((Below.refl _ _).alloc (Nat.le_refl _) _).alloc (by simp) _)
  have HR1 := Lib.hid hr1
  have HR2 := Lib.hid hr2
  clear hr1 hr2
  go_enter Tryz.func21, Tryz.ntmps21
  go_wp2
  have hA1 : ∀ j, ((w.alloc (.cells (rlineCells s { g with refs := .slice a1 ids.length c1 }) 26)).alloc (.cells (rlineCells s { g with refs := .slice a2 ids.length c2 }) 26)).cell? ⟨w.heap.size, j, none⟩ = (rlineCells s { g with refs := .slice a1 ids.length c1 })[j]? := fun j => by
    rw [cell_of_row _ w.heap.size j _ _ (0, 0) (by rw [heap_alloc_old _ _ (by simp), heap_alloc_new])]
  have hA2 : ∀ j, ((w.alloc (.cells (rlineCells s { g with refs := .slice a1 ids.length c1 }) 26)).alloc (.cells (rlineCells s { g with refs := .slice a2 ids.length c2 }) 26)).cell? ⟨w.heap.size + 1, j, none⟩ = (rlineCells s { g with refs := .slice a2 ids.length c2 })[j]? := fun j => by
    rw [cell_of_row _ (w.heap.size + 1) j _ _ (0, 0) (by have := heap_alloc_new (w.alloc (.cells (rlineCells s { g with refs := .slice a1 ids.length c1 }) 26)) (.cells (rlineCells s { g with refs := .slice a2 ids.length c2 }) 26); simpa using this)]
  generalize hW : (w.alloc (.cells (rlineCells s { g with refs := .slice a1 ids.length c1 }) 26)).alloc (.cells (rlineCells s { g with refs := .slice a2 ids.length c2 }) 26) = W at hbA hA1 hA2 ⊢
  clear hW
  go_loopw [5] (fun i wr => ∃ k q : Nat, k ≤ ids.length ∧ i = .int .i64 k ∧ wr = W.drewN q) (fun i _ => ids.length - (intOf i).toNat)
  case atStart => exact ⟨0, 0, Nat.zero_le _, rfl, rfl⟩
  case round =>
    obtain ⟨k, q, hk, rfl, rfl⟩ := hrel
    have q1 := (hA1 37).trans (rc37 _ _)
    have q2 := (hA2 37).trans (rc37 _ _)
    by_cases hlt : k < ids.length
    · have hltz : (k : Int) < (ids.length : Int) := by omega
      have hne : ids ≠ [] := by intro e; rw [e] at hlt; simp at hlt
      obtain ⟨b1, o1, rfl, hw1⟩ := HR1.out hne
      obtain ⟨b2, o2, rfl, hw2⟩ := HR2.out hne
      have hr1 := (hw1.below hbA.out (hw1.lt hne)).rd hlt
      have hr2 := (hw2.below hbA.out (hw2.lt hne)).rd hlt
      generalize ids[k]! = x at hr1 hr2
      obtain ⟨e1, e2⟩ := hr1
      obtain ⟨e3, e4⟩ := hr2
      clear hw1 hw2 hA1 hA2 hne
      go_wp2
      go_quiet (fail)
      go_wp2
      go_roundw
      case rel => exact ⟨k + 1, q + nq, by omega, by go_num, by first | rfl | rw [World.drewN_drewN]⟩
      case measure => simp [intOf]; omega
    · have hltz : ¬ (k : Int) < (ids.length : Int) := by omega
      clear hA1 hA2
      go_wp2
      go_ret
      have := hbA.out
      exact ⟨rfl, this.os, this.tape, this.output, this.size, this.block⟩

end Go.Proofs.YtdjaphcelpchaaaGreatDoor

namespace Go.Proofs.YtdjaphcelpchaaaGreatDoor
open Go Go.RowKit Go.Proofs

/-! ## parts and joins -/
theorem join_two (x y : List UInt8) (r : List (List UInt8)) (sep : List UInt8) : Lib.join (x :: y :: r) sep = x ++ sep ++ Lib.join (y :: r) sep := by
  simp [Lib.join, List.intercalate, List.intersperse]
theorem splitL_none (c : UInt8) : ∀ l : List UInt8, c ∉ l → splitL c l = [l]
  | [], _ => rfl
  | b :: l, h => by
    have h1 : b ≠ c := fun e => h (by rw [e]; exact List.mem_cons_self)
    have h2 : c ∉ l := fun e => h (List.mem_cons_of_mem _ e)
    rw [splitL, if_neg h1, splitL_none c l h2]
theorem splitL_pre (c : UInt8) : ∀ (x l : List UInt8), c ∉ x → splitL c (x ++ c :: l) = x :: splitL c l
  | [], l, _ => by simp [splitL]
  | b :: x, l, h => by
    have h1 : b ≠ c := fun e => h (by rw [e]; exact List.mem_cons_self)
    have h2 : c ∉ x := fun e => h (List.mem_cons_of_mem _ e)
    rw [List.cons_append, splitL, if_neg h1, splitL_pre c x l h2]
theorem split_join (c : UInt8) : ∀ (xs : List (List UInt8)), xs ≠ [] → (∀ x ∈ xs, c ∉ x) → splitL c (Lib.join xs [c]) = xs
  | [], h, _ => absurd rfl h
  | [x], _, h => by rw [Lib.join_one]; exact splitL_none c x (h x (by simp))
  | x :: y :: r, _, h => by
    rw [join_two, List.append_assoc, List.singleton_append, splitL_pre c x _ (h x (by simp)), split_join c (y :: r) (by simp) (fun z hz => h z (List.mem_cons_of_mem _ hz))]
theorem join_split (c : UInt8) : ∀ l : List UInt8, Lib.join (splitL c l) [c] = l
  | [] => by rw [splitL, Lib.join_one]
  | b :: l => by
    have ih := join_split c l
    have hne := splitL_ne c l
    unfold splitL
    cases hq : splitL c l with
    | nil => exact absurd hq hne
    | cons y t =>
      rw [hq] at ih
      split
      · rename_i e; rw [join_two, ih, e]; rfl
      · cases t with
        | nil => rw [Lib.join_one] at ih ⊢; rw [ih]
        | cons z t => rw [join_two] at ih ⊢; rw [List.cons_append, List.cons_append, ih]

/-! ## numbers -/
theorem dec_rec (u : Nat) (h : ¬ u < 10) : Lib.decDigits u = Lib.decDigits (u / 10) ++ [UInt8.ofNat (48 + u % 10)] := by
  rw [Lib.decDigits, dif_neg h]
theorem dec_back : ∀ u : Nat, decVal (Lib.decDigits u) = u ∧ (Lib.decDigits u).all isDig = true ∧ 1 ≤ (Lib.decDigits u).length ∧ (1 < (Lib.decDigits u).length → (Lib.decDigits u).head? ≠ some 48) ∧ (u ≠ 0 → (Lib.decDigits u).head? ≠ some 48) := by
  intro u
  induction u using Nat.strongRecOn with
  | ind u ih =>
    by_cases h : u < 10
    · rw [Lib.decDigits_one h]
      have : u = 0 ∨ u = 1 ∨ u = 2 ∨ u = 3 ∨ u = 4 ∨ u = 5 ∨ u = 6 ∨ u = 7 ∨ u = 8 ∨ u = 9 := by omega
      rcases this with rfl | rfl | rfl | rfl | rfl | rfl | rfl | rfl | rfl | rfl <;> decide
    · obtain ⟨h1, h2, h3, h4, h5⟩ := ih (u / 10) (by omega)
      rw [dec_rec u h, decVal_snoc, h1]
      have hd : (UInt8.ofNat (48 + u % 10)).toNat = 48 + u % 10 := by simp; omega
      have hne : Lib.decDigits (u / 10) ≠ [] := by intro e; rw [e] at h3; simp at h3
      have hhead : (Lib.decDigits (u / 10) ++ [UInt8.ofNat (48 + u % 10)]).head? = (Lib.decDigits (u / 10)).head? := by
        cases hq : Lib.decDigits (u / 10) with
        | nil => exact absurd hq hne
        | cons a r => rfl
      refine ⟨by rw [hd]; omega, ?_, by simp, fun _ => ?_, fun _ => ?_⟩
      · rw [List.all_append, h2]; simp [isDig]; omega
      · rw [hhead]; exact h5 (by omega)
      · rw [hhead]; exact h5 (by omega)

theorem nDigits_le : ∀ (k u : Nat), u < 10 ^ (k + 1) → Lib.nDigits u ≤ k + 1
  | 0, u, h => by rw [Lib.nDigits_small (by simpa using h)]; omega
  | k + 1, u, h => by
    by_cases h10 : u < 10
    · rw [Lib.nDigits_small h10]; omega
    · have := nDigits_le k (u / 10) (by rw [Nat.pow_succ] at h; omega)
      rw [Lib.nDigits_big h10]; omega
theorem num_dec (u : Nat) (h : u < 10000000000) : numOk (Lib.decDigits u) = true ∧ numVal (Lib.decDigits u) = u := by
  obtain ⟨h1, h2, h3, h4, _⟩ := dec_back u
  have hl : (Lib.decDigits u).length ≤ 10 := by rw [Lib.decDigits_length]; exact nDigits_le 9 u (by omega)
  have hok : numOk (Lib.decDigits u) = true := by
    unfold numOk
    rw [h2]
    have e : (decide (1 < (Lib.decDigits u).length) && (Lib.decDigits u).head? == some 48) = false := by
      by_cases hq : 1 < (Lib.decDigits u).length
      · have := h4 hq; simp [this]
      · simp [hq]
    rw [e]
    simp [h3, hl]
  exact ⟨hok, by rw [numVal_yes hok, h1]⟩
theorem dec_of : ∀ (n : Nat) (p : List UInt8), p.length = n → p ≠ [] → p.all isDig = true → (1 < p.length → p.head? ≠ some 48) → Lib.decDigits (decVal p) = p := by
  intro n
  induction n with
  | zero => intro p h hne; exact absurd (List.eq_nil_of_length_eq_zero h) hne
  | succ n ih =>
    intro p hl hne hall hh
    obtain ⟨q, c, rfl⟩ : ∃ q c, p = q ++ [c] := ⟨p.dropLast, p.getLast hne, (List.dropLast_concat_getLast hne).symm⟩
    have hc : isDig c = true := by rw [List.all_append] at hall; simp at hall; exact hall.2
    have hq : q.all isDig = true := by rw [List.all_append] at hall; simp at hall ⊢; exact hall.1
    have hc2 : 48 ≤ c.toNat ∧ c.toNat ≤ 57 := by simp [isDig] at hc; omega
    have hcc : ∀ d, d = c.toNat - 48 → UInt8.ofNat (48 + d) = c := fun d hd => by
      rw [hd, show 48 + (c.toNat - 48) = c.toNat by omega]; exact UInt8.ofNat_toNat
    rw [decVal_snoc]
    by_cases hqn : q = []
    · subst hqn
      have e0 : decVal [] = 0 := rfl
      rw [e0, Lib.decDigits_one (by omega), hcc _ (by omega)]
      rfl
    · have hqh : q.head? ≠ some 48 := by
        have h1 : (q ++ [c]).head? = q.head? := by
          cases q with
          | nil => exact absurd rfl hqn
          | cons a r => rfl
        rw [← h1]
        apply hh
        have := List.length_pos_iff.2 hqn
        simp; omega
      have hI := ih q (by simpa using hl) hqn hq (fun _ => hqh)
      have hpos : 1 ≤ decVal q := by
        rcases Nat.eq_zero_or_pos (decVal q) with h0 | h0
        · rw [h0, Lib.decDigits_one (by omega)] at hI
          rw [← hI] at hqh
          exact absurd rfl hqh
        · exact h0
      rw [dec_rec _ (by omega), show (10 * decVal q + (c.toNat - 48)) / 10 = decVal q by omega, hI, hcc _ (by omega)]
theorem dec_num {p : List UInt8} (h : numOk p = true) : Lib.decDigits (numVal p) = p := by
  rw [numVal_yes h]
  unfold numOk at h
  simp only [Bool.and_eq_true, decide_eq_true_eq, Bool.not_eq_true'] at h
  obtain ⟨⟨⟨h1, _⟩, h2⟩, h3⟩ := h
  refine dec_of p.length p rfl (List.length_pos_iff.1 (by omega)) h3 (fun hl => ?_)
  rw [Bool.and_eq_false_iff] at h2
  rcases h2 with h2 | h2
  · simp [hl] at h2
  · simpa using h2

/-! ## identities -/
theorem hexL_at : ∀ (l : List UInt8) (j : Nat) (h : j < l.length), (hexL l)[2 * j]? = some (hexDig (l[j].toNat / 16)) ∧ (hexL l)[2 * j + 1]? = some (hexDig (l[j].toNat % 16))
  | [], j, h => by simp at h
  | b :: l, 0, _ => by simp [hexL, hexB]
  | b :: l, j + 1, h => by
    have ih := hexL_at l j (by simpa using h)
    have e : hexL (b :: l) = hexDig (b.toNat / 16) :: hexDig (b.toNat % 16) :: hexL l := by simp [hexL, hexB]
    rw [e, show 2 * (j + 1) = 2 * j + 1 + 1 by omega]
    simpa using ih
theorem hv_dig : ∀ n : Nat, n < 16 → hv (hexDig n) = n := by decide
theorem dig_hvN : ∀ n : Nat, n < 256 → hv (UInt8.ofNat n) < 16 → hexDig (hv (UInt8.ofNat n)) = UInt8.ofNat n := by decide +kernel
theorem dig_hv (c : UInt8) (h : hv c < 16) : hexDig (hv c) = c := by
  have := dig_hvN c.toNat c.toNat_lt
  rw [UInt8.ofNat_toNat] at this
  exact this h
theorem id_hex (x : Id32) : idOk (hexOf x) = true ∧ idVal (hexOf x) = x := by
  have hl : (hexOf x).length = 64 := hexOf_length x
  have hx : x.1.length = 32 := x.2
  have hat : ∀ j, (h : j < 32) → chr (hexOf x) (2 * j) = hexDig ((x.1[j]'(by omega)).toNat / 16) ∧ chr (hexOf x) (2 * j + 1) = hexDig ((x.1[j]'(by omega)).toNat % 16) := fun j h => by
    have := hexL_at x.1 j (by omega)
    unfold chr
    rw [List.getD_eq_getElem?_getD, List.getD_eq_getElem?_getD]
    rw [show hexOf x = hexL x.1 from rfl, this.1, this.2]
    exact ⟨rfl, rfl⟩
  have hall : (hexOf x).all isHex = true := by
    rw [List.all_eq_true]
    intro c hc
    have hm : c ∈ hexL x.1 := hc
    unfold hexL at hm
    rw [List.mem_flatMap] at hm
    obtain ⟨b, _, hb⟩ := hm
    have hb255 := b.toNat_lt
    simp only [hexB, List.mem_cons, List.mem_nil_iff, or_false] at hb
    rcases hb with rfl | rfl
    · simp only [isHex, decide_eq_true_eq]; rw [hv_dig _ (by omega)]; omega
    · simp only [isHex, decide_eq_true_eq]; rw [hv_dig _ (by omega)]; omega
  have hok : idOk (hexOf x) = true := by unfold idOk; rw [hl, hall]; rfl
  refine ⟨hok, ?_⟩
  rw [idVal_yes hok]
  apply Subtype.ext
  apply List.ext_getElem
  · simp [accId, hx]
  · intro j h1 h2
    have hj : j < 32 := by omega
    have hb := (x.1[j]'(by omega)).toNat_lt
    simp only [accId, List.getElem_map, List.getElem_range]
    unfold accB
    rw [if_pos (by omega), (hat j hj).1, (hat j hj).2, hv_dig _ (by omega), hv_dig _ (by omega), show (x.1[j]'(by omega)).toNat / 16 * 16 + (x.1[j]'(by omega)).toNat % 16 = (x.1[j]'(by omega)).toNat by omega]
    exact UInt8.ofNat_toNat
theorem hex_id {p : List UInt8} (h : idOk p = true) : hexOf (idVal p) = p := by
  rw [idVal_yes h]
  unfold idOk at h
  simp only [Bool.and_eq_true, decide_eq_true_eq, List.all_eq_true] at h
  obtain ⟨hl, hall⟩ := h
  have hchr : ∀ i, (hi : i < 64) → chr p i = p[i]'(by omega) ∧ hv (p[i]'(by omega)) < 16 := fun i hi => by
    refine ⟨by unfold chr; rw [List.getD_eq_getElem?_getD, List.getElem?_eq_getElem (by omega)]; rfl, ?_⟩
    have := hall _ (List.getElem_mem (show i < p.length by omega))
    simpa [isHex] using this
  apply List.ext_getElem
  · rw [hexOf_length, hl]
  · intro i h1 h2
    have hi : i < 64 := by omega
    have hat := hexL_at (accId p 64).1 (i / 2) (by rw [(accId p 64).2]; omega)
    have hj : (accId p 64).1[i / 2]'(by rw [(accId p 64).2]; omega) = UInt8.ofNat (accB p 64 (i / 2)) := by simp [accId]
    rw [hj] at hat
    have hA : accB p 64 (i / 2) = hv (chr p (2 * (i / 2))) * 16 + hv (chr p (2 * (i / 2) + 1)) := by unfold accB; rw [if_pos (by omega)]
    have c1 := hchr (2 * (i / 2)) (by omega)
    have c2 := hchr (2 * (i / 2) + 1) (by omega)
    have hlt : accB p 64 (i / 2) < 256 := by rw [hA, c1.1, c2.1]; omega
    have hnat : (UInt8.ofNat (accB p 64 (i / 2))).toNat = accB p 64 (i / 2) := by simp; omega
    rw [hnat] at hat
    have e1 : accB p 64 (i / 2) / 16 = hv (chr p (2 * (i / 2))) := by rw [hA, c1.1, c2.1]; omega
    have e2 : accB p 64 (i / 2) % 16 = hv (chr p (2 * (i / 2) + 1)) := by rw [hA, c1.1, c2.1]; omega
    rw [e1, e2, c1.1, c2.1, dig_hv _ c1.2, dig_hv _ c2.2, ← List.getElem?_eq_getElem, ← List.getElem?_eq_getElem] at hat
    have hg : (hexOf (accId p 64))[i]? = some (p[i]'h2) := by
      have : i = 2 * (i / 2) ∨ i = 2 * (i / 2) + 1 := by omega
      rcases this with e | e
      · have hh := hat.1
        rw [← e] at hh
        rw [show hexOf (accId p 64) = hexL (accId p 64).1 from rfl, hh]
        exact List.getElem?_eq_getElem h2
      · have hh := hat.2
        rw [← e] at hh
        rw [show hexOf (accId p 64) = hexL (accId p 64).1 from rfl, hh]
        exact List.getElem?_eq_getElem h2
    exact Option.some.inj ((List.getElem?_eq_getElem h1).symm.trans hg)

end Go.Proofs.YtdjaphcelpchaaaGreatDoor

namespace Go.Proofs.YtdjaphcelpchaaaGreatDoor
open Go Go.RowKit Go.Proofs

theorem str_data (l : List UInt8) : (str l).data.toList = l := by simp [str]
theorem no9_dig (u : Nat) : (9 : UInt8) ∉ Lib.decDigits u := fun h => by
  have := List.all_eq_true.1 (dec_back u).2.1 9 h
  revert this; decide
theorem no_hex (c : UInt8) (hc : isHex c = false) (x : Id32) : c ∉ hexOf x := fun h => by
  have h1 := (id_hex x).1
  unfold idOk at h1
  simp only [Bool.and_eq_true, List.all_eq_true] at h1
  rw [h1.2 c h] at hc
  cases hc
theorem no9_text {l : List UInt8} {most : Int} (h : textErr l most = 0) : (9 : UInt8) ∉ l := fun h9 => by
  unfold textErr at h
  split at h
  · cases h
  · split at h
    · cases h
    · rename_i hb
      exact hb (List.any_eq_true.2 ⟨9, h9, by decide⟩)
theorem mem_join {c : UInt8} {sep : List UInt8} : ∀ {xs : List (List UInt8)}, c ∈ Lib.join xs sep → c ∈ sep ∨ ∃ x ∈ xs, c ∈ x
  | [], h => by simp [Lib.join_nil] at h
  | [x], h => by rw [Lib.join_one] at h; exact Or.inr ⟨x, by simp, h⟩
  | x :: y :: r, h => by
    rw [join_two, List.append_assoc, List.mem_append, List.mem_append] at h
    rcases h with h | h | h
    · exact Or.inr ⟨x, by simp, h⟩
    · exact Or.inl h
    · rcases mem_join h with h | ⟨z, hz, hc⟩
      · exact Or.inl h
      · exact Or.inr ⟨z, List.mem_cons_of_mem _ hz, hc⟩
theorem refsTxt_eq (ids : List Id32) : refsTxt ids = Lib.join (ids.map hexOf) [44] := by
  unfold refsTxt joinS
  rw [List.map_map]
  congr 1
theorem no9_refs (ids : List Id32) : (9 : UInt8) ∉ refsTxt ids := fun h => by
  rw [refsTxt_eq] at h
  rcases mem_join h with h | ⟨x, hx, hc⟩
  · revert h; decide
  · obtain ⟨y, _, rfl⟩ := List.mem_map.1 hx
    exact no_hex 9 (by decide) y hc
theorem refTexts_txt (ids : List Id32) : refTexts (str (refsTxt ids)) = ids.map hexOf := by
  unfold refTexts
  rw [str_size, str_data, refsTxt_eq]
  cases ids with
  | nil => rfl
  | cons x r =>
    have hs := split_join 44 ((x :: r).map hexOf) (by simp) (fun y hy => by
      obtain ⟨z, _, rfl⟩ := List.mem_map.1 hy
      exact no_hex 44 (by decide) z)
    rw [if_neg, hs]
    intro e
    rw [List.length_eq_zero_iff] at e
    rw [e] at hs
    have h64 := hexOf_length x
    cases r with
    | nil =>
      simp only [List.map_cons, List.map_nil, splitL, List.cons.injEq] at hs
      rw [← hs.1] at h64; simp at h64
    | cons y t => simp [splitL] at hs
theorem refIds_txt (ids : List Id32) : refIds (str (refsTxt ids)) = ids ∧ refsPart (str (refsTxt ids)) = refsErr ids := by
  have h1 : refIds (str (refsTxt ids)) = ids := by
    unfold refIds
    rw [refTexts_txt, List.map_map]
    conv => rhs; rw [← List.map_id ids]
    apply List.map_congr_left
    intro x _
    exact (id_hex x).2
  refine ⟨h1, ?_⟩
  unfold refsPart
  rw [h1, if_pos]
  rw [refTexts_txt, List.all_eq_true]
  intro y hy
  obtain ⟨z, _, rfl⟩ := List.mem_map.1 hy
  exact (id_hex z).1
theorem txt_refIds {p : ByteArray} (h : refsPart p = 0) : refsTxt (refIds p) = p.data.toList ∧ refsErr (refIds p) = 0 := by
  unfold refsPart at h
  split at h
  · rename_i hall
    refine ⟨?_, h⟩
    rw [refsTxt_eq]
    unfold refIds
    rw [List.map_map]
    have e : (refTexts p).map (hexOf ∘ idVal) = refTexts p := by
      conv => rhs; rw [← List.map_id (refTexts p)]
      apply List.map_congr_left
      intro x hx
      exact hex_id (List.all_eq_true.1 hall x hx)
    rw [e]
    unfold refTexts
    split
    · rename_i h0
      rw [Lib.join_nil]
      exact (List.length_eq_zero_iff.1 (by rw [size_list]; exact h0)).symm
    · exact join_split 44 _
  · cases h
theorem split_line (n : Nat) (id : Id32) (name : ByteArray) (d : Nat) (subject : ByteArray) (ids : List Id32) (b : Nat) (h1 : (9 : UInt8) ∉ name.data.toList) (h2 : (9 : UInt8) ∉ subject.data.toList) :
    splitS 9 (str (lineTxt n id name d subject ids b)) = lineParts n id name d subject ids b := by
  unfold splitS lineTxt joinS
  rw [str_data, split_join]
  · rw [List.map_map]
    conv => rhs; rw [← List.map_id (lineParts n id name d subject ids b)]
    apply List.map_congr_left
    intro x _
    exact str_of x
  · simp [lineParts]
  · intro x hx
    simp only [lineParts, List.map_cons, List.map_nil, List.mem_cons, List.mem_nil_iff, or_false, str_data, hexS] at hx
    rcases hx with rfl | rfl | rfl | rfl | rfl | rfl | rfl
    · exact no9_dig n
    · exact no_hex 9 (by decide) id
    · exact h1
    · exact no9_dig d
    · exact h2
    · exact no9_refs ids
    · exact no9_dig b
theorem lineErr_of {g : GLine} {ids : List Id32} (h1 : rangeErr g.number 1 2147483646 2 = 0) (h2 : textErr g.name.data.toList 60 = 0) (h3 : rangeErr g.date 0 105190559 13 = 0) (h4 : textErr g.subject.data.toList 200 = 0) (h5 : refsErr ids = 0) (h6 : rangeErr g.bytes 0 65536 2 = 0) : lineErr g ids = 0 := by
  unfold lineErr
  rw [h1, h2, h3, h4, h5, h6]; rfl
theorem numErr_zero {l : List UInt8} {lo hi e : Int} (h : numErr l lo hi e = 0) : numOk l = true ∧ rangeErr (numVal l) lo hi e = 0 := by
  unfold numErr at h
  split at h
  · rename_i hk; exact ⟨hk, h⟩
  · cases h
/-- What Parse tells of the text that Print writes of a line without error. -/
theorem parse_print {g : GLine} {ids : List Id32} (he : lineErr g ids = 0) :
    parseOut (str (lineTxt g.number.toNat g.id g.name g.date.toNat g.subject ids g.bytes.toNat)) = (0, 0) ∧
    ∀ G is, ParsedIs (str (lineTxt g.number.toNat g.id g.name g.date.toNat g.subject ids g.bytes.toNat)) G is → G = { g with refs := G.refs } ∧ is = ids := by
  obtain ⟨e1, e2, e3, e4, e5, e6⟩ := lineErr_zero he
  have hz := orErr_zero he
  have z1 := hz (rangeErr g.number 1 2147483646 2) (by simp)
  have z2 := hz (textErr g.name.data.toList 60) (by simp)
  have z3 := hz (rangeErr g.date 0 105190559 13) (by simp)
  have z4 := hz (textErr g.subject.data.toList 200) (by simp)
  have z5 := hz (refsErr ids) (by simp)
  have z6 := hz (rangeErr g.bytes 0 65536 2) (by simp)
  obtain ⟨n, hn⟩ : ∃ n : Nat, g.number = n := ⟨g.number.toNat, by omega⟩
  obtain ⟨d, hd⟩ : ∃ n : Nat, g.date = n := ⟨g.date.toNat, by omega⟩
  obtain ⟨b, hb⟩ : ∃ n : Nat, g.bytes = n := ⟨g.bytes.toNat, by omega⟩
  rw [hn] at z1 ⊢
  rw [hd] at z3 ⊢
  rw [hb] at z6 ⊢
  simp only [Int.toNat_natCast]
  obtain ⟨n1, n2⟩ := num_dec n (by omega)
  obtain ⟨d1, d2⟩ := num_dec d (by omega)
  obtain ⟨b1, b2⟩ := num_dec b (by omega)
  obtain ⟨i1, i2⟩ := id_hex g.id
  obtain ⟨r1, r2⟩ := refIds_txt ids
  have hT := split_line n g.id g.name d g.subject ids b (no9_text z2) (no9_text z4)
  have hbad : firstBad (lineParts n g.id g.name d g.subject ids b) = none := firstBad_none (fun j hj => by
    match j, hj with
    | 0, _ => show numErr (Lib.decDigits n) 1 2147483646 2 = 0; rw [numErr_yes n1, n2]; exact z1
    | 1, _ => show (if idOk (hexOf g.id) then (0 : Int) else 3) = 0; rw [i1]; rfl
    | 2, _ => exact z2
    | 3, _ => show numErr (Lib.decDigits d) 0 105190559 13 = 0; rw [numErr_yes d1, d2]; exact z3
    | 4, _ => exact z4
    | 5, _ => show refsPart (str (refsTxt ids)) = 0; rw [r2]; exact z5
    | 6, _ => show numErr (Lib.decDigits b) 0 65536 2 = 0; rw [numErr_yes b1, b2]; exact z6)
  have hpo : parseOut (str (lineTxt n g.id g.name d g.subject ids b)) = (0, 0) := by
    unfold parseOut
    rw [hT, hbad]; rfl
  refine ⟨hpo, fun G is hP => ?_⟩
  obtain ⟨v, hG, hi⟩ := hP.yes (by rw [hpo])
  rw [hT] at hG hi
  have hG2 : G = ⟨(numVal (Lib.decDigits n) : Nat), idVal (hexOf g.id), g.name, (numVal (Lib.decDigits d) : Nat), g.subject, v, (numVal (Lib.decDigits b) : Nat)⟩ := hG
  rw [n2, i2, d2, b2] at hG2
  refine ⟨?_, ?_⟩
  · rw [hG2]
  · rw [hi]; exact r1
/-- What Print writes of the line that Parse reads without error. -/
theorem print_parse {s : ByteArray} {G : GLine} {is : List Id32} (h0 : (parseOut s).1 = 0) (hP : ParsedIs s G is) :
    lineErr G is = 0 ∧ str (lineTxt G.number.toNat G.id G.name G.date.toNat G.subject is G.bytes.toNat) = s := by
  obtain ⟨v, hG, hi⟩ := hP.yes h0
  have hlen : (splitS 9 s).length = 7 := by
    unfold parseOut at h0
    split at h0
    · cases h0
    · split at h0
      · cases h0
      · omega
  have hok : ∀ j, j < 7 → partErr j (nth (splitS 9 s) j) = 0 := by
    have hb : firstBad (splitS 9 s) = none := by
      unfold parseOut at h0
      rw [if_neg (by omega), if_neg (by omega)] at h0
      cases hq : firstBad (splitS 9 s) with
      | none => rfl
      | some k =>
        rw [hq] at h0
        have := List.find?_some hq
        simp at this h0
        exact absurd h0 this
    intro j hj
    unfold firstBad at hb
    rw [List.find?_eq_none] at hb
    have := hb j (by simpa using hj)
    simpa using this
  have hjoin : joinS (splitS 9 s) [9] = s.data.toList := by
    unfold joinS splitS
    rw [List.map_map]
    have e : (splitL 9 s.data.toList).map ((fun x => x.data.toList) ∘ str) = splitL 9 s.data.toList := by
      conv => rhs; rw [← List.map_id (splitL 9 s.data.toList)]
      rfl
    rw [e]
    exact join_split 9 _
  have hT : splitS 9 s = [nth (splitS 9 s) 0, nth (splitS 9 s) 1, nth (splitS 9 s) 2, nth (splitS 9 s) 3, nth (splitS 9 s) 4, nth (splitS 9 s) 5, nth (splitS 9 s) 6] := by
    generalize splitS 9 s = T at hlen
    match T, hlen with
    | [a, b, c, d, e, f, g], _ => rfl
  generalize splitS 9 s = T at hG hi hok hjoin hT
  have hG2 : G = ⟨(numVal (nth T 0).data.toList : Nat), idVal (nth T 1).data.toList, nth T 2, (numVal (nth T 3).data.toList : Nat), nth T 4, v, (numVal (nth T 6).data.toList : Nat)⟩ := hG
  have k0 := numErr_zero (show numErr (nth T 0).data.toList 1 2147483646 2 = 0 from hok 0 (by omega))
  have k1 : idOk (nth T 1).data.toList = true := by
    have h1 : (if idOk (nth T 1).data.toList then (0 : Int) else 3) = 0 := hok 1 (by omega)
    split at h1
    · assumption
    · cases h1
  have k2 : textErr (nth T 2).data.toList 60 = 0 := hok 2 (by omega)
  have k3 := numErr_zero (show numErr (nth T 3).data.toList 0 105190559 13 = 0 from hok 3 (by omega))
  have k4 : textErr (nth T 4).data.toList 200 = 0 := hok 4 (by omega)
  have k5 := txt_refIds (show refsPart (nth T 5) = 0 from hok 5 (by omega))
  have k6 := numErr_zero (show numErr (nth T 6).data.toList 0 65536 2 = 0 from hok 6 (by omega))
  rw [hG2, hi]
  refine ⟨lineErr_of k0.2 k2 k3.2 k4 k5.2 k6.2, ?_⟩
  unfold lineTxt
  have e : lineParts (numVal (nth T 0).data.toList) (idVal (nth T 1).data.toList) (nth T 2) (numVal (nth T 3).data.toList) (nth T 4) (refIds (nth T 5)) (numVal (nth T 6).data.toList) = T := by
    unfold lineParts hexS
    rw [dec_num k0.1, hex_id k1, dec_num k3.1, k5.1, dec_num k6.1, str_of, str_of, str_of, str_of, str_of]
    exact hT.symm
  simp only [Int.toNat_natCast]
  rw [e, hjoin]
  exact str_of s

end Go.Proofs.YtdjaphcelpchaaaGreatDoor

namespace Go.Proofs.YtdjaphcelpchaaaGreatDoor
open Go Go.RowKit Go.Proofs

attribute [local go_sem ↓] ex_load_id ex_store_id ex_load_line ex_store_line ex_load_rline ex_store_rline ex_alloc_line ex_build_line ex_alloc_rline ex_build_rline

attribute [local go_sem] ld_id st_id ld_line st_line ld_rline st_rline guard_id okCells_drew rdCells_drew okCells_drewN rdCells_drewN rowOk_drew rowOk_cells okCells_cells rdCells_cells setRow_drew setRow_new setRow_past

/-- 'known' answers true in every world that holds the program's tables. -/
def Knows : Prop := ∀ w : World, Gl w → Calls Tryz.prog 13 #[] w fun r w' => r = .returned (.bool true) ∧ Below w.heap.size w w'

theorem LineVar.below {w w' : World} {lb B : Nat} {g : GLine} (h : LineVar w lb g) (hb : Below B w w') (hlt : lb < B) : LineVar w' lb g := (hb.block lb hlt).trans h

end Go.Proofs.YtdjaphcelpchaaaGreatDoor

namespace Go.Proofs.YtdjaphcelpchaaaGreatDoor
open Go Go.RowKit Go.Proofs

theorem look_empty (w : World) (M : Nat) (k : ByteArray) (h : w.heap[M]? = some (.map #[] 0)) : (Instr.lookup 102 (.map (some M)) (.string k) false).run Tryz.prog w = .ok (.pointer none) w := by
  have hg : (getObj M).run Tryz.prog w = .ok (.map #[] 0) w := by simp [getObj, Sem.run, h]
  have hu : (underlying 102).run Tryz.prog w = .ok (.map 9 112) w := by kernel_rfl
  unfold Instr.lookup
  rw [Sem.run_bind, hu]
  simp only [Result.andThen_ok, Sem.run_bind, hg]
  show (_ : Result Value) = _
  first | kernel_rfl | rfl
theorem look_one (w : World) (M : Nat) (v : Value) (h : w.heap[M]? = some (.map #[{ key := .string ⟨#[97, 46, 98]⟩, val := v, born := 0 }] 1)) : (Instr.lookup 102 (.map (some M)) (.string ⟨#[97, 46, 98]⟩) false).run Tryz.prog w = .ok v w := by
  have hg : (getObj M).run Tryz.prog w = .ok (.map #[{ key := .string ⟨#[97, 46, 98]⟩, val := v, born := 0 }] 1) w := by simp [getObj, Sem.run, h]
  have hu : (underlying 102).run Tryz.prog w = .ok (.map 9 112) w := by kernel_rfl
  unfold Instr.lookup
  rw [Sem.run_bind, hu]
  simp only [Result.andThen_ok, Sem.run_bind, hg]
  show (_ : Result Value) = _
  first | kernel_rfl | rfl

theorem put_id_empty (w : World) (M : Nat) (v : Value) (h : w.heap[M]? = some (.map #[] 0)) : (Instr.mapUpdate 113 (.map (some M)) (.agg (encId zeroId).toArray) v).run Tryz.prog w = (setObj M (.map #[{ key := .agg (encId zeroId).toArray, val := v, born := 0 }] 1)).run Tryz.prog w := by
  have hg : (getObj M).run Tryz.prog w = .ok (.map #[] 0) w := by simp [getObj, Sem.run, h]
  have hu : (underlying 113).run Tryz.prog w = .ok (.map 23 3) w := by kernel_rfl
  unfold Instr.mapUpdate
  rw [Sem.run_bind, hu]
  simp only [Result.andThen_ok, Sem.run_bind, hg]
  show (_ : Result Unit) = _
  kernel_rfl

end Go.Proofs.YtdjaphcelpchaaaGreatDoor

namespace Go.Proofs.YtdjaphcelpchaaaGreatDoor
open Go Go.RowKit Go.Proofs

attribute [local go_sem ↓] ex_load_id ex_store_id ex_load_line ex_store_line ex_alloc_line ex_build_line

attribute [local go_sem] ld_id st_id ld_line st_line guard_id okCells_drew rdCells_drew okCells_drewN rdCells_drewN rowOk_drew rowOk_cells okCells_cells rdCells_cells setRow_drew setRow_new setRow_past

set_option maxHeartbeats 1000000 in
theorem linesOf_none (IB M : Nat) (s : ByteArray) (w : World) (hc : w.cell? ⟨IB, 0, none⟩ = some (.map (some M))) (hm : w.heap[M]? = some (.map #[] 0)) :
    Calls Tryz.prog 68 #[.pointer (some ⟨IB, 0, none⟩), .string s] w fun r w' => r = .returned (.slice none 0 0) ∧ w = w' := by
  have hl := look_empty w M s hm
  clear hm
  go_enter Tryz.func68, Tryz.ntmps68
  go_wp2
  go_ret
  exact ⟨rfl, rfl⟩

set_option maxHeartbeats 1000000 in
theorem linesOf_one (IB M gb n c : Nat) (w : World) (a : Option Addr) (hc : w.cell? ⟨IB, 0, none⟩ = some (.map (some M))) (hm : w.heap[M]? = some (.map #[{ key := .string ⟨#[97, 46, 98]⟩, val := .pointer (some ⟨gb, 0, none⟩), born := 0 }] 1)) (hg : w.cell? ⟨gb, 0, none⟩ = some (.slice a n c)) :
    Calls Tryz.prog 68 #[.pointer (some ⟨IB, 0, none⟩), .string ⟨#[97, 46, 98]⟩] w fun r w' => r = .returned (.slice a n c) ∧ w = w' := by
  have hl := look_one w M _ hm
  clear hm
  go_enter Tryz.func68, Tryz.ntmps68
  go_wp2
  go_ret
  exact ⟨rfl, rfl⟩

set_option maxRecDepth 100000 in
set_option maxHeartbeats 1000000 in
theorem search_none (x : Int) (w : World) :
    Calls Tryz.prog 69 #[.slice none 0 0, .int .i64 x] w fun r w' => r = .returned (.tuple #[.int .i64 0, .bool false]) ∧ w = w' := by
  go_enter Tryz.func69, Tryz.ntmps69
  go_wp2_with fail
  have hs : ∀ f, Calls Tryz.prog 101 #[.slice none 0 0, .int .i64 x, f] w fun r w' => r = .returned (.tuple #[.int .i64 0, .bool false]) ∧ w = w' := fun f => by
    go_enter Tryz.func101, Tryz.ntmps101
    go_wp2
    go_loop [9, 10] (fun a b => a = .int .i64 0 ∧ b = .int .i64 0) (fun _ _ => 0)
    case atStart => exact ⟨rfl, rfl⟩
    case round =>
      obtain ⟨rfl, rfl⟩ := hrel
      go_wp2
      go_ret2
      exact ⟨rfl, rfl⟩
  refine (hs _).mono ?_
  rintro r w' ⟨rfl, rfl⟩
  go_wp2
  go_ret2
  exact ⟨rfl, rfl⟩

set_option maxRecDepth 100000 in
set_option maxHeartbeats 1000000 in
theorem find_none (IB M : Nat) (s : ByteArray) (x : Id32) (w : World) (hc : w.cell? ⟨IB, 0, none⟩ = some (.map (some M))) (hm : w.heap[M]? = some (.map #[] 0)) :
    Calls Tryz.prog 41 #[.pointer (some ⟨IB, 0, none⟩), .string s, .agg (encId x).toArray] w fun r w' => r = .returned (.tuple #[.agg (lineCells zeroLine), .bool false]) ∧ Below w.heap.size w w' := by
  have hb0 : Below w.heap.size w ((w.alloc (.cells (encId x).toArray 23)).alloc (.cells (lineCells zeroLine) 34)) := ((Below.refl _ _).alloc (Nat.le_refl _) _).alloc (by simp) _
  have hcW : ((w.alloc (.cells (encId x).toArray 23)).alloc (.cells (lineCells zeroLine) 34)).cell? ⟨IB, 0, none⟩ = some (.map (some M)) := (hb0.cell (block_lt_of_cell hc)).trans hc
  have hmW := (hb0.block M (Array.getElem?_eq_some_iff.1 hm).1).trans hm
  have HC := Lib.hid hcW
  have HM := Lib.hid hmW
  have HB := Lib.hid hb0
  have hft : fitsRow 38 (lineCells zeroLine) = true := fits_line rfl
  have hzs : ((lineCells zeroLine).size == 38) = true := by rw [lineCells_size]; rfl
  clear hc hm hcW hmW hb0
  go_enter Tryz.func41, Tryz.ntmps41
  go_wp2_with fail
  refine (linesOf_none IB M s _ HC.out HM.out).mono ?_
  rintro r w' ⟨rfl, rfl⟩
  go_wp2
  refine bodyPost_ret (v := .tuple #[.agg (lineCells zeroLine), .bool false]) ?_ rfl ⟨rfl, HB.out⟩
  exact results_agg2 rfl Tryz.isAgg34 Tryz.sizeOf34 _ _ ⟨w.heap.size + 1, 0, none⟩ _ _ rfl rfl (by simpa using ok_new_line (w.alloc (.cells (encId x).toArray 23)) zeroLine _) (by simpa using rd_new_line (w.alloc (.cells (encId x).toArray 23)) zeroLine 34)

end Go.Proofs.YtdjaphcelpchaaaGreatDoor

namespace Go.Proofs.YtdjaphcelpchaaaGreatDoor
open Go Go.RowKit Go.Proofs

/-- A lower-case letter; a byte that no component holds; a component; the error of a name. -/
def lowB (c : UInt8) : Bool := decide (97 ≤ c.toNat) && decide (c.toNat ≤ 122)
def badB (c : UInt8) : Bool := !lowB c && (decide (c.toNat < 48) || decide (57 < c.toNat)) && c.toNat != 45 && c.toNat != 43 && c.toNat != 95
def compB (l : List UInt8) : Bool := match l with
  | [] => false
  | c :: r => decide ((c :: r).length ≤ 20) && lowB c && !(c :: r).any badB
def nameErr (s : ByteArray) : Int := if 80 < s.size then 5 else if (splitS 46 s).any (fun x => !compB x.data.toList) then 12 else if 10 < (splitS 46 s).length then 9 else 0

set_option maxHeartbeats 1000000 in
theorem isLower_any (c : UInt8) (w : World) : Calls Tryz.prog 134 #[.int .u8 c.toNat] w fun r w' => r = .returned (.bool (lowB c)) ∧ w = w' := by
  unfold lowB
  by_cases h1 : 97 ≤ c.toNat
  · by_cases h2 : c.toNat ≤ 122
    · rw [decide_eq_true h1, decide_eq_true h2]
      have h1' : (97 : Int) ≤ (c.toNat : Int) := by omega
      have h2' : (c.toNat : Int) ≤ 122 := by omega
      go_enter Tryz.func134, Tryz.ntmps134
      go_wp2
      go_ret
      exact ⟨by simp, rfl⟩
    · rw [decide_eq_true h1, decide_eq_false h2]
      have h1' : (97 : Int) ≤ (c.toNat : Int) := by omega
      have h2' : decide ((c.toNat : Int) ≤ 122) = false := by simp; omega
      go_enter Tryz.func134, Tryz.ntmps134
      go_wp2
      go_ret
      exact ⟨by simp, rfl⟩
  · rw [decide_eq_false h1]
    have h1' : decide ((97 : Int) ≤ (c.toNat : Int)) = false := by simp; omega
    go_enter Tryz.func134, Tryz.ntmps134
    go_wp2
    go_ret
    exact ⟨by simp, rfl⟩

set_option maxHeartbeats 2000000 in
theorem other_any (c : UInt8) (w : World) : Calls Tryz.prog 136 #[.int .u8 c.toNat] w fun r w' => r = .returned (.bool (badB c)) ∧ w = w' := by
  unfold badB
  have hlow := isLower_any c w
  generalize lowB c = b at hlow
  have HL := Lib.hid hlow
  clear hlow
  cases b with
  | true =>
    go_enter Tryz.func136, Tryz.ntmps136
    go_wp2_with fail
    refine HL.out.mono ?_
    rintro r w' ⟨rfl, rfl⟩
    go_wp2
    go_ret
    exact ⟨rfl, rfl⟩
  | false =>
    by_cases h1 : c.toNat < 48
    case pos =>
      have n45 : ((c.toNat : Int) != 45) = (c.toNat != 45) := by
        rw [Bool.eq_iff_iff]; simp; omega
      have n43 : ((c.toNat : Int) != 43) = (c.toNat != 43) := by
        rw [Bool.eq_iff_iff]; simp; omega
      have n95 : ((c.toNat : Int) != 95) = (c.toNat != 95) := by
        rw [Bool.eq_iff_iff]; simp; omega
      have h1' : (c.toNat : Int) < 48 := by omega
      rw [decide_eq_true h1, ← n45, ← n43, ← n95]
      cases e45 : ((c.toNat : Int) != 45) <;> cases e43 : ((c.toNat : Int) != 43) <;> cases e95 : ((c.toNat : Int) != 95) <;>
      · clear n45 n43 n95
        go_enter Tryz.func136, Tryz.ntmps136
        go_wp2_with fail
        refine HL.out.mono ?_
        rintro r w' ⟨rfl, rfl⟩
        go_wp2
        go_ret
        exact ⟨rfl, rfl⟩
    by_cases h2 : 57 < c.toNat
    case neg =>
      have h1' : decide ((c.toNat : Int) < 48) = false := by simp; omega
      have h2' : decide (57 < (c.toNat : Int)) = false := by simp; omega
      rw [decide_eq_false h1, decide_eq_false h2]
      go_enter Tryz.func136, Tryz.ntmps136
      go_wp2_with fail
      refine HL.out.mono ?_
      rintro r w' ⟨rfl, rfl⟩
      go_wp2
      go_ret
      exact ⟨rfl, rfl⟩
    have n45 : ((c.toNat : Int) != 45) = (c.toNat != 45) := by
      rw [Bool.eq_iff_iff]; simp; omega
    have n43 : ((c.toNat : Int) != 43) = (c.toNat != 43) := by
      rw [Bool.eq_iff_iff]; simp; omega
    have n95 : ((c.toNat : Int) != 95) = (c.toNat != 95) := by
      rw [Bool.eq_iff_iff]; simp; omega
    have h1' : decide ((c.toNat : Int) < 48) = false := by simp; omega
    have h2' : 57 < (c.toNat : Int) := by omega
    rw [decide_eq_false h1, decide_eq_true h2, ← n45, ← n43, ← n95]
    cases e45 : ((c.toNat : Int) != 45) <;> cases e43 : ((c.toNat : Int) != 43) <;> cases e95 : ((c.toNat : Int) != 95) <;>
    · clear n45 n43 n95
      go_enter Tryz.func136, Tryz.ntmps136
      go_wp2_with fail
      refine HL.out.mono ?_
      rintro r w' ⟨rfl, rfl⟩
      go_wp2
      go_ret
      exact ⟨rfl, rfl⟩

def encB (x : UInt8) : Value := .int .u8 x.toNat
theorem pred_bad (w : World) : PredAt Tryz.prog 136 #[] encB badB w := fun W x _ =>
  (other_any x W).mono fun _ _ ⟨he, hw⟩ => ⟨he, 0, hw.symm⟩

theorem bytesRow_get (s : ByteArray) (cap j : Nat) (h : j < s.size) : (bytesRow s cap)[j]? = some (.int .u8 (s.data.toList[j]!).toNat) := by
  unfold bytesRow
  have h' : j < s.data.size := h
  rw [Array.getElem?_append_left (by simpa using h'), Array.getElem?_map, Array.getElem?_eq_getElem h']
  simp only [Option.map_some]
  have : s.data.toList[j]! = s.data[j] := by rw [getElem!_pos s.data.toList j (by simpa using h')]; rfl
  rw [this]

theorem compB_eq {s : ByteArray} (h0 : 0 < s.size) : compB s.data.toList = (decide (s.size ≤ 20) && lowB s[0] && !s.data.toList.any badB) := by
  obtain ⟨⟨l⟩⟩ := s
  cases l with
  | nil => exact absurd h0 (by simp [ByteArray.size])
  | cons c r => rfl

set_option maxRecDepth 100000 in
set_option maxHeartbeats 1000000 in
theorem isComponent_any (s : ByteArray) (w : World) (hs : s.size ≤ maxLen) : Calls Tryz.prog 108 #[.string s] w fun r w' => r = .returned (.bool (compB s.data.toList)) ∧ Below w.heap.size w w' := by
  unfold maxLen at hs
  by_cases h0 : 0 < s.size
  case neg =>
    obtain ⟨⟨l⟩⟩ := s
    cases l with
    | nil =>
      go_enter Tryz.func108, Tryz.ntmps108
      go_wp2
      go_ret
      exact ⟨rfl, Below.refl _ _⟩
    | cons c r => exact absurd h0 (by simp [ByteArray.size])
  have hc := compB_eq h0
  have hpe : s.toList.isEmpty = false := by
    rw [ByteArray.toList_eq, List.isEmpty_eq_false_iff, ← List.length_pos_iff, size_list]; omega
  rw [hc]
  clear hc
  by_cases h20 : s.size ≤ 20
  case neg =>
    rw [decide_eq_false h20]
    have h20' : (20 : Int) < (s.size : Int) := by omega
    go_enter Tryz.func108, Tryz.ntmps108
    go_wp2
    go_ret
    exact ⟨rfl, Below.refl _ _⟩
  rw [decide_eq_true h20]
  have h20' : decide ((20 : Int) < (s.size : Int)) = false := by simp; omega
  have hlow := isLower_any s[0] w
  generalize lowB s[0] = b at hlow
  have HL := Lib.hid hlow
  clear hlow
  generalize hbb : s.data.toList.any badB = bb
  have HBB := Lib.hid hbb
  clear hbb
  go_enter Tryz.func108, Tryz.ntmps108
  go_wp2_with fail
  refine HL.out.mono ?_
  rintro r w' ⟨rfl, rfl⟩
  cases b with
  | false =>
    go_wp2
    go_ret
    exact ⟨rfl, Below.refl _ _⟩
  | true =>
    have hcv := run_bytes_of_string (P := Tryz.prog) w 9 124 5 s Tryz.underlying9 Tryz.underlying124 Tryz.underlying5
    go_wp2_with fail
    have hcf := AnyE.slices_ContainsFunc Tryz.containsFuncByte encB badB 136 #[] (enters_of Tryz.func136 (by decide) rfl) w.heap.size 0 s.size (grownCap w s.size 0 5) s.data.toList (w.alloc (.cells (bytesRow s (grownCap w s.size 0 5)) 5 ((bytesRow s (grownCap w s.size 0 5)).size, (bytesRow s (grownCap w s.size 0 5)).size + 1))).drew (pred_bad _) (Nat.le_of_eq (size_list s).symm) (by omega) (fun j hj => by
      have hj' : j < s.size := by rw [size_list] at hj; exact hj
      have := bytesRow_get s (grownCap w s.size 0 5) j hj'
      rw [World.cell?_drew, World.cell?_alloc_mark, Nat.zero_add]
      exact this)
    have hany : (s.data.toList.take s.size).any badB = s.data.toList.any badB := by rw [List.take_of_length_le (Nat.le_of_eq (size_list s))]
    rw [hany] at hcf
    rw [HBB.out] at hcf
    have HF := Lib.hid hcf
    clear hcf hcv hany HBB
    refine HF.out.mono ?_
    rintro r w' ⟨rfl, q, rfl⟩
    go_wp2
    go_ret
    exact ⟨by simp, below_drewN' ((Below.refl _ _).alloc (Nat.le_refl _) _) (1 + q)⟩

set_option maxHeartbeats 1000000 in
theorem notComp_any (s : ByteArray) (w : World) (hs : s.size ≤ maxLen) : Calls Tryz.prog 107 #[.string s] w fun r w' => r = .returned (.bool (!compB s.data.toList)) ∧ Below w.heap.size w w' := by
  have hc := isComponent_any s w hs
  generalize compB s.data.toList = b at hc ⊢
  have HC := Lib.hid hc
  clear hc
  go_enter Tryz.func107, Tryz.ntmps107
  go_wp2_with fail
  refine HC.out.mono ?_
  rintro r w' ⟨rfl, hb⟩
  go_wp2
  go_ret
  exact ⟨by simp, hb⟩

/-- The first index of a bad part, or -1. -/
def badAt : List ByteArray → Nat → Int
  | [], _ => -1
  | x :: r, k => if compB x.data.toList then badAt r (k + 1) else k
theorem badAt_all : ∀ (xs : List ByteArray) (k : Nat), (0 ≤ badAt xs k) ↔ xs.any (fun x => !compB x.data.toList) = true
  | [], k => by simp [badAt]
  | x :: r, k => by
    have := badAt_all r (k + 1)
    by_cases h : compB x.data.toList = true
    · simp only [badAt, h, if_true, List.any_cons, Bool.not_true, Bool.false_or]; exact this
    · simp only [badAt, h, List.any_cons]
      simp

set_option maxRecDepth 100000 in
set_option maxHeartbeats 1000000 in
theorem indexBad_any (b c : Nat) (xs : List ByteArray) (w : World) (hx : StrRow w b 0 xs) (hm : xs.length ≤ 1000000) (hlen : ∀ x ∈ xs, x.size ≤ maxLen) :
    Calls Tryz.prog 133 #[.slice (some ⟨b, 0, none⟩) xs.length c, .func (.func 107) #[] #[]] w fun r w' => r = .returned (.int .i64 (badAt xs 0)) ∧ Below w.heap.size w w' := by
  have HX := Lib.hid hx
  have HL := Lib.hid hlen
  clear hx hlen
  go_enter Tryz.func133, Tryz.ntmps133
  go_wp2
  go_loopw [5, 8] (fun _ i wr => ∃ k : Nat, k ≤ xs.length ∧ i = .int .i64 k ∧ Hid (badAt xs 0 = badAt (xs.drop k) k) ∧ Below w.heap.size w wr) (fun _ i _ => xs.length - (intOf i).toNat)
  case atStart => exact ⟨0, by omega, rfl, Lib.hid rfl, Below.refl _ _⟩
  case round =>
    obtain ⟨k, hk, rfl, HB, hb⟩ := hrel
    by_cases hlt : k < xs.length
    · have hltz : (k : Int) < (xs.length : Int) := by omega
      have hget : xs[k]? = some xs[k] := List.getElem?_eq_getElem hlt
      have hc0 := HX.out k _ hget
      rw [Nat.zero_add] at hc0
      have hcell : wr.cell? ⟨b, k, none⟩ = some (.string xs[k]) := (hb.cell (block_lt_of_cell hc0)).trans hc0
      have hsz := HL.out xs[k] (List.getElem_mem hlt)
      have hst : Hid (badAt xs 0 = if compB xs[k].data.toList then badAt (xs.drop (k + 1)) (k + 1) else k) := Lib.hid (by
        rw [HB.out, List.drop_eq_getElem_cons hlt]; rfl)
      have hcall := notComp_any xs[k] wr hsz
      have HBB := Lib.hid hb
      clear HB hc0 hget hsz hb
      generalize xs[k] = x at hcell hst hcall
      generalize compB x.data.toList = bb at hcall hst
      have HC := Lib.hid hcall
      clear hcall
      cases bb with
      | true =>
        go_wp2_with fail
        refine HC.out.mono ?_
        rintro r w' ⟨rfl, hb1⟩
        have hb2 := HBB.out.trans (hb1.mono HBB.out.size)
        go_wp2
        go_roundw
        case rel => exact ⟨k + 1, by omega, by go_num, Lib.hid (by rw [hst.out]; rfl), hb2⟩
        case measure => simp [intOf]; omega
      | false =>
        go_wp2_with fail
        refine HC.out.mono ?_
        rintro r w' ⟨rfl, hb1⟩
        have hb2 := HBB.out.trans (hb1.mono HBB.out.size)
        go_wp2
        go_ret
        exact ⟨ret_int (by rw [hst.out]; rfl), hb2⟩
    · have hend : Hid (badAt xs 0 = -1) := Lib.hid (by rw [HB.out, List.drop_eq_nil_of_le (by omega)]; rfl)
      clear HB
      go_wp2
      go_ret
      exact ⟨ret_int (by rw [hend.out]), hb⟩

set_option maxHeartbeats 1000000 in
theorem anyBad_any (b c : Nat) (xs : List ByteArray) (w : World) (hx : StrRow w b 0 xs) (hm : xs.length ≤ 1000000) (hlen : ∀ x ∈ xs, x.size ≤ maxLen) :
    Calls Tryz.prog 106 #[.slice (some ⟨b, 0, none⟩) xs.length c, .func (.func 107) #[] #[]] w fun r w' => r = .returned (.bool (xs.any fun x => !compB x.data.toList)) ∧ Below w.heap.size w w' := by
  have HI := Lib.hid (indexBad_any b c xs w hx hm hlen)
  have hiff := badAt_all xs 0
  have hd : (xs.any fun x => !compB x.data.toList) = decide (0 ≤ badAt xs 0) := by
    rw [Bool.eq_iff_iff, decide_eq_true_eq]; exact hiff.symm
  rw [hd]
  clear hiff hd hx hlen
  generalize badAt xs 0 = n at HI ⊢
  go_enter Tryz.func106, Tryz.ntmps106
  go_wp2_with fail
  refine HI.out.mono ?_
  rintro r w' ⟨rfl, hb⟩
  go_wp2
  go_ret
  exact ⟨by simp, hb⟩

set_option maxHeartbeats 1000000 in
theorem dots_any (s : ByteArray) (w : World) (hG : Gl w) (hs : s.size < 4294967281) :
    Calls Tryz.prog 105 #[.string s] w fun r w' => r = .returned (.slice (some ⟨w.heap.size, 0, none⟩) (splitS 46 s).length (splitS 46 s).length) ∧ w.alloc (.cells ((splitS 46 s).map Value.string).toArray 9) = w' := by
  go_enter Tryz.func105, Tryz.ntmps105
  go_wp2_with fail
  refine (split_any 46 s w hG hs).mono ?_
  rintro r w' ⟨rfl, rfl⟩
  go_wp2
  go_ret
  exact ⟨rfl, rfl⟩

theorem splitL_le (c : UInt8) : ∀ l : List UInt8, ∀ x ∈ splitL c l, x.length ≤ l.length
  | [], x, hx => by simp [splitL] at hx; simp [hx]
  | b :: l, x, hx => by
    have ih := splitL_le c l
    unfold splitL at hx
    split at hx
    · simp only [List.mem_cons] at hx
      rcases hx with rfl | hx
      · simp
      · have := ih x hx; simp; omega
    · split at hx
      · rename_i h t e
        rw [e] at ih
        simp only [List.mem_cons] at hx
        rcases hx with rfl | hx
        · have := ih h (by simp); simp; omega
        · have := ih x (by simp [hx]); simp; omega
      · simp at hx; subst hx; simp
theorem splitS_le (c : UInt8) (s : ByteArray) : ∀ x ∈ splitS c s, x.size ≤ s.size := by
  intro x hx
  unfold splitS at hx
  obtain ⟨l, hl, rfl⟩ := List.mem_map.1 hx
  rw [str_size, ← size_list]
  exact splitL_le c _ l hl

set_option maxRecDepth 100000 in
set_option maxHeartbeats 1000000 in
theorem nameCheck_any (s : ByteArray) (w : World) (hG : Gl w) (hs : s.size ≤ maxLen) :
    Calls Tryz.prog 72 #[.string s] w fun r w' => r = .returned (.int .i64 (nameErr s)) ∧ Below w.heap.size w w' := by
  unfold maxLen at hs
  unfold nameErr
  by_cases h80 : 80 < s.size
  · rw [if_pos h80]
    have h80' : (80 : Int) < (s.size : Int) := by omega
    go_enter Tryz.func72, Tryz.ntmps72
    go_wp2
    go_ret
    exact ⟨rfl, Below.refl _ _⟩
  · rw [if_neg h80]
    have h80' : ¬ (80 : Int) < (s.size : Int) := by omega
    have hle := splitS_le 46 s
    have hln := splitS_len 46 s
    have hD := Lib.hid (dots_any s w hG (by omega))
    have hbw : Below w.heap.size w (w.alloc (.cells ((splitS 46 s).map Value.string).toArray 9)) := (Below.refl _ _).alloc (Nat.le_refl _) _
    have hA := anyBad_any w.heap.size (splitS 46 s).length (splitS 46 s) (w.alloc (.cells ((splitS 46 s).map Value.string).toArray 9)) (split_row w _ _) (by omega) (fun x hx => by have := hle x hx; unfold maxLen; omega)
    have hm : (splitS 46 s).length ≤ 81 := by omega
    generalize splitS 46 s = xs at hD hA hbw hm ⊢
    generalize (xs.any fun x => !compB x.data.toList) = b at hA ⊢
    generalize xs.length = n at hD hA hm ⊢
    have HA := Lib.hid hA
    have HB := Lib.hid hbw
    clear hA hbw hle hln
    cases b with
    | true =>
      go_enter Tryz.func72, Tryz.ntmps72
      go_wp2_with fail
      refine hD.out.mono ?_
      rintro r w' ⟨rfl, rfl⟩
      go_wp2_with fail
      refine HA.out.mono ?_
      rintro r w' ⟨rfl, hb⟩
      go_wp2
      go_ret
      exact ⟨rfl, HB.out.trans (hb.mono HB.out.size)⟩
    | false =>
      by_cases h10 : 10 < n
      · have h10' : (10 : Int) < (n : Int) := by omega
        rw [if_pos h10]
        go_enter Tryz.func72, Tryz.ntmps72
        go_wp2_with fail
        refine hD.out.mono ?_
        rintro r w' ⟨rfl, rfl⟩
        go_wp2_with fail
        refine HA.out.mono ?_
        rintro r w' ⟨rfl, hb⟩
        go_wp2
        go_ret
        exact ⟨rfl, HB.out.trans (hb.mono HB.out.size)⟩
      · have h10' : ¬ (10 : Int) < (n : Int) := by omega
        rw [if_neg h10]
        go_enter Tryz.func72, Tryz.ntmps72
        go_wp2_with fail
        refine hD.out.mono ?_
        rintro r w' ⟨rfl, rfl⟩
        go_wp2_with fail
        refine HA.out.mono ?_
        rintro r w' ⟨rfl, hb⟩
        go_wp2
        go_ret
        exact ⟨rfl, HB.out.trans (hb.mono HB.out.size)⟩

end Go.Proofs.YtdjaphcelpchaaaGreatDoor

namespace Go.Proofs.YtdjaphcelpchaaaGreatDoor
open Go Go.RowKit Go.Proofs

attribute [local go_sem ↓] ex_load_id ex_store_id ex_load_line ex_store_line ex_alloc_line ex_build_line

attribute [local go_sem] ld_id st_id ld_line st_line guard_id okCells_drew rdCells_drew okCells_drewN rdCells_drewN rowOk_drew rowOk_cells okCells_cells rdCells_cells setRow_drew setRow_new setRow_past

/-- The references of a line as a row of their own: nil, or the head of a block at or beyond a number. -/
def IdsOwn (B : Nat) (w : World) (v : Value) (ids : List Id32) : Prop := w.ownsRow B 23 32 v ids.length (flatIds ids)
theorem IdsOwn.at {B : Nat} {w : World} {v : Value} {ids : List Id32} (h : IdsOwn B w v ids) : IdsAt w v ids := idsAt_own h
theorem IdsOwn.mono {B B' : Nat} {w : World} {v : Value} {ids : List Id32} (h : IdsOwn B w v ids) (hB : B' ≤ B) : IdsOwn B' w v ids := by
  refine ⟨h.1, ?_⟩
  rcases h.2 with h0 | ⟨g, cap, cur, e, hg, hr⟩
  · exact .inl h0
  · exact .inr ⟨g, cap, cur, e, Nat.le_trans hB hg, hr⟩
theorem IdsOwn.block {B : Nat} {w w' : World} {v : Value} {ids : List Id32} (h : IdsOwn B w v ids) (hk : ∀ k, v.ownBlock = some k → w'.heap[k]? = w.heap[k]?) : IdsOwn B w' v ids := by
  refine ⟨h.1, ?_⟩
  rcases h.2 with h0 | ⟨g, cap, cur, e, hg, hcur, hr⟩
  · exact .inl h0
  · exact .inr ⟨g, cap, cur, e, hg, (hk g (by rw [e]; rfl)).trans hcur, hr⟩
theorem IdsOwn.lt {B : Nat} {w : World} {v : Value} {ids : List Id32} (h : IdsOwn B w v ids) {k : Nat} (hk : v.ownBlock = some k) : B ≤ k ∧ k < w.heap.size := World.ownsRow.lt h k hk
theorem IdsOwn.below {B : Nat} {w w' : World} {v : Value} {ids : List Id32} (h : IdsOwn B w v ids) (hb : Below w.heap.size w w') : IdsOwn B w' v ids := h.block fun k hk => hb.block k (h.lt hk).2
theorem IdsOwn.one {B : Nat} {w : World} {v : Value} {ids : List Id32} (h : IdsOwn B w v ids) : v.oneCell' = true := h.at.one

theorem cloneIds_any (B : Nat) (v : Value) (ids : List Id32) (w : World) (h : IdsOwn B w v ids) (hn : ids.length ≤ 1000000) :
    Calls Tryz.prog 104 #[v] w fun r w' => ∃ v', r = .returned v' ∧ IdsOwn w.heap.size w' v' ids ∧ Below w.heap.size w w' := by
  obtain ⟨i0, hi, hz0, hz1, hz2⟩ := info_parts Tryz.info_id
  rcases h.2 with ⟨rfl, h0⟩ | ⟨g, cap, cur, rfl, hg, hcur, hle, hmx, hcs, htk⟩
  · refine (AnyE.slices_Clone_nil Tryz.cloneId 0 0 w).mono ?_
    rintro r w' ⟨rfl, rfl⟩
    obtain rfl : ids = [] := List.length_eq_zero_iff.1 h0
    exact ⟨_, rfl, World.ownsRow_nil _ _ _ _, Below.refl _ _⟩
  · refine (AnyE.slices_Clone Tryz.cloneId i0 (.agg (encId zeroId).toArray) 32 32 hi hz0 hz1 hz2 (encId_size zeroId) (by decide) Tryz.sizeOf23 g 0 ids.length cap (flatIds ids) w h.1 (by unfold maxLen; omega) (by omega) (fun j u hj => ?_) (flat_one ids)).mono ?_
    · have := World.ownsRow.cells h (g := g) rfl j u hj
      rwa [Addr.add_lit] at this
    · rintro r w' ⟨v', rfl, hown, _, hb⟩
      exact ⟨v', rfl, hown, hb⟩

set_option maxRecDepth 100000 in
set_option maxHeartbeats 1000000 in
theorem clone_any (B : Nat) (g : GLine) (ids : List Id32) (w : World) (h : IdsOwn B w g.refs ids) (hn : ids.length ≤ 1000000) :
    Calls Tryz.prog 70 #[.agg (lineCells g)] w fun r w' => ∃ v, r = .returned (.agg (lineCells { g with refs := v })) ∧ IdsOwn w.heap.size w' v ids ∧ Below w.heap.size w w' := by
  obtain ⟨W0, hW0⟩ : ∃ W0, W0 = (w.alloc (.cells (lineCells g) 34)).alloc (.cells (lineCells zeroLine) 34) := ⟨_, rfl⟩
  have hs0 : W0.heap.size = w.heap.size + 2 := by rw [hW0]; simp
  have hb0 : Below w.heap.size w W0 := by rw [hW0]; exact ((Below.refl _ _).alloc (Nat.le_refl _) _).alloc (by simp) _
  have hV0 : LineVar W0 w.heap.size g := by
    unfold LineVar
    rw [hW0, heap_alloc_old _ _ (by simp), heap_alloc_new]
  have hZ0 : LineVar W0 (w.heap.size + 1) zeroLine := by
    unfold LineVar
    have := heap_alloc_new (w.alloc (.cells (lineCells g) 34)) (.cells (lineCells zeroLine) 34)
    rw [hW0]
    simpa using this
  have hcl := cloneIds_any B g.refs ids W0 (h.below hb0) hn
  have c36 : W0.cell? ⟨w.heap.size, 36, none⟩ = some g.refs := (hV0.cell 36).trans (lc36 g)
  have HC := Lib.hid hcl
  have HV := Lib.hid hV0
  have HZ := Lib.hid hZ0
  have HB := Lib.hid hb0
  clear hcl hV0 hZ0 hb0
  go_enter Tryz.func70, Tryz.ntmps70
  rw [hW0] at c36
  go_wp2_with fail
  rw [← hW0]
  clear c36 hW0
  refine HC.out.mono ?_
  rintro r w1 ⟨v, rfl, hI, hb1⟩
  have hone := hI.one
  obtain ⟨va, vn, vc, hv⟩ : ∃ a n c, v = .slice a n c := by obtain ⟨a, c, e, _⟩ := hI.at; exact ⟨a, _, c, e⟩
  have hV1 : LineVar w1 w.heap.size g := HV.out.below hb1 (by omega)
  have hZ1 : LineVar w1 (w.heap.size + 1) zeroLine := HZ.out.below hb1 (by omega)
  have hB1 : Below w.heap.size w w1 := HB.out.trans (hb1.mono HB.out.size)
  have hV2 := hV1.set 36 v (set_refs g v)
  have hZ2 : LineVar (w1.setCell ⟨w.heap.size, 36, none⟩ v) (w.heap.size + 1) zeroLine := hZ1.grown (grown_set w1 w.heap.size 36 v) (by simp)
  have hI2 : IdsOwn W0.heap.size (w1.setCell ⟨w.heap.size, 36, none⟩ v) v ids := hI.block fun k hk => heap_setCell_other w1 ⟨w.heap.size, 36, none⟩ k v (by have := (hI.lt hk).1; simp; omega)
  have hB2 : Below w.heap.size w (w1.setCell ⟨w.heap.size, 36, none⟩ v) := hB1.setCell (Nat.le_refl _) v
  have hc := (hV1.cell 36).trans (lc36 g)
  have hf := hV1.free 36
  have ho2 := hV2.rd.1
  have hr2 := hV2.rd.2
  have hro := hZ2.row
  have hft := fits_line (g := { g with refs := v }) hone
  have HV2 := Lib.hid hV2
  have HZ2 := Lib.hid hZ2
  have HI2 := Lib.hid hI2
  have HB2 := Lib.hid hB2
  clear hV1 hZ1 hB1 hV2 hZ2 hI2 hB2 hI hb1 HC HV HZ HB h
  subst hv
  go_wp2
  refine bodyPost_ret (v := .agg (lineCells { g with refs := .slice va vn vc })) ?_ rfl ⟨_, rfl, ?_, below_grown HB2.out (grown_row _ _ _) HB2.out.size (by omega)⟩
  · exact results_agg1 rfl Tryz.isAgg34 Tryz.sizeOf34 _ _ ⟨w.heap.size + 1, 0, none⟩ _ rfl (HZ2.out.blk.setRow.rd.1) (HZ2.out.blk.setRow.rd.2)
  · refine (HI2.out.mono (by omega)).block fun k hk => (grown_row _ (w.heap.size + 1) _).block k (HI2.out.lt hk).2 ?_
    intro e
    have := (HI2.out.lt hk).1
    cases e
    omega

end Go.Proofs.YtdjaphcelpchaaaGreatDoor

namespace Go.Proofs.YtdjaphcelpchaaaGreatDoor
open Go Go.RowKit Go.Proofs

theorem Tryz.info_line : (Tryz.prog.info? 34).map (fun i => (i.zero, i.size, i.bytes)) = some (some (.agg (lineCells zeroLine)), 38, 112) := by kernel_rfl

set_option maxRecDepth 100000 in
set_option maxHeartbeats 1000000 in
theorem insert_end (B : Nat) (v : Value) (n sb : Nat) (xs : List Value) (g : GLine) (w : World) (hone : refsOne g) (hown : w.ownsRow B 34 38 v n xs) (hB : B ≤ w.heap.size) (hn : n ≤ 65536) (hsb : ∀ j u, (lineList g)[j]? = some u → w.cell? ((⟨sb, 0, none⟩ : Addr).add j) = some u) :
    Calls Tryz.prog 73 #[v, .int .i64 n, .slice (some ⟨sb, 0, none⟩) 1 1] w fun r w' => ∃ v', r = .returned v' ∧ w'.ownsRow B 34 38 v' (n + 1) (xs ++ lineList g) ∧ w.grownBy w' v.ownBlock := by
  obtain ⟨i0, hi, hz0, hz1, hz2⟩ := info_parts Tryz.info_line
  have HS := Lib.hid hsb
  clear hsb
  have hone2 := Lib.hid (lineList_one hone)
  have hl1 := lineList_length g
  have HW := Lib.hid hown
  rcases hown.2 with ⟨rfl, rfl⟩ | ⟨gb, cap, cur, rfl, hg, hcur, hle, hmx, hcs, htk⟩
  · clear hown
    go_enter Tryz.func73, Tryz.ntmps73
    go_wp2_with (at_builtin; refine wpList_append_own _ rfl (.tmp 23) (.tmp 24) 107 rfl B 34 i0 (.agg (lineCells zeroLine)) 38 112 Tryz.underlying107 hi hz0 hz1 hz2 (lineCells_size _) (by decide) _ _ _ rfl HW.out ⟨sb, 0, none⟩ 1 1 (lineList g) rfl hl1 HS.out hone2.out ?c3 ?c4 hB ?_)
    case c3 => unfold maxLen; omega
    case c4 => omega
    intro v' w2 hown' hgrow _
    go_wp2
    go_ret
    exact ⟨v', rfl, hown', hgrow⟩
  · clear hown
    unfold maxLen at hmx
    have heq : ((n : Int) == (n : Int)) = true := by simp
    have hle' : (n : Int) ≤ (cap : Int) := by omega
    by_cases hcn : cap = n
    · subst hcn
      go_enter Tryz.func73, Tryz.ntmps73
      go_wp2_with (at_builtin; refine wpList_append_own _ rfl (.tmp 23) (.tmp 24) 107 rfl B 34 i0 (.agg (lineCells zeroLine)) 38 112 Tryz.underlying107 hi hz0 hz1 hz2 (lineCells_size _) (by decide) _ _ _ rfl HW.out ⟨sb, 0, none⟩ 1 1 (lineList g) rfl hl1 HS.out hone2.out (by unfold maxLen; omega) (by omega) hB ?_)
      intro v' w2 hown' hgrow _
      go_wp2
      go_ret
      exact ⟨v', rfl, hown', hgrow⟩
    · have hcz : ¬ (cap : Int) = (n : Int) := by omega
      go_enter Tryz.func73, Tryz.ntmps73
      go_wp2_with (at_builtin; refine wpList_append_own _ rfl (.tmp 23) (.tmp 24) 107 rfl B 34 i0 (.agg (lineCells zeroLine)) 38 112 Tryz.underlying107 hi hz0 hz1 hz2 (lineCells_size _) (by decide) _ _ _ rfl HW.out ⟨sb, 0, none⟩ 1 1 (lineList g) rfl hl1 HS.out hone2.out (by unfold maxLen; omega) (by omega) hB ?_)
      intro v' w2 hown' hgrow _
      go_wp2
      go_ret
      exact ⟨v', rfl, hown', hgrow⟩

end Go.Proofs.YtdjaphcelpchaaaGreatDoor

namespace Go.Proofs.YtdjaphcelpchaaaGreatDoor
open Go Go.RowKit Go.Proofs

attribute [local go_sem ↓] ex_load_id ex_store_id ex_load_line ex_store_line ex_alloc_line ex_build_line

attribute [local go_sem] ld_id st_id ld_line st_line guard_id okCells_drew rdCells_drew okCells_drewN rdCells_drewN rowOk_drew rowOk_cells okCells_cells rdCells_cells setRow_drew setRow_new setRow_past

/-- The line that 'known' adds. -/
def three : GLine := { zeroLine with number := 3 }
theorem three_ok : lineErr three [] = 0 := by decide +kernel
theorem ab_ok : nameErr ⟨#[97, 46, 98]⟩ = 0 := by decide +kernel

theorem quiet_call {f : FuncId} {args : Array Value} {w : World} {n : Nat} {v : Value} (h : Calls Tryz.prog f args (w.drewN n) fun e w' => e = .returned v ∧ w.drewN n = w') : Calls Tryz.prog f args (w.drewN n) fun e w'' => e = .returned v ∧ ∃ m, w'' = w.drewN m :=
  Calls.quiet_of_same (h.mono fun _ _ ⟨a, b⟩ => ⟨a, b.symm⟩)
theorem LineVar.idAt {w : World} {lb : Nat} {g : GLine} (h : LineVar w lb g) : okCells w ⟨lb, 1, none⟩ 32 = true ∧ rdCells w ⟨lb, 1, none⟩ 32 = (encId g.id).toArray := by
  have := rd_of_cells (w := w) (a := ⟨lb, 1, none⟩) (cs := encId g.id) (fun j v hj => by
    have hj32 : j < 32 := by have := (List.getElem?_eq_some_iff.1 hj).1; rwa [encId_length] at this
    rw [Addr.add_lit, h.cell, ← hj]
    simp only [lineCells, lineList, List.getElem?_toArray]
    rw [show 1 + j = j + 1 by omega, List.getElem?_cons_succ, List.getElem?_append_left (by rw [encId_length]; exact hj32)])
  rwa [encId_length] at this

set_option maxRecDepth 100000 in
set_option maxHeartbeats 2000000 in
theorem add_fresh (IB M B : Nat) (w : World) (hG : Gl w) (hI : w.heap[IB]? = some (.cells #[.map (some M), .int .i64 0] 104 (0, 0))) (hM : w.heap[M]? = some (.map #[] 0)) (hB : B ≤ IB) (hBM : B ≤ M) :
    Calls Tryz.prog 32 #[.pointer (some ⟨IB, 0, none⟩), .string ⟨#[97, 46, 98]⟩, .agg (lineCells three)] w fun r w' => r = .returned (.int .i64 0) ∧ Below B w w' ∧
      ∃ gb a c, w'.cell? ⟨IB, 0, none⟩ = some (.map (some M)) ∧ w'.heap[M]? = some (.map #[{ key := .string ⟨#[97, 46, 98]⟩, val := .pointer (some ⟨gb, 0, none⟩), born := 0 }] 1) ∧ w'.cell? ⟨gb, 0, none⟩ = some (.slice a 1 c) := by
  have hIB : IB < w.heap.size := (Array.getElem?_eq_some_iff.1 hI).1
  have hMB : M < w.heap.size := (Array.getElem?_eq_some_iff.1 hM).1
  have hne : IB ≠ M := by rintro rfl; rw [hI] at hM; cases hM
  have hb0 : Below w.heap.size w (w.alloc (.cells (lineCells three) 34)) := (Below.refl _ _).alloc (Nat.le_refl _) _
  have hL0 : LineVar (w.alloc (.cells (lineCells three) 34)) w.heap.size three := heap_alloc_new _ _
  have HL0 := Lib.hid hL0
  have HB0 := Lib.hid hb0
  have HI := Lib.hid hI
  have HM := Lib.hid hM
  clear hL0 hb0 hI hM
  go_enter Tryz.func32, Tryz.ntmps32
  go_wp2_with fail
  refine (nameCheck_any ⟨#[97, 46, 98]⟩ _ (hG.later HB0.out) (by decide +kernel)).mono ?_
  rintro r w1 ⟨rfl, hb1⟩
  rw [ab_ok]
  have hL1 : LineVar w1 w.heap.size three := HL0.out.below hb1 (by simp)
  have hB1 : Below w.heap.size w w1 := HB0.out.trans (hb1.mono (by simp))
  have hs1 : w.heap.size < w1.heap.size := hL1.lt
  obtain ⟨o1, d1⟩ := hL1.rd
  have HL1 := Lib.hid hL1
  have HB1 := Lib.hid hB1
  clear hb1 hL1 hB1 HL0 HB0
  go_wp2_with fail
  refine (lineCheck_any three [] w1 ⟨idsAt_nil _, by decide +kernel, by decide +kernel, by decide +kernel⟩).mono ?_
  rintro r w2 ⟨rfl, hb2⟩
  rw [three_ok]
  have hL2 : LineVar w2 w.heap.size three := HL1.out.below hb2 hs1
  have hB2 : Below w.heap.size w w2 := HB1.out.trans (hb2.mono HB1.out.size)
  have hs2 : w.heap.size < w2.heap.size := hL2.lt
  clear o1 d1 hb2 HL1 HB1 hs1
  have hI2 := (hB2.block IB hIB).trans HI.out
  have hM2 := (hB2.block M hMB).trans HM.out
  have n2 := (hL2.cell 0).trans (lc0 three)
  have HL2 := Lib.hid hL2
  have HB2 := Lib.hid hB2
  have HI2 := Lib.hid hI2
  have HM2 := Lib.hid hM2
  clear hL2 hB2 hI2 hM2
  have hcI2 : w2.cell? ⟨IB, 0, none⟩ = some (.map (some M)) := cell_of_row w2 IB 0 _ _ _ HI2.out
  have c1 : ∀ n, Calls Tryz.prog 68 #[.pointer (some ⟨IB, 0, none⟩), .string ⟨#[97, 46, 98]⟩] (w2.drewN n) fun r w' => r = .returned (.slice none 0 0) ∧ ∃ m, w' = w2.drewN m := fun n => quiet_call (linesOf_none IB M _ _ (by rw [World.cell?_drewN]; exact hcI2) (by rw [World.heap_drewN]; exact HM2.out))
  have c2 : ∀ n, Calls Tryz.prog 69 #[.slice none 0 0, .int .i64 three.number] (w2.drewN n) fun r w' => r = .returned (.tuple #[.int .i64 0, .bool false]) ∧ ∃ m, w' = w2.drewN m := fun n => quiet_call (search_none _ _)
  have C1 := Lib.hid c1
  have C2 := Lib.hid c2
  clear c1 c2 hcI2
  go_wp2_with fail
  go_quiet (first | (go_at_call 68; exact C1.out _) | (go_at_call 69; exact C2.out _))
  have hL3 : LineVar (w2.drewN nq) w.heap.size three := HL2.out
  have hB3 : Below w.heap.size w (w2.drewN nq) := below_drewN' HB2.out nq
  have hI3 : (w2.drewN nq).heap[IB]? = some (.cells #[.map (some M), .int .i64 0] 104 (0, 0)) := HI2.out
  have hM3 : (w2.drewN nq).heap[M]? = some (.map #[] 0) := HM2.out
  have hs3 : w.heap.size < (w2.drewN nq).heap.size := hs2
  generalize w2.drewN nq = w3 at hL3 hB3 hI3 hM3 hs3 ⊢
  clear C1 C2 HL2 HB2 HI2 HM2 n2 hs2
  obtain ⟨o3, d3⟩ := hL3.idAt
  have hcI3 : w3.cell? ⟨IB, 0, none⟩ = some (.map (some M)) := cell_of_row w3 IB 0 _ _ _ hI3
  have HF := Lib.hid (find_none IB M ⟨#[97, 46, 98]⟩ three.id w3 hcI3 hM3)
  have HL3 := Lib.hid hL3
  have HB3 := Lib.hid hB3
  have HI3 := Lib.hid hI3
  have HM3 := Lib.hid hM3
  have hft : fitsRow 38 (lineCells zeroLine) = true := fits_line rfl
  have hzs : ((lineCells zeroLine).size == 38) = true := by rw [lineCells_size]; rfl
  clear hL3 hB3 hI3 hM3 hcI3
  go_wp2_with fail
  refine HF.out.mono ?_
  rintro r w4 ⟨rfl, hb4⟩
  have hL4 : LineVar w4 w.heap.size three := HL3.out.below hb4 hs3
  have hB4 : Below w.heap.size w w4 := HB3.out.trans (hb4.mono HB3.out.size)
  have hs4 : w.heap.size < w4.heap.size := hL4.lt
  clear o3 d3 HF HL3 HB3 HI3 HM3 hb4 hs3
  have hb5 : Below w4.heap.size w4 (w4.alloc (.cells (lineCells zeroLine) 34)) := (Below.refl _ _).alloc (Nat.le_refl _) _
  have hL5 : LineVar (w4.alloc (.cells (lineCells zeroLine) 34)) w.heap.size three := hL4.below hb5 hs4
  have hB5 : Below w.heap.size w (w4.alloc (.cells (lineCells zeroLine) 34)) := hB4.trans (hb5.mono hB4.size)
  have hs5 : w.heap.size < (w4.alloc (.cells (lineCells zeroLine) 34)).heap.size := hL5.lt
  have hI5 := (hB5.block IB hIB).trans HI.out
  have hM5 := (hB5.block M hMB).trans HM.out
  have HL5 := Lib.hid hL5
  have HB5 := Lib.hid hB5
  have HI5 := Lib.hid hI5
  have HM5 := Lib.hid hM5
  clear hb5 hL5 hB5 hI5 hM5 hL4 hB4 hs4
  go_upto_region 11 with (fail)
  generalize w4.alloc (.cells (lineCells zeroLine) 34) = w5 at HL5 HB5 HI5 HM5 hs5 ⊢
  have hc0 : w5.cell? ⟨IB, 0, none⟩ = some (.map (some M)) := cell_of_row _ IB 0 _ _ _ HI5.out
  have hc1 : w5.cell? ⟨IB, 1, none⟩ = some (.int .i64 0) := cell_of_row _ IB 1 _ _ _ HI5.out
  have hlk := look_empty _ M ⟨#[97, 46, 98]⟩ HM5.out
  have hmn := fun (u : World) => run_eql_map_nil (P := Tryz.prog) u 102 9 112 (some M) Tryz.underlying102
  have hmm := @run_makeMap Tryz.prog
  have hup : ∀ v, (Instr.mapUpdate 102 (.map (some M)) (.string ⟨#[97, 46, 98]⟩) v).run Tryz.prog ((w5.alloc (.map #[] 0)).alloc (.cells #[.slice none 0 0, .map (some w5.heap.size)] 115)) = .ok () (((w5.alloc (.map #[] 0)).alloc (.cells #[.slice none 0 0, .map (some w5.heap.size)] 115)).putObj M (.map #[{ key := .string ⟨#[97, 46, 98]⟩, val := v, born := 0 }] 1)) := fun v =>
    run_mapUpdate_first _ 102 9 112 M 0 ⟨#[97, 46, 98]⟩ v Tryz.underlying102 Tryz.underlying9 (by
      rw [heap_alloc_old _ _ (by have := (Array.getElem?_eq_some_iff.1 HM5.out).1; simp; omega), heap_alloc_old _ _ (Array.getElem?_eq_some_iff.1 HM5.out).1]; exact HM5.out)
  have hc6 : ((w5.alloc (.map #[] 0)).alloc (.cells #[.slice none 0 0, .map (some w5.heap.size)] 115)).cell? ⟨IB, 0, none⟩ = some (.map (some M)) := Lib.cell?_alloc_some _ (Lib.cell?_alloc_some _ hc0)
  go_upto_region 21 with (fail)
  obtain ⟨gb, hgb⟩ : ∃ gb, gb = w5.heap.size + 1 := ⟨_, rfl⟩
  obtain ⟨nb, hnb⟩ : ∃ nb, nb = w5.heap.size := ⟨_, rfl⟩
  obtain ⟨w6, hw6⟩ : ∃ w6, w6 = ((w5.alloc (.map #[] 0)).alloc (.cells #[.slice none 0 0, .map (some w5.heap.size)] 115)).putObj M (.map #[{ key := .string ⟨#[97, 46, 98]⟩, val := .pointer (some ⟨w5.heap.size + 1, 0, none⟩), born := 0 }] 1) := ⟨_, rfl⟩
  have hM5lt : M < w5.heap.size := (Array.getElem?_eq_some_iff.1 HM5.out).1
  have hI5lt : IB < w5.heap.size := (Array.getElem?_eq_some_iff.1 HI5.out).1
  have hs6 : w6.heap.size = w5.heap.size + 2 := by rw [hw6]; simp [World.putObj]
  have blk6 : ∀ k, k < w5.heap.size → k ≠ M → w6.heap[k]? = w5.heap[k]? := fun k hk hkM => by
    rw [hw6, World.putObj_heap_other hkM, heap_alloc_old _ _ (by simp; omega), heap_alloc_old _ _ hk]
  have hM6 : w6.heap[M]? = some (.map #[{ key := .string ⟨#[97, 46, 98]⟩, val := .pointer (some ⟨gb, 0, none⟩), born := 0 }] 1) := by
    rw [hw6, World.putObj_heap_same (by simp; omega), hgb]
  have hg6 : w6.heap[gb]? = some (.cells #[.slice none 0 0, .map (some nb)] 115 (0, 0)) := by
    rw [hw6, World.putObj_heap_other (by omega), hgb, hnb]
    have := heap_alloc_new (w5.alloc (.map #[] 0)) (.cells #[.slice none 0 0, .map (some w5.heap.size)] 115)
    simpa using this
  have hn6 : w6.heap[nb]? = some (.map #[] 0) := by
    rw [hw6, World.putObj_heap_other (by omega), heap_alloc_old _ _ (by simp; omega), hnb, heap_alloc_new]
  have hL6 : LineVar w6 w.heap.size three := (blk6 _ hs5 (by omega)).trans HL5.out
  have hI6 := (blk6 IB hI5lt hne).trans HI5.out
  have hB6 : Below B w w6 := by
    have h1 : Below B w w5 := HB5.out.mono (by omega)
    refine ⟨?_, ?_, ?_, by have := h1.size; omega, fun k hk => (blk6 k (by omega) (by omega)).trans (h1.block k hk)⟩
    · rw [hw6]; exact h1.os
    · rw [hw6]; exact h1.tape
    · rw [hw6]; exact h1.output
  rw [← hw6, ← hgb, ← hnb]
  have hgbs : gb < w6.heap.size := by omega
  have hnbs : nb < w6.heap.size := by omega
  have hLs : w.heap.size < w6.heap.size := by omega
  have hIs : IB < w6.heap.size := by omega
  have hMs : M < w6.heap.size := by omega
  have hgL : gb ≠ w.heap.size := by omega
  have hgI : gb ≠ IB := by omega
  have hgM : gb ≠ M := by omega
  have hgN : gb ≠ nb := by omega
  have hnL : nb ≠ w.heap.size := by omega
  have hnI : nb ≠ IB := by omega
  have hnM : nb ≠ M := by omega
  have hBg : B ≤ gb := by omega
  have hBn : B ≤ nb := by omega
  clear hw6 hgb hnb hs6 blk6 hc6 hc0 hc1 hlk hmn hmm hup HL5 HB5 HI5 HM5 hM5lt hI5lt hs5
  have q1 : ∀ z : Later w6, z.1.cell? ⟨gb, 0, none⟩ = some (.slice none 0 0) := fun z => z.cell (cell_of_row w6 gb 0 _ _ _ hg6)
  have q2 : ∀ z : Later w6, okCells z.1 ⟨w.heap.size, 0, none⟩ 38 = true := fun z => (hL6.below z.2 hLs).rd.1
  have q3 : ∀ z : Later w6, rdCells z.1 ⟨w.heap.size, 0, none⟩ 38 = lineCells three := fun z => (hL6.below z.2 hLs).rd.2
  have HM6 := Lib.hid hM6
  have HG6 := Lib.hid hg6
  have HN6 := Lib.hid hn6
  have HL6 := Lib.hid hL6
  have HI6 := Lib.hid hI6
  have HB6 := Lib.hid hB6
  clear hM6 hg6 hn6 hL6 hI6 hB6
  refine wp_region_mix0 [0, 1, 2, 3, 4, 5, 6] [7, 8, 9, 10, 11, 12] (fun w' => ∃ z : Later w6, w' = z.1) (by kernel_rfl) (by kernel_rfl) (by kernel_rfl) ⟨⟨_, (Below.refl _ _).drew⟩, rfl⟩ ?_
  simp only [opsAt, List.map_cons, List.map_nil, Array.getD_eq_getD_getElem?, List.getElem?_toArray, List.getElem?_cons_zero, List.getElem?_cons_succ, Option.getD_some]
  repeat (go_big_quiet_step (fail))
  refine wpQuiet_nil ?_
  clear q1 q2 q3
  have hbd : Below w6.heap.size w6 w6.drew := (Below.refl _ _).drew
  generalize w6.drew = w7 at hbd ⊢
  refine wpR_cons true rfl (by kernel_rfl) ?_
  go_wp2_with fail
  refine (clone_any 0 three [] w7 (World.ownsRow_nil _ _ _ _) (by simp)).mono ?_
  rintro r w8 ⟨v, rfl, hI8, hb8⟩
  have hone := hI8.one
  have hb8' : Below w6.heap.size w6 w8 := hbd.trans (hb8.mono hbd.size)
  obtain ⟨g8, hg8⟩ : ∃ g8 : GLine, g8 = { three with refs := v } := ⟨_, rfl⟩
  have hone8 : refsOne g8 := by rw [hg8]; exact hone
  rw [← hg8]
  have HG8 := Lib.hid hg8
  clear hg8
  obtain ⟨i0, hi, hz0, hz1, hz2⟩ := info_parts Tryz.info_line
  go_wp2_with fail
  refine ⟨fun _ => ⟨⟨_, hb8'⟩, rfl⟩, wpR_cons true rfl (by kernel_rfl) ?_⟩
  refine wpList_buildSlice rfl 107 34 1 _ rfl (lineCells g8) i0 _ Tryz.underlying107 hi hz0 (by rw [hz1]; decide) (by rw [hz1]; decide) (by rw [hz1]; simp only [List.map_toArray, List.map_cons, List.map_nil]; refine fill_one _ _ 38 (lineCells_size _) ?_; rw [Array.size_map, Array.size_range]) ?_
  have hb9 : Below w6.heap.size w6 (w8.alloc (.cells (lineCells g8) 34)) := hb8'.alloc hb8'.size _
  have hIns := insert_end 0 (.slice none 0 0) 0 w8.heap.size [] g8 (w8.alloc (.cells (lineCells g8) 34)) hone8 (World.ownsRow_nil _ _ _ _) (Nat.zero_le _) (by omega) (fun j u hj => by rw [Addr.add_lit, Nat.zero_add, cells_new]; simpa [lineCells] using hj)
  have HIns := Lib.hid hIns
  have HB9 := Lib.hid hb9
  clear hIns hb9
  go_wp2_with fail
  generalize w8.alloc (.cells (lineCells g8) 34) = w9 at HIns HB9 ⊢
  refine ⟨fun _ => ⟨⟨_, HB9.out⟩, rfl⟩, wpR_cons true rfl (by kernel_rfl) ?_⟩
  go_wp2_with fail
  refine HIns.out.mono ?_
  rintro r w10 ⟨v', rfl, hown, hgrow⟩
  have hb10 : Below w6.heap.size w6 w10 := ⟨hgrow.os.trans HB9.out.os, hgrow.tape.trans HB9.out.tape, hgrow.output.trans HB9.out.output, Nat.le_trans HB9.out.size hgrow.size, fun k hk => (hgrow.block k (by have := HB9.out.size; omega) (by simp [Value.ownBlock])).trans (HB9.out.block k hk)⟩
  obtain ⟨va, vc, hv'⟩ : ∃ va vc, v' = .slice (some ⟨va, 0, none⟩) 1 vc := by
    rcases hown.2 with ⟨_, h0⟩ | ⟨g', cap', _, e, _⟩
    · omega
    · exact ⟨g', cap', e⟩
  subst hv'
  go_wp2_with fail
  refine ⟨fun _ => ⟨⟨_, hb10⟩, rfl⟩, wpR_list [10, 11, 12] _ _ (by kernel_rfl) ?_⟩
  simp only [opsAt, List.map_cons, List.map_nil, Array.getD_eq_getD_getElem?, List.getElem?_toArray, List.getElem?_cons_zero, List.getElem?_cons_succ, Option.getD_some]
  have hg10 := (hb10.block gb hgbs).trans HG6.out
  have hcg := cell_of_row w10 gb 0 _ _ _ hg10
  have hfg := frozen_of_row w10 gb 0 _ _ hg10
  have hg11 := heap_setCell_same w10 gb 0 _ _ (.slice (some ⟨va, 0, none⟩) 1 vc) hg10
  have blk11 : ∀ k, k ≠ gb → (w10.setCell ⟨gb, 0, none⟩ (.slice (some ⟨va, 0, none⟩) 1 vc)).heap[k]? = w10.heap[k]? := fun k hk => heap_setCell_other w10 ⟨gb, 0, none⟩ k _ hk
  have hL11 : LineVar (w10.setCell ⟨gb, 0, none⟩ (.slice (some ⟨va, 0, none⟩) 1 vc)) w.heap.size three := (blk11 _ hgL.symm).trans ((hb10.block _ hLs).trans HL6.out)
  have hI11 := (blk11 _ hgI.symm).trans ((hb10.block _ hIs).trans HI6.out)
  have hM11 := (blk11 _ hgM.symm).trans ((hb10.block _ hMs).trans HM6.out)
  have hN11 := (blk11 _ hgN.symm).trans ((hb10.block _ hnbs).trans HN6.out)
  have hB11 : Below B w (w10.setCell ⟨gb, 0, none⟩ (.slice (some ⟨va, 0, none⟩) 1 vc)) := (HB6.out.trans (hb10.mono (by omega))).setCell hBg _
  have HG11 := Lib.hid hg11
  have HL11 := Lib.hid hL11
  have HI11 := Lib.hid hI11
  have HM11 := Lib.hid hM11
  have HN11 := Lib.hid hN11
  have HB11 := Lib.hid hB11
  clear hg11 blk11 hL11 hI11 hM11 hN11 hB11 hg10 hown hgrow hb10 HB9 HIns
  go_wp2
  refine NoPanic.normal ?_
  go_upto_region 22 with (fail)
  generalize w10.setCell ⟨gb, 0, none⟩ (.slice (some ⟨va, 0, none⟩) 1 vc) = w11 at HG11 HL11 HI11 HM11 HN11 HB11 ⊢
  have hg11s : gb < w11.heap.size := (Array.getElem?_eq_some_iff.1 HG11.out).1
  have hn11s : nb < w11.heap.size := (Array.getElem?_eq_some_iff.1 HN11.out).1
  have hL11s : w.heap.size < w11.heap.size := HL11.out.lt
  have q1 : ∀ z : Later w11, z.1.cell? ⟨gb, 1, none⟩ = some (.map (some nb)) := fun z => z.cell (cell_of_row w11 gb 1 _ _ _ HG11.out)
  have q2 : ∀ z : Later w11, okCells z.1 ⟨w.heap.size, 1, none⟩ 32 = true := fun z => (HL11.out.below z.2 hL11s).idAt.1
  have q3 : ∀ z : Later w11, rdCells z.1 ⟨w.heap.size, 1, none⟩ 32 = (encId three.id).toArray := fun z => (HL11.out.below z.2 hL11s).idAt.2
  have q4 : ∀ z : Later w11, z.1.cell? ⟨w.heap.size, 0, none⟩ = some (.int .i64 three.number) := fun z => ((HL11.out.below z.2 hL11s).cell 0).trans (lc0 three)
  clear hcg hfg
  refine wp_region_mix0 [0, 1, 2, 3, 4, 5, 6, 7] [8] (fun w' => ∃ z : Later w11, w' = z.1) (by kernel_rfl) (by kernel_rfl) (by kernel_rfl) ⟨⟨_, (Below.refl _ _).drew⟩, rfl⟩ ?_
  simp only [opsAt, List.map_cons, List.map_nil, Array.getD_eq_getD_getElem?, List.getElem?_toArray, List.getElem?_cons_zero, List.getElem?_cons_succ, Option.getD_some]
  repeat (go_big_quiet_step (fail))
  refine wpQuiet_nil ?_
  clear q1 q2 q3 q4
  have hup : (Instr.mapUpdate 113 (.map (some nb)) (.agg (encId three.id).toArray) (.int .i64 three.number)).run Tryz.prog w11.drew = .ok () (w11.drew.putObj nb (.map #[{ key := .agg (encId zeroId).toArray, val := .int .i64 three.number, born := 0 }] 1)) := by
    have h1 := put_id_empty w11.drew nb (.int .i64 three.number) HN11.out
    have h2 := MapKept.run_setObj_map (P := Tryz.prog) (w := w11.drew) (r := nb) (.map #[{ key := .agg (encId zeroId).toArray, val := .int .i64 three.number, born := 0 }] 1) HN11.out
    exact h1.trans h2
  have hsd : w11.drew.heap.size = w11.heap.size := rfl
  obtain ⟨w12, hw12⟩ : ∃ w12, w12 = w11.drew.putObj nb (.map #[{ key := .agg (encId zeroId).toArray, val := .int .i64 three.number, born := 0 }] 1) := ⟨_, rfl⟩
  have blk12 : ∀ k, k ≠ nb → w12.heap[k]? = w11.heap[k]? := fun k hk => by rw [hw12, World.putObj_heap_other hk]; rfl
  have hs12 : w12.heap.size = w11.heap.size := by rw [hw12]; simp only [World.putObj, Array.size_setIfInBounds]; rfl
  have hg12 := (blk12 gb hgN).trans HG11.out
  have hI12 := (blk12 IB hnI.symm).trans HI11.out
  have hM12 := (blk12 M hnM.symm).trans HM11.out
  have hB12 : Below B w w12 := by
    have h1 := HB11.out
    refine ⟨?_, ?_, ?_, by have := h1.size; omega, fun k hk => (blk12 k (by omega)).trans (h1.block k hk)⟩
    · rw [hw12]; exact h1.os
    · rw [hw12]; exact h1.tape
    · rw [hw12]; exact h1.output
  rw [← hw12] at hup
  have HG12 := Lib.hid hg12
  have HI12 := Lib.hid hI12
  have HM12 := Lib.hid hM12
  have HB12 := Lib.hid hB12
  clear hw12 blk12 hg12 hI12 hM12 hB12 hs12 hsd
  refine wpR_list [8] _ _ (by kernel_rfl) ?_
  simp only [opsAt, List.map_cons, List.map_nil, Array.getD_eq_getD_getElem?, List.getElem?_toArray, List.getElem?_cons_zero, List.getElem?_cons_succ, Option.getD_some]
  go_wp2
  refine NoPanic.normal ?_
  have hci := cell_of_row w12 IB 1 _ _ _ HI12.out
  have hfi := frozen_of_row w12 IB 1 _ _ HI12.out
  clear hup
  have hI13 := heap_setCell_same w12 IB 1 _ _ (.int .i64 1) HI12.out
  have hM13 := (heap_setCell_other w12 ⟨IB, 1, none⟩ M (.int .i64 1) (by simpa using hne.symm)).trans HM12.out
  have hG13 := (heap_setCell_other w12 ⟨IB, 1, none⟩ gb (.int .i64 1) (by simpa using hgI)).trans HG12.out
  have HI13 := Lib.hid hI13
  have HM13 := Lib.hid hM13
  have HG13 := Lib.hid hG13
  clear hI13 hM13 hG13
  go_wp2
  go_ret
  refine ⟨rfl, HB12.out.setCell hB _, gb, some ⟨va, 0, none⟩, vc, ?_, HM13.out, ?_⟩
  · exact cell_of_row _ IB 0 _ _ _ HI13.out
  · exact cell_of_row _ gb 0 _ _ _ HG13.out

end Go.Proofs.YtdjaphcelpchaaaGreatDoor

namespace Go.Proofs.YtdjaphcelpchaaaGreatDoor
open Go Go.RowKit Go.Proofs

attribute [local go_sem ↓] ex_load_id ex_store_id ex_load_line ex_store_line ex_alloc_line ex_build_line

attribute [local go_sem] ld_id st_id ld_line st_line guard_id okCells_drew rdCells_drew okCells_drewN rdCells_drewN rowOk_drew rowOk_cells okCells_cells rdCells_cells setRow_drew setRow_new setRow_past

/-- The line that 'known' prints, and its text. -/
def seven : GLine := { zeroLine with number := 7, name := ⟨#[65, 110, 110]⟩, subject := ⟨#[82, 101, 58, 32, 116, 101, 97]⟩, bytes := 120 }
theorem seven_ok : lineErr seven [] = 0 := by decide +kernel
def sevenTxt : List UInt8 := [55, 9] ++ Lib.repeatL [48] 64 ++ [9, 65, 110, 110, 9, 48, 9, 82, 101, 58, 32, 116, 101, 97, 9, 9, 49, 50, 48]
theorem seven_txt : lineTxt 7 zeroId ⟨#[65, 110, 110]⟩ 0 ⟨#[82, 101, 58, 32, 116, 101, 97]⟩ [] 120 = sevenTxt := by decide +kernel

theorem ex_build_l4 (ρ : Operand → Value) (d : Option Tmp) (x0 x2 x4 x6 : Operand) (ty : TypeId) (pos : String) (af : Array Edge) (gd : Option (Nat × Bool)) (w : World) :
    Sem.run Tryz.prog (execOp ρ ⟨d, .build 34 #[(0, x0), (2, x2), (4, x4), (6, x6)], ty, pos, af, gd⟩) w = blRes Tryz.prog 34 w #[(0, ρ x0), (2, ρ x2), (4, ρ x4), (6, ρ x6)] := by kernel_rfl
theorem ex_build_l1 (ρ : Operand → Value) (d : Option Tmp) (x0 : Operand) (ty : TypeId) (pos : String) (af : Array Edge) (gd : Option (Nat × Bool)) (w : World) :
    Sem.run Tryz.prog (execOp ρ ⟨d, .build 34 #[(0, x0)], ty, pos, af, gd⟩) w = blRes Tryz.prog 34 w #[(0, ρ x0)] := by kernel_rfl
theorem bl_seven (w : World) : blRes Tryz.prog 34 w #[(0, .int .i64 7), (2, .string ⟨#[65, 110, 110]⟩), (4, .string ⟨#[82, 101, 58, 32, 116, 101, 97]⟩), (6, .int .i64 120)] = .ok (.value (.agg (lineCells seven))) w := by kernel_rfl
theorem bl_three (w : World) : blRes Tryz.prog 34 w #[(0, .int .i64 3)] = .ok (.value (.agg (lineCells three))) w := by kernel_rfl
attribute [local go_sem ↓] ex_build_l4 ex_build_l1

attribute [local go_sem] bl_seven bl_three

set_option maxHeartbeats 1000000 in
theorem new_any (w : World) : Calls Tryz.prog 25 #[] w fun r w' => r = .returned (.pointer (some ⟨w.heap.size + 1, 0, none⟩)) ∧ (w.alloc (.map #[] 0)).alloc (.cells #[.map (some w.heap.size), .int .i64 0] 104) = w' := by
  have hmm := @run_makeMap Tryz.prog
  go_enter Tryz.func25, Tryz.ntmps25
  go_wp2
  go_ret
  exact ⟨rfl, rfl⟩

set_option maxHeartbeats 1000000 in
theorem len_one (IB M gb n c : Nat) (w : World) (a : Option Addr) (hc : w.cell? ⟨IB, 0, none⟩ = some (.map (some M))) (hm : w.heap[M]? = some (.map #[{ key := .string ⟨#[97, 46, 98]⟩, val := .pointer (some ⟨gb, 0, none⟩), born := 0 }] 1)) (hg : w.cell? ⟨gb, 0, none⟩ = some (.slice a n c)) :
    Calls Tryz.prog 48 #[.pointer (some ⟨IB, 0, none⟩), .string ⟨#[97, 46, 98]⟩] w fun r w' => r = .returned (.int .i64 n) ∧ w = w' := by
  have HL := Lib.hid (linesOf_one IB M gb n c w a hc hm hg)
  clear hc hm hg
  go_enter Tryz.func48, Tryz.ntmps48
  go_wp2_with fail
  refine HL.out.mono ?_
  rintro r w' ⟨rfl, rfl⟩
  go_wp2
  go_ret
  exact ⟨rfl, rfl⟩

set_option maxRecDepth 100000 in
set_option maxHeartbeats 2000000 in
theorem knows : Knows := by
  intro w hG
  have hp := print_any seven [] w hG ⟨idsAt_nil _, by decide +kernel, by decide +kernel, by decide +kernel⟩
  have e0 : (if lineErr seven [] = 0 then str (lineTxt seven.number.toNat seven.id seven.name seven.date.toNat seven.subject [] seven.bytes.toNat) else ⟨#[]⟩) = str sevenTxt := by
    rw [if_pos seven_ok, ← seven_txt]; rfl
  rw [e0, seven_ok] at hp
  have HP := Lib.hid hp
  clear hp e0
  go_enter Tryz.func13, Tryz.ntmps13
  go_wp2_with fail
  refine HP.out.mono ?_
  rintro r w1 ⟨rfl, hb1⟩
  have HB1 := Lib.hid hb1
  clear hb1 HP
  go_wp2_with fail
  refine (new_any w1).mono ?_
  rintro r w2' ⟨rfl, rfl⟩
  have hb2 : Below w1.heap.size w1 ((w1.alloc (.map #[] 0)).alloc (.cells #[.map (some w1.heap.size), .int .i64 0] 104)) := ((Below.refl _ _).alloc (Nat.le_refl _) _).alloc (by simp) _
  have hI2 : ((w1.alloc (.map #[] 0)).alloc (.cells #[.map (some w1.heap.size), .int .i64 0] 104)).heap[w1.heap.size + 1]? = some (.cells #[.map (some w1.heap.size), .int .i64 0] 104 (0, 0)) := by
    have := heap_alloc_new (w1.alloc (.map #[] 0)) (.cells #[.map (some w1.heap.size), .int .i64 0] 104)
    simpa using this
  have hM2 : ((w1.alloc (.map #[] 0)).alloc (.cells #[.map (some w1.heap.size), .int .i64 0] 104)).heap[w1.heap.size]? = some (.map #[] 0) := by
    rw [heap_alloc_old _ _ (by simp), heap_alloc_new]
  generalize (w1.alloc (.map #[] 0)).alloc (.cells #[.map (some w1.heap.size), .int .i64 0] 104) = w2 at hb2 hI2 hM2 ⊢
  have hs2 : w1.heap.size + 1 < w2.heap.size := (Array.getElem?_eq_some_iff.1 hI2).1
  have HB2 := Lib.hid hb2
  have HI2 := Lib.hid hI2
  have HM2 := Lib.hid hM2
  clear hb2 hI2 hM2
  have hrep := Tryz.strings_Repeat ⟨#[48]⟩ 64 w2 (by omega) (by decide +kernel)
  have HR := Lib.hid hrep
  clear hrep
  go_wp2_with fail
  refine HR.out.mono ?_
  rintro r w3 ⟨rfl, hb3⟩
  have hI3 := (hb3.block _ hs2).trans HI2.out
  have hM3 := (hb3.block w1.heap.size (by omega)).trans HM2.out
  have hB3 : Below w1.heap.size w1 w3 := HB2.out.trans (hb3.mono (by omega))
  have hG3 : Gl w3 := hG.later (HB1.out.trans (hB3.mono HB1.out.size))
  have HA := Lib.hid (add_fresh (w1.heap.size + 1) w1.heap.size w1.heap.size w3 hG3 hI3 hM3 (by omega) (Nat.le_refl _))
  have HB3 := Lib.hid hB3
  clear hI3 hM3 hB3 hG3 hb3 HR HB2 HI2 HM2 hs2
  go_wp2_with fail
  refine HA.out.mono ?_
  rintro r w4 ⟨rfl, hb4, gb, a, c, hc4, hm4, hg4⟩
  have HLn := Lib.hid (len_one _ _ gb 1 c w4 a hc4 hm4 hg4)
  have hB4 := HB1.out.trans ((HB3.out.trans hb4).mono HB1.out.size)
  have HB4 := Lib.hid hB4
  clear hc4 hm4 hg4 hb4 hB4 HA HB3
  go_wp2_with fail
  refine HLn.out.mono ?_
  rintro r w5 ⟨rfl, rfl⟩
  go_wp2
  go_ret
  exact ⟨rfl, HB4.out⟩

#print axioms knows
end Go.Proofs.YtdjaphcelpchaaaGreatDoor

namespace Go.Proofs.YtdjaphcelpchaaaGreatDoor
open Go Go.RowKit Go.Proofs Go.ChangeShapes Go.WideShapes Go.ChangeAt

theorem own : ownKnob Tryz.prog.godebug = none := by kernel_rfl
theorem laidOut : laidOutB Tryz.prog = true := by kernel_rfl

/-- The list of variables that every row of this seat names with what they hold. -/
def laidAll : List (String × DataW Unit) := Rows.overviewParseRow.laid

theorem gl_of {W : World} (h : laidMetH Tryz.prog laidAll W) (hs : W.ShapedOpen Tryz.prog) : Gl W where
  tab := by
    have h1 := h.filter (fun x => x.1 == "internal/strconv.uint64pow10")
    have e : laidAll.filter (fun x => x.1 == "internal/strconv.uint64pow10") = [("internal/strconv.uint64pow10", Lib.tabData .u64 Lib.pow10Tab)] := by kernel_rfl
    rw [e] at h1
    exact Lib.tabIs_of_head (rest := []) (g := 1) (by kernel_rfl) (by kernel_rfl) Tryz.underlying210 Tryz.underlying174 (by kernel_rfl) (by kernel_rfl) h1
  len := cell_of_shapedOpen_int (g := 0) (t := 3) (zero := #[.int .i64 0]) hs (by rw [globals_size]; decide) (by kernel_rfl) rfl (by kernel_rfl) (by kernel_rfl) Tryz.underlying3
  size := by
    have h0 : (((begin Tryz.prog (fun _ _ => 0) default).world.heap[5]?).bind Obj.row?).isSome = true := by kernel_rfl
    obtain ⟨⟨zero, t⟩, hz⟩ := Option.isSome_iff_exists.1 h0
    obtain ⟨cs, hh, _, _⟩ := hs.1 5 zero t (by rw [globals_size]; decide) hz
    rw [globals_size]
    have := (Array.getElem?_eq_some_iff.1 hh).1
    omega

section
variable {H : Type} {enc : TypeId × Value → H}

theorem trodAll_stays {P : Program} {W W' : World} (hl : laidOutB P = true) (hb : Below W.heap.size W W') (sp : Nat → Bool) (ts : List TypeId) : ∀ (vs : List Value) (ds : List (DataW H)) (p : List MemPlace),
    (∀ t ∈ ts, P.readableRec t = true ∧ t < P.types.size) → DataW.TrodAll enc P W 0 (fun _ => true) true ts vs ds p → (∀ x ∈ p, x.block < W.heap.size) → (∀ x ∈ p, sp x.block = true) → DataW.TrodAll enc P W' 0 sp true ts vs ds p := by
  induction ts with
  | nil =>
    intro vs ds p _ h _ _
    obtain ⟨rfl, rfl, rfl⟩ := trodAll_nil h
    exact trodAll_mk0
  | cons t ts ih =>
    intro vs ds p hr h hlt hsp
    obtain ⟨v, vs', d, ds', p1, q1, rfl, rfl, rfl, h1, h2⟩ := trodAll_cons h
    have ht := hr t (by simp)
    exact trodAll_cons_mk (WideElems.Trod_stays hl ht.1 ht.2 h1 (fun x hx => hb.same (hlt x (List.mem_append_left _ hx))) (fun x hx => hsp x (List.mem_append_left _ hx)))
      (ih vs' ds' q1 (fun u hu => hr u (by simp [hu])) h2 (fun x hx => hlt x (List.mem_append_right _ hx)) (fun x hx => hsp x (List.mem_append_right _ hx)))

/-- A law of this seat: its walk returned true and left all that was there as it was: the row's post holds. -/
theorem law_post {f : Func} {s : ChangeSpec} {W W' : World} {args : Array Value} {ds gs : List (DataW H)} {before : List MemPlace} (hvars : s.vars = []) (hrt : f.resultTypes = #[4])
    (hW : DataW.Whole enc Tryz.prog f.params.toList s.vars false W args.toList ds gs before) (hr : ∀ t ∈ f.params.toList, Tryz.prog.readableRec t = true ∧ t < Tryz.prog.types.size)
    (hfn : s.fn H ds = { results := [.lit (.bool true)], args := ds }) (hb : Below W.heap.size W W') : s.post enc Tryz.prog f false true false false W args (.bool true) W' := by
  have hlt : ∀ x ∈ before, x.block < W.heap.size := fun x hx => hW.lt x hx
  have hW0 := hW
  obtain ⟨p, q, hA, hV, rfl, _, _⟩ := hW
  rw [hvars] at hV
  obtain ⟨rfl, rfl⟩ := trodVars_none hV
  rw [List.append_nil] at hW0 hlt
  refine ⟨ds, [], p, [], p, [], hW0, ?_, ?_, ?_, ?_, fun h => by cases h⟩
  · rw [List.append_nil, hfn, hrt]
    exact trodAll_mk1 (shut_bool Tryz.underlying4 _)
  · rw [List.append_nil, hfn]
    exact trodAll_stays laidOut hb _ _ _ _ _ hr hA hlt (fun x hx => by simpa using hlt x hx)
  · rw [List.append_nil, hfn, hvars]
    rfl
  · exact World.keptBut_mono (fun x hx => ⟨hx, .inr (.inl hx)⟩) (hb.frame (· ∈ p))
end

end Go.Proofs.YtdjaphcelpchaaaGreatDoor
