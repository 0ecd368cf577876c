/- Parts of the proofs about bulletinlaw28: Range, LawSame, Encode, RefEnc, TxtLaw, DecLaw. -/
import Derived.Test.YtdjaphcelpchaaaGreatDoorShelf
import Derived.Test.YtdjaphcelpchaaaGreatDoorK1
import Derived.Test.YtdjaphcelpchaaaGreatDoorK2
import Derived.Test.YtdjaphcelpchaaaGreatDoorShelf2
import Derived.Test.YtdjaphcelpchaaaGreatDoorDecodesL1
import Derived.Test.YtdjaphcelpchaaaGreatDoorDecodesL2
import Derived.Test.YtdjaphcelpchaaaGreatDoorDecodesL3
import Derived.Test.YtdjaphcelpchaaaGreatDoorDecodesL4

namespace Go.Proofs.YtdjaphcelpchaaaGreatDoor
open Go Go.RowKit Go.Proofs

attribute [local go_sem ↓] ex_load_id ex_store_id ex_load_line ex_store_line ex_alloc_line ex_build_line

attribute [local go_sem] ld_id st_id ld_line st_line guard_id okCells_drew rdCells_drew okCells_drewN rdCells_drewN rowOk_drew rowOk_cells okCells_cells rdCells_cells setRow_drew setRow_new setRow_past

theorem ex_bs_line (ρ : Operand → Value) (d : Option Tmp) (x : Operand) (ty : TypeId) (pos : String) (af : Array Edge) (g : Option (Nat × Bool)) (w : World) :
    Sem.run Tryz.prog (execOp ρ ⟨d, .buildSlice 107 1 #[(0, x)], ty, pos, af, g⟩) w = bsRes Tryz.prog 107 w (ρ x) := by kernel_rfl
theorem bs_line (w : World) (g : GLine) : bsRes Tryz.prog 107 w (.agg (lineCells g)) = .ok (.value (.slice (some ⟨w.heap.size, 0, none⟩) 1 1)) (w.alloc (.cells (lineCells g) 34)) := by
  obtain ⟨i0, hi, hz0, hz1, hz2⟩ := info_parts Tryz.info_line
  unfold bsRes
  rw [Sem.run_bind, run_buildSlice w 107 34 1 _ (lineCells g) i0 _ Tryz.underlying107 hi hz0 (by rw [hz1]; decide) (by rw [hz1]; decide) (by
    rw [hz1]
    exact fill_one _ _ 38 (lineCells_size g) (by simp))]
  rfl
attribute [local go_sem ↓] ex_bs_line exI_load_line exI_store_line exI_alloc_line exI_load_id exI_store_id

attribute [local go_sem] bs_line

set_option maxHeartbeats 1000000 in
theorem range_call (p : Option Addr) (s : ByteArray) (lo hi : Int) (w : World) : Calls Tryz.prog 30 #[.pointer p, .string s, .int .i64 lo, .int .i64 hi] w fun r w' =>
    r = .returned (.func (.func 67) #[] #[.pointer (some ⟨w.heap.size, 0, none⟩), .pointer (some ⟨w.heap.size + 1, 0, none⟩), .pointer (some ⟨w.heap.size + 1 + 1, 0, none⟩), .pointer (some ⟨w.heap.size + 1 + 1 + 1, 0, none⟩)]) ∧
    (((w.alloc (.cells #[.pointer p] 47)).alloc (.cells #[.string s] 9)).alloc (.cells #[.int .i64 lo] 3)).alloc (.cells #[.int .i64 hi] 3) = w' := by
  go_enter Tryz.func30, Tryz.ntmps30
  go_wp2
  go_ret
  exact ⟨rfl, rfl⟩

/-- The lines between two numbers. -/
def rangeP (ms : List ML) (lo hi : Int) : List PLine := (ms.map (·.p)).filter fun p => decide (lo ≤ p.number ∧ p.number ≤ hi)
/-- What a loop's body may know of what is yielded. -/
structure GdL (T : List PLine) (A B : Nat) (pre : List ML) (x : ML) (X : World) : Prop where
  here : T[pre.length]? = some x.p
  past : pre.map (·.p) = T.take pre.length
  refs : IdsOwn A X x.v x.p.ids
  lt : ∀ k, x.v.ownBlock = some k → k < B
theorem GdL.below {T : List PLine} {A B : Nat} {pre : List ML} {x : ML} {X Y : World} (h : GdL T A B pre x X) (hb : Below X.heap.size X Y) : GdL T A B pre x Y := ⟨h.here, h.past, h.refs.below hb, h.lt⟩
/-- What it must keep. -/
def KpL (A B : Nat) (x : ML) (X Y : World) : Prop := X.heap.size ≤ Y.heap.size ∧ ∀ k, A ≤ k → k < B → x.v.ownBlock ≠ some k → Y.heap[k]? = X.heap[k]?

/-- The copied lines: a row of their own, each with references of its own. -/
structure RowAt (A : Nat) (w : World) (v : Value) (ls : List ML) : Prop where
  lin : LinesAt A w v ls
  apart : (ls.filterMap fun m => m.v.ownBlock).Nodup
theorem RowAt.nil (A : Nat) (w : World) : RowAt A w (.slice none 0 0) [] := ⟨⟨World.ownsRow_nil _ _ _ _, fun _ h => by cases h⟩, .nil⟩
/-- What the rounds have kept so far. -/
def IterKeep (A : Nat) (w0 : World) (pre : List ML) (w : World) : Prop := w0.heap.size ≤ w.heap.size ∧ ∀ k, A ≤ k → k < w0.heap.size → (∀ m ∈ pre, m.v.ownBlock ≠ some k) → w.heap[k]? = w0.heap[k]?
theorem iter_row {A : Nat} {w0 w : World} {v : Value} {ls : List ML} (h : RowAt A w0 v ls) {j : Nat} (hk : IterKeep A w0 (ls.take j) w) (k rb : Nat) (hv : v.ownBlock = some rb) (i : Nat) : w.cell? ⟨rb, k * 38 + i, none⟩ = w0.cell? ⟨rb, k * 38 + i, none⟩ := by
  obtain ⟨c, hc⟩ := ownsRow_typed h.lin.row hv
  have hlt := World.ownsRow.lt h.lin.row rb hv
  refine cell_of_same (a := ⟨rb, k * 38 + i, none⟩) (hk.2 rb hlt.1 hlt.2 fun m hm he => ?_)
  obtain ⟨c2, hc2⟩ := ownsRow_typed (h.lin.refs m (List.mem_of_mem_take hm)) he
  rw [hc] at hc2
  exact absurd (cells_ty hc2) (by decide)
theorem iter_gd {A : Nat} {w0 w : World} {v : Value} {ls : List ML} {T : List PLine} (h : RowAt A w0 v ls) (hT : ls.map (·.p) = T) {k : Nat} (hk : IterKeep A w0 (ls.take k) w) (hlt : k < ls.length) : GdL T A w0.heap.size (ls.take k) ls[k] w := by
  have hl : (ls.take k).length = k := by rw [List.length_take]; omega
  have hr := h.lin.refs ls[k] (List.getElem_mem hlt)
  refine ⟨?_, ?_, hr.block fun j hj => ?_, fun j hj => (hr.lt hj).2⟩
  · rw [hl, ← hT, List.getElem?_map, List.getElem?_eq_getElem hlt]; rfl
  · rw [hl, ← hT, List.map_take]
  · refine hk.2 j (hr.lt hj).1 (hr.lt hj).2 fun m hm he => ?_
    have hn := h.apart
    have e : ls = ls.take k ++ ls[k] :: ls.drop (k + 1) := by
      rw [← List.drop_eq_getElem_cons hlt, List.take_append_drop]
    rw [e, List.filterMap_append, List.filterMap_cons_some (f := fun m : ML => m.v.ownBlock) hj, List.nodup_append] at hn
    exact hn.2.2 j (List.mem_filterMap.2 ⟨m, hm, he⟩) j (by simp) rfl
theorem iter_next {A : Nat} {w0 w : World} {ls : List ML} {k : Nat} (hk : IterKeep A w0 (ls.take k) w) (hlt : k < ls.length) {X' : World} (h : KpL A w0.heap.size ls[k] (w.alloc (.cells (lineCells ls[k].g) 34)) X') : IterKeep A w0 (ls.take k ++ [ls[k]]) X' := by
  have hs : (w.alloc (.cells (lineCells ls[k].g) 34)).heap.size = w.heap.size + 1 := by simp
  refine ⟨by have := hk.1; have := h.1; omega, fun j hA hB hm => ?_⟩
  have h1 := hk.1
  rw [h.2 j hA hB (hm _ (List.mem_append_right _ (List.mem_singleton.2 rfl))), heap_alloc_old _ _ (by omega), hk.2 j hA hB fun m hm' => hm m (List.mem_append_left _ hm')]
/-- One line more. -/
theorem RowAt.snoc {A : Nat} {w w' : World} {v v' : Value} {ls : List ML} {x : ML} (h : RowAt A w v ls) (hrow : w'.ownsRow A 34 38 v' (ls.length + 1) (flatLines ls ++ lineList x.g)) (hr : ∀ m ∈ ls, IdsOwn A w' m.v m.p.ids) (hx : IdsOwn A w' x.v x.p.ids) (hn : ∀ k, x.v.ownBlock = some k → w.heap.size ≤ k) : RowAt A w' v' (ls ++ [x]) := by
  refine ⟨⟨?_, fun m hm => ?_⟩, ?_⟩
  · rw [List.length_append, List.length_singleton, flat_append]
    have : flatLines [x] = lineList x.g := by simp [flatLines]
    rw [this]
    exact hrow
  · rcases List.mem_append.1 hm with hm | hm
    · exact hr m hm
    · rw [List.mem_singleton.1 hm]; exact hx
  · rw [List.filterMap_append, List.nodup_append]
    refine ⟨h.apart, ?_, fun a ha b hb => ?_⟩
    · cases hv : x.v.ownBlock with
      | none => rw [List.filterMap_cons_none (f := fun m : ML => m.v.ownBlock) hv]; exact .nil
      | some k => rw [List.filterMap_cons_some (f := fun m : ML => m.v.ownBlock) hv]; simp
    · obtain ⟨m, hm, he⟩ := List.mem_filterMap.1 ha
      obtain ⟨y, hy, he2⟩ := List.mem_filterMap.1 hb
      rw [List.mem_singleton.1 hy] at he2
      have h1 := ((h.lin.refs m hm).lt he).2
      have h2 := hn b he2
      omega

theorem ids_grown {A : Nat} {w w' : World} {v : Value} {ids : List Id32} {row : Option Nat} (h : IdsOwn A w v ids) (hg : w.grownBy w' row) (hr : ∀ k, row = some k → ∃ c, w.heap[k]? = some (.cells c 34 (0, 0))) : IdsOwn A w' v ids := by
  refine h.block fun k hk => hg.block k (h.lt hk).2 fun e => ?_
  obtain ⟨c, hc⟩ := hr k e.symm
  obtain ⟨c2, hc2⟩ := ownsRow_typed h hk
  rw [hc] at hc2
  exact absurd (cells_ty hc2) (by decide)
/-- The lines from a place on, up to a number. -/
theorem range_split {ms : List ML} {lo hi : Int} {i j : Nat} (hb : Between (nums ms) lo i i) (hs : (nums ms).Pairwise (· < ·)) (hj : j ≤ ms.length - i) (h1 : ∀ m ∈ (ms.drop i).take j, m.p.number ≤ hi) (h2 : ∀ (hx : i + j < ms.length), hi < ms[i + j].p.number) : ((ms.drop i).take j).map (·.p) = rangeP ms lo hi := by
  obtain ⟨_, hi2, hlow, hhigh⟩ := hb
  have hln : (nums ms).length = ms.length := by unfold nums; rw [List.length_map]
  have hget : ∀ k (h : k < ms.length), (nums ms)[k]'(by rw [hln]; exact h) = ms[k].p.number := fun k h => by unfold nums; rw [List.getElem_map]
  have hps := hs
  rw [List.pairwise_iff_getElem] at hps
  unfold rangeP
  have e : ms = ms.take i ++ ((ms.drop i).take j ++ (ms.drop i).drop j) := by rw [List.take_append_drop, List.take_append_drop]
  conv => rhs; rw [e]
  rw [List.map_append, List.filter_append, List.map_append, List.filter_append]
  have f1 : ((ms.take i).map (·.p)).filter (fun p => decide (lo ≤ p.number ∧ p.number ≤ hi)) = [] := by
    rw [List.filter_eq_nil_iff]
    intro p hp
    obtain ⟨m, hm, rfl⟩ := List.mem_map.1 hp
    obtain ⟨k, hk, rfl⟩ := List.getElem_of_mem hm
    rw [List.length_take] at hk
    have h3 := hlow k (by omega) (by omega)
    rw [hget k (by omega)] at h3
    rw [List.getElem_take]
    simp only [decide_eq_true_eq, not_and]
    intro h4
    omega
  have f2 : (((ms.drop i).take j).map (·.p)).filter (fun p => decide (lo ≤ p.number ∧ p.number ≤ hi)) = ((ms.drop i).take j).map (·.p) := by
    rw [List.filter_eq_self]
    intro p hp
    obtain ⟨m, hm, rfl⟩ := List.mem_map.1 hp
    rw [decide_eq_true_eq]
    refine ⟨?_, h1 m hm⟩
    obtain ⟨k, hk, rfl⟩ := List.getElem_of_mem hm
    rw [List.length_take, List.length_drop] at hk
    have h3 := hhigh (i + k) (by omega) (by omega)
    rw [hget (i + k) (by omega)] at h3
    rw [List.getElem_take, List.getElem_drop]
    exact h3
  have f3 : (((ms.drop i).drop j).map (·.p)).filter (fun p => decide (lo ≤ p.number ∧ p.number ≤ hi)) = [] := by
    rw [List.filter_eq_nil_iff]
    intro p hp
    obtain ⟨m, hm, rfl⟩ := List.mem_map.1 hp
    rw [List.drop_drop] at hm
    obtain ⟨k, hk, rfl⟩ := List.getElem_of_mem hm
    rw [List.length_drop] at hk
    have hx : i + j < ms.length := by omega
    have h3 := h2 hx
    rw [List.getElem_drop]
    simp only [decide_eq_true_eq, not_and]
    intro _ h5
    by_cases hk0 : k = 0
    · subst hk0
      simp only [Nat.add_zero] at h5
      omega
    · have h6 := hps (i + j) (i + j + k) (by omega) (by omega) (by omega)
      rw [hget _ hx, hget _ (by omega)] at h6
      omega
  rw [f1, f2, f3, List.append_nil, List.nil_append]

/-- How the iterator may end. -/
def SeqEnd (W : World) (S : List ML → Prop) (J Jx : Nat → List ML → World → Prop) (e : Ending) (W' : World) : Prop := (∃ v, e = .returned v) ∧ ((∃ B xs, W.heap.size ≤ B ∧ B ≤ W'.heap.size ∧ S xs ∧ J B xs W') ∨ (∃ B pre, W.heap.size ≤ B ∧ Jx B pre W'))

set_option maxRecDepth 100000 in
set_option maxHeartbeats 8000000 in
/-- The iterator. -/
theorem rangeSeq_any (n : Nat) (b0 b1 b2 b3 B ib M mc : Nat) (gs : List MG) (s : ByteArray) (lo hi : Int) (W : World) (h0 : W.cell? ⟨b0, 0, none⟩ = some (.pointer (some ⟨ib, 0, none⟩))) (h1 : W.cell? ⟨b1, 0, none⟩ = some (.string s)) (h2 : W.cell? ⟨b2, 0, none⟩ = some (.int .i64 lo)) (h3 : W.cell? ⟨b3, 0, none⟩ = some (.int .i64 hi)) (h : IdxAt B W ib M gs mc) :
    SeqG Fence.wide n Tryz.prog 67 #[.pointer (some ⟨b0, 0, none⟩), .pointer (some ⟨b1, 0, none⟩), .pointer (some ⟨b2, 0, none⟩), .pointer (some ⟨b3, 0, none⟩)]
      (fun x : ML => #[.agg (lineCells x.g)]) (GdL (rangeP (linesIn gs s) lo hi)) KpL (fun xs => xs.map (·.p) = rangeP (linesIn gs s) lo hi) W := fun l J Jx hJ hJx hJ0 hY => by
  show CallsIn _ _ _ _ _ _ (SeqEnd W (fun xs => xs.map (·.p) = rangeP (linesIn gs s) lo hi) J Jx)
  have HJs := Lib.hid hJ
  have HJ0 := Lib.hid hJ0
  have HY := Lib.hid hY
  clear hJ hJx hJ0 hY
  have hso := h.sorted s
  have HL := Lib.hid (linesOf_any B ib M mc gs s W h)
  have HS := Lib.hid (search_any B (valueOf gs s) (linesIn gs s) lo W (h.lines s) (h.len s) hso)
  have hlen := h.len s
  have HLI := Lib.hid (h.lines s)
  have HSO := Lib.hid hso
  have HGOOD : Hid (∀ m ∈ linesIn gs s, pErr m.p = 0) := Lib.hid fun m hm => by
    have hne : linesIn gs s ≠ [] := fun e => by rw [e] at hm; cases hm
    obtain ⟨G, hG, hms, _⟩ := linesIn_ne hne
    exact (h.grps G (groupOf_mem hG).1).good m (hms ▸ hm)
  clear h hso
  generalize linesIn gs s = ms at HS hlen HLI HSO HGOOD HY ⊢
  generalize valueOf gs s = v at HL HS HLI
  refine callsIn_wide.2 ?_
  rcases HLI.out.head with ⟨rfl, rfl⟩ | ⟨gb, cap, rfl, hgB, hgl, hle, hmx, hcell⟩
  · have HT : Hid ((([] : List ML).map (·.p)) = rangeP [] lo hi) := Lib.hid rfl
    go_enter Tryz.func67, Tryz.ntmps67
    go_wp2_with fail
    refine HL.out.mono ?_
    rintro r w' ⟨rfl, rfl⟩
    go_wp2_with fail
    refine HS.out.mono ?_
    rintro r w1 ⟨i, hbt, rfl, hb1⟩
    obtain rfl : i = 0 := Nat.le_zero.1 hbt.2.1
    have HB1 := Lib.hid hb1
    clear hb1 HS HL hbt
    go_wp2
    go_loop [6, 27] (fun p a => p = .slice none 0 0 ∧ a = .int .i64 0) (fun _ _ => 0)
    case atStart => exact ⟨rfl, rfl⟩
    case round =>
      obtain ⟨rfl, rfl⟩ := hrel
      go_wp2
      go_loop [43] (fun a => a = .int .i64 0) (fun _ => 0)
      case atStart => exact rfl
      case round =>
        obtain rfl := hrel
        go_wp2
        go_end0
        exact ⟨⟨_, rfl⟩, .inl ⟨w1.heap.size, [], HB1.out.size, Nat.le_refl _, HT.out, HJ0.out w1 HB1.out⟩⟩
  · have HC := Lib.hid hcell
    clear hcell
    obtain ⟨i0, hi0, hz0, hz1, hz2⟩ := info_parts Tryz.info_line
    go_enter Tryz.func67, Tryz.ntmps67
    go_wp2_with fail
    refine HL.out.mono ?_
    rintro r w' ⟨rfl, rfl⟩
    go_wp2_with fail
    refine HS.out.mono ?_
    rintro r w1 ⟨i, hbt, rfl, hb1⟩
    have hil : i ≤ ms.length := by have := hbt.2.1; unfold nums at this; rw [List.length_map] at this; exact this
    have hiz : (i : Int) ≤ (ms.length : Int) := by omega
    have HB1 := Lib.hid hb1
    have HBT := Lib.hid hbt
    have hb3l : b3 < W.heap.size := block_lt_of_cell h3
    have h3' := h3
    obtain ⟨gx, ox, had, hxl, hcx⟩ : ∃ gx ox : Nat, (if cap = i then some (⟨gb, 0, none⟩ : Addr) else some ⟨gb, i * 38, none⟩) = some ⟨gx, ox, none⟩ ∧ gx < W.heap.size ∧ ∀ j (hj : i + j < ms.length) k u, (lineList ms[i + j].g)[k]? = some u → W.cell? ⟨gx, ox + j * 38 + k, none⟩ = some u := by
      by_cases hc : cap = i
      · exact ⟨gb, 0, if_pos hc, hgl, fun j hj => by omega⟩
      · refine ⟨gb, i * 38, if_neg hc, hgl, fun j hj k u hu => ?_⟩
        have := HC.out (i + j) hj k u hu
        rwa [show (i + j) * 38 + k = i * 38 + j * 38 + k by omega] at this
    have HCX := Lib.hid hcx
    have HH3 := Lib.hid h3'
    clear hb1 hbt HS HL hcx HC h0 h1 h2 h3 h3'
    go_wp2
    try rw [had]
    clear had
    go_loopw [6, 27] (fun lv a wr => ∃ (k : Nat) (ls : List ML), k ≤ ms.length - i ∧ a = .int .i64 k ∧ Hid (ls.map (·.p) = ((ms.drop i).take k).map (·.p)) ∧ Hid (∀ m ∈ (ms.drop i).take k, m.p.number ≤ hi) ∧ Hid (RowAt W.heap.size wr lv ls) ∧ Hid (Below W.heap.size W wr)) (fun _ a _ => ms.length - (intOf a).toNat)
    case atStart => exact ⟨0, [], by omega, rfl, Lib.hid rfl, Lib.hid (fun m hm => by simp at hm), Lib.hid (RowAt.nil _ _), HB1⟩
    case round =>
      obtain ⟨k, ls, hk, rfl, HP, HLE, HROW, HBr⟩ := hrel
      have hlsk : ls.length = k := by
        have := congrArg List.length HP.out
        rw [List.length_map, List.length_map, List.length_take, List.length_drop] at this
        omega
      have HLL : Hid (ls.length ≤ 65536) := Lib.hid (by omega)
      have HLK := Lib.hid hlsk
      clear hlsk
      obtain ⟨la, ln, lc, hle'⟩ : ∃ a n c, u6 = .slice a n c := own_slice HROW.out.lin.row
      subst hle'
      by_cases hltk : k < ms.length - i
      · have hltz : (k : Int) < (ms.length : Int) - (i : Int) := by omega
        have hik : i + k < ms.length := by omega
        obtain ⟨o1, d1⟩ := lineAt_rd (w := wr) (g := gx) (off := ox + k * 38) (l := ms[i + k].g) (fun j u hu => (HBr.out.cell (p := ⟨gx, ox + k * 38 + j, none⟩) hxl).trans (HCX.out k hik j u hu))
        have hv3 : wr.cell? ⟨b3, 0, none⟩ = some (.int .i64 hi) := (HBr.out.cell (p := ⟨b3, 0, none⟩) hb3l).trans HH3.out
        have hmem : ms[i + k] ∈ ms := List.getElem_mem hik
        have hrl := refs_len (HGOOD.out _ hmem)
        have HTK : Hid ((ms.drop i).take (k + 1) = (ms.drop i).take k ++ [ms[i + k]]) := Lib.hid (by
          rw [List.take_succ_eq_append_getElem (by rw [List.length_drop]; omega), List.getElem_drop])
        have HRF := Lib.hid (HLI.out.refs _ hmem)
        obtain ⟨m, hmE⟩ : ∃ m, m = ms[i + k] := ⟨_, rfl⟩
        rw [← hmE] at d1 hrl HTK HRF hmem
        have HEQ := Lib.hid hmE
        clear hmE
        obtain ⟨W1, hW1⟩ : ∃ W1, W1 = wr.alloc (.cells (lineCells m.g) 34) := ⟨_, rfl⟩
        have hb1' : Below wr.heap.size wr W1 := by rw [hW1]; exact (Below.refl _ _).alloc (Nat.le_refl _) _
        have hLV : LineVar W1 wr.heap.size m.g := by rw [hW1]; exact heap_alloc_new _ _
        have hn0 := (hLV.cell 0).trans (lc0 m.g)
        have hv31 : W1.cell? ⟨b3, 0, none⟩ = some (.int .i64 hi) := (hb1'.cell (block_lt_of_cell hv3)).trans hv3
        obtain ⟨o2, d2⟩ := hLV.rd
        have hzs : ((lineCells zeroLine).size == 38) = true := by rw [lineCells_size]; rfl
        have hone := HRF.out.one
        have hft := fits_line (g := m.g) hone
        have HBW1 := Lib.hid (HBr.out.trans (hb1'.mono HBr.out.size) : Below W.heap.size W W1)
        have HROW1 : Hid (RowAt W.heap.size W1 (.slice la ln lc) ls) := Lib.hid ⟨HROW.out.lin.below hb1', HROW.out.apart⟩
        have hmn : (ML.g m).number = m.p.number := rfl
        rw [hmn] at hn0
        rw [hW1] at hn0 hv31 o2 d2
        by_cases hgt : hi < m.p.number
        · have HT : Hid (ls.map (·.p) = rangeP ms lo hi) := Lib.hid (HP.out.trans (range_split HBT.out HSO.out (by omega) HLE.out (fun hx => by rw [← HEQ.out]; exact hgt)))
          clear HP HLE HROW HBr
          have HROW := HROW1
          have HBr := HBW1
          clear HROW1 HBW1
          rcases HROW.out.lin.head with ⟨hln, hls⟩ | ⟨rb, rcap, hlv, hrA, hrl, hrle, hrm, hrc⟩
          · cases hln
            have HLS := Lib.hid hls
            clear hls
            go_wp2
            rw [← hW1]
            clear hW1 hn0 hv31 o1 d1 o2 d2
            go_loop [43] (fun i => i = .int .i64 0) (fun _ => 0)
            case atStart => exact rfl
            case round =>
              obtain rfl := hrel
              go_wp2
              go_end0
              exact ⟨⟨_, rfl⟩, .inl ⟨W1.heap.size, ls, HBr.out.size, Nat.le_refl _, HT.out, by rw [HLS.out]; exact HJ0.out W1 HBr.out⟩⟩
          · cases hlv
            have hll : ls.length ≤ 65536 := HLL.out
            have HRC := Lib.hid hrc
            have hrbB : rb < W1.heap.size := hrl
            clear hrc
            go_wp2
            rw [← hW1]
            clear hW1 hn0 hv31 o1 d1 o2 d2
            refine (wpIn_wide (n := n)).1 ?_
            obtain ⟨wr0, hwr0⟩ : ∃ x, x = W1 := ⟨_, rfl⟩
            rw [← hwr0] at HROW HBr HRC hrbB ⊢
            clear hwr0
            gi_loopw [43] (fun i wy => ∃ k : Nat, k ≤ ls.length ∧ i = .int .i64 k ∧ Hid (J wr0.heap.size (ls.take k) wy) ∧ Hid (IterKeep W.heap.size wr0 (ls.take k) wy)) (fun i _ => ls.length - (intOf i).toNat)
            case atStart => exact ⟨0, by omega, rfl, Lib.hid (HJ0.out wr0 HBr.out), Lib.hid ⟨Nat.le_refl _, fun _ _ _ _ => rfl⟩⟩
            case round =>
              obtain ⟨k, hk, rfl, HJk, HKk⟩ := hrel
              by_cases hltk : k < ls.length
              · have hltz : (k : Int) < (ls.length : Int) := by omega
                obtain ⟨o1, d1⟩ := lineAt_rd (w := wr) (g := rb) (off := k * 38) (l := ls[k].g) (fun i u hu => (iter_row HROW.out HKk.out k rb rfl i).trans (HRC.out k hltk i u hu))
                have HGD := Lib.hid (iter_gd HROW.out HT.out HKk.out hltk)
                have HTK := Lib.hid (List.take_succ_eq_append_getElem hltk)
                have HNX := Lib.hid (fun X' => iter_next HKk.out hltk (X' := X'))
                have hone := (HROW.out.lin.refs ls[k] (List.getElem_mem hltk)).one
                have hft := fits_line (g := ls[k].g) hone
                have o2 := ok_new_line wr ls[k].g 34
                have d2 := rd_new_line wr ls[k].g 34
                have hY2 := HY.out wr0.heap.size (ls.take k) ls[k] (wr.alloc (.cells (lineCells ls[k].g) 34)) (HJs.out _ _ _ _ HJk.out HBr.out.size HKk.out.1 (Beside.of_below ((Below.refl _ _).alloc (Nat.le_refl _) _))) HBr.out.size (by have := HKk.out.1; simp; omega) (HGD.out.below ((Below.refl _ _).alloc (Nat.le_refl _) _))
                obtain ⟨fn, tmps, assign, body, hy, hR⟩ := hY2
                try dsimp only at hy
                have hzs : ((lineCells zeroLine).size == 38) = true := by rw [lineCells_size]; rfl
                have HRR := Lib.hid hR
                clear hR HGD
                generalize ls[k] = x at o1 d1 o2 d2 HTK HNX hft hone hy HRR
                gi_wp2
                refine ⟨fun hd => (by cases hd), HRR.out.mono ?_⟩
                rintro e W3 (⟨rfl, hJ3, hk3⟩ | ⟨rfl, hJx3⟩)
                · have HJ3 := Lib.hid hJ3
                  have HK3 := Lib.hid (HNX.out W3 hk3)
                  clear hJ3 hk3 HRR hy
                  gi_wp2
                  go_roundw
                  case rel => exact ⟨k + 1, by omega, by go_num, Lib.hid (by rw [HTK.out]; exact HJ3.out), Lib.hid (by rw [HTK.out]; exact HK3.out)⟩
                  case measure => simp [intOf]; omega
                · have HJx3 := Lib.hid hJx3
                  clear hJx3 HRR hy
                  gi_wp2
                  refine bodyPost_ret (results_none rfl _ _ _) rfl ?_
                  exact ⟨⟨_, rfl⟩, .inr ⟨wr0.heap.size, _, HBr.out.size, HJx3.out⟩⟩
              · have HE : Hid (ls.take k = ls) := Lib.hid (List.take_of_length_le (by omega))
                gi_wp2
                go_end0
                exact ⟨⟨_, rfl⟩, .inl ⟨wr0.heap.size, ls, HBr.out.size, HKk.out.1, HT.out, by have := HJk.out; rw [HE.out] at this; exact this⟩⟩
        · have hle2 : m.p.number ≤ hi := by omega
          have HLE2 : Hid (∀ x ∈ (ms.drop i).take (k + 1), x.p.number ≤ hi) := Lib.hid fun x hx => by
            rw [HTK.out] at hx
            rcases List.mem_append.1 hx with hx | hx
            · exact HLE.out x hx
            · rw [List.mem_singleton.1 hx]; exact hle2
          have HCL := Lib.hid (clone_any B m.g m.p.ids W1 (HRF.out.below HBW1.out) (by omega))
          clear HROW HBr HRF
          go_wp2_with fail
          rw [← hW1]
          clear hW1 hn0 hv31 o1 d1 o2 d2
          refine HCL.out.mono ?_
          rintro r w2 ⟨v', rfl, hI2, hb2⟩
          obtain ⟨x, hx⟩ : ∃ x : ML, x = ⟨m.p, v'⟩ := ⟨_, rfl⟩
          have hxg : ({ m.g with refs := v' } : GLine) = x.g := by rw [hx]; rfl
          have hxp : x.p = m.p := by rw [hx]
          have hxv : x.v = v' := by rw [hx]
          rw [hxg]
          have HI2 : Hid (IdsOwn W1.heap.size w2 x.v x.p.ids) := Lib.hid (by rw [hxp, hxv]; exact hI2)
          have HXP := Lib.hid hxp
          have honex : ∀ u ∈ lineList x.g, u.oneCell' = true := lineList_one (g := x.g) (by show x.v.oneCell' = true; exact HI2.out.one)
          have HONEX := Lib.hid honex
          have HBW2 := Lib.hid (HBW1.out.trans (hb2.mono HBW1.out.size) : Below W.heap.size W w2)
          have hrow2 := (HROW1.out.lin.below hb2)
          have HROW2 : Hid (RowAt W.heap.size w2 (.slice la ln lc) ls) := Lib.hid ⟨hrow2, HROW1.out.apart⟩
          have hs12 : W1.heap.size ≤ w2.heap.size := hb2.size
          have hownA := hrow2.row.alloc (.cells (lineCells x.g) 34)
          have HLT := Lib.hid (fun j hj => (World.ownsRow.lt hrow2.row j hj).1)
          have hsW1 : W.heap.size ≤ W1.heap.size := HBW1.out.size
          clear hI2 hb2 hx hxg hxp hxv honex hrow2 HBW1 HCL
          have HLL2 := HLL.out
          rw [HLK.out] at hownA
          go_wp2_with (at_builtin; refine wpList_append_own _ rfl (.tmp 35) (.tmp 38) 107 rfl W.heap.size 34 i0 (.agg (lineCells zeroLine)) 38 112 Tryz.underlying107 hi0 hz0 hz1 hz2 (lineCells_size _) (by decide) _ _ _ rfl hownA ⟨w2.heap.size, 0, none⟩ 1 1 (lineList x.g) rfl (lineList_length _) ?c1 HONEX.out ?c3 ?c4 ?c5 ?_)
          case c1 =>
            intro j u hj
            rw [Addr.add_lit, Nat.zero_add, cells_new]
            unfold lineCells
            rw [List.getElem?_toArray]
            exact hj
          case c3 => unfold maxLen; omega
          case c4 => omega
          case c5 => have := HBW2.out.size; simp; omega
          intro v2 w3 hown3 hgr3 _
          have hb3 : Below W.heap.size W w3 := (HBW2.out.alloc HBW2.out.size _).grown hgr3 (by have := HBW2.out.size; simp; omega) (fun j hj => HLT.out j hj)
          have hty : ∀ k, (Value.slice la ln lc).ownBlock = some k → ∃ c, (w2.alloc (.cells (lineCells x.g) 34)).heap[k]? = some (.cells c 34 (0, 0)) := fun k hk => ownsRow_typed hownA hk
          have hal : Below w2.heap.size w2 (w2.alloc (.cells (lineCells x.g) 34)) := (Below.refl _ _).alloc (Nat.le_refl _) _
          have hrow3 : RowAt W.heap.size w3 v2 (ls ++ [x]) := by
            refine HROW1.out.snoc ?_ (fun y hy => ids_grown ((HROW2.out.lin.refs y hy).below hal) hgr3 hty) (ids_grown ((HI2.out.below hal).mono (by have := HBW2.out.size; omega)) hgr3 hty) ?_
            · rw [HLK.out]; exact hown3
            · exact fun k hk => (HI2.out.lt hk).1
          have HROW3 := Lib.hid hrow3
          have HB3 := Lib.hid hb3
          have HP3 : Hid ((ls ++ [x]).map (·.p) = ((ms.drop i).take (k + 1)).map (·.p)) := Lib.hid (by rw [HTK.out, List.map_append, List.map_append, HP.out]; simp [HXP.out])
          clear hown3 hgr3 hb3 hty hal hrow3 hownA
          go_wp2
          go_roundw
          case rel => exact ⟨k + 1, ls ++ [x], by omega, by go_num, HP3, HLE2, HROW3, HB3⟩
          case measure => simp [intOf]; omega
      · have HT : Hid (ls.map (·.p) = rangeP ms lo hi) := Lib.hid (HP.out.trans (range_split HBT.out HSO.out (by omega) HLE.out (fun hx => by omega)))
        clear HP HLE
        rcases HROW.out.lin.head with ⟨hln, hls⟩ | ⟨rb, rcap, hlv, hrA, hrl, hrle, hrm, hrc⟩
        · cases hln
          have HLS := Lib.hid hls
          clear hls
          go_wp2
          go_loop [43] (fun i => i = .int .i64 0) (fun _ => 0)
          case atStart => exact rfl
          case round =>
            obtain rfl := hrel
            go_wp2
            go_end0
            exact ⟨⟨_, rfl⟩, .inl ⟨wr.heap.size, ls, HBr.out.size, Nat.le_refl _, HT.out, by rw [HLS.out]; exact HJ0.out wr HBr.out⟩⟩
        · cases hlv
          have hll : ls.length ≤ 65536 := HLL.out
          have HRC := Lib.hid hrc
          have hrbB : rb < wr.heap.size := hrl
          clear hrc
          go_wp2
          refine (wpIn_wide (n := n)).1 ?_
          obtain ⟨wr0, hwr0⟩ : ∃ x, x = wr := ⟨_, rfl⟩
          rw [← hwr0] at HROW HBr HRC hrbB ⊢
          clear hwr0
          gi_loopw [43] (fun i wy => ∃ k : Nat, k ≤ ls.length ∧ i = .int .i64 k ∧ Hid (J wr0.heap.size (ls.take k) wy) ∧ Hid (IterKeep W.heap.size wr0 (ls.take k) wy)) (fun i _ => ls.length - (intOf i).toNat)
          case atStart => exact ⟨0, by omega, rfl, Lib.hid (HJ0.out wr0 HBr.out), Lib.hid ⟨Nat.le_refl _, fun _ _ _ _ => rfl⟩⟩
          case round =>
            obtain ⟨k, hk, rfl, HJk, HKk⟩ := hrel
            by_cases hltk : k < ls.length
            · have hltz : (k : Int) < (ls.length : Int) := by omega
              obtain ⟨o1, d1⟩ := lineAt_rd (w := wr) (g := rb) (off := k * 38) (l := ls[k].g) (fun i u hu => (iter_row HROW.out HKk.out k rb rfl i).trans (HRC.out k hltk i u hu))
              have HGD := Lib.hid (iter_gd HROW.out HT.out HKk.out hltk)
              have HTK := Lib.hid (List.take_succ_eq_append_getElem hltk)
              have HNX := Lib.hid (fun X' => iter_next HKk.out hltk (X' := X'))
              have hone := (HROW.out.lin.refs ls[k] (List.getElem_mem hltk)).one
              have hft := fits_line (g := ls[k].g) hone
              have o2 := ok_new_line wr ls[k].g 34
              have d2 := rd_new_line wr ls[k].g 34
              have hY2 := HY.out wr0.heap.size (ls.take k) ls[k] (wr.alloc (.cells (lineCells ls[k].g) 34)) (HJs.out _ _ _ _ HJk.out HBr.out.size HKk.out.1 (Beside.of_below ((Below.refl _ _).alloc (Nat.le_refl _) _))) HBr.out.size (by have := HKk.out.1; simp; omega) (HGD.out.below ((Below.refl _ _).alloc (Nat.le_refl _) _))
              obtain ⟨fn, tmps, assign, body, hy, hR⟩ := hY2
              try dsimp only at hy
              have hzs : ((lineCells zeroLine).size == 38) = true := by rw [lineCells_size]; rfl
              have HRR := Lib.hid hR
              clear hR HGD
              generalize ls[k] = x at o1 d1 o2 d2 HTK HNX hft hone hy HRR
              gi_wp2
              refine ⟨fun hd => (by cases hd), HRR.out.mono ?_⟩
              rintro e W3 (⟨rfl, hJ3, hk3⟩ | ⟨rfl, hJx3⟩)
              · have HJ3 := Lib.hid hJ3
                have HK3 := Lib.hid (HNX.out W3 hk3)
                clear hJ3 hk3 HRR hy
                gi_wp2
                go_roundw
                case rel => exact ⟨k + 1, by omega, by go_num, Lib.hid (by rw [HTK.out]; exact HJ3.out), Lib.hid (by rw [HTK.out]; exact HK3.out)⟩
                case measure => simp [intOf]; omega
              · have HJx3 := Lib.hid hJx3
                clear hJx3 HRR hy
                gi_wp2
                refine bodyPost_ret (results_none rfl _ _ _) rfl ?_
                exact ⟨⟨_, rfl⟩, .inr ⟨wr0.heap.size, _, HBr.out.size, HJx3.out⟩⟩
            · have HE : Hid (ls.take k = ls) := Lib.hid (List.take_of_length_le (by omega))
              gi_wp2
              go_end0
              exact ⟨⟨_, rfl⟩, .inl ⟨wr0.heap.size, ls, HBr.out.size, HKk.out.1, HT.out, by have := HJk.out; rw [HE.out] at this; exact this⟩⟩

end Go.Proofs.YtdjaphcelpchaaaGreatDoor

namespace Go.Proofs.YtdjaphcelpchaaaGreatDoor
open Go Go.RowKit Go.Proofs

attribute [local go_sem ↓] ex_load_id ex_store_id ex_load_line ex_store_line ex_load_rline ex_store_rline ex_alloc_line ex_build_line ex_alloc_rline ex_build_rline

attribute [local go_sem] ld_id st_id ld_line st_line ld_rline st_rline guard_id okCells_drew rdCells_drew okCells_drewN rdCells_drewN rowOk_drew rowOk_cells okCells_cells rdCells_cells setRow_drew setRow_new setRow_past

attribute [local go_sem] Oper.semAt_some

attribute [local go_sem ↓] exI_load_line exI_store_line exI_alloc_line exI_load_id exI_store_id exI_load_rline exI_store_rline

/-- What the walk of same keeps from one round of its loop to the next. -/
structure SameSt (w : World) (gbx : Nat) (ga ra : Option Addr) (gc : Nat) (ns : List ByteArray) (ds : List Nat) (ic i : Nat) (W : World) : Prop where
  bl : Below w.heap.size w W
  rc : W.heap[w.heap.size]? = some (.cells #[.bool false] 4 (0, 0))
  gx : W.heap[gbx]? = some (.cells #[.slice ga ns.length gc] 78 (0, 0))
  gr : ns ≠ [] → ∃ b, ga = some ⟨b, 0, none⟩ ∧ b < W.heap.size ∧ StrRow W b 0 ns
  rr : ns ≠ [] → ∃ b, ra = some ⟨b, 0, none⟩ ∧ b < W.heap.size ∧ StrRow W b 0 ns
  ix : W.heap[ic]? = some (.cells #[.int .i64 i] 3 (0, 0))
  ms : ∀ D ∈ ds, W.heap[D]? = some (.deferred (some []))
  md : ds.Nodup
  mb : ∀ D ∈ ds, w.heap.size < D
theorem SameSt.step {w : World} {gbx : Nat} {ga ra : Option Addr} {gc : Nat} {ns : List ByteArray} {ds : List Nat} {ic i : Nat} {W W' : World} (h : SameSt w gbx ga ra gc ns ds ic i W) (hb : Below W.heap.size W W') : SameSt w gbx ga ra gc ns ds ic i W' where
  bl := h.bl.trans (hb.mono h.bl.size)
  rc := (hb.block _ (Array.getElem?_eq_some_iff.1 h.rc).1).trans h.rc
  gx := (hb.block _ (Array.getElem?_eq_some_iff.1 h.gx).1).trans h.gx
  gr := fun hn => let ⟨b, e, hl, hr⟩ := h.gr hn; ⟨b, e, Nat.lt_of_lt_of_le hl hb.size, hr.below' hb hl⟩
  rr := fun hn => let ⟨b, e, hl, hr⟩ := h.rr hn; ⟨b, e, Nat.lt_of_lt_of_le hl hb.size, hr.below' hb hl⟩
  ix := (hb.block _ (Array.getElem?_eq_some_iff.1 h.ix).1).trans h.ix
  ms := fun D hD => (hb.block _ (Array.getElem?_eq_some_iff.1 (h.ms D hD)).1).trans (h.ms D hD)
  md := h.md
  mb := h.mb
theorem results_cell1' {P : Program} {fn : Func} {p : Tmp} {ty : Nat} (h : fn.results = #[.cell p ty]) (hA : ∀ w, Sem.run P (isAgg ty) w = .ok false w) (tmps : Array Value) (w : World) (a : Addr) (v : Value) (hp : tmps.getD p undef = .pointer (some a)) (hc : w.cell? a = some v) :
    (results fn tmps).run P w = .ok v w := by
  have hp' : tmps[p]?.getD undef = .pointer (some a) := by simpa using hp
  simp [results, h, asAddr, hp', loadVar, hA, hc]
/-- A mark among the deferred calls. -/
def markD (D : Nat) : Deferred := { target := .collected D, args := #[] }
def leftI (n : Nat) (a : Act) (w : World) : Nat := match a.tmps.getD 7 undef with
  | .pointer (some p) => n - (intOf ((w.cell? p).getD undef)).toNat
  | _ => 0
/-- A frame written out. -/
theorem tmps_range (t : Array Value) (n : Nat) (h : t.size = n) : t = ((List.range n).map fun k => t.getD k undef).toArray := by
  subst h
  apply Array.ext
  · simp
  · intro i h1 h2
    simp [h1]
theorem slots89 (t : Array Value) (h : t.size = 89) : ∃ f : Nat → Value, (∀ k, f k = t.getD k undef) ∧ t = #[f 0, f 1, f 2, f 3, f 4, f 5, f 6, f 7, f 8, f 9, f 10, f 11, f 12, f 13, f 14, f 15, f 16, f 17, f 18, f 19, f 20, f 21, f 22, f 23, f 24, f 25, f 26, f 27, f 28, f 29, f 30, f 31, f 32, f 33, f 34, f 35, f 36, f 37, f 38, f 39, f 40, f 41, f 42, f 43, f 44, f 45, f 46, f 47, f 48, f 49, f 50, f 51, f 52, f 53, f 54, f 55, f 56, f 57, f 58, f 59, f 60, f 61, f 62, f 63, f 64, f 65, f 66, f 67, f 68, f 69, f 70, f 71, f 72, f 73, f 74, f 75, f 76, f 77, f 78, f 79, f 80, f 81, f 82, f 83, f 84, f 85, f 86, f 87, f 88] := ⟨fun k => t.getD k undef, fun _ => rfl, (tmps_range t 89 h).trans rfl⟩
/-- The loop's invariant. -/
structure SameInv (ib : Nat) (v : Value) (rs : List MR) (w : World) (gbx : Nat) (ga ra : Option Addr) (gc rcp : Nat) (ds : List Nat) (ic i : Nat) (a : Act) (W : World) : Prop where
  le : i ≤ (groupsR rs).length
  st : SameSt w gbx ga ra gc (groupsR rs) ds ic i W
  size : a.tmps.size = 89
  s0 : a.tmps.getD 0 undef = .pointer (some ⟨ib, 0, none⟩)
  s1 : a.tmps.getD 1 undef = v
  s4 : a.tmps.getD 4 undef = .pointer (some ⟨w.heap.size, 0, none⟩)
  s5 : a.tmps.getD 5 undef = .pointer (some ⟨gbx, 0, none⟩)
  s6 : a.tmps.getD 6 undef = .slice ra (groupsR rs).length rcp
  s7 : a.tmps.getD 7 undef = .pointer (some ⟨ic, 0, none⟩)
  df : a.defers = ds.map markD
theorem SameInv.left {ib : Nat} {v : Value} {rs : List MR} {w : World} {gbx : Nat} {ga ra : Option Addr} {gc rcp : Nat} {ds : List Nat} {ic i : Nat} {a : Act} {W : World} (h : SameInv ib v rs w gbx ga ra gc rcp ds ic i a W) (n : Nat) : leftI n a W = n - i := by
  unfold leftI
  rw [h.s7]
  show n - (intOf ((W.cell? ⟨ic, 0, none⟩).getD undef)).toNat = _
  rw [cell_of_row W ic 0 _ _ _ h.st.ix]
  rfl

/-- What the slots hold in a round. -/
structure RSlots (t : Array Value) (ib : Nat) (v : Value) (rc gbx : Nat) (rv : Value) (ic kb : Nat) : Prop where
  size : t.size = 89
  s0 : t.getD 0 undef = .pointer (some ⟨ib, 0, none⟩)
  s1 : t.getD 1 undef = v
  s4 : t.getD 4 undef = .pointer (some ⟨rc, 0, none⟩)
  s5 : t.getD 5 undef = .pointer (some ⟨gbx, 0, none⟩)
  s6 : t.getD 6 undef = rv
  s7 : t.getD 7 undef = .pointer (some ⟨ic, 0, none⟩)
  s8 : t.getD 8 undef = .pointer (some ⟨kb, 0, none⟩)
  s9 : t.getD 9 undef = .pointer (some ⟨kb + 1, 0, none⟩)
theorem getD_setv {t : Array Value} {i j : Nat} (v d : Value) (h : i ≠ j) : (t.setIfInBounds i v).getD j d = t.getD j d := by
  simp [h]
theorem RSlots.set {t : Array Value} {ib : Nat} {v : Value} {rc gbx : Nat} {rv : Value} {ic kb : Nat} (h : RSlots t ib v rc gbx rv ic kb) {k : Nat} (hk : 10 ≤ k) (u : Value) : RSlots (t.setIfInBounds k u) ib v rc gbx rv ic kb :=
  ⟨by simpa using h.size, (getD_setv _ _ (by omega)).trans h.s0, (getD_setv _ _ (by omega)).trans h.s1, (getD_setv _ _ (by omega)).trans h.s4, (getD_setv _ _ (by omega)).trans h.s5, (getD_setv _ _ (by omega)).trans h.s6, (getD_setv _ _ (by omega)).trans h.s7, (getD_setv _ _ (by omega)).trans h.s8, (getD_setv _ _ (by omega)).trans h.s9⟩
theorem RSlots.out {t : Array Value} {ib : Nat} {v : Value} {rc gbx : Nat} {rv : Value} {ic kb : Nat} (h : RSlots t ib v rc gbx rv ic kb) : ∃ f : Nat → Value, (∀ k, f k = t.getD k undef) ∧ t = #[.pointer (some ⟨ib, 0, none⟩), v, f 2, f 3, .pointer (some ⟨rc, 0, none⟩), .pointer (some ⟨gbx, 0, none⟩), rv, .pointer (some ⟨ic, 0, none⟩), .pointer (some ⟨kb, 0, none⟩), .pointer (some ⟨kb + 1, 0, none⟩), f 10, f 11, f 12, f 13, f 14, f 15, f 16, f 17, f 18, f 19, f 20, f 21, f 22, f 23, f 24, f 25, f 26, f 27, f 28, f 29, f 30, f 31, f 32, f 33, f 34, f 35, f 36, f 37, f 38, f 39, f 40, f 41, f 42, f 43, f 44, f 45, f 46, f 47, f 48, f 49, f 50, f 51, f 52, f 53, f 54, f 55, f 56, f 57, f 58, f 59, f 60, f 61, f 62, f 63, f 64, f 65, f 66, f 67, f 68, f 69, f 70, f 71, f 72, f 73, f 74, f 75, f 76, f 77, f 78, f 79, f 80, f 81, f 82, f 83, f 84, f 85, f 86, f 87, f 88] := by
  obtain ⟨f, hf, hft⟩ := slots89 t h.size
  refine ⟨f, hf, ?_⟩
  have e0 := (hf 0).trans h.s0
  have e1 := (hf 1).trans h.s1
  have e4 := (hf 4).trans h.s4
  have e5 := (hf 5).trans h.s5
  have e6 := (hf 6).trans h.s6
  have e7 := (hf 7).trans h.s7
  have e8 := (hf 8).trans h.s8
  have e9 := (hf 9).trans h.s9
  rw [← e0, ← e1, ← e4, ← e5, ← e6, ← e7, ← e8, ← e9]
  exact hft
theorem foldl_one (p : Nat) (v : Value) (t : Array Value) : (((#[p] : Array Tmp).zip #[v]).foldl (fun t (p, v) => t.setIfInBounds p v) t) = t.setIfInBounds p v := by
  simp
theorem name_act {P : Program} {c : Code} {Q : Exit → Act → World → Prop} {a : Act} {w : World} (h : ∀ a', a' = a → c.wp P Q a' w) : c.wp P Q a w := h a rfl
/-- Between two rounds: the counter; all else lies as it lay. -/
structure KbAt (W8 : World) (kb n : Nat) (X : World) : Prop where
  kept : Kept [kb] W8 X
  cell : X.heap[kb]? = some (.cells #[.int .i64 n] 3 (0, 0))
theorem KbAt.beside {W8 : World} {kb n : Nat} {X Y : World} {B : Nat} (h : KbAt W8 kb n X) (hk : kb < W8.heap.size) (hb : Beside W8.heap.size B X Y) : KbAt W8 kb n Y :=
  ⟨⟨hb.os.trans h.kept.os, hb.tape.trans h.kept.tape, hb.output.trans h.kept.output, Nat.le_trans h.kept.size hb.size, fun k hk' hn => (hb.block k (Nat.lt_of_lt_of_le hk' h.kept.size) (.inl hk')).trans (h.kept.block k hk' hn)⟩, (hb.block kb (Nat.lt_of_lt_of_le hk h.kept.size) (.inl hk)).trans h.cell⟩
theorem KbAt.later {W8 : World} {kb n : Nat} {X Y : World} (h : KbAt W8 kb n X) (hb : Below X.heap.size X Y) : KbAt W8 kb n Y :=
  ⟨h.kept.trans (Kept.of_below (F := []) hb) (fun _ hk => by cases hk), (hb.block kb (Array.getElem?_eq_some_iff.1 h.cell).1).trans h.cell⟩
/-- Ahead of a round's body. -/
structure SameAx (T : List PLine) (ib : Nat) (v : Value) (rc gbx : Nat) (rv : Value) (ic kb : Nat) (W8 : World) (B : Nat) (pre : List ML) (x : ML) (a : Act) (X : World) : Prop where
  cnt : KbAt W8 kb pre.length X
  gd : GdL T (W8.heap.size + 2) B pre x X
  sl : RSlots a.tmps ib v rc gbx rv ic kb
  df : a.defers = []
  yb : ∃ yb, LineVar X yb x.g ∧ W8.heap.size + 2 ≤ yb ∧ a.tmps.getD 10 undef = .pointer (some ⟨yb, 0, none⟩)

theorem IdxAt.good_in {B : Nat} {w : World} {ib M mc : Nat} {gs : List MG} (h : IdxAt B w ib M gs mc) {s : ByteArray} {m : ML} (hm : m ∈ linesIn gs s) : pErr m.p = 0 := by
  have hne : linesIn gs s ≠ [] := fun e => by rw [e] at hm; cases hm
  obtain ⟨G, hG, hms, _⟩ := linesIn_ne hne
  exact (h.grps G (groupOf_mem hG).1).good m (hms ▸ hm)
theorem num_range {p : PLine} (h : pErr p = 0) : 1 ≤ p.number ∧ p.number ≤ 2147483646 := by
  obtain ⟨f1, _⟩ := lineErr_zero h
  exact f1
theorem range_all {ms : List ML} (h : ∀ m ∈ ms, pErr m.p = 0) : rangeP ms (-1) 1099511627776 = ms.map (·.p) := by
  unfold rangeP
  rw [List.filter_eq_self]
  intro p hp
  obtain ⟨m, hm, rfl⟩ := List.mem_map.1 hp
  have := num_range (h m hm)
  rw [decide_eq_true_eq]
  omega
/-- The worlds in which the old blocks lie as they lay. -/
theorem KbAt.old {W8 : World} {kb n : Nat} {X : World} (h : KbAt W8 kb n X) {k : Nat} (hk : k < W8.heap.size) (hn : k ≠ kb) : X.heap[k]? = W8.heap[k]? := h.kept.block k hk (by simpa using hn)

set_option maxRecDepth 100000 in
set_option maxHeartbeats 8000000 in
theorem same_any (B B2 ib M mc : Nat) (gs : List MG) (v : Value) (rs : List MR) (w : World) (hG : Gl w) (h : IdxAt B w ib M gs mc) (hv : RefsAt B2 w v rs) (hr : RelR gs rs) (ho : ordR rs) (hI : ∀ r ∈ rs, IdsAt w r.m.v r.m.p.ids) :
    Calls Tryz.prog 27 #[.pointer (some ⟨ib, 0, none⟩), v] w fun r w' => r = .returned (.bool true) ∧ Below w.heap.size w w' := by
  obtain ⟨W, hW⟩ : ∃ W, W = w.alloc (.cells #[.bool false] 4) := ⟨_, rfl⟩
  have hb0 : Below w.heap.size w W := by rw [hW]; exact (Below.refl _ _).alloc (Nat.le_refl _) _
  have hs0 : W.heap.size = w.heap.size + 1 := by rw [hW]; simp
  have hC0 : W.heap[w.heap.size]? = some (.cells #[.bool false] 4 (0, 0)) := by rw [hW]; exact heap_alloc_new _ _
  have HGR := Lib.hid (groups_any B ib M mc gs W (hG.later hb0) (h.below hb0))
  obtain ⟨va, vn, vc, hve⟩ : ∃ a n c, v = .slice a n c := own_slice hv.row
  subst hve
  have HX := Lib.hid h
  have HV := Lib.hid hv
  have HR := Lib.hid hr
  have HO := Lib.hid ho
  have HI := Lib.hid hI
  have HB0 := Lib.hid hb0
  have HC0 := Lib.hid hC0
  have HS0 := Lib.hid hs0
  clear h hv hr ho hI hb0 hC0 hs0
  refine (callsIn_wide (n := 3)).1 (callsIn_of_wp_marks Tryz.func27 rfl trivial ?_ rfl)
  simp only [Tryz.ntmps27, List.size_toArray, List.length_cons, List.length_nil, Nat.reduceAdd, Nat.reduceSub, Array.replicate_succ, Array.replicate_zero, List.push_toArray, List.append_toArray, List.nil_append, List.cons_append]
  refine wpIn_wide.2 ?_
  go_wp2_with fail
  rw [← hW]
  clear hW
  refine HGR.out.mono ?_
  rintro r w1 ⟨gv, ns, rfl, hns, hord, hmem, hb1⟩
  have hnse := rel_names HX.out HR.out HO.out hord hmem
  subst hnse
  have HB1 := Lib.hid (HB0.out.trans (hb1.mono HB0.out.size) : Below w.heap.size w w1)
  have HC1 : Hid (w1.heap[w.heap.size]? = some (.cells #[.bool false] 4 (0, 0))) := Lib.hid ((hb1.block _ (by rw [HS0.out]; omega)).trans HC0.out)
  have HGR2 := Lib.hid (groupsRef_any B2 (.slice va vn vc) rs w1 (HV.out.below HB1.out))
  clear hb1 HGR hord hmem HB0 HC0
  go_wp2_with fail
  refine HGR2.out.mono ?_
  rintro r w2 ⟨rv, rfl, hown, hb2⟩
  have HB2 := Lib.hid (HB1.out.trans (hb2.mono HB1.out.size) : Below w.heap.size w w2)
  have HRN := Lib.hid (ownsRow_base hown (Nat.zero_le _))
  obtain ⟨ga, gc, hge, hgr⟩ : ∃ ga gc, gv = .slice ga (groupsR rs).length gc ∧ (groupsR rs ≠ [] → ∃ b, ga = some ⟨b, 0, none⟩ ∧ b < w2.heap.size ∧ StrRow w2 b 0 (groupsR rs)) := by
    rcases hns with ⟨e1, rfl⟩ | ⟨b, c, rfl, _, hrow, _, hbl⟩
    · exact ⟨none, 0, by rw [e1]; rfl, fun h => absurd e1 h⟩
    · exact ⟨_, c, rfl, fun _ => ⟨b, rfl, Nat.lt_of_lt_of_le hbl hb2.size, hrow.below' hb2 hbl⟩⟩
  obtain ⟨ra, rcp, hre, hrr⟩ : ∃ ra rcp, rv = .slice ra (groupsR rs).length rcp ∧ (groupsR rs ≠ [] → ∃ b, ra = some ⟨b, 0, none⟩ ∧ b < w2.heap.size ∧ StrRow w2 b 0 (groupsR rs)) := by
    by_cases hne : groupsR rs = []
    · rcases hown.2 with ⟨e, _⟩ | ⟨g', cap', cur', e, _⟩
      · exact ⟨none, 0, by rw [e, hne]; rfl, fun h => absurd hne h⟩
      · exact ⟨_, cap', e, fun h => absurd hne h⟩
    · obtain ⟨b, c, e, hrow, _, hbl⟩ := row_strs hown hne
      exact ⟨_, c, e, fun _ => ⟨b, rfl, hbl, hrow⟩⟩
  subst hge hre
  have HC2 : Hid (w2.heap[w.heap.size]? = some (.cells #[.bool false] 4 (0, 0))) := Lib.hid ((hb2.block _ (Array.getElem?_eq_some_iff.1 HC1.out).1).trans HC1.out)
  have HGRR := Lib.hid hgr
  have HRR := Lib.hid hrr
  have hnl : (groupsR rs).length ≤ 100000 := Nat.le_trans (groups_length rs) HV.out.few
  clear hgr hrr hown hns hb2 HGR2 HC1 HB1
  have hW3 : SameSt w w2.heap.size ga ra gc (groupsR rs) [] (w2.heap.size + 1) 0 ((w2.alloc (.cells #[.slice ga (groupsR rs).length gc] 78)).alloc (.cells #[.int .i64 0] 3)) := by
    have hba : Below w2.heap.size w2 ((w2.alloc (.cells #[.slice ga (groupsR rs).length gc] 78)).alloc (.cells #[.int .i64 0] 3)) := ((Below.refl _ _).alloc (Nat.le_refl _) _).alloc (by simp) _
    refine ⟨HB2.out.trans (hba.mono HB2.out.size), (hba.block _ (Array.getElem?_eq_some_iff.1 HC2.out).1).trans HC2.out, ?_, fun hn => ?_, fun hn => ?_, ?_, fun D hD => (by cases hD), List.nodup_nil, fun D hD => (by cases hD)⟩
    · rw [heap_alloc_old _ _ (by simp), heap_alloc_new]
    · obtain ⟨b, e, hl, hr⟩ := HGRR.out hn; exact ⟨b, e, Nat.lt_of_lt_of_le hl hba.size, hr.below' hba hl⟩
    · obtain ⟨b, e, hl, hr⟩ := HRR.out hn; exact ⟨b, e, Nat.lt_of_lt_of_le hl hba.size, hr.below' hba hl⟩
    · have := heap_alloc_new (w2.alloc (.cells #[.slice ga (groupsR rs).length gc] 78)) (.cells #[.int .i64 0] 3)
      simpa using this
  have HW3 := Lib.hid hW3
  clear hW3
  go_wp2
  generalize (w2.alloc (.cells #[.slice ga (groupsR rs).length gc] 78)).alloc (.cells #[.int .i64 0] 3) = w3 at HW3 ⊢
  obtain ⟨gbx, hgbx⟩ : ∃ x, x = w2.heap.size := ⟨_, rfl⟩
  rw [← hgbx] at HW3 ⊢
  clear hgbx HB2 HC2 HGRR HRR HRN
  refine wp_loop (fun a W => ∃ ds ic i, SameInv ib (.slice va vn vc) rs w gbx ga ra gc rcp ds ic i a W) (leftI (groupsR rs).length) ?start ?round
  case start => exact ⟨[], gbx + 1, 0, Nat.zero_le _, HW3.out, rfl, rfl, rfl, rfl, rfl, rfl, rfl, rfl⟩
  case round =>
    rintro a W ⟨ds, ic, i, hinv⟩
    have hmu := hinv.left (groupsR rs).length
    have HMU : Hid (∀ ds' ic' a' W', SameInv ib (.slice va vn vc) rs w gbx ga ra gc rcp ds' ic' (i + 1) a' W' → i < (groupsR rs).length → leftI (groupsR rs).length a' W' < leftI (groupsR rs).length a W) := Lib.hid fun ds' ic' a' W' h hl => by rw [h.left, hmu]; omega
    generalize leftI (groupsR rs).length a W = mu at HMU
    clear hmu
    have ha : ∃ f : Nat → Value, a = { tmps := #[.pointer (some ⟨ib, 0, none⟩), .slice va vn vc, f 2, f 3, .pointer (some ⟨w.heap.size, 0, none⟩), .pointer (some ⟨gbx, 0, none⟩), .slice ra (groupsR rs).length rcp, .pointer (some ⟨ic, 0, none⟩), f 8, f 9, f 10, f 11, f 12, f 13, f 14, f 15, f 16, f 17, f 18, f 19, f 20, f 21, f 22, f 23, f 24, f 25, f 26, f 27, f 28, f 29, f 30, f 31, f 32, f 33, f 34, f 35, f 36, f 37, f 38, f 39, f 40, f 41, f 42, f 43, f 44, f 45, f 46, f 47, f 48, f 49, f 50, f 51, f 52, f 53, f 54, f 55, f 56, f 57, f 58, f 59, f 60, f 61, f 62, f 63, f 64, f 65, f 66, f 67, f 68, f 69, f 70, f 71, f 72, f 73, f 74, f 75, f 76, f 77, f 78, f 79, f 80, f 81, f 82, f 83, f 84, f 85, f 86, f 87, f 88], defers := ds.map markD } := by
      obtain ⟨f, hf, hft⟩ := slots89 a.tmps hinv.size
      refine ⟨f, ?_⟩
      obtain ⟨tm, df⟩ := a
      have hdf : df = ds.map markD := hinv.df
      have e0 := (hf 0).trans hinv.s0
      have e1 := (hf 1).trans hinv.s1
      have e4 := (hf 4).trans hinv.s4
      have e5 := (hf 5).trans hinv.s5
      have e6 := (hf 6).trans hinv.s6
      have e7 := (hf 7).trans hinv.s7
      simp only at hft
      rw [hft, hdf, e0, e1, e4, e5, e6, e7]
    obtain ⟨f, rfl⟩ := ha
    have hst := hinv.st
    clear hinv
    have HST := Lib.hid hst
    clear HW3
    have k1 := cell_of_row W ic 0 _ _ _ hst.ix
    have k2 := cell_of_row W gbx 0 _ _ _ hst.gx
    by_cases hlt : i < (groupsR rs).length
    · have hltz : (i : Int) < ((groupsR rs).length : Int) := by omega
      have hne : groupsR rs ≠ [] := fun e => by rw [e] at hlt; cases hlt
      obtain ⟨gb, hga, hgl, hgr⟩ := hst.gr hne
      obtain ⟨rb, hra, hrl, hrr⟩ := hst.rr hne
      subst hga hra
      obtain ⟨t, ht⟩ : ∃ t, (groupsR rs)[i]? = some t := ⟨_, List.getElem?_eq_getElem hlt⟩
      have z1 : ∀ z : Later W, z.1.cell? ⟨ic, 0, none⟩ = some (.int .i64 i) := fun z => cell_of_row _ ic 0 _ _ _ ((hst.step z.2).ix)
      have z2 : ∀ z : Later W, z.1.cell? ⟨gbx, 0, none⟩ = some (.slice (some ⟨gb, 0, none⟩) (groupsR rs).length gc) := fun z => cell_of_row _ gbx 0 _ _ _ ((hst.step z.2).gx)
      have z3 : ∀ z : Later W, z.1.cell? ⟨gb, i, none⟩ = some (.string t) := fun z => by have := hgr.below' z.2 hgl i t ht; rwa [Nat.zero_add] at this
      have Z3 := Lib.hid z3
      have HBW : Hid (Below W.heap.size W W) := Lib.hid (Below.refl _ _)
      have z4 : ∀ z : Later W, z.1.cell? ⟨rb, i, none⟩ = some (.string t) := fun z => by have := hrr.below' z.2 hrl i t ht; rwa [Nat.zero_add] at this
      have hnm : ∃ r ∈ rs, r.s = t := ((groupsR_ok rs HO.out).2.1 t).1 (List.mem_of_getElem? ht)
      have hll : (linesIn gs t).length = (ofR rs t).length := by
        have := congrArg List.length (rel_lines HX.out HR.out HO.out t)
        rwa [List.length_map, List.length_map] at this
      have HLL := Lib.hid hll
      have hofl : (ofR rs t).length ≤ 100000 := by unfold ofR; exact Nat.le_trans (List.length_filter_le _ _) HV.out.few
      have HLN := Lib.hid (len_any B ib M mc gs t W.drew ((HX.out.below hst.bl).below (Below.refl _ _).drew))
      clear hst hgr hrr ht hne hll
      go_wp2_with fail
      refine wp_region_mix0 [0, 1, 2, 3, 4, 5, 6, 7, 8, 9, 10, 11, 12, 13, 14, 16, 17, 18, 19, 20] [15, 21, 22, 23, 24] (fun w' => ∃ z : Later W, w' = z.1) (by kernel_rfl) (by kernel_rfl) (by kernel_rfl) ⟨⟨_, (Below.refl _ _).drew⟩, rfl⟩ ?_
      simp only [opsAt, List.map_cons, List.map_nil, Array.getD_eq_getD_getElem?, List.getElem?_toArray, List.getElem?_cons_zero, List.getElem?_cons_succ, Option.getD_some]
      repeat (go_big_quiet_step (fail))
      refine wpQuiet_nil ?_
      refine wpR_at true (by kernel_rfl) (by kernel_rfl) ?_
      simp only [opsAt, List.map_cons, List.map_nil, Array.getD_eq_getD_getElem?, List.getElem?_toArray, List.getElem?_cons_zero, List.getElem?_cons_succ, Option.getD_some]
      go_wp2_with fail
      refine HLN.out.mono ?_
      rintro r w' ⟨rfl, rfl⟩
      go_wp2_with fail
      refine ⟨fun _ => ⟨⟨_, (Below.refl _ _).drew⟩, rfl⟩, wpR_list [21, 22, 23, 24] _ _ (by kernel_rfl) ?_⟩
      simp only [opsAt, List.map_cons, List.map_nil, Array.getD_eq_getD_getElem?, List.getElem?_toArray, List.getElem?_cons_zero, List.getElem?_cons_succ, Option.getD_some]
      have HST1 := Lib.hid (HST.out.step ((Below.refl _ _).drew : Below W.heap.size W W.drew))
      have HOF := Lib.hid (of_any B2 (.slice va vn vc) rs t W.drew (HV.out.below HST1.out.bl))
      clear z1 z2 z3 z4 HLN
      go_wp2_with fail
      refine HOF.out.mono ?_
      rintro r w4 ⟨lv, rfl, hlv, hb4⟩
      obtain ⟨la, lc, hle⟩ : ∃ a c, lv = .slice a (ofR rs t).length c := by
        rcases hlv.head with ⟨e, h0⟩ | ⟨g', cap', _, e, _⟩
        · exact ⟨none, 0, by rw [e, h0]; rfl⟩
        · exact ⟨_, _, e⟩
      subst hle
      have HST4 := Lib.hid (HST1.out.step hb4)
      have HBW4 : Hid (Below W.heap.size W w4) := Lib.hid (HBW.out.drew.trans (hb4.mono HBW.out.size))
      have hlz : (((linesIn gs t).length : Int) != ((ofR rs t).length : Int)) = false := by rw [HLL.out]; simp
      have q1 := cell_of_row w4 ic 0 _ _ _ HST4.out.ix
      have q2 := cell_of_row w4 gbx 0 _ _ _ HST4.out.gx
      have q3 : w4.cell? ⟨gb, i, none⟩ = some (.string t) := Z3.out ⟨w4, HBW.out.drew.trans (hb4.mono HBW.out.size)⟩
      have HOF2 := Lib.hid (of_any B2 (.slice va vn vc) rs t w4 (HV.out.below HST4.out.bl))
      clear hlv hb4 HOF HST1
      go_wp2_with fail
      refine NoPanic.normal ?_
      go_wp2_with fail
      refine HOF2.out.mono ?_
      rintro r w5 ⟨lv, rfl, hlv, hb5⟩
      obtain ⟨la, lc, hle⟩ : ∃ a c, lv = .slice a (ofR rs t).length c := by
        rcases hlv.head with ⟨e, h0⟩ | ⟨g', cap', _, e, _⟩
        · exact ⟨none, 0, by rw [e, h0]; rfl⟩
        · exact ⟨_, _, e⟩
      subst hle
      have HST5 := Lib.hid (HST4.out.step hb5)
      have HLV := Lib.hid hlv
      obtain ⟨W6, hW6⟩ : ∃ W6, W6 = (w5.alloc (.cells #[.int .i64 0] 3)).alloc (.cells #[.slice la (ofR rs t).length lc] 49) := ⟨_, rfl⟩
      have hb6 : Below w5.heap.size w5 W6 := by rw [hW6]; exact ((Below.refl _ _).alloc (Nat.le_refl _) _).alloc (by simp) _
      have hs6 : W6.heap.size = w5.heap.size + 2 := by rw [hW6]; simp
      have HKB : Hid (W6.heap[w5.heap.size]? = some (.cells #[.int .i64 0] 3 (0, 0))) := Lib.hid (by rw [hW6, heap_alloc_old _ _ (by simp), heap_alloc_new])
      have HLB : Hid (W6.heap[w5.heap.size + 1]? = some (.cells #[.slice la (ofR rs t).length lc] 49 (0, 0))) := Lib.hid (by
        have := heap_alloc_new (w5.alloc (.cells #[.int .i64 0] 3)) (.cells #[.slice la (ofR rs t).length lc] 49)
        rw [hW6]
        simpa using this)
      have HST6 := Lib.hid (HST5.out.step hb6)
      have q1 := cell_of_row W6 ic 0 _ _ _ HST6.out.ix
      have q2 := cell_of_row W6 gbx 0 _ _ _ HST6.out.gx
      have hb56 : Below W.heap.size W W6 := (HBW4.out.trans ((hb5.trans (hb6.mono hb5.size)).mono HBW4.out.size))
      have q3 : W6.cell? ⟨gb, i, none⟩ = some (.string t) := Z3.out ⟨W6, hb56⟩
      have Q3 := Lib.hid q3
      have HB56 := Lib.hid hb56
      have HLV6 := Lib.hid (hlv.below hb6)
      have hb45 : w4.heap.size ≤ w5.heap.size := hb5.size
      have HLVK : Hid (∀ g, (Value.slice la (ofR rs t).length lc).ownBlock = some g → g < w5.heap.size) := Lib.hid fun g hg => (World.ownsRow.lt hlv.row g hg).2
      have HS6 := Lib.hid hs6
      rw [hW6] at q1 q2 q3
      clear hlv HOF2 HST4 HST5 hb5 hb6 hb56 hs6
      go_wp2_with fail
      rw [← hW6]
      clear hW6 q1 q2 q3
      refine (range_call (some ⟨ib, 0, none⟩) t (-1) 1099511627776 W6).mono ?_
      rintro r W8 ⟨rfl, hW8⟩
      have hb8 : Below W6.heap.size W6 W8 := by rw [← hW8]; exact ((((Below.refl _ _).alloc (Nat.le_refl _) _).alloc (by simp) _).alloc (by simp; omega) _).alloc (by simp; omega) _
      have c0 : W8.cell? ⟨W6.heap.size, 0, none⟩ = some (.pointer (some ⟨ib, 0, none⟩)) := by
        rw [← hW8]; exact Lib.cell?_alloc_some _ (Lib.cell?_alloc_some _ (Lib.cell?_alloc_some _ (cells_new W6 _ _ 0)))
      have c1 : W8.cell? ⟨W6.heap.size + 1, 0, none⟩ = some (.string t) := by
        rw [← hW8]; exact Lib.cell?_alloc_some _ (Lib.cell?_alloc_some _ (by simp))
      have c2 : W8.cell? ⟨W6.heap.size + 1 + 1, 0, none⟩ = some (.int .i64 (-1)) := by
        rw [← hW8]; exact Lib.cell?_alloc_some _ (by simpa using cells_new ((W6.alloc (.cells #[.pointer (some ⟨ib, 0, none⟩)] 47)).alloc (.cells #[.string t] 9)) #[.int .i64 (-1)] 3 0)
      have c3 : W8.cell? ⟨W6.heap.size + 1 + 1 + 1, 0, none⟩ = some (.int .i64 1099511627776) := by
        rw [← hW8]; simpa using cells_new (((W6.alloc (.cells #[.pointer (some ⟨ib, 0, none⟩)] 47)).alloc (.cells #[.string t] 9)).alloc (.cells #[.int .i64 (-1)] 3)) #[.int .i64 1099511627776] 3 0
      have HC := Lib.hid (And.intro c0 (And.intro c1 (And.intro c2 c3)))
      have HST8 := Lib.hid (HST6.out.step hb8)
      have HBW8 : Hid (Below W.heap.size W W8) := Lib.hid (HB56.out.trans (hb8.mono HB56.out.size))
      have HG8 : Hid (W8.cell? ⟨gb, i, none⟩ = some (.string t)) := Lib.hid ((hb8.cell (block_lt_of_cell Q3.out)).trans Q3.out)
      have HKB8 : Hid (W8.heap[w5.heap.size]? = some (.cells #[.int .i64 0] 3 (0, 0))) := Lib.hid ((hb8.block _ (by rw [HS6.out]; omega)).trans HKB.out)
      have HLB8 : Hid (W8.heap[w5.heap.size + 1]? = some (.cells #[.slice la (ofR rs t).length lc] 49 (0, 0))) := Lib.hid ((hb8.block _ (by rw [HS6.out]; omega)).trans HLB.out)
      have HLV8 := Lib.hid (HLV6.out.below hb8)
      obtain ⟨kb, hkb⟩ : ∃ kb, kb = w5.heap.size := ⟨_, rfl⟩
      obtain ⟨n6, hn6⟩ : ∃ n6, n6 = W6.heap.size := ⟨_, rfl⟩
      have hblk : ic < kb ∧ gbx < kb ∧ gb < kb ∧ w.heap.size ≤ kb := by
        have h1 := (Array.getElem?_eq_some_iff.1 HST.out.ix).1
        have h2 := (Array.getElem?_eq_some_iff.1 HST.out.gx).1
        have h3 := HBW4.out.size
        have h4 := hb45
        rw [hkb]
        have h5 := HST.out.bl.size
        exact ⟨by omega, by omega, by omega, by omega⟩
      have HWK : Hid (W.heap.size ≤ kb) := Lib.hid (by rw [hkb]; have := HBW4.out.size; omega)
      rw [← hkb] at HKB8 HLB8 HS6 HLVK ⊢
      rw [← hn6] at HC HS6 ⊢
      clear hW8 hb8 c0 c1 c2 c3 HST6 HKB HLB HLV6 hkb hn6
      go_wp2_with fail
      refine name_act fun a8 ha8 => ?_
      have hsl : RSlots a8.tmps ib (.slice va vn vc) w.heap.size gbx (.slice (some ⟨rb, 0, none⟩) (groupsR rs).length rcp) ic kb := by rw [ha8]; exact ⟨rfl, rfl, rfl, rfl, rfl, rfl, rfl, rfl, rfl⟩
      have HSL := Lib.hid hsl
      have HA8 := Lib.hid ha8
      have he62 : a8.eval (.tmp 62) = .func (.func 67) #[] #[.pointer (some ⟨n6, 0, none⟩), .pointer (some ⟨n6 + 1, 0, none⟩), .pointer (some ⟨n6 + 1 + 1, 0, none⟩), .pointer (some ⟨n6 + 1 + 1 + 1, 0, none⟩)] := by rw [ha8]; rfl
      have hkbl : kb < W8.heap.size := (Array.getElem?_eq_some_iff.1 HKB8.out).1
      have HX8 := Lib.hid (HX.out.below HST8.out.bl)
      clear hsl ha8
      have HRT : Hid (rangeP (linesIn gs t) (-1) 1099511627776 = (ofR rs t).map (·.m.p)) := Lib.hid (by
        rw [← rel_lines HX.out HR.out HO.out t]
        exact range_all fun m hm => HX.out.good_in hm)
      refine (wpIn_wide (n := 3)).1 (wpIn_rangeFunc_guard (F := Fence.wide) rfl (by omega) (gf := 67) he62 trivial (enters_of Tryz.func67 (by kernel_rfl) rfl) (encs := fun x : ML => #[.agg (lineCells x.g)]) (Gd := GdL (rangeP (linesIn gs t) (-1) 1099511627776)) (Kp := KpL) (S := fun xs => xs.map (·.p) = rangeP (linesIn gs t) (-1) 1099511627776)
        (fun W' hb' hs' => rangeSeq_any _ _ _ _ _ B ib M mc gs t (-1) 1099511627776 W' ((hb'.cell (block_lt_of_cell HC.out.1)).trans HC.out.1) ((hb'.cell (block_lt_of_cell HC.out.2.1)).trans HC.out.2.1) ((hb'.cell (block_lt_of_cell HC.out.2.2.1)).trans HC.out.2.2.1) ((hb'.cell (block_lt_of_cell HC.out.2.2.2)).trans HC.out.2.2.2) (HX8.out.below hb'))
        ?kl ?kr (fun _ => rfl) (fun _ pre X => KbAt W8 kb pre.length X) (fun _ _ _ _ => False) (fun B pre X Y hi _ _ hb => hi.beside hkbl hb) (fun _ _ _ _ _ h _ _ _ => h) (fun X hb _ => ⟨Kept.of_below hb, (hb.block kb hkbl).trans HKB8.out⟩)
        (SameAx (rangeP (linesIn gs t) (-1) 1099511627776) ib (.slice va vn vc) w.heap.size gbx (.slice (some ⟨rb, 0, none⟩) (groupsR rs).length rcp) ic kb W8) ?assign ?hax ?ka ?body ?done (fun _ _ _ _ _ h _ => h.elim) (fun _ _ _ _ h => h.elim))
      case kl =>
        rintro B x X Y Z l o h1 h2 hk rfl
        have hsz : (X.putObj l o).heap.size = X.heap.size := by simp [World.putObj]
        exact ⟨by have := hk.1; omega, fun k hA hB hne => (hk.2 k hA hB hne).trans (World.putObj_heap_other (by omega))⟩
      case kr =>
        rintro B x X Y l o h1 h2 hk
        have hsz : (Y.putObj l o).heap.size = Y.heap.size := by simp [World.putObj]
        exact ⟨by have := hk.1; omega, fun k hA hB hne => (World.putObj_heap_other (by omega)).trans (hk.2 k hA hB hne)⟩
      case ka =>
        rintro B x X Y Z hb hBX hk
        exact ⟨Nat.le_trans hb.size hk.1, fun k hA hB hne => (hk.2 k hA hB hne).trans (hb.block k (by omega))⟩
      case hax =>
        rintro B pre x a' X l o ⟨h1, h2, h3, h4, yb, h5, h6, h7⟩ hl1 hl2
        have hbs : Beside W8.heap.size (W8.heap.size + 2) X (X.putObj l o) := Beside.putObj X l o ⟨hl1, hl2⟩
        refine ⟨h1.beside hkbl hbs, ⟨h2.here, h2.past, h2.refs.block fun k hk => World.putObj_heap_other (by have := (h2.refs.lt hk).1; omega), h2.lt⟩, h3, h4, yb, ?_, h6, h7⟩
        exact (World.putObj_heap_other (by omega)).trans h5
      case assign =>
        intro l B pre x X K hi hB hBX hgd hK
        have hsl2 : RSlots (a8.tmps.setIfInBounds 63 (.agg (lineCells x.g))) ib (.slice va vn vc) w.heap.size gbx (.slice (some ⟨rb, 0, none⟩) (groupsR rs).length rcp) ic kb := HSL.out.set (by omega) _
        have h63 : (a8.tmps.setIfInBounds 63 (.agg (lineCells x.g))).getD 63 undef = .agg (lineCells x.g) := by
          have := HSL.out.size
          simp [this]
        rw [foldl_one]
        generalize a8.tmps.setIfInBounds 63 (.agg (lineCells x.g)) = t63 at hsl2 h63
        have HS2 := Lib.hid hsl2
        obtain ⟨f', hf', hft⟩ := hsl2.out
        have h63' : f' 63 = .agg (lineCells x.g) := (hf' 63).trans h63
        rw [hft, h63']
        have hone := hgd.refs.one
        have hft2 := fits_line (g := x.g) hone
        have hzs : ((lineCells zeroLine).size == 38) = true := by rw [lineCells_size]; rfl
        have HK := Lib.hid hK
        have HI8 := Lib.hid hi
        have HGD := Lib.hid hgd
        clear hK hi hgd hft hf' h63 h63' hsl2
        gi_wp2
        have hba : Below X.heap.size X (X.alloc (.cells (lineCells x.g) 34)) := (Below.refl _ _).alloc (Nat.le_refl _) _
        refine HK.out _ _ ⟨HI8.out.later hba, HGD.out.below hba, ⟨rfl, rfl, rfl, rfl, rfl, rfl, rfl, rfl, rfl⟩, rfl, X.heap.size, heap_alloc_new _ _, by omega, rfl⟩ hba
      case body =>
        rintro l B pre x a' X rfl hB hBX ⟨hcnt, hgd, hsl, hdf, yb, hyv, hyb, h10⟩
        obtain ⟨tm, df⟩ := a'
        obtain rfl : df = [] := hdf
        obtain ⟨f', hf', hft⟩ := hsl.out
        have h10' : f' 10 = .pointer (some ⟨yb, 0, none⟩) := (hf' 10).trans h10
        simp only at hft
        rw [h10'] at hft
        subst hft
        clear hf' h10 h10' hsl
        -- the line of the reference
        have hhere := hgd.here
        rw [HRT.out, List.getElem?_map] at hhere
        obtain ⟨r0, hr0, hr0p⟩ := Option.map_eq_some_iff.1 hhere
        obtain ⟨hkl, hgk⟩ := List.getElem?_eq_some_iff.1 hr0
        have hr0m : r0 ∈ rs ∧ r0.s = t := ofR_mem.1 (List.mem_of_getElem? hr0)
        have hgood : pErr x.p = 0 := by
          obtain ⟨m, hm, he⟩ := (HR.out t r0.m.p).2 ⟨r0, hr0m.1, hr0m.2, rfl⟩
          rw [← hr0p, ← he]
          exact HX.out.good_in hm
        have hrl := refs_len hgood
        have hbX : Below w.heap.size w X := HST8.out.bl.trans (hcnt.kept.below HST8.out.bl.size (fun k hk => by rw [List.mem_singleton.1 hk]; exact hblk.2.2.2))
        have hI0 : IdsAt X r0.m.v x.p.ids := by rw [← hr0p]; exact (HI.out r0 hr0m.1).below hbX
        rcases HLV8.out.head with ⟨_, e0⟩ | ⟨lg, lcap, _, hlve, hlB, hll8, hlle, _, _, hlcell⟩
        · rw [e0] at hkl; cases hkl
        have hlk : lg < kb := HLVK.out lg (by rw [hlve]; rfl)
        cases hlve
        have hlX : ∀ j u, (flatR (ofR rs t))[j]? = some u → X.cell? ⟨lg, j, none⟩ = some u := fun j u hu => (cell_of_same (a := ⟨lg, j, none⟩) (hcnt.old hll8 (Nat.ne_of_lt hlk))).trans (hlcell j u hu)
        obtain ⟨i1, i2⟩ := rAt_rd hlX hkl
        rw [hgk] at i2
        have hgg : r0.m.g = { x.g with refs := r0.m.v } := by
          unfold ML.g
          rw [hr0p]
        rw [hgg, hr0m.2] at i2
        have y1 := (Array.getElem?_eq_some_iff.1 HST8.out.ix).1
        have y2 := (Array.getElem?_eq_some_iff.1 HST8.out.gx).1
        have e1 : X.cell? ⟨kb, 0, none⟩ = some (.int .i64 pre.length) := cell_of_row X kb 0 _ _ _ hcnt.cell
        have e2 : X.cell? ⟨kb + 1, 0, none⟩ = some (.slice (some ⟨lg, 0, none⟩) (ofR rs t).length lc) := cell_of_row X (kb + 1) 0 _ _ _ ((hcnt.old (Array.getElem?_eq_some_iff.1 HLB8.out).1 (by omega)).trans HLB8.out)
        have e3 : X.cell? ⟨gbx, 0, none⟩ = some (.slice (some ⟨gb, 0, none⟩) (groupsR rs).length gc) := cell_of_row X gbx 0 _ _ _ ((hcnt.old y2 (by omega)).trans HST8.out.gx)
        have e4 : X.cell? ⟨ic, 0, none⟩ = some (.int .i64 i) := cell_of_row X ic 0 _ _ _ ((hcnt.old y1 (by omega)).trans HST8.out.ix)
        have e5 : X.cell? ⟨gb, i, none⟩ = some (.string t) := (cell_of_same (a := ⟨gb, i, none⟩) (hcnt.old (k := gb) (by omega) (by omega))).trans HG8.out
        obtain ⟨e6, e7⟩ := hyv.rd
        have hklz : (pre.length : Int) < ((ofR rs t).length : Int) := by omega
        have HGD := Lib.hid hgd
        have HCN := Lib.hid hcnt
        have HI0 := Lib.hid hI0
        have HBX := Lib.hid hbX
        clear hgd hcnt hI0 hbX hlX hlcell hr0 hr0p hgk hr0m hgood hhere hgg hyv hlle hlB
        gi_wp2_with fail
        refine wpIn_region_stages (by kernel_rfl) (fun ⟨_, _, h⟩ => h) (by kernel_rfl) ?_
        have hbd : Below X.heap.size X X.drew := (Below.refl _ _).drew
        have HBD : Hid (∀ z : Later X.drew, Below X.heap.size X z.1) := Lib.hid fun z => hbd.trans (z.2.mono hbd.size)
        have z1 : ∀ z : Later X.drew, z.1.cell? ⟨kb, 0, none⟩ = some (.int .i64 pre.length) := fun z => ((HBD.out z).cell (block_lt_of_cell e1)).trans e1
        have z2 : ∀ z : Later X.drew, z.1.cell? ⟨kb + 1, 0, none⟩ = some (.slice (some ⟨lg, 0, none⟩) (ofR rs t).length lc) := fun z => ((HBD.out z).cell (block_lt_of_cell e2)).trans e2
        have z3 : ∀ z : Later X.drew, z.1.cell? ⟨gbx, 0, none⟩ = some (.slice (some ⟨gb, 0, none⟩) (groupsR rs).length gc) := fun z => ((HBD.out z).cell (block_lt_of_cell e3)).trans e3
        have z4 : ∀ z : Later X.drew, z.1.cell? ⟨ic, 0, none⟩ = some (.int .i64 i) := fun z => ((HBD.out z).cell (block_lt_of_cell e4)).trans e4
        have z5 : ∀ z : Later X.drew, z.1.cell? ⟨gb, i, none⟩ = some (.string t) := fun z => ((HBD.out z).cell (block_lt_of_cell e5)).trans e5
        have z6 : ∀ z : Later X.drew, okCells z.1 ⟨yb, 0, none⟩ 38 = true := fun z => Later.ok e6 ⟨z.1, HBD.out z⟩
        have z7 : ∀ z : Later X.drew, rdCells z.1 ⟨yb, 0, none⟩ 38 = lineCells x.g := fun z => (Later.rd e6 ⟨z.1, HBD.out z⟩).trans e7
        have z8 : ∀ z : Later X.drew, okCells z.1 ⟨lg, pre.length * 39, none⟩ 39 = true := fun z => Later.ok i1 ⟨z.1, HBD.out z⟩
        have z9 : ∀ z : Later X.drew, rdCells z.1 ⟨lg, pre.length * 39, none⟩ 39 = rlineCells t { x.g with refs := r0.m.v } := fun z => (Later.rd i1 ⟨z.1, HBD.out z⟩).trans i2
        clear e2 e3 e4 e5 e6 e7 i1 i2
        generalize hXd : X.drew = Xd at hbd HBD z1 z2 z3 z4 z5 z6 z7 z8 z9 ⊢
        have HBXd := Lib.hid hbd
        clear hbd hXd
        refine wp_stage [0, 1] [2, 3, 4] 13 (fun w' => ∃ z : Later Xd, w' = z.1) (by kernel_rfl) (by kernel_rfl) (by kernel_rfl) rfl rfl ⟨⟨_, Below.refl _ _⟩, rfl⟩ ?_
        simp only [opsAt, List.map_cons, List.map_nil, Array.getD_eq_getD_getElem?, List.getElem?_toArray, List.getElem?_cons_zero, List.getElem?_cons_succ, Option.getD_some]
        repeat (go_big_quiet_step (fail))
        refine wpQuiet_nil ?_
        refine wpN_cons true rfl (by kernel_rfl) ?_
        go_wp2_with fail
        refine ⟨fun _ => ⟨⟨_, Below.refl _ _⟩, rfl⟩, wpN_list [3, 4] _ _ (by kernel_rfl) ?_⟩
        simp only [opsAt, List.map_cons, List.map_nil, Array.getD_eq_getD_getElem?, List.getElem?_toArray, List.getElem?_cons_zero, List.getElem?_cons_succ, Option.getD_some]
        go_wp2
        refine NoPanic.normal ?_
        rw [QS_normal]
        have hdg : decide ((ofR rs t).length ≤ pre.length) = false := decide_eq_false (by omega)
        simp only [hdg]
        clear hdg
        refine wp_stage [5, 6, 7, 8, 9, 11, 12, 13, 14] [10, 15, 16, 17] 0 (fun w' => ∃ z : Later Xd, w' = z.1) (by kernel_rfl) (by kernel_rfl) (by kernel_rfl) rfl rfl ⟨⟨_, Below.refl _ _⟩, rfl⟩ ?_
        simp only [opsAt, List.map_cons, List.map_nil, Array.getD_eq_getD_getElem?, List.getElem?_toArray, List.getElem?_cons_zero, List.getElem?_cons_succ, Option.getD_some]
        repeat (go_big_quiet_step (fail))
        refine wpQuiet_nil ?_
        clear z1 z2 z3 z4 z5 z6 z7 z8 z9
        refine wpN_cons true rfl (by kernel_rfl) ?_
        have honx := HGD.out.refs.one
        have hcs : x.g.refs.cells = #[x.g.refs] := by
          obtain ⟨a', c', he, _⟩ := HGD.out.refs.at
          show x.v.cells = #[x.v]
          rw [he]; rfl
        go_wp2_with fail
        refine (back_any t x.g Xd hcs honx).mono ?_
        rintro r X2 ⟨rfl, hb2⟩
        have HB2 := Lib.hid (HBXd.out.trans (hb2.mono HBXd.out.size) : Below X.heap.size X X2)
        go_wp2_with fail
        refine ⟨fun _ => ⟨⟨_, hb2⟩, rfl⟩, wpN_list [15, 16, 17] _ _ (by kernel_rfl) ?_⟩
        clear hb2
        simp only [opsAt, List.map_cons, List.map_nil, Array.getD_eq_getD_getElem?, List.getElem?_toArray, List.getElem?_cons_zero, List.getElem?_cons_succ, Option.getD_some]
        have HSM := Lib.hid (same_true t x.g x.v r0.m.v x.p.ids X2 (HGD.out.refs.at.below HB2.out) (HI0.out.below HB2.out) (by omega))
        go_wp2_with fail
        refine HSM.out.mono ?_
        rintro r X3 ⟨rfl, hb3⟩
        have HB3 := Lib.hid (HB2.out.trans (hb3.mono HB2.out.size) : Below X.heap.size X X3)
        clear hb3 HSM HB2 HBXd
        go_wp2
        refine NoPanic.normal ?_
        rw [QS_normal]
        refine wpSt_end (by kernel_rfl) ?_
        have hk3 : X3.heap[kb]? = some (.cells #[.int .i64 pre.length] 3 (0, 0)) := (HB3.out.block kb (Array.getElem?_eq_some_iff.1 HCN.out.cell).1).trans HCN.out.cell
        have g1 := cell_of_row X3 kb 0 _ _ _ hk3
        have g2 := frozen_of_row X3 kb 0 _ _ hk3
        have hpl : pre.length ≤ 100000 := by omega
        clear e1
        gi_wp2
        have hsz : (X3.setCell ⟨kb, 0, none⟩ (.int .i64 ((pre.length : Int) + 1))).heap.size = X3.heap.size := by simp
        have ho : ∀ k, k ≠ kb → (X3.setCell ⟨kb, 0, none⟩ (.int .i64 ((pre.length : Int) + 1))).heap[k]? = X3.heap[k]? := fun k hk => heap_setCell_other X3 ⟨kb, 0, none⟩ k _ hk
        have hc := heap_setCell_same X3 kb 0 _ _ (.int .i64 ((pre.length : Int) + 1)) hk3
        refine ⟨⟨by rw [hsz]; exact HB3.out.size, fun k hk hk2 => ?_⟩, ⟨by rw [hsz]; exact HB3.out.size, fun k hA hB' _ => ?_⟩, ⟨⟨HB3.out.os.trans HCN.out.kept.os, HB3.out.tape.trans HCN.out.kept.tape, HB3.out.output.trans HCN.out.kept.output, by rw [hsz]; exact Nat.le_trans HCN.out.kept.size HB3.out.size, fun k hk hn => ?_⟩, ?_⟩⟩
        · exact (ho k (by omega)).trans (HB3.out.block k (by omega))
        · exact (ho k (by omega)).trans (HB3.out.block k (by omega))
        · have hn' : k ≠ kb := by simpa using hn
          exact (ho k hn').trans ((HB3.out.block k (Nat.lt_of_lt_of_le hk HCN.out.kept.size)).trans (HCN.out.old hk hn'))
        · rw [hc, List.length_append, List.length_singleton]
          simp
      case done =>
        intro B xs W9 hB hBW hS hi hmk
        have hxl : xs.length = (ofR rs t).length := by
          have := congrArg List.length hS
          rw [HRT.out, List.length_map, List.length_map] at this
          exact this
        have hbK : Below kb W8 W9 := hi.kept.below (by omega) (fun k hk => by rw [List.mem_singleton.1 hk]; exact Nat.le_refl _)
        have hWk : W.heap.size ≤ kb := HWK.out
        have HB9 : Hid (Below W.heap.size W W9) := Lib.hid (HBW8.out.trans (hbK.mono hWk))
        have HST9 := Lib.hid (HST.out.step HB9.out)
        have g1 := cell_of_row W9 kb 0 _ _ _ hi.cell
        have g2 : W9.cell? ⟨kb + 1, 0, none⟩ = some (.slice la (ofR rs t).length lc) := cell_of_row W9 (kb + 1) 0 _ _ _ ((hi.old (Array.getElem?_eq_some_iff.1 HLB8.out).1 (by omega)).trans HLB8.out)
        have g3 := cell_of_row W9 ic 0 _ _ _ HST9.out.ix
        rw [hxl] at g1
        have HMK := Lib.hid hmk
        have HW89 := Lib.hid hi.kept.size
        clear hS hi hmk hbK hxl
        rw [HA8.out]
        go_wp2
        have hba : Below W9.heap.size W9 (W9.alloc (.cells #[.int .i64 ((i : Int) + 1)] 3)) := (Below.refl _ _).alloc (Nat.le_refl _) _
        have h9 := HST9.out.step hba
        have hDl : ∀ D ∈ ds, D < W.heap.size := fun D hD => (Array.getElem?_eq_some_iff.1 (HST.out.ms D hD)).1
        have hst10 : SameSt w gbx (some ⟨gb, 0, none⟩) (some ⟨rb, 0, none⟩) gc (groupsR rs) (W8.heap.size :: ds) W9.heap.size (i + 1) (W9.alloc (.cells #[.int .i64 ((i : Int) + 1)] 3)) := by
          refine ⟨h9.bl, h9.rc, h9.gx, h9.gr, h9.rr, heap_alloc_new _ _, fun D hD => ?_, ?_, fun D hD => ?_⟩
          · rcases List.mem_cons.1 hD with rfl | hD
            · exact (hba.block _ (Array.getElem?_eq_some_iff.1 HMK.out).1).trans HMK.out
            · exact h9.ms D hD
          · refine List.nodup_cons.2 ⟨fun hD => ?_, h9.md⟩
            have := hDl _ hD
            omega
          · rcases List.mem_cons.1 hD with rfl | hD
            · have := hblk.2.2.2; omega
            · exact h9.mb D hD
        exact ⟨⟨_, _, i + 1, by omega, hst10, rfl, rfl, rfl, rfl, rfl, rfl, rfl, rfl⟩, HMU.out (W8.heap.size :: ds) W9.heap.size _ _ ⟨by omega, hst10, rfl, rfl, rfl, rfl, rfl, rfl, rfl, rfl⟩ hlt⟩
    · have hltz : ¬ (i : Int) < ((groupsR rs).length : Int) := by omega
      have k3 := cell_of_row W w.heap.size 0 _ _ _ hst.rc
      have k4 := frozen_of_row W w.heap.size 0 _ _ hst.rc
      clear hst
      go_wp2
      refine leaves_marks ds _ HST.out.md (fun D hD => ?_) (fun w' e1 e2 e3 e4 e5 => ?_)
      · exact (heap_setCell_other W ⟨w.heap.size, 0, none⟩ D (.bool true) (by have := HST.out.mb D hD; simp; omega)).trans (HST.out.ms D hD)
      · have hn : w.heap.size ∉ ds := fun hD => by have := HST.out.mb _ hD; omega
        have hC := heap_setCell_same W w.heap.size 0 _ _ (.bool true) HST.out.rc
        have hC5 := (e5 _ hn).trans hC
        have hc5 := cell_of_row _ w.heap.size 0 _ _ _ hC5
        have hbs : Below w.heap.size w (W.setCell ⟨w.heap.size, 0, none⟩ (.bool true)) := HST.out.bl.setCell (p := ⟨w.heap.size, 0, none⟩) (by simp) _
        refine ⟨.bool true, ?_, rfl, ⟨e1.trans hbs.os, e2.trans hbs.tape, e3.trans hbs.output, by rw [e4]; exact hbs.size, fun k hk => (e5 k (fun hD => by have := HST.out.mb _ hD; omega)).trans (hbs.block k hk)⟩⟩
        exact results_cell1' Tryz.results27 Tryz.isAgg4 _ _ ⟨w.heap.size, 0, none⟩ _ rfl hc5

end Go.Proofs.YtdjaphcelpchaaaGreatDoor

namespace Go.Proofs.YtdjaphcelpchaaaGreatDoor
open Go Go.RowKit Go.Proofs Go.Shelf

attribute [local go_sem ↓] ex_load_id ex_store_id ex_load_line ex_store_line ex_load_rline ex_store_rline ex_alloc_line ex_build_line ex_alloc_rline ex_build_rline

attribute [local go_sem] ld_id st_id ld_line st_line ld_rline st_rline guard_id okCells_drew rdCells_drew okCells_drewN rdCells_drewN rowOk_drew rowOk_cells okCells_cells rdCells_cells setRow_drew setRow_new setRow_past

/-- The text of a line with its end; of a group; of groups. -/
def txtP (p : PLine) : List UInt8 := lineTxt p.number.toNat p.id p.name p.date.toNat p.subject p.ids p.bytes.toNat ++ [10]
def grpHead (t : ByteArray) (n : Nat) : List UInt8 := [103, 114, 111, 117, 112, 32] ++ t.data.toList ++ [32] ++ Lib.decDigits n ++ [10]
def grpTxt (t : ByteArray) (ps : List PLine) : List UInt8 := grpHead t ps.length ++ ps.flatMap txtP
def encTxt (f : ByteArray → List PLine) (ts : List ByteArray) : List UInt8 := ts.flatMap fun t => grpTxt t (f t)

theorem good_bounds {p : PLine} (h : pErr p = 0) : (∃ n d b : Nat, p.number = (n : Int) ∧ p.date = (d : Int) ∧ p.bytes = (b : Int) ∧ n ≤ 9223372036854775807 ∧ d ≤ 9223372036854775807 ∧ b ≤ 9223372036854775807) ∧ p.name.size ≤ 1300 ∧ p.subject.size ≤ 1300 ∧ p.ids.length ≤ 20 := by
  obtain ⟨h1, h2, h3, h4, h5, h6⟩ := lineErr_zero h
  have h1' : 1 ≤ p.number ∧ p.number ≤ 2147483646 := h1
  have h2' : p.name.size ≤ 60 := h2
  have h3' : 0 ≤ p.date ∧ p.date ≤ 105190559 := h3
  have h4' : p.subject.size ≤ 200 := h4
  have h6' : 0 ≤ p.bytes ∧ p.bytes ≤ 65536 := h6
  exact ⟨⟨p.number.toNat, p.date.toNat, p.bytes.toNat, by omega, by omega, by omega, by omega, by omega, by omega⟩, by omega, by omega, h5⟩
theorem txtP_le {p : PLine} (h : pErr p = 0) : (txtP p).length ≤ 10001 := by
  obtain ⟨⟨n, d, b, h1, h2, h3, h4, h5, h6⟩, h7, h8, h9⟩ := good_bounds h
  have := lineTxt_le n p.id p.name d p.subject p.ids b h4 h5 h6 h7 h8 h9
  unfold txtP
  rw [h1, h2, h3]
  simp only [Int.toNat_natCast, List.length_append, List.length_singleton]
  omega
theorem flat_le {α : Type} (f : α → List UInt8) (m : Nat) : ∀ (l : List α), (∀ x ∈ l, (f x).length ≤ m) → (l.flatMap f).length ≤ l.length * m
  | [], _ => by simp
  | a :: l, h => by
    have h1 := h a (by simp)
    have h2 := flat_le f m l fun x hx => h x (by simp [hx])
    rw [List.flatMap_cons, List.length_append, List.length_cons, Nat.succ_mul]
    omega
theorem grpHead_le {t : ByteArray} {n : Nat} (ht : t.size ≤ 80) (hn : n ≤ 9223372036854775807) : (grpHead t n).length ≤ 200 := by
  have h1 := decDigits_len n hn
  have h2 : t.data.toList.length = t.size := Array.length_toList
  unfold grpHead
  simp only [List.length_append, List.length_cons, List.length_nil]
  omega
theorem grpTxt_le {t : ByteArray} {ps : List PLine} (ht : t.size ≤ 80) (hp : ∀ p ∈ ps, pErr p = 0) (hn : ps.length ≤ 65536) : (grpTxt t ps).length ≤ 700000000 := by
  have h1 := grpHead_le (n := ps.length) ht (by omega)
  have h2 := flat_le txtP 10001 ps fun p h => txtP_le (hp p h)
  have h3 : ps.length * 10001 ≤ 65536 * 10001 := Nat.mul_le_mul_right _ hn
  unfold grpTxt
  rw [List.length_append]
  omega

set_option maxHeartbeats 1000000 in
theorem lineText_p (m : ML) (w : World) (hG : Gl w) (hg : pErr m.p = 0) (h : IdsAt w m.v m.p.ids) :
    Calls Tryz.prog 54 #[.agg (lineCells m.g)] w fun r w' => r = .returned (.string (str (lineTxt m.p.number.toNat m.p.id m.p.name m.p.date.toNat m.p.subject m.p.ids m.p.bytes.toNat))) ∧ Below w.heap.size w w' := by
  obtain ⟨⟨n, d, b, e1, e2, e3, h4, h5, h6⟩, h7, h8, h9⟩ := good_bounds hg
  rw [e1, e2, e3]
  simp only [Int.toNat_natCast]
  exact lineText_any m.g m.p.ids n d b w hG ⟨h, by unfold maxLen; omega, by show m.p.name.size ≤ _; unfold maxLen; omega, by show m.p.subject.size ≤ _; unfold maxLen; omega⟩ e1 e2 e3 h4 h5 h6 h7 h8 h9

theorem lays166 : Go.Proofs.Lays.n166 Tryz.prog Tryz.lays156_ren := { Tryz.lays156 with }
theorem bytes_length (l : List UInt8) : (Lib.byteCells l).length = l.length := by simp [Lib.byteCells]
/-- A write behind a builder. -/
theorem wr_any (B b : Nat) (l : List UInt8) (s : ByteArray) (w : World) (h : Lib.IsBuilderF 126 5 B b (Lib.byteCells l) w) (hlen : l.length + s.size ≤ 140737488355328) (hBw : B ≤ w.heap.size) :
    Calls Tryz.prog 80 #[.pointer (some ⟨b, 0, none⟩), .string s] w fun e w' => e = .returned (.tuple #[.int .i64 s.size, .nilIface]) ∧ Lib.IsBuilderF 126 5 B b (Lib.byteCells (l ++ s.data.toList)) w' ∧ Below B w w' ∧ Lib.OthersKept 5 (some b) w w' := by
  refine (Any.Builder_WriteString_k lays166 Tryz.Builder_Extra_156 B b (Lib.byteCells l) s w h (by rw [bytes_length]; exact hlen) hBw).mono ?_
  rintro e w' ⟨he, h1, h2, h3⟩
  refine ⟨he, .inr ?_, h2, h3⟩
  have e1 : Lib.byteCells (l ++ s.data.toList) = Lib.byteCells l ++ Lib.strCells s := by unfold Lib.byteCells Lib.strCells; rw [List.map_append]
  rw [e1]
  exact h1
theorem builderF_below {B b : Nat} {bs : List Value} {w w' : World} (h : Lib.IsBuilderF 126 5 B b bs w) (hb : Below w.heap.size w w') : Lib.IsBuilderF 126 5 B b bs w' := by
  have one : ∀ {p : Value}, Lib.BuilderAtF 126 5 B b p bs w → Lib.BuilderAtF 126 5 B b p bs w' := fun {p} h => by
    have hlt := h.lt
    obtain ⟨hB, v, hbk, hown, hne⟩ := h
    exact ⟨hB, v, (hb.block b hlt).trans hbk, hown.kept (row := none) ⟨hb.os, hb.tape, hb.output, hb.size, fun k hk _ => hb.block k hk⟩ (by cases hv : v.ownBlock <;> simp), hne⟩
  exact h.elim (fun x => .inl (one x)) (fun x => .inr (one x))
theorem builderF_fresh (w : World) : Lib.IsBuilderF 126 5 w.heap.size w.heap.size (Lib.byteCells []) (w.alloc (.cells #[.pointer none, .slice none 0 0] 126)) := Lib.IsBuilderF.of (Lib.fresh_isBuilder 126 5 w)

/-- In the middle of Encode. -/
structure EncSt (w w1 : World) (bs : List UInt8) (W : World) : Prop where
  bu : Lib.IsBuilderF 126 5 w.heap.size w.heap.size (Lib.byteCells bs) W
  bl : Below w.heap.size w W
  ok : Lib.OthersKept 5 (some w.heap.size) w1 W
theorem EncSt.step {w w1 : World} {bs : List UInt8} {W W' : World} (h : EncSt w w1 bs W) (hb : Below W.heap.size W W') : EncSt w w1 bs W' :=
  ⟨builderF_below h.bu hb, h.bl.trans (hb.mono h.bl.size), fun k o hk h1 h2 => (hb.block k (Array.getElem?_eq_some_iff.1 (h.ok k o hk h1 h2)).1).trans (h.ok k o hk h1 h2)⟩
theorem EncSt.write {w w1 : World} {bs : List UInt8} {W W' : World} (h : EncSt w w1 bs W) {l : List UInt8} (h1 : Lib.IsBuilderF 126 5 w.heap.size w.heap.size (Lib.byteCells l) W') (h2 : Below w.heap.size W W') (h3 : Lib.OthersKept 5 (some w.heap.size) W W') : EncSt w w1 l W' :=
  ⟨h1, h.bl.trans h2, h.ok.trans h3⟩
/-- What Encode answers. -/
def EncPost (gs : List MG) (w : World) (r : Ending) (w' : World) : Prop := ∃ ns, r = .returned (.string (str (encTxt (fun t => (linesIn gs t).map (·.p)) ns))) ∧ ordN ns ∧ (∀ t, t ∈ ns ↔ ∃ G ∈ gs, G.name = t) ∧ Below w.heap.size w w'

theorem head_str (t : ByteArray) (n : Nat) : ((⟨#[103, 114, 111, 117, 112, 32]⟩ : ByteArray) ++ t ++ ⟨#[32]⟩ ++ str (Lib.decDigits n) ++ ⟨#[10]⟩) = str (grpHead t n) := by
  have e1 : (⟨#[103, 114, 111, 117, 112, 32]⟩ : ByteArray) = str [103, 114, 111, 117, 112, 32] := rfl
  have e2 : (⟨#[32]⟩ : ByteArray) = str [32] := rfl
  have e3 : (⟨#[10]⟩ : ByteArray) = str [10] := rfl
  rw [e1, e2, e3, str_append', str_append, str_append, str_append]
  rfl
theorem line_str (l : List UInt8) : (str l ++ (⟨#[10]⟩ : ByteArray)) = str (l ++ [10]) := by
  have e3 : (⟨#[10]⟩ : ByteArray) = str [10] := rfl
  rw [e3, str_append]

set_option maxRecDepth 100000 in
set_option maxHeartbeats 8000000 in
theorem encode_any (B ib M mc : Nat) (gs : List MG) (w : World) (hG : Gl w) (h : IdxAt B w ib M gs mc) :
    Calls Tryz.prog 35 #[.pointer (some ⟨ib, 0, none⟩)] w fun r w' => EncPost gs w r w' := by
  obtain ⟨W0, hW0⟩ : ∃ W0, W0 = w.alloc (.cells #[.pointer none, .slice none 0 0] 126) := ⟨_, rfl⟩
  have hb0 : Below w.heap.size w W0 := by rw [hW0]; exact (Below.refl _ _).alloc (Nat.le_refl _) _
  have hs0 : W0.heap.size = w.heap.size + 1 := by rw [hW0]; simp
  have hbu : Lib.IsBuilderF 126 5 w.heap.size w.heap.size (Lib.byteCells []) W0 := by rw [hW0]; exact builderF_fresh w
  have HGR := Lib.hid (groups_typed B ib M mc gs W0 (hG.later hb0) (h.below hb0))
  have HX := Lib.hid h
  have HG := Lib.hid hG
  have HB0 := Lib.hid hb0
  have HBU := Lib.hid hbu
  have hzs : ((lineCells zeroLine).size == 38) = true := by rw [lineCells_size]; rfl
  clear h hG hb0 hbu
  go_enter Tryz.func35, Tryz.ntmps35
  go_wp2_with fail
  rw [← hW0]
  clear hW0
  refine HGR.out.mono ?_
  rintro r w1 ⟨v, ns, rfl, hns, hord, hmem, hb1, htyp⟩
  have HST : Hid (EncSt w w1 [] w1) := Lib.hid ⟨builderF_below HBU.out hb1, HB0.out.trans (hb1.mono HB0.out.size), Lib.OthersKept.refl _ _ _⟩
  have HO := Lib.hid hord
  have HM := Lib.hid hmem
  have hnl : ns.length ≤ 65536 := by
    have h1 : ns.Nodup := hord.imp fun {a b} hab e => by rw [e, cmpN_refl] at hab; omega
    have h2 : ns.length ≤ (gs.map fun G => G.name).length := h1.length_le_of_subset fun t ht => by
      obtain ⟨G, hG, e⟩ := (hmem t).1 ht
      exact List.mem_map.2 ⟨G, hG, e⟩
    rw [List.length_map] at h2
    exact Nat.le_trans h2 HX.out.groups
  clear HGR hord hmem HBU
  obtain ⟨F, hF⟩ : ∃ F : ByteArray → List PLine, F = fun t => (linesIn gs t).map (·.p) := ⟨_, rfl⟩
  have HF := Lib.hid hF
  have HFL : Hid (∀ t, (F t).length = (linesIn gs t).length) := Lib.hid fun t => by rw [hF]; simp
  have HBND : Hid (∀ k, (encTxt F (ns.take k)).length ≤ 45875200000000) := Lib.hid fun k => by
    have h1 := flat_le (fun t => grpTxt t (F t)) 700000000 (ns.take k) fun t ht => by
      obtain ⟨G, hG, e⟩ := (HM.out t).1 (List.mem_of_mem_take ht)
      refine grpTxt_le (by rw [← e]; exact name_size (HX.out.grps G hG).named) (fun p hp => ?_) (by rw [HFL.out]; exact HX.out.len t)
      rw [hF] at hp
      obtain ⟨m, hm, rfl⟩ := List.mem_map.1 hp
      exact HX.out.good_in hm
    have h2 : (ns.take k).length * 700000000 ≤ 65536 * 700000000 := Nat.mul_le_mul_right _ (by rw [List.length_take]; omega)
    unfold encTxt
    omega
  clear hF
  obtain ⟨ga, gc, rfl, hgr⟩ : ∃ ga gc, v = .slice ga ns.length gc ∧ (ns ≠ [] → ∃ b, ga = some ⟨b, 0, none⟩ ∧ b ≠ w.heap.size ∧ StrRow w1 b 0 ns ∧ ∃ cs fz, w1.heap[b]? = some (.cells cs 9 fz)) := by
    rcases hns with ⟨e1, rfl⟩ | ⟨b, c, rfl, _, hrow, hbB, hbl⟩
    · exact ⟨none, 0, by rw [e1]; rfl, fun h => absurd e1 h⟩
    · exact ⟨_, c, rfl, fun _ => ⟨b, rfl, by omega, hrow, htyp b rfl⟩⟩
  have HGRR := Lib.hid hgr
  clear hns htyp hgr
  go_wp2
  go_loopw [5, 6, 8, 12] (fun _ _ _ i wr => ∃ k : Nat, k ≤ ns.length ∧ i = .int .i64 k ∧ Hid (EncSt w w1 (encTxt F (ns.take k)) wr)) (fun _ _ _ i _ => ns.length - (intOf i).toNat)
  case atStart => exact ⟨0, Nat.zero_le _, rfl, HST⟩
  case round =>
    obtain ⟨k, hk, rfl, HS⟩ := hrel
    by_cases hlt : k < ns.length
    · have hltz : (k : Int) < (ns.length : Int) := by omega
      obtain ⟨b, rfl, hbb, hrow, cs, fz, hcs⟩ := HGRR.out (by intro e; rw [e] at hlt; exact absurd hlt (by simp))
      have hwb : wr.heap[b]? = some (.cells cs 9 fz) := HS.out.ok b _ hcs (by intro e; cases e; exact hbb rfl) (fun c fz' e => by cases e)
      have hcell : wr.cell? ⟨b, k, none⟩ = some (.string ns[k]) := by
        have := hrow k ns[k] (List.getElem?_eq_getElem hlt)
        rw [Nat.zero_add] at this
        rw [← this]
        unfold World.cell?
        rw [hwb, hcs]
      have HLN := Lib.hid (linesOf_any B ib M mc gs ns[k] wr (HX.out.below HS.out.bl))
      have HTK : Hid (encTxt F (ns.take (k + 1)) = encTxt F (ns.take k) ++ grpTxt ns[k] (F ns[k])) := Lib.hid (by unfold encTxt; rw [List.take_succ_eq_append_getElem hlt, List.flatMap_append]; simp)
      have HLS := Lib.hid ((HX.out.below HS.out.bl).lines ns[k])
      have HKB := Lib.hid (HBND.out (k + 1))
      have hvl : ∃ la lc, valueOf gs ns[k] = .slice la (linesIn gs ns[k]).length lc := by
        rcases HLS.out.head with ⟨e, e2⟩ | ⟨g, cap, e, _⟩
        · exact ⟨none, 0, by rw [e, e2]; rfl⟩
        · exact ⟨_, _, e⟩
      obtain ⟨la, lc, hvl⟩ := hvl
      have HLEN := Lib.hid (HX.out.len ns[k])
      have HGT : Hid (∀ p ∈ F ns[k], pErr p = 0) := Lib.hid (by
        rw [HF.out]
        intro p hp
        obtain ⟨m, hm, rfl⟩ := List.mem_map.1 hp
        exact HX.out.good_in hm)
      have HFE : Hid (∀ j (h : j < (linesIn gs ns[k]).length), (F ns[k]).take (j + 1) = (F ns[k]).take j ++ [(linesIn gs ns[k])[j].p]) := Lib.hid (by
        rw [HF.out]
        intro j h
        rw [List.take_succ_eq_append_getElem (by simpa using h)]
        simp)
      have HLA : Hid (∀ W, EncSt w w1 (encTxt F (ns.take k)) W ∨ Below w.heap.size w W → LinesAt B W (valueOf gs ns[k]) (linesIn gs ns[k])) := Lib.hid (by
        rintro W (h | h)
        · exact (HX.out.below h.bl).lines ns[k]
        · exact (HX.out.below h).lines ns[k])
      have HFT := HFL.out ns[k]
      clear hrow hcs hwb
      have htz : ns[k].size ≤ 80 := by
        obtain ⟨G, hG, e⟩ := (HM.out ns[k]).1 (List.getElem_mem hlt)
        rw [← e]; exact name_size (HX.out.grps G hG).named
      generalize ns[k] = t at *
      rw [hvl] at HLN HLS HLA
      go_wp2_with fail
      refine HLN.out.mono ?_
      rintro r w2 ⟨rfl, rfl⟩
      have h20 : ¬ 9223372036854775807 < 6 + t.size := by omega
      have h21 : ¬ 9223372036854775807 < 6 + t.size + 1 := by omega
      have HGr := Lib.hid (HG.out.later HS.out.bl)
      have hnn : (linesIn gs t).length ≤ 9223372036854775807 := by have := HLEN.out; omega
      go_wp2_with fail
      refine (itoa_any _ _ hnn HGr.out).mono ?_
      rintro r wz ⟨rfl, hbz⟩
      have HSZ := Lib.hid (HS.out.step hbz)
      clear hbz
      have hdl := decDigits_len _ hnn
      have hds : (str (Lib.decDigits (linesIn gs t).length)).size ≤ 20 := by show (Lib.decDigits (linesIn gs t).length).toArray.size ≤ _; rw [List.size_toArray]; omega
      have h22 : ¬ 9223372036854775807 < 6 + t.size + 1 + (str (Lib.decDigits (linesIn gs t).length)).size := by omega
      have h23 : ¬ 9223372036854775807 < 6 + t.size + 1 + (str (Lib.decDigits (linesIn gs t).length)).size + 1 := by omega
      go_wp2_with fail
      rw [head_str]
      have hwl : (encTxt F (List.take k ns)).length + (grpHead t (linesIn gs t).length).length ≤ 45875200000000 := by
        have h1 := HKB.out
        rw [HTK.out] at h1
        unfold grpTxt at h1
        rw [List.length_append, List.length_append, HFT] at h1
        omega
      refine (wr_any w.heap.size w.heap.size _ _ wz HSZ.out.bu (by show _ + (grpHead t (linesIn gs t).length).toArray.size ≤ _; rw [List.size_toArray]; omega) HSZ.out.bl.size).mono ?_
      rintro r w2 ⟨rfl, h1, h2, h3⟩
      have HS2 : Hid (EncSt w w1 (encTxt F (ns.take k) ++ grpHead t (linesIn gs t).length) w2) := Lib.hid (HSZ.out.write h1 h2 h3)
      clear h1 h2 h3 HSZ HLN
      go_wp2
      go_loopw [8, 30] (fun _ i wr => ∃ j : Nat, j ≤ (linesIn gs t).length ∧ i = .int .i64 j ∧ Hid (EncSt w w1 (encTxt F (ns.take k) ++ grpHead t (linesIn gs t).length ++ ((F t).take j).flatMap txtP) wr)) (fun _ i _ => (linesIn gs t).length - (intOf i).toNat)
      case atStart => exact ⟨0, Nat.zero_le _, rfl, Lib.hid (by have := HS2.out; simpa using this)⟩
      case round =>
        obtain ⟨j, hj, rfl, HJ⟩ := hrel
        by_cases hlt2 : j < (linesIn gs t).length
        · have hltz2 : (j : Int) < ((linesIn gs t).length : Int) := by omega
          have HLJ := Lib.hid (HLA.out _ (.inr HJ.out.bl))
          rcases HLJ.out.head with ⟨_, e⟩ | ⟨g1, cap1, hv1, _, hgl1, _, _, hcell1⟩
          · rw [e] at hlt2; cases hlt2
          cases hv1
          have hmem := List.getElem_mem hlt2
          have hone1 := (HLJ.out.refs (linesIn gs t)[j] hmem).one
          have hft1 := fits_line (g := (linesIn gs t)[j].g) hone1
          have HGM : Hid (pErr (linesIn gs t)[j].p = 0) := Lib.hid (HGT.out _ (by
            have h1 := HFE.out j hlt2
            have h2 : (linesIn gs t)[j].p ∈ (F t).take (j + 1) := by rw [h1]; simp
            exact List.mem_of_mem_take h2))
          obtain ⟨o1, d1⟩ := lineAt_rd (w := wr) (g := g1) (off := j * 38) (l := (linesIn gs t)[j].g) (fun i u hu => hcell1 j hlt2 i u hu)
          have o2 := ok_new_line wr (linesIn gs t)[j].g 34
          have d2 := rd_new_line wr (linesIn gs t)[j].g 34
          have hba : Below wr.heap.size wr (wr.alloc (.cells (lineCells (linesIn gs t)[j].g) 34)) := (Below.refl _ _).alloc (Nat.le_refl _) _
          have HJ2 := Lib.hid (HJ.out.step hba)
          have HTX := Lib.hid (lineText_p (linesIn gs t)[j] _ (HG.out.later HJ2.out.bl) HGM.out (((HLJ.out.refs _ hmem).at).below hba))
          have HFJ := Lib.hid (HFE.out j hlt2)
          have HTL : Hid ((txtP (linesIn gs t)[j].p).length ≤ 10001) := Lib.hid (txtP_le HGM.out)
          have HFLT : Hid ((((F t).take j).flatMap txtP).length ≤ 655425536) := Lib.hid (by
            have h1 := flat_le txtP 10001 ((F t).take j) fun p hp => txtP_le (HGT.out p (List.mem_of_mem_take hp))
            have h2 : ((F t).take j).length * 10001 ≤ 65536 * 10001 := Nat.mul_le_mul_right _ (by rw [List.length_take]; have := HLEN.out; omega)
            omega)
          clear hcell1 hone1 hba HLJ hmem
          generalize (linesIn gs t)[j] = m at *
          obtain ⟨L, hL⟩ : ∃ L, L = lineTxt m.p.number.toNat m.p.id m.p.name m.p.date.toNat m.p.subject m.p.ids m.p.bytes.toNat := ⟨_, rfl⟩
          have hLp : txtP m.p = L ++ [10] := by rw [hL]; rfl
          have hLl : L.length ≤ 10000 := by
            have := HTL.out
            rw [hLp, List.length_append, List.length_singleton] at this
            omega
          rw [← hL] at HTX
          have hls : (str L).size ≤ 10000 := by show L.toArray.size ≤ _; rw [List.size_toArray]; exact hLl
          have h30 : ¬ 9223372036854775807 < (str L).size + 1 := by omega
          have HLP := Lib.hid hLp
          clear hL hLp
          go_wp2_with fail
          refine HTX.out.mono ?_
          rintro r w3 ⟨rfl, hb3⟩
          have HJ3 := Lib.hid (HJ2.out.step hb3)
          clear hb3 HTX HJ2 HJ o1 d1 o2 d2
          go_wp2_with fail
          rw [line_str, ← HLP.out]
          refine (wr_any w.heap.size w.heap.size _ _ w3 HJ3.out.bu (by
            have h1 := HBND.out k
            have h2 := grpHead_le htz hnn
            have h3 := HFLT.out
            have h4 := HTL.out
            show _ + (txtP m.p).toArray.size ≤ _
            rw [List.size_toArray]
            simp only [List.length_append]
            omega) HJ3.out.bl.size).mono ?_
          rintro r w4 ⟨rfl, h1, h2, h3⟩
          have HJ4 : Hid (EncSt w w1 (encTxt F (ns.take k) ++ grpHead t (linesIn gs t).length ++ ((F t).take (j + 1)).flatMap txtP) w4) := Lib.hid (by
            have := HJ3.out.write h1 h2 h3
            have e : [m.p].flatMap txtP = txtP m.p := by simp
            rw [HFJ.out, List.flatMap_append, ← List.append_assoc, e]
            exact this)
          clear h1 h2 h3 HJ3
          go_wp2
          go_roundw
          case rel => exact ⟨j + 1, by omega, by go_num, HJ4⟩
          case measure => simp [intOf]; omega
        · have hltz2 : ¬ (j : Int) < ((linesIn gs t).length : Int) := by omega
          have hjj : j = (linesIn gs t).length := by omega
          have HSN : Hid (EncSt w w1 (encTxt F (ns.take (k + 1))) _) := Lib.hid (by
            have h1 := HJ.out
            rw [hjj, ← HFT, List.take_length] at h1
            rw [HTK.out]
            unfold grpTxt
            rw [← List.append_assoc]
            exact h1)
          clear HJ
          go_wp2
          go_roundw
          case rel => exact ⟨k + 1, by omega, by go_num, HSN⟩
          case measure => simp [intOf]; omega
    · have hltz : ¬ (k : Int) < (ns.length : Int) := by omega
      have hkk : k = ns.length := by omega
      subst hkk
      rw [List.take_length] at HS
      have HSTR : Hid (Calls Tryz.prog 82 #[.pointer (some ⟨w.heap.size, 0, none⟩)] wr fun e w' => e = .returned (.string (str (encTxt F ns))) ∧ Below w.heap.size wr w') := Lib.hid (by
        by_cases he : encTxt F ns = []
        · have := HS.out.bu
          rw [he] at this ⊢
          refine (Tryz.Builder_String_empty_f w.heap.size w.heap.size wr this HS.out.bl.size).mono ?_
          rintro e w' ⟨h1, _, h3⟩
          exact ⟨h1, h3⟩
        · refine (Tryz.Builder_String_f w.heap.size w.heap.size (encTxt F ns) wr HS.out.bu he).mono ?_
          rintro e w' ⟨h1, _, h3⟩
          exact ⟨h1, h3⟩)
      go_wp2_with fail
      refine HSTR.out.mono ?_
      rintro r w2 ⟨rfl, hb2⟩
      have HB2 := Lib.hid (HS.out.bl.trans hb2)
      clear hb2
      go_wp2
      go_ret
      exact ⟨ns, by rw [← HF.out]; first | done | rfl, HO.out, HM.out, HB2.out⟩

end Go.Proofs.YtdjaphcelpchaaaGreatDoor

namespace Go.Proofs.YtdjaphcelpchaaaGreatDoor
open Go Go.RowKit Go.Proofs

attribute [local go_sem ↓] ex_load_id ex_store_id ex_load_line ex_store_line ex_load_rline ex_store_rline ex_alloc_line ex_build_line ex_alloc_rline ex_build_rline

attribute [local go_sem] ld_id st_id ld_line st_line ld_rline st_rline guard_id okCells_drew rdCells_drew okCells_drewN rdCells_drewN rowOk_drew rowOk_cells okCells_cells rdCells_cells setRow_drew setRow_new setRow_past

/-- The text of the first k lines. -/
def newGrp (rs : List MR) (k : Nat) : Bool := decide (k = 0) || !decide ((rs[k - 1]?).map (·.s) = (rs[k]?).map (·.s))
def stepTxt (rs : List MR) (k : Nat) : List UInt8 := match rs[k]? with
  | some r => (if newGrp rs k then grpHead r.s (ofR rs r.s).length else []) ++ txtP r.m.p
  | none => []
def refTxt (rs : List MR) (k : Nat) : List UInt8 := (List.range k).flatMap (stepTxt rs)
theorem refTxt_succ (rs : List MR) (k : Nat) : refTxt rs (k + 1) = refTxt rs k ++ stepTxt rs k := by
  unfold refTxt
  rw [List.range_succ, List.flatMap_append]
  simp

theorem head_str2 (T : List UInt8) (t : ByteArray) (n : Nat) : (str T ++ (⟨#[103, 114, 111, 117, 112, 32]⟩ : ByteArray) ++ t ++ ⟨#[32]⟩ ++ str (Lib.decDigits n) ++ ⟨#[10]⟩) = str (T ++ grpHead t n) := by
  have e1 : (⟨#[103, 114, 111, 117, 112, 32]⟩ : ByteArray) = str [103, 114, 111, 117, 112, 32] := rfl
  have e2 : (⟨#[32]⟩ : ByteArray) = str [32] := rfl
  have e3 : (⟨#[10]⟩ : ByteArray) = str [10] := rfl
  have e4 : t = str t.data.toList := rfl
  rw [e1, e2, e3, e4, str_append, str_append, str_append, str_append, str_append]
  unfold grpHead
  simp only [List.append_assoc]
  rfl
theorem line_str2 (T L : List UInt8) : (str T ++ str L ++ (⟨#[10]⟩ : ByteArray)) = str (T ++ (L ++ [10])) := by
  have e3 : (⟨#[10]⟩ : ByteArray) = str [10] := rfl
  rw [e3, str_append, str_append, List.append_assoc]
theorem stepTxt_le {rs : List MR} (h1 : ∀ r ∈ rs, r.s.size ≤ 100000) (h2 : ∀ r ∈ rs, pErr r.m.p = 0) (h3 : rs.length ≤ 100000) (k : Nat) : (stepTxt rs k).length ≤ 200000 := by
  unfold stepTxt
  cases hk : rs[k]? with
  | none => simp
  | some r =>
    have hm := List.mem_of_getElem? hk
    have hs := h1 r hm
    have hp := txtP_le (h2 r hm)
    have ho : (ofR rs r.s).length ≤ rs.length := by unfold ofR; exact List.length_filter_le _ _
    have hd := decDigits_len (ofR rs r.s).length (by omega)
    have he : r.s.data.toList.length = r.s.size := Array.length_toList
    simp only [List.length_append]
    split
    · unfold grpHead; simp only [List.length_append, List.length_cons, List.length_nil]; omega
    · simp only [List.length_nil]; omega
theorem refTxt_le {rs : List MR} (h1 : ∀ r ∈ rs, r.s.size ≤ 100000) (h2 : ∀ r ∈ rs, pErr r.m.p = 0) (h3 : rs.length ≤ 100000) (k : Nat) : (refTxt rs k).length ≤ k * 200000 := by
  have := flat_le (stepTxt rs) 200000 (List.range k) fun x _ => stepTxt_le h1 h2 h3 x
  rwa [List.length_range] at this
set_option maxHeartbeats 1000000 in
theorem refPrint_p (r : MR) (w : World) (hg : pErr r.m.p = 0) (h : IdsAt w r.m.v r.m.p.ids) :
    Calls Tryz.prog 20 #[.agg (rlineCells r.s r.m.g)] w fun x w' => x = .returned (.string (str (lineTxt r.m.p.number.toNat r.m.p.id r.m.p.name r.m.p.date.toNat r.m.p.subject r.m.p.ids r.m.p.bytes.toNat))) ∧ Below w.heap.size w w' := by
  obtain ⟨⟨n, d, b, e1, e2, e3, h4, h5, h6⟩, h7, h8, h9⟩ := good_bounds hg
  rw [e1, e2, e3]
  simp only [Int.toNat_natCast]
  exact refPrint_any r.s r.m.g r.m.p.ids n d b w ⟨h, by unfold maxLen; omega, by show r.m.p.name.size ≤ _; unfold maxLen; omega, by show r.m.p.subject.size ≤ _; unfold maxLen; omega⟩ e1 e2 e3 h4 h5 h6 h7 h8 h9

set_option maxRecDepth 100000 in
set_option maxHeartbeats 8000000 in
theorem refEncode_any (B : Nat) (v : Value) (rs : List MR) (w : World) (h : RefsAt B w v rs) (hI : ∀ r ∈ rs, IdsAt w r.m.v r.m.p.ids) (hg : ∀ r ∈ rs, pErr r.m.p = 0) :
    Calls Tryz.prog 45 #[v] w fun r w' => r = .returned (.string (str (refTxt rs rs.length))) ∧ Below w.heap.size w w' := by
  have hfew := h.few
  have HX := Lib.hid h
  have HI := Lib.hid hI
  have HGD := Lib.hid hg
  clear hI hg
  obtain ⟨va, vc, hve⟩ : ∃ a c, v = .slice a rs.length c := by
    rcases h.head with ⟨e, h0⟩ | ⟨g', cap', _, e, _⟩
    · exact ⟨none, 0, by rw [e, h0]; rfl⟩
    · exact ⟨_, _, e⟩
  subst hve
  clear h
  go_enter Tryz.func45, Tryz.ntmps45
  go_wp2
  go_loopw [3, 4] (fun s i wr => ∃ k : Nat, k ≤ rs.length ∧ i = .int .i64 k ∧ s = .string (str (refTxt rs k)) ∧ Hid (Below w.heap.size w wr)) (fun _ i _ => rs.length - (intOf i).toNat)
  case atStart => exact ⟨0, by omega, rfl, rfl, Lib.hid (Below.refl _ _)⟩
  case round =>
    obtain ⟨k, hk, rfl, rfl, HB⟩ := hrel
    by_cases hlt : k < rs.length
    · have hltz : (k : Int) < (rs.length : Int) := by omega
      rcases HX.out.head with ⟨_, e0⟩ | ⟨lg, lcap, cur, hlve, _, hll, hlle, _, hlcur, hlcell⟩
      · rw [e0] at hlt; cases hlt
      cases hlve
      have hcX : ∀ j u, (flatR rs)[j]? = some u → wr.cell? ⟨lg, j, none⟩ = some u := fun j u hu => (HB.out.cell (p := ⟨lg, j, none⟩) hll).trans (hlcell j u hu)
      have HCX := Lib.hid hcX
      have HGR : Hid (rs[k]? = some rs[k]) := Lib.hid (List.getElem?_eq_getElem hlt)
      have hmem : rs[k] ∈ rs := List.getElem_mem hlt
      have HST : Hid (stepTxt rs k = (if newGrp rs k then grpHead rs[k].s (ofR rs rs[k].s).length else []) ++ txtP rs[k].m.p) := Lib.hid (by unfold stepTxt; rw [HGR.out])
      have HSU := Lib.hid (refTxt_succ rs k)
      have HNM := Lib.hid (HX.out.names _ hmem)
      have HIK := Lib.hid (HI.out _ hmem)
      have HGK := Lib.hid (HGD.out _ hmem)
      have c0 : wr.cell? ⟨lg, k * 39, none⟩ = some (.string rs[k].s) := by have := rAt_cell hcX hlt (i := 0) (u := .string rs[k].s) rfl; rwa [Nat.add_zero] at this
      have z0 : ∀ z : Later wr, z.1.cell? ⟨lg, k * 39, none⟩ = some (.string rs[k].s) := fun z => Later.cell c0 z
      obtain ⟨o1, d1⟩ := rAt_rd (rs := rs) (k := k) hcX hlt
      have HRT : Hid ((refTxt rs k).length ≤ 20000000000) := Lib.hid (by
        have h1 := refTxt_le HX.out.names HGD.out HX.out.few k
        have h2 : k * 200000 ≤ 100000 * 200000 := Nat.mul_le_mul_right _ (by omega)
        omega)
      have hsz : (str (refTxt rs k)).size ≤ 20000000000 := by rw [str_size]; exact HRT.out
      have hnz : rs[k].s.size ≤ 100000 := HNM.out
      have h20 : ¬ 9223372036854775807 < (str (refTxt rs k)).size + 6 := by omega
      have h21 : ¬ 9223372036854775807 < (str (refTxt rs k)).size + 6 + rs[k].s.size := by omega
      have h22 : ¬ 9223372036854775807 < (str (refTxt rs k)).size + 6 + rs[k].s.size + 1 := by omega
      obtain ⟨L, hL⟩ : ∃ L, L = lineTxt rs[k].m.p.number.toNat rs[k].m.p.id rs[k].m.p.name rs[k].m.p.date.toNat rs[k].m.p.subject rs[k].m.p.ids rs[k].m.p.bytes.toNat := ⟨_, rfl⟩
      have HLP : Hid (txtP rs[k].m.p = L ++ [10]) := Lib.hid (by rw [hL]; rfl)
      have hLs : (str L).size ≤ 10001 := by
        have h1 := txtP_le HGK.out
        rw [HLP.out, List.length_append] at h1
        rw [str_size]; omega
      have HLE := Lib.hid hL
      clear hL
      have hol : (ofR rs rs[k].s).length ≤ 9223372036854775807 := by
        have h1 : (ofR rs rs[k].s).length ≤ rs.length := by unfold ofR; exact List.length_filter_le _ _
        omega
      have hdl := decDigits_len _ hol
      have hds : (str (Lib.decDigits (ofR rs rs[k].s).length)).size ≤ 20 := by rw [str_size]; exact hdl
      have h23 : ¬ 9223372036854775807 < (str (refTxt rs k)).size + 6 + rs[k].s.size + 1 + (str (Lib.decDigits (ofR rs rs[k].s).length)).size := by omega
      have h24 : ¬ 9223372036854775807 < (str (refTxt rs k)).size + 6 + rs[k].s.size + 1 + (str (Lib.decDigits (ofR rs rs[k].s).length)).size + 1 := by omega
      by_cases hk0 : k = 0
      · have HNG : Hid (newGrp rs k = true) := Lib.hid (by unfold newGrp; rw [decide_eq_true hk0]; rfl)
        have hkb : ((k : Int) == 0) = true := by rw [hk0]; rfl
        clear hk0
        go_wp2
        go_quiet (fail)
        go_upto_region 6 with (fail)
        refine wp_region_mix0 [0, 1, 2, 3, 4, 5, 6, 7, 8, 9, 10, 11, 12, 13, 14] [15, 16, 17, 18, 19, 20] (fun w' => ∃ z : Later wr, w' = z.1) (by kernel_rfl) (by kernel_rfl) (by kernel_rfl) ⟨⟨_, (below_drewN' (Below.refl _ _) _).drew⟩, rfl⟩ ?_
        simp only [opsAt, List.map_cons, List.map_nil, Array.getD_eq_getD_getElem?, List.getElem?_toArray, List.getElem?_cons_zero, List.getElem?_cons_succ, Option.getD_some]
        repeat (go_big_quiet_step (fail))
        refine wpQuiet_nil ?_
        refine wpR_cons true rfl (by kernel_rfl) ?_
        go_wp2_with fail
        refine (of_any B _ rs rs[k].s _ (HX.out.below (HB.out.trans ((below_drewN' (Below.refl _ _) _).mono HB.out.size)))).mono ?_
        rintro r w3 ⟨v3, rfl, hr3, hb3⟩
        obtain ⟨va3, vc3, rfl⟩ : ∃ a c, v3 = .slice a (ofR rs rs[k].s).length c := by
          rcases hr3.head with ⟨e, h0⟩ | ⟨g', cap', _, e, _⟩
          · exact ⟨none, 0, by rw [e, h0]; rfl⟩
          · exact ⟨_, _, e⟩
        have hb4 : Below wr.heap.size wr w3 := (below_drewN' (Below.refl wr.heap.size wr) _).trans hb3
        clear hb3 hr3
        go_wp2_with fail
        refine ⟨fun _ => ⟨⟨_, hb4⟩, rfl⟩, wpR_cons true rfl (by kernel_rfl) ?_⟩
        go_wp2_with fail
        refine ⟨fun _ => ⟨⟨_, hb4⟩, rfl⟩, wpR_cons true rfl (by kernel_rfl) ?_⟩
        go_wp2_with fail
        refine (decimal_any _ _ hol).mono ?_
        rintro r w4 ⟨rfl, hb5⟩
        have hb6 : Below wr.heap.size wr w4 := hb4.trans (hb5.mono hb4.size)
        clear hb4 hb5
        go_wp2_with fail
        refine ⟨fun _ => ⟨⟨_, hb6⟩, rfl⟩, wpR_list [18, 19, 20] _ _ (by kernel_rfl) ?_⟩
        simp only [opsAt, List.map_cons, List.map_nil, Array.getD_eq_getD_getElem?, List.getElem?_toArray, List.getElem?_cons_zero, List.getElem?_cons_succ, Option.getD_some]
        go_wp2
        refine NoPanic.normal ?_
        go_upto_region 7 with (fail)
        rw [head_str2]
        have hbX : Below w.heap.size w w4 := HB.out.trans (hb6.mono HB.out.size)
        obtain ⟨o2, d2⟩ := rAt_rd (w := w4) (g := lg) (rs := rs) (k := k) (fun j u hu => (hbX.cell (p := ⟨lg, j, none⟩) hll).trans (hlcell j u hu)) hlt
        obtain ⟨X, hX⟩ : ∃ X, X = refTxt rs k ++ grpHead rs[k].s (ofR rs rs[k].s).length := ⟨_, rfl⟩
        rw [← hX]
        have hXs : (str X).size ≤ 20000200000 := by rw [str_size, hX, List.length_append]; have h1 := HRT.out; have h2 : rs[k].s.data.toList.length = rs[k].s.size := Array.length_toList; unfold grpHead; simp only [List.length_append, List.length_cons, List.length_nil]; omega
        have HEQ : Hid (refTxt rs (k + 1) = X ++ (L ++ [10])) := Lib.hid (by rw [HSU.out, HST.out, HNG.out, HLP.out, hX]; simp)
        clear hX
        have h30 : ¬ 9223372036854775807 < (str X).size + (str L).size := by omega
        have h31 : ¬ 9223372036854775807 < (str X).size + (str L).size + 1 := by omega
        have HPR := Lib.hid (refPrint_p rs[k] w4 HGK.out (HIK.out.below hbX))
        rw [← HLE.out] at HPR
        go_wp2_with fail
        refine HPR.out.mono ?_
        rintro r w5 ⟨rfl, hb7⟩
        have HB7 := Lib.hid (hbX.trans (hb7.mono hbX.size) : Below w.heap.size w w5)
        clear hb7 HPR o2 d2 hbX
        go_wp2
        go_roundw
        case rel => exact ⟨k + 1, by omega, by go_num, by rw [line_str2, HEQ.out], HB7⟩
        case measure => simp [intOf]; omega
      · have hk1 : k - 1 < rs.length := by omega
        obtain ⟨i, hi⟩ : ∃ i : Nat, k - 1 = i := ⟨_, rfl⟩
        have hkb : ((k : Int) == 0) = false := by simp; omega
        rw [hi] at hk1
        have c1 : wr.cell? ⟨lg, i * 39, none⟩ = some (.string rs[i].s) := by have := rAt_cell hcX hk1 (i := 0) (u := .string rs[i].s) rfl; rwa [Nat.add_zero] at this
        have hiw : IntKind.i64.wrap (i : Int) = i := by rw [IntKind.wrap_i64]; omega
        have hiz : (i : Int) < (rs.length : Int) := by omega
        have HNG : Hid (newGrp rs k = !(rs[i].s.toList == rs[k].s.toList)) := Lib.hid (by
          unfold newGrp
          rw [decide_eq_false hk0, hi, List.getElem?_eq_getElem hlt, List.getElem?_eq_getElem hk1]
          simp only [Option.map_some, Option.some.injEq, Bool.false_or]
          by_cases e : rs[i].s = rs[k].s
          · rw [e]; simp
          · rw [decide_eq_false e]
            have : rs[i].s.toList ≠ rs[k].s.toList := fun h => e (by
              rw [ByteArray.toList_eq, ByteArray.toList_eq] at h
              exact ByteArray.ext (Array.toList_inj.1 h))
            simp [this])
        cases hne : (rs[i].s.toList == rs[k].s.toList) with
        | false =>
          rw [hne] at HNG
          go_wp2
          go_quiet (fail)
          go_upto_region 6 with (fail)
          refine wp_region_mix0 [0, 1, 2, 3, 4, 5, 6, 7, 8, 9, 10, 11, 12, 13, 14] [15, 16, 17, 18, 19, 20] (fun w' => ∃ z : Later wr, w' = z.1) (by kernel_rfl) (by kernel_rfl) (by kernel_rfl) ⟨⟨_, (below_drewN' (Below.refl _ _) _).drew⟩, rfl⟩ ?_
          simp only [opsAt, List.map_cons, List.map_nil, Array.getD_eq_getD_getElem?, List.getElem?_toArray, List.getElem?_cons_zero, List.getElem?_cons_succ, Option.getD_some]
          repeat (go_big_quiet_step (fail))
          refine wpQuiet_nil ?_
          refine wpR_cons true rfl (by kernel_rfl) ?_
          go_wp2_with fail
          refine (of_any B _ rs rs[k].s _ (HX.out.below (HB.out.trans ((below_drewN' (Below.refl _ _) _).mono HB.out.size)))).mono ?_
          rintro r w3 ⟨v3, rfl, hr3, hb3⟩
          obtain ⟨va3, vc3, rfl⟩ : ∃ a c, v3 = .slice a (ofR rs rs[k].s).length c := by
            rcases hr3.head with ⟨e, h0⟩ | ⟨g', cap', _, e, _⟩
            · exact ⟨none, 0, by rw [e, h0]; rfl⟩
            · exact ⟨_, _, e⟩
          have hb4 : Below wr.heap.size wr w3 := (below_drewN' (Below.refl wr.heap.size wr) _).trans hb3
          clear hb3 hr3
          go_wp2_with fail
          refine ⟨fun _ => ⟨⟨_, hb4⟩, rfl⟩, wpR_cons true rfl (by kernel_rfl) ?_⟩
          go_wp2_with fail
          refine ⟨fun _ => ⟨⟨_, hb4⟩, rfl⟩, wpR_cons true rfl (by kernel_rfl) ?_⟩
          go_wp2_with fail
          refine (decimal_any _ _ hol).mono ?_
          rintro r w4 ⟨rfl, hb5⟩
          have hb6 : Below wr.heap.size wr w4 := hb4.trans (hb5.mono hb4.size)
          clear hb4 hb5
          go_wp2_with fail
          refine ⟨fun _ => ⟨⟨_, hb6⟩, rfl⟩, wpR_list [18, 19, 20] _ _ (by kernel_rfl) ?_⟩
          simp only [opsAt, List.map_cons, List.map_nil, Array.getD_eq_getD_getElem?, List.getElem?_toArray, List.getElem?_cons_zero, List.getElem?_cons_succ, Option.getD_some]
          go_wp2
          refine NoPanic.normal ?_
          go_upto_region 7 with (fail)
          rw [head_str2]
          have hbX : Below w.heap.size w w4 := HB.out.trans (hb6.mono HB.out.size)
          obtain ⟨o2, d2⟩ := rAt_rd (w := w4) (g := lg) (rs := rs) (k := k) (fun j u hu => (hbX.cell (p := ⟨lg, j, none⟩) hll).trans (hlcell j u hu)) hlt
          obtain ⟨X, hX⟩ : ∃ X, X = refTxt rs k ++ grpHead rs[k].s (ofR rs rs[k].s).length := ⟨_, rfl⟩
          rw [← hX]
          have hXs : (str X).size ≤ 20000200000 := by rw [str_size, hX, List.length_append]; have h1 := HRT.out; have h2 : rs[k].s.data.toList.length = rs[k].s.size := Array.length_toList; unfold grpHead; simp only [List.length_append, List.length_cons, List.length_nil]; omega
          have HEQ : Hid (refTxt rs (k + 1) = X ++ (L ++ [10])) := Lib.hid (by rw [HSU.out, HST.out, HNG.out, HLP.out, hX]; simp)
          clear hX
          have h30 : ¬ 9223372036854775807 < (str X).size + (str L).size := by omega
          have h31 : ¬ 9223372036854775807 < (str X).size + (str L).size + 1 := by omega
          have HPR := Lib.hid (refPrint_p rs[k] w4 HGK.out (HIK.out.below hbX))
          rw [← HLE.out] at HPR
          go_wp2_with fail
          refine HPR.out.mono ?_
          rintro r w5 ⟨rfl, hb7⟩
          have HB7 := Lib.hid (hbX.trans (hb7.mono hbX.size) : Below w.heap.size w w5)
          clear hb7 HPR o2 d2 hbX
          go_wp2
          go_roundw
          case rel => exact ⟨k + 1, by omega, by go_num, by rw [line_str2, HEQ.out], HB7⟩
          case measure => simp [intOf]; omega
        | true =>
          rw [hne] at HNG
          go_wp2
          go_quiet (fail)
          have HEQ : Hid (refTxt rs (k + 1) = refTxt rs k ++ (L ++ [10])) := Lib.hid (by rw [HSU.out, HST.out, HNG.out, HLP.out]; simp)
          have h30 : ¬ 9223372036854775807 < (str (refTxt rs k)).size + (str L).size := by omega
          have h31 : ¬ 9223372036854775807 < (str (refTxt rs k)).size + (str L).size + 1 := by omega
          go_wp2_with fail
          have hbX : Below w.heap.size w (wr.drewN nq) := HB.out.trans ((below_drewN' (Below.refl _ _) _).mono HB.out.size)
          have HPR := Lib.hid (refPrint_p rs[k] (wr.drewN nq) HGK.out (HIK.out.below hbX))
          rw [← HLE.out] at HPR
          refine HPR.out.mono ?_
          rintro r w5 ⟨rfl, hb7⟩
          have HB7 := Lib.hid (hbX.trans (hb7.mono hbX.size) : Below w.heap.size w w5)
          clear hb7 HPR hbX
          go_wp2
          go_roundw
          case rel => exact ⟨k + 1, by omega, by go_num, by rw [line_str2, HEQ.out], HB7⟩
          case measure => simp [intOf]; omega
    · obtain rfl : k = rs.length := by omega
      go_wp2
      go_ret
      exact ⟨rfl, HB.out⟩

end Go.Proofs.YtdjaphcelpchaaaGreatDoor

namespace Go.Proofs.YtdjaphcelpchaaaGreatDoor
open Go Go.RowKit Go.Proofs

def txtGo (cnt : ByteArray → Nat) : Option ByteArray → List MR → List UInt8
  | _, [] => []
  | prev, r :: rest => (if prev = some r.s then [] else grpHead r.s (cnt r.s)) ++ txtP r.m.p ++ txtGo cnt (some r.s) rest

theorem txtGo_snoc (cnt : ByteArray → Nat) : ∀ (l : List MR) (prev : Option ByteArray) (r : MR), txtGo cnt prev (l ++ [r]) = txtGo cnt prev l ++ ((if (match l.getLast? with | some q => some q.s | none => prev) = some r.s then [] else grpHead r.s (cnt r.s)) ++ txtP r.m.p)
  | [], prev, r => by
    by_cases h : prev = some r.s <;> simp [txtGo, h]
  | a :: l, prev, r => by
    rw [List.cons_append]
    unfold txtGo
    rw [txtGo_snoc cnt l (some a.s) r]
    have e : (match (a :: l).getLast? with | some q => some q.s | none => prev) = (match l.getLast? with | some q => some q.s | none => some a.s) := by
      cases l with
      | nil => rfl
      | cons b l =>
        rw [List.getLast?_cons_cons]
        cases hx : (b :: l).getLast? with
        | none => simp at hx
        | some q => rfl
    rw [e]
    simp only [List.append_assoc]

theorem refTxt_go (rs : List MR) : ∀ k, k ≤ rs.length → refTxt rs k = txtGo (fun t => (ofR rs t).length) none (rs.take k)
  | 0, _ => rfl
  | k + 1, hk => by
    rw [refTxt_succ, refTxt_go rs k (by omega), List.take_succ_eq_append_getElem (by omega), txtGo_snoc]
    congr 1
    unfold stepTxt
    rw [List.getElem?_eq_getElem (by omega)]
    simp only
    congr 1
    have hl : (rs.take k).getLast? = if k = 0 then none else rs[k - 1]? := by
      by_cases h0 : k = 0
      · subst h0; rfl
      · rw [if_neg h0, List.getLast?_eq_getElem?, List.length_take, Nat.min_eq_left (by omega), List.getElem?_take, if_pos (by omega)]
    rw [hl]
    unfold newGrp
    by_cases h0 : k = 0
    · subst h0
      simp
    · rw [if_neg h0, List.getElem?_eq_getElem (show k - 1 < rs.length by omega), List.getElem?_eq_getElem (show k < rs.length by omega)]
      simp only [h0, decide_false, Bool.false_or, Option.map_some, Option.some.injEq]
      by_cases he : rs[k - 1].s = rs[k].s <;> simp [he]

theorem txtGo_block (cnt : ByteArray → Nat) (t : ByteArray) : ∀ (b : List MR) (rest : List MR), (∀ r ∈ b, r.s = t) → txtGo cnt (some t) (b ++ rest) = b.flatMap (fun r => txtP r.m.p) ++ txtGo cnt (some t) rest
  | [], rest, _ => rfl
  | a :: b, rest, h => by
    have ha := h a (by simp)
    rw [List.cons_append]
    conv => lhs; unfold txtGo
    rw [ha, if_pos rfl, txtGo_block cnt t b rest fun r hr => h r (by simp [hr])]
    simp
theorem txtGo_groups (cnt : ByteArray → Nat) (blk : ByteArray → List MR) : ∀ (ts : List ByteArray) (prev : Option ByteArray), (∀ t ∈ ts, blk t ≠ [] ∧ ∀ r ∈ blk t, r.s = t) → ts.Nodup → (∀ t ∈ ts, prev ≠ some t) →
    txtGo cnt prev (ts.flatMap blk) = ts.flatMap fun t => grpHead t (cnt t) ++ (blk t).flatMap fun r => txtP r.m.p
  | [], _, _, _, _ => rfl
  | t :: ts, prev, h, hn, hp => by
    obtain ⟨h1, h2⟩ := h t (by simp)
    rw [List.nodup_cons] at hn
    obtain ⟨a, b, hb⟩ : ∃ a b, blk t = a :: b := by
      cases hx : blk t with
      | nil => exact absurd hx h1
      | cons a b => exact ⟨a, b, rfl⟩
    have ha : a.s = t := h2 a (by rw [hb]; simp)
    have ih := txtGo_groups cnt blk ts (some t) (fun x hx => h x (by simp [hx])) hn.2 (fun x hx e => hn.1 (by cases e; exact hx))
    rw [List.flatMap_cons, List.flatMap_cons, hb, List.cons_append]
    conv => lhs; unfold txtGo
    rw [ha, if_neg (hp t (by simp)), txtGo_block cnt t b _ (fun r hr => h2 r (by rw [hb]; simp [hr])), ih]
    simp
theorem refTxt_enc {rs : List MR} (ho : ordR rs) : refTxt rs rs.length = encTxt (fun t => (ofR rs t).map (·.m.p)) (groupsR rs) := by
  obtain ⟨h1, h2, _⟩ := groupsR_ok rs ho
  have hnd : (groupsR rs).Nodup := h1.imp fun {a b} hab e => by rw [e, cmpN_refl] at hab; omega
  rw [refTxt_go rs _ (Nat.le_refl _), List.take_length]
  conv => lhs; rw [flat_groups ho]
  rw [txtGo_groups _ (ofR rs) (groupsR rs) none (fun t ht => ⟨fun e => ?_, fun r hr => (ofR_mem.1 hr).2⟩) hnd (fun _ _ e => by cases e)]
  · unfold encTxt grpTxt
    rw [← flat_groups ho]
    rw [List.flatMap_def, List.flatMap_def]
    refine congrArg List.flatten (List.map_congr_left fun t _ => ?_)
    rw [List.length_map, List.flatMap_map]
  · obtain ⟨r, hr, hs⟩ := (h2 t).1 ht
    have : r ∈ ofR rs t := ofR_mem.2 ⟨hr, hs⟩
    rw [e] at this
    cases this

end Go.Proofs.YtdjaphcelpchaaaGreatDoor

namespace Go.Proofs.YtdjaphcelpchaaaGreatDoor
open Go Go.RowKit Go.Proofs

/-- The line of a text, if it is one. -/
def gP (s : ByteArray) : GLine := gAt (splitS 9 s) (.slice none 0 0) 7
def parseP (s : ByteArray) : Option PLine := if (parseOut s).1 = 0 then some ⟨(gP s).number, (gP s).id, (gP s).name, (gP s).date, (gP s).subject, refIds (nth (splitS 9 s) 5), (gP s).bytes⟩ else none
theorem parsed_p {s : ByteArray} {G : GLine} {ids : List Id32} (h : ParsedIs s G ids) (h0 : (parseOut s).1 = 0) : ∃ p, parseP s = some p ∧ p.ids = ids ∧ G = ML.g ⟨p, G.refs⟩ := by
  obtain ⟨v, rfl, rfl⟩ := h.yes h0
  refine ⟨_, by unfold parseP; rw [if_pos h0], rfl, ?_⟩
  unfold ML.g gP
  rfl

abbrev LF : Type := ByteArray → List PLine
def setL (L : LF) (t : ByteArray) (ps : List PLine) : LF := fun u => if u = t then ps else L u
def numsP (ps : List PLine) : List Int := ps.map (·.number)
def addP (ps : List PLine) (p : PLine) : List PLine := ps.take (posN (numsP ps) p.number) ++ p :: ps.drop (posN (numsP ps) p.number)
def addErrP (ps : List PLine) (t : ByteArray) (p : PLine) : Int := if nameErr t ≠ 0 then nameErr t else if pErr p ≠ 0 then pErr p else if (numsP ps).contains p.number || ps.any (fun q => decide (q.id = p.id)) then 7 else 0
theorem addErr_p (ms : List ML) (t : ByteArray) (p : PLine) : addErr ms t p = addErrP (ms.map (·.p)) t p := by
  unfold addErr addErrP hasNum hasId nums numsP
  rw [List.map_map, List.any_map]
  rfl
theorem addMs_p (ms : List ML) (p : PLine) (v : Value) : (addMs ms (posN (nums ms) p.number) ⟨p, v⟩).map (·.p) = addP (ms.map (·.p)) p := by
  unfold addMs addP nums numsP
  rw [List.map_append, List.map_cons, List.map_take, List.map_drop, List.map_map]
  rfl

/-- The lines of a group. -/
def dgLoop (t : ByteArray) : Nat → Int → LF → List UInt8 → Option (List UInt8 × LF)
  | 0, _, L, rest => some (rest, L)
  | n + 1, last, L, rest => match parseP (str (Lib.cut rest [10]).1) with
    | none => none
    | some p => if (Lib.cut rest [10]).2.2 = true ∧ last < p.number ∧ addErrP (L t) t p = 0 then dgLoop t n p.number (setL L t (addP (L t) p)) (Lib.cut rest [10]).2.1 else none
def wordsOf (s : List UInt8) : List (List UInt8) := splitL 32 (Lib.cut s [10]).1
/-- A group. -/
def dg (L : LF) (s : List UInt8) : Option (List UInt8 × LF) :=
  if (Lib.cut s [10]).2.2 = true ∧ (wordsOf s).length = 3 ∧ (wordsOf s)[0]? = some [103, 114, 111, 117, 112] ∧ numOk ((wordsOf s).getD 2 []) = true then dgLoop (str ((wordsOf s).getD 1 [])) (numVal ((wordsOf s).getD 2 [])) 0 L (Lib.cut s [10]).2.1 else none
def decGo : Nat → LF → List UInt8 → Option LF
  | 0, _, _ => none
  | n + 1, L, s => if s = [] then some L else match dg L s with
    | none => none
    | some (rest, L') => decGo n L' rest

theorem cut_le (s : List UInt8) : (Lib.cut s [10]).2.1.length ≤ s.length ∧ ((Lib.cut s [10]).2.2 = true → (Lib.cut s [10]).2.1.length < s.length) := by
  unfold Lib.cut
  split
  · rename_i h
    have := Lib.index_room s [10] h
    simp only [List.length_drop, List.length_singleton] at this ⊢
    exact ⟨by omega, fun _ => by omega⟩
  · simp
theorem dgLoop_le (t : ByteArray) : ∀ (n : Nat) (last : Int) (L : LF) (s rest : List UInt8) (L' : LF), dgLoop t n last L s = some (rest, L') → rest.length ≤ s.length
  | 0, _, _, _, _, _, h => by cases h; exact Nat.le_refl _
  | n + 1, last, L, s, rest, L', h => by
    unfold dgLoop at h
    split at h
    · cases h
    · split at h
      · have := dgLoop_le t n _ _ _ _ _ h
        exact Nat.le_trans this (cut_le s).1
      · cases h
theorem dg_lt {L : LF} {s rest : List UInt8} {L' : LF} (h : dg L s = some (rest, L')) : rest.length < s.length := by
  unfold dg at h
  split at h
  · rename_i hc
    exact Nat.lt_of_le_of_lt (dgLoop_le _ _ _ _ _ _ _ h) ((cut_le s).2 hc.1)
  · cases h

/-! ## A text that an index has is taken back -/

theorem cut_pre (x l : List UInt8) (h : (10 : UInt8) ∉ x) : Lib.cut (x ++ 10 :: l) [10] = (x, l, true) := by
  have hi : Lib.index (x ++ 10 :: l) [10] = x.length := by
    refine Lib.index_first (by simp) ?_ fun j hj => ?_
    · unfold Lib.occAt
      simp
    · unfold Lib.occAt
      rw [List.drop_append_of_le_length (by omega)]
      have hne : x.drop j ≠ [] := by simp; omega
      obtain ⟨a, b, hab⟩ : ∃ a b, x.drop j = a :: b := by
        cases hx : x.drop j with
        | nil => exact absurd hx hne
        | cons a b => exact ⟨a, b, rfl⟩
      rw [hab, List.cons_append]
      have ha : a ≠ 10 := fun e => h (by rw [← e]; exact List.mem_of_mem_drop (by rw [hab]; simp : a ∈ x.drop j))
      simp [List.isPrefixOf, Ne.symm ha]
  unfold Lib.cut
  rw [hi, if_pos (by omega)]
  simp
theorem no_dig (c : UInt8) (hc : isDig c = false) (u : Nat) : c ∉ Lib.decDigits u := fun h => by
  have := List.all_eq_true.1 (dec_back u).2.1 c h
  rw [hc] at this
  cases this
theorem no10_text {l : List UInt8} {most : Int} (h : textErr l most = 0) : (10 : UInt8) ∉ l := fun h9 => by
  unfold textErr at h
  split at h
  · cases h
  · split at h
    · cases h
    · rename_i hb
      exact hb (List.any_eq_true.2 ⟨10, h9, by decide⟩)
theorem no10_refs (ids : List Id32) : (10 : UInt8) ∉ refsTxt ids := fun h => by
  rw [refsTxt_eq] at h
  rcases mem_join h with h | ⟨x, hx, hc⟩
  · revert h; decide
  · obtain ⟨y, _, rfl⟩ := List.mem_map.1 hx
    exact no_hex 10 (by decide) y hc
theorem no10_line {p : PLine} (h : pErr p = 0) : (10 : UInt8) ∉ lineTxt p.number.toNat p.id p.name p.date.toNat p.subject p.ids p.bytes.toNat := fun hm => by
  have hz := orErr_zero (show lineErr (ML.g ⟨p, .slice none 0 0⟩) p.ids = 0 from h)
  have z2 := hz (textErr p.name.data.toList 60) (by simp [ML.g])
  have z4 := hz (textErr p.subject.data.toList 200) (by simp [ML.g])
  unfold lineTxt joinS at hm
  rcases mem_join hm with hm | ⟨x, hx, hc⟩
  · revert hm; decide
  · simp only [lineParts, List.map_cons, List.map_nil, List.mem_cons, List.mem_nil_iff, or_false, str_data, hexS] at hx
    rcases hx with rfl | rfl | rfl | rfl | rfl | rfl | rfl
    · exact no_dig 10 (by decide) _ hc
    · exact no_hex 10 (by decide) _ hc
    · exact no10_text z2 hc
    · exact no_dig 10 (by decide) _ hc
    · exact no10_text z4 hc
    · exact no10_refs _ hc
    · exact no_dig 10 (by decide) _ hc
theorem cut_line {p : PLine} (h : pErr p = 0) (X : List UInt8) : Lib.cut (txtP p ++ X) [10] = (lineTxt p.number.toNat p.id p.name p.date.toNat p.subject p.ids p.bytes.toNat, X, true) := by
  unfold txtP
  rw [List.append_assoc]
  exact cut_pre _ _ (no10_line h)
theorem parse_txt {p : PLine} (h : pErr p = 0) : parseP (str (lineTxt p.number.toNat p.id p.name p.date.toNat p.subject p.ids p.bytes.toNat)) = some p := by
  obtain ⟨h1, h2⟩ := parse_print (g := ML.g ⟨p, .slice none 0 0⟩) (ids := p.ids) h
  have h1' : parseOut (str (lineTxt p.number.toNat p.id p.name p.date.toNat p.subject p.ids p.bytes.toNat)) = (0, 0) := h1
  have h0 : (parseOut (str (lineTxt p.number.toNat p.id p.name p.date.toNat p.subject p.ids p.bytes.toNat))).1 = 0 := by rw [h1']
  have hP : ParsedIs (str (lineTxt p.number.toNat p.id p.name p.date.toNat p.subject p.ids p.bytes.toNat)) (gP (str (lineTxt p.number.toNat p.id p.name p.date.toNat p.subject p.ids p.bytes.toNat))) (refIds (nth (splitS 9 (str (lineTxt p.number.toNat p.id p.name p.date.toNat p.subject p.ids p.bytes.toNat))) 5)) := ⟨fun hne => absurd h0 hne, fun _ => ⟨_, rfl, rfl⟩⟩
  obtain ⟨e1, e2⟩ := h2 _ _ hP
  unfold parseP
  rw [if_pos h0, e2, e1]
  rfl

/-- Lines that follow in order behind those that are there. -/
theorem addP_end {ps : List PLine} {p : PLine} (h : ∀ q ∈ ps, q.number < p.number) : addP ps p = ps ++ [p] := by
  have hp : posN (numsP ps) p.number = ps.length := by
    unfold posN numsP
    rw [List.countP_eq_length.2 (fun k hk => ?_), List.length_map]
    obtain ⟨q, hq, rfl⟩ := List.mem_map.1 hk
    simpa using h q hq
  unfold addP
  rw [hp, List.take_length, List.drop_length]
theorem addErrP_ok {ps : List PLine} {t : ByteArray} {p : PLine} (ht : nameErr t = 0) (hp : pErr p = 0) (h : ∀ q ∈ ps, q.number < p.number) (hi : ∀ q ∈ ps, q.id ≠ p.id) : addErrP ps t p = 0 := by
  unfold addErrP
  have h1 : (numsP ps).contains p.number = false := by
    cases hc : (numsP ps).contains p.number with
    | false => rfl
    | true =>
      unfold numsP at hc
      rw [List.contains_iff_mem] at hc
      obtain ⟨q, hq, e⟩ := List.mem_map.1 hc
      have := h q hq
      omega
  have h2 : ps.any (fun q => decide (q.id = p.id)) = false := by
    rw [List.any_eq_false]
    intro q hq
    simpa using hi q hq
  rw [if_neg (by simp [ht]), if_neg (by simp [hp]), h1, h2]
  rfl
theorem setL_setL (L : LF) (t : ByteArray) (a b : List PLine) : setL (setL L t a) t b = setL L t b := by
  funext u
  unfold setL
  by_cases h : u = t <;> simp [h]
theorem setL_at (L : LF) (t : ByteArray) (a : List PLine) : setL L t a t = a := by unfold setL; simp
/-- A good row of lines. -/
structure RowP (ps : List PLine) : Prop where
  good : ∀ p ∈ ps, pErr p = 0
  sorted : (numsP ps).Pairwise (· < ·)
  ids : (ps.map (·.id)).Nodup
theorem loop_ok {t : ByteArray} (ht : nameErr t = 0) (X : List UInt8) : ∀ (ps qs : List PLine) (last : Int) (L : LF), RowP (qs ++ ps) → L t = qs → (∀ p ∈ ps, last < p.number) →
    dgLoop t ps.length last L (ps.flatMap txtP ++ X) = some (X, setL L t (qs ++ ps))
  | [], qs, last, L, _, hL, _ => by
    have : setL L t (qs ++ []) = L := by
      funext u
      unfold setL
      by_cases h : u = t
      · rw [if_pos h, List.append_nil, h, hL]
      · rw [if_neg h]
    rw [this]
    rfl
  | p :: ps, qs, last, L, hR, hL, hlast => by
    have hp : pErr p = 0 := hR.good p (by simp)
    have hs := hR.sorted
    have hi := hR.ids
    unfold numsP at hs
    rw [List.map_append, List.map_cons, List.pairwise_append] at hs
    rw [List.map_append, List.map_cons, List.nodup_append] at hi
    have hq : ∀ q ∈ qs, q.number < p.number := fun q hq => hs.2.2 _ (List.mem_map.2 ⟨q, hq, rfl⟩) _ (by simp)
    have hqi : ∀ q ∈ qs, q.id ≠ p.id := fun q hq e => hi.2.2 q.id (List.mem_map.2 ⟨q, hq, rfl⟩) p.id (by simp) e
    have hn : ∀ r ∈ ps, p.number < r.number := fun r hr => (List.pairwise_cons.1 hs.2.1).1 _ (List.mem_map.2 ⟨r, hr, rfl⟩)
    rw [List.flatMap_cons, List.append_assoc, List.length_cons]
    unfold dgLoop
    rw [cut_line hp, parse_txt hp]
    simp only
    rw [if_pos ⟨trivial, hlast p (by simp), by rw [hL]; exact addErrP_ok ht hp hq hqi⟩, hL, addP_end hq, loop_ok ht X ps (qs ++ [p]) p.number _ (by rw [List.append_assoc]; exact hR) (setL_at _ _ _) hn, setL_setL, List.append_assoc]
    rfl

theorem name_no {t : ByteArray} (h : nameErr t = 0) {c : UInt8} (hc : badB c = true) (h46 : c ≠ 46) : c ∉ t.data.toList := fun hm => by
  unfold nameErr at h
  split at h
  · cases h
  · split at h
    · cases h
    · rename_i hb
      rw [← join_split 46 t.data.toList] at hm
      rcases mem_join hm with hm | ⟨x, hx, hcx⟩
      · exact h46 (by simpa using hm)
      · apply hb
        rw [List.any_eq_true]
        refine ⟨str x, List.mem_map.2 ⟨x, hx, rfl⟩, ?_⟩
        have : compB x = false := by
          cases x with
          | nil => cases hcx
          | cons a r =>
            have : (a :: r).any badB = true := List.any_eq_true.2 ⟨c, hcx, hc⟩
            unfold compB
            simp only [this, Bool.not_true, Bool.and_false]
        rw [str_list, this]
        rfl
theorem head_form (t : ByteArray) (n : Nat) (X : List UInt8) : grpHead t n ++ X = ([103, 114, 111, 117, 112] ++ 32 :: (t.data.toList ++ 32 :: Lib.decDigits n)) ++ 10 :: X := by
  unfold grpHead
  simp
theorem dg_ok {t : ByteArray} (ht : nameErr t = 0) {ps : List PLine} (hR : RowP ps) (hn : ps.length < 10000000000) {L : LF} (hL : L t = []) (X : List UInt8) : dg L (grpTxt t ps ++ X) = some (X, setL L t ps) := by
  have e : grpTxt t ps ++ X = ([103, 114, 111, 117, 112] ++ 32 :: (t.data.toList ++ 32 :: Lib.decDigits ps.length)) ++ 10 :: (ps.flatMap txtP ++ X) := by
    unfold grpTxt
    rw [List.append_assoc, head_form]
  have h10 : (10 : UInt8) ∉ ([103, 114, 111, 117, 112] ++ 32 :: (t.data.toList ++ 32 :: Lib.decDigits ps.length) : List UInt8) := fun hm => by
    simp only [List.mem_append, List.mem_cons] at hm
    rcases hm with hm | hm | hm | hm | hm
    · revert hm; decide
    · revert hm; decide
    · exact name_no ht (by decide) (by decide) hm
    · revert hm; decide
    · exact no_dig 10 (by decide) _ hm
  have hcut := cut_pre _ (ps.flatMap txtP ++ X) h10
  have hw : wordsOf (grpTxt t ps ++ X) = [[103, 114, 111, 117, 112], t.data.toList, Lib.decDigits ps.length] := by
    unfold wordsOf
    rw [e, hcut]
    simp only
    rw [splitL_pre 32 [103, 114, 111, 117, 112] _ (by decide), splitL_pre 32 _ _ (name_no ht (by decide) (by decide)), splitL_none 32 _ (no_dig 32 (by decide) _)]
  obtain ⟨n1, n2⟩ := num_dec ps.length hn
  unfold dg
  rw [hw, e, hcut]
  simp only [List.length_cons, List.length_nil, List.getElem?_cons_zero, List.getD_cons_succ, List.getD_cons_zero]
  rw [if_pos ⟨trivial, trivial, trivial, n1⟩, n2, str_of]
  exact loop_ok ht X ps [] 0 L hR hL fun p hp => by
    have := (lineErr_zero (show lineErr (ML.g ⟨p, .slice none 0 0⟩) p.ids = 0 from hR.good p hp)).1.1
    have h1 : 1 ≤ p.number := this
    omega
/-- The lines of some names. -/
def putAll (L F : LF) (ts : List ByteArray) : LF := fun u => if ts.any (fun t => decide (t = u)) = true then F u else L u
theorem dec_ok (F : LF) : ∀ (ts : List ByteArray) (L : LF) (n : Nat), (∀ t ∈ ts, nameErr t = 0 ∧ RowP (F t) ∧ (F t).length < 10000000000 ∧ L t = []) → ts.Nodup → (encTxt F ts).length < n → decGo n L (encTxt F ts) = some (putAll L F ts)
  | [], L, n, _, _, hn => by
    cases n with
    | zero => exact absurd hn (Nat.not_lt_zero _)
    | succ n =>
      unfold decGo
      rw [if_pos (show encTxt F [] = [] from rfl)]
      congr 1
  | t :: ts, L, n, h, hnd, hn => by
    obtain ⟨h1, h2, h3, h4⟩ := h t (by simp)
    rw [List.nodup_cons] at hnd
    have e : encTxt F (t :: ts) = grpTxt t (F t) ++ encTxt F ts := by unfold encTxt; rw [List.flatMap_cons]
    have hne : encTxt F (t :: ts) ≠ [] := by
      rw [e]
      unfold grpTxt grpHead
      simp
    cases n with
    | zero => exact absurd hn (Nat.not_lt_zero _)
    | succ n =>
      have hlt : (encTxt F ts).length < n := by
        have : 0 < (grpTxt t (F t)).length := by unfold grpTxt grpHead; simp
        rw [e, List.length_append] at hn
        omega
      unfold decGo
      rw [if_neg hne, e, dg_ok h1 h2 h3 h4]
      simp only
      rw [dec_ok F ts (setL L t (F t)) n (fun u hu => by
        obtain ⟨k1, k2, k3, k4⟩ := h u (by simp [hu])
        refine ⟨k1, k2, k3, ?_⟩
        unfold setL
        rw [if_neg (fun e' => hnd.1 (by rw [← e']; exact hu))]
        exact k4) hnd.2 hlt]
      congr 1
      funext u
      unfold putAll setL
      by_cases hu : u = t
      · subst hu
        simp
      · have hu' : ¬ t = u := fun e => hu e.symm
        rw [List.any_cons, decide_eq_false hu', Bool.false_or, if_neg hu]

end Go.Proofs.YtdjaphcelpchaaaGreatDoor
