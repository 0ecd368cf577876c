/- The tied card of bulletinlaw28.OverviewRange, proved: for every list of operations, every group and every number of rounds the call returns true; package-level tables of Go's library as the program's text lays them. -/
import Derived.Test.YtdjaphcelpchaaaGreatDoorShelf
import Derived.Test.YtdjaphcelpchaaaGreatDoorK1
import Derived.Test.YtdjaphcelpchaaaGreatDoorK2
import Derived.Test.YtdjaphcelpchaaaGreatDoorK3
import Derived.Test.YtdjaphcelpchaaaGreatDoorK4
import Derived.Test.YtdjaphcelpchaaaGreatDoorK5
import Derived.Test.YtdjaphcelpchaaaGreatDoorK6
import Derived.Test.YtdjaphcelpchaaaGreatDoorShelf2
import Derived.Test.YtdjaphcelpchaaaGreatDoorK7
import Derived.Test.YtdjaphcelpchaaaGreatDoorK8
import Derived.Test.YtdjaphcelpchaaaGreatDoorK9

/- bulletinlaw28.Build. -/
namespace Go.Proofs.YtdjaphcelpchaaaGreatDoor
open Go Go.RowKit Go.Proofs

attribute [local go_sem ↓] ex_load_id ex_store_id ex_load_line ex_store_line ex_load_rline ex_store_rline ex_alloc_line ex_build_line ex_alloc_rline ex_build_rline ex_load_op
attribute [local go_sem] ld_id st_id ld_line st_line ld_rline st_rline guard_id okCells_drew rdCells_drew okCells_drewN rdCells_drewN rowOk_drew rowOk_cells okCells_cells rdCells_cells setRow_drew setRow_new setRow_past ld_op

/-- What Build answers. -/
def BuildPost (w0 : World) (n : Nat) (r : Ending) (w' : World) : Prop := ∃ ib M gs mc v' rs, r = .returned (.tuple #[.pointer (some ⟨ib, 0, none⟩), v', .bool true]) ∧ PlaySt w0 ib M gs mc v' rs n w'

set_option maxRecDepth 100000 in
set_option maxHeartbeats 8000000 in
/-- w0: the world in which the operations were handed over. -/
theorem build_any (v : Value) (os : List MO) (w0 w : World) (hG : Gl w0) (h : OpsAt w0 v os) (hb : Below w0.heap.size w0 w) (hfit : fitsB os = true) :
    Calls Tryz.prog 28 #[v] w fun r w' => BuildPost w0 os.length r w' := by
  obtain ⟨a, c, rfl, hc, hr⟩ := h.row
  have hfew := h.few
  have HX := Lib.hid h
  have HG := Lib.hid hG
  unfold fitsB at hfit
  rw [Bool.and_eq_true, decide_eq_true_eq, List.all_eq_true] at hfit
  obtain ⟨h40, hsm⟩ := hfit
  have HSM := Lib.hid hsm
  have HP0 := Lib.hid (PlaySt.start hb)
  clear h hG hsm hb
  go_enter Tryz.func28, Tryz.ntmps28
  go_wp2_with fail
  refine (new_any w).mono ?_
  rintro r w3 ⟨rfl, hw3⟩
  rw [hw3] at HP0
  obtain ⟨M, hM⟩ : ∃ M, M = w.heap.size := ⟨_, rfl⟩
  rw [← hM] at HP0 ⊢
  clear hw3 hM
  go_wp2
  go_loopw [6, 7, 8] (fun wv ok i wr => ∃ (k : Nat) (gs : List MG) (mc : Nat) (rs : List MR), k ≤ os.length ∧ i = .int .i64 k ∧ ok = .bool true ∧ Hid (PlaySt w0 (M + 1) M gs mc wv rs k wr)) (fun _ _ i _ => os.length - (intOf i).toNat)
  case atStart => exact ⟨0, [], 0, [], by omega, rfl, rfl, HP0⟩
  case round =>
    obtain ⟨k, gs, mc, rs, hk, rfl, rfl, HP⟩ := hrel
    by_cases hlt : k < os.length
    · have hltz : (k : Int) < (os.length : Int) := by omega
      have hne : os ≠ [] := fun e => by rw [e] at hlt; cases hlt
      obtain ⟨b, off, rfl, hbl, hcell⟩ := hr hne
      obtain ⟨o1, d1⟩ := opAt_rd (w := wr) (b := b) (off := off) (os := os) (fun j hj i u hu => (HP.out.bl.cell (p := ⟨b, off + j * 40 + i, none⟩) hbl).trans (hcell j hj i u hu)) hlt
      have hmem : os[k] ∈ os := List.getElem_mem hlt
      have hsm := HSM.out _ hmem
      unfold smallB at hsm
      rw [Bool.and_eq_true, decide_eq_true_eq, decide_eq_true_eq] at hsm
      have hkind := HX.out.kind _ hmem
      have hids := HX.out.ids _ hmem
      have hnm := HX.out.names _ hmem
      have htot := HP.out.tot
      have hlen := HP.out.len
      have HD := Lib.hid (do_any w0.heap.size w0.heap.size (M + 1) M mc gs u6 rs os[k].k os[k].s os[k].m.p os[k].m.v wr hkind (HG.out.later HP.out.bl) HP.out.idx HP.out.refs HP.out.bl.size HP.out.rel HP.out.ord (by omega) ⟨hids.below HP.out.bl, by unfold maxLen; omega, Nat.le_trans hnm.2.1 (Nat.div_le_self _ _), Nat.le_trans hnm.2.2 (Nat.div_le_self _ _)⟩ (by omega) (by omega) (by omega))
      have HID := Lib.hid hids
      generalize os[k] = o at o1 d1 HD HID
      clear hsm hkind hids hnm hmem htot hlen hcell
      go_wp2_with fail
      refine HD.out.mono ?_
      rintro r w4 ⟨gs', mc', v', rs', hd⟩
      have hret := hd.ret
      subst hret
      have HP4 := Lib.hid (HP.out.next HID.out hd)
      clear hd HD HP o1 d1
      go_wp2
      go_roundw
      case rel => exact ⟨k + 1, gs', mc', rs', by omega, by go_num, rfl, HP4⟩
      case measure => simp [intOf]; omega
    · obtain rfl : k = os.length := by omega
      go_wp2
      refine bodyPost_ret (results_tmp3 rfl _ _ _) rfl ?_
      exact ⟨M + 1, M, gs, mc, _, rs, rfl, HP.out⟩

end Go.Proofs.YtdjaphcelpchaaaGreatDoor

/- bulletinlaw28.OverviewRange: the walk. -/
namespace Go.Proofs.YtdjaphcelpchaaaGreatDoor
open Go Go.RowKit Go.Proofs

attribute [local go_sem ↓] ex_load_id ex_store_id ex_load_line ex_store_line ex_load_rline ex_store_rline ex_alloc_line ex_build_line ex_alloc_rline ex_build_rline
attribute [local go_sem] ld_id st_id ld_line st_line ld_rline st_rline guard_id okCells_drew rdCells_drew okCells_drewN rdCells_drewN rowOk_drew rowOk_cells okCells_cells rdCells_cells setRow_drew setRow_new setRow_past
attribute [local go_sem] Oper.semAt_some
attribute [local go_sem ↓] exI_load_line exI_store_line exI_alloc_line exI_load_id exI_store_id exI_load_rline exI_store_rline

theorem exI_build_id3 (ro : Option Nat) (ρ : Operand → Value) (d : Option Tmp) (x0 x1 x2 : Operand) (ty : TypeId) (pos : String) (af : Array Edge) (gd : Option (Nat × Bool)) (w : World) :
    Sem.run Tryz.prog (Oper.semAt ro ρ ⟨d, .build 23 #[(0, x0), (1, x1), (2, x2)], ty, pos, af, gd⟩) w = blRes Tryz.prog 23 w #[(0, ρ x0), (1, ρ x1), (2, ρ x2)] := by
  rw [Oper.semAt_eq _ _ _ (by intro c h; cases h)]
  kernel_rfl
theorem exI_build_l2 (ro : Option Nat) (ρ : Operand → Value) (d : Option Tmp) (x0 x1 : Operand) (ty : TypeId) (pos : String) (af : Array Edge) (gd : Option (Nat × Bool)) (w : World) :
    Sem.run Tryz.prog (Oper.semAt ro ρ ⟨d, .build 34 #[(0, x0), (1, x1)], ty, pos, af, gd⟩) w = blRes Tryz.prog 34 w #[(0, ρ x0), (1, ρ x1)] := by
  rw [Oper.semAt_eq _ _ _ (by intro c h; cases h)]
  kernel_rfl
/-- The identity that the law's body makes. -/
def id3 (b : UInt8) : Id32 := ⟨[b, 1, 2, 0, 0, 0, 0, 0, 0, 0, 0, 0, 0, 0, 0, 0, 0, 0, 0, 0, 0, 0, 0, 0, 0, 0, 0, 0, 0, 0, 0, 0], rfl⟩
theorem bl_id3 (w : World) (b : UInt8) : blRes Tryz.prog 23 w #[(0, .int .u8 b.toNat), (1, .int .u8 1), (2, .int .u8 2)] = .ok (.value (.agg (encId (id3 b)).toArray)) w := by kernel_rfl
theorem bl_l2 (w : World) (n : Int) (x : Id32) : blRes Tryz.prog 34 w #[(0, .int .i64 n), (1, .agg (encId x).toArray)] = .ok (.value (.agg (lineCells { zeroLine with number := n, id := x }))) w := blRes_of (by
  show Tryz.prog.built 34 [(0, .int .i64 n), (1, .agg (encId x).toArray)] = _
  rw [built34]
  rw [fill_one_cell (off := 0) rfl rfl (by rw [lineCells_size]; omega) (set_number _ _)]
  rw [fill_cons (off := 1) (size := 32) (v := .agg (encId x).toArray) rfl (encId_size _) (by rw [lineCells_size]; omega)]
  show Instr.fill _ ((encId x).toArray.zipIdx.foldl (fun cs (c, j) => cs.setIfInBounds (1 + j) c) _) _ = _
  rw [put_id]
  rfl)
attribute [local go_sem ↓] exI_build_id3 exI_build_l2
attribute [local go_sem] bl_id3 bl_l2

/-- The law's own boxes: the group, the number of rounds, the result. -/
structure RgBox (w : World) (s : ByteArray) (st : Nat) (W : World) : Prop where
  bl : Below w.heap.size w W
  g : W.heap[w.heap.size]? = some (.cells #[.string s] 9 (0, 0))
  u : W.heap[w.heap.size + 1]? = some (.cells #[.int .u8 st] 5 (0, 0))
  r : W.heap[w.heap.size + 2]? = some (.cells #[.bool false] 4 (0, 0))
theorem RgBox.step {w : World} {s : ByteArray} {st : Nat} {W W' : World} (h : RgBox w s st W) (hb : Below W.heap.size W W') : RgBox w s st W' :=
  ⟨h.bl.trans (hb.mono h.bl.size), (hb.block _ (Array.getElem?_eq_some_iff.1 h.g).1).trans h.g, (hb.block _ (Array.getElem?_eq_some_iff.1 h.u).1).trans h.u, (hb.block _ (Array.getElem?_eq_some_iff.1 h.r).1).trans h.r⟩

theorem slots92 (t : Array Value) (h : t.size = 92) : ∃ f : Nat → Value, (∀ k, f k = t.getD k undef) ∧ t = #[f 0, f 1, f 2, f 3, f 4, f 5, f 6, f 7, f 8, f 9, f 10, f 11, f 12, f 13, f 14, f 15, f 16, f 17, f 18, f 19, f 20, f 21, f 22, f 23, f 24, f 25, f 26, f 27, f 28, f 29, f 30, f 31, f 32, f 33, f 34, f 35, f 36, f 37, f 38, f 39, f 40, f 41, f 42, f 43, f 44, f 45, f 46, f 47, f 48, f 49, f 50, f 51, f 52, f 53, f 54, f 55, f 56, f 57, f 58, f 59, f 60, f 61, f 62, f 63, f 64, f 65, f 66, f 67, f 68, f 69, f 70, f 71, f 72, f 73, f 74, f 75, f 76, f 77, f 78, f 79, f 80, f 81, f 82, f 83, f 84, f 85, f 86, f 87, f 88, f 89, f 90, f 91] := ⟨fun k => t.getD k undef, fun _ => rfl, (tmps_range t 92 h).trans rfl⟩
/-- What the slots hold in a round. -/
structure GSlots (t : Array Value) (g0 xb ob : Nat) : Prop where
  size : t.size = 92
  s4 : t.getD 4 undef = .pointer (some ⟨g0, 0, none⟩)
  s5 : t.getD 5 undef = .pointer (some ⟨g0 + 1, 0, none⟩)
  s6 : t.getD 6 undef = .pointer (some ⟨g0 + 1 + 1, 0, none⟩)
  s7 : t.getD 7 undef = .pointer (some ⟨xb, 0, none⟩)
  s10 : t.getD 10 undef = .pointer (some ⟨ob, 0, none⟩)
  s11 : t.getD 11 undef = .pointer (some ⟨ob + 1, 0, none⟩)
theorem GSlots.set {t : Array Value} {g0 xb ob : Nat} (h : GSlots t g0 xb ob) {k : Nat} (hk : 12 ≤ k) (u : Value) : GSlots (t.setIfInBounds k u) g0 xb ob :=
  ⟨by simpa using h.size, (getD_setv _ _ (by omega)).trans h.s4, (getD_setv _ _ (by omega)).trans h.s5, (getD_setv _ _ (by omega)).trans h.s6, (getD_setv _ _ (by omega)).trans h.s7, (getD_setv _ _ (by omega)).trans h.s10, (getD_setv _ _ (by omega)).trans h.s11⟩
theorem GSlots.out {t : Array Value} {g0 xb ob : Nat} (h : GSlots t g0 xb ob) : ∃ f : Nat → Value, (∀ k, f k = t.getD k undef) ∧ t = #[f 0, f 1, f 2, f 3, .pointer (some ⟨g0, 0, none⟩), .pointer (some ⟨g0 + 1, 0, none⟩), .pointer (some ⟨g0 + 1 + 1, 0, none⟩), .pointer (some ⟨xb, 0, none⟩), f 8, f 9, .pointer (some ⟨ob, 0, none⟩), .pointer (some ⟨ob + 1, 0, none⟩), f 12, f 13, f 14, f 15, f 16, f 17, f 18, f 19, f 20, f 21, f 22, f 23, f 24, f 25, f 26, f 27, f 28, f 29, f 30, f 31, f 32, f 33, f 34, f 35, f 36, f 37, f 38, f 39, f 40, f 41, f 42, f 43, f 44, f 45, f 46, f 47, f 48, f 49, f 50, f 51, f 52, f 53, f 54, f 55, f 56, f 57, f 58, f 59, f 60, f 61, f 62, f 63, f 64, f 65, f 66, f 67, f 68, f 69, f 70, f 71, f 72, f 73, f 74, f 75, f 76, f 77, f 78, f 79, f 80, f 81, f 82, f 83, f 84, f 85, f 86, f 87, f 88, f 89, f 90, f 91] := by
  obtain ⟨f, hf, hft⟩ := slots92 t h.size
  refine ⟨f, hf, ?_⟩
  have e4 := (hf 4).trans h.s4
  have e5 := (hf 5).trans h.s5
  have e6 := (hf 6).trans h.s6
  have e7 := (hf 7).trans h.s7
  have e10 := (hf 10).trans h.s10
  have e11 := (hf 11).trans h.s11
  rw [← e4, ← e5, ← e6, ← e7, ← e10, ← e11]
  exact hft

theorem range_all0 {ms : List ML} (h : ∀ m ∈ ms, pErr m.p = 0) : rangeP ms 0 1099511627776 = ms.map (·.p) := by
  unfold rangeP
  rw [List.filter_eq_self]
  intro p hp
  obtain ⟨m, hm, rfl⟩ := List.mem_map.1 hp
  have := num_range (h m hm)
  rw [decide_eq_true_eq]
  omega
/-- Between two rounds: the index goes its own way; all else lies as it lay. -/
structure RgI (b0 : Nat) (W8 : World) (kb ib M : Nat) (gs0 : List MG) (B n T : Nat) (gs : List MG) (mc : Nat) (X : World) : Prop where
  idx : IdxAt b0 X ib M gs mc
  kept : Kept (kb :: foot ib M gs0) W8 X
  foot : ∀ k ∈ Go.Proofs.YtdjaphcelpchaaaGreatDoor.foot ib M gs, k ∈ Go.Proofs.YtdjaphcelpchaaaGreatDoor.foot ib M gs0 ∨ B ≤ k
  refs : ∀ t, ∀ m ∈ linesIn gs t, ∀ k, m.v.ownBlock = some k → k < W8.heap.size ∨ B ≤ k
  cell : X.heap[kb]? = some (.cells #[.int .i64 n] 3 (0, 0))
  tot : total gs ≤ T
theorem IdxAt.keep' {B : Nat} {w w' : World} {ib M mc : Nat} {gs : List MG} (h : IdxAt B w ib M gs mc) (hf : ∀ k ∈ foot ib M gs, w'.heap[k]? = w.heap[k]?) (hr : ∀ t, ∀ m ∈ linesIn gs t, ∀ k, m.v.ownBlock = some k → w'.heap[k]? = w.heap[k]?) : IdxAt B w' ib M gs mc :=
  h.keep hf fun G hG m hm k hk => hr G.name m (by rw [linesIn_of h hG]; exact hm) k hk
theorem IdxAt.ref_lt {B : Nat} {w : World} {ib M mc : Nat} {gs : List MG} (h : IdxAt B w ib M gs mc) {t : ByteArray} {m : ML} (hm : m ∈ linesIn gs t) {k : Nat} (hk : m.v.ownBlock = some k) : k < w.heap.size := (((h.lines t).refs m hm).lt hk).2
theorem RgI.beside {b0 : Nat} {W8 : World} {kb ib M : Nat} {gs0 : List MG} {mc0 : Nat} {B n T : Nat} {gs : List MG} {mc : Nat} {X Y : World} (h : RgI b0 W8 kb ib M gs0 B n T gs mc X) (h8 : IdxAt b0 W8 ib M gs0 mc0) (hk : kb < W8.heap.size) (hb : Beside W8.heap.size B X Y) : RgI b0 W8 kb ib M gs0 B n T gs mc Y where
  idx := h.idx.keep' (fun k hk' => hb.block k (h.idx.foot_lt k hk').2 (by
    rcases h.foot k hk' with h1 | h1
    · exact .inl (h8.foot_lt k h1).2
    · exact .inr h1)) (fun t m hm k hk' => hb.block k (h.idx.ref_lt hm hk') (h.refs t m hm k hk'))
  kept := ⟨hb.os.trans h.kept.os, hb.tape.trans h.kept.tape, hb.output.trans h.kept.output, Nat.le_trans h.kept.size hb.size, fun k hk' hn => (hb.block k (Nat.lt_of_lt_of_le hk' h.kept.size) (.inl hk')).trans (h.kept.block k hk' hn)⟩
  foot := h.foot
  refs := h.refs
  cell := (hb.block kb (Nat.lt_of_lt_of_le hk h.kept.size) (.inl hk)).trans h.cell
  tot := h.tot
theorem RgI.later {b0 : Nat} {W8 : World} {kb ib M : Nat} {gs0 : List MG} {B n T : Nat} {gs : List MG} {mc : Nat} {X Y : World} (h : RgI b0 W8 kb ib M gs0 B n T gs mc X) (hb : Below X.heap.size X Y) : RgI b0 W8 kb ib M gs0 B n T gs mc Y where
  idx := h.idx.below hb
  kept := h.kept.trans (Kept.of_below (F := []) hb) (fun _ hk => by cases hk)
  foot := h.foot
  refs := h.refs
  cell := (hb.block kb (Array.getElem?_eq_some_iff.1 h.cell).1).trans h.cell
  tot := h.tot
theorem RgI.kb_out {b0 : Nat} {W8 : World} {kb ib M : Nat} {gs0 : List MG} {B n T : Nat} {gs : List MG} {mc : Nat} {X : World} (h : RgI b0 W8 kb ib M gs0 B n T gs mc X) : kb ∉ Go.Proofs.YtdjaphcelpchaaaGreatDoor.foot ib M gs := h.idx.not_op (by decide) h.cell
theorem RgI.count {b0 : Nat} {W8 : World} {kb ib M : Nat} {gs0 : List MG} {B n T : Nat} {gs : List MG} {mc : Nat} {X : World} (h : RgI b0 W8 kb ib M gs0 B n T gs mc X) : RgI b0 W8 kb ib M gs0 B (n + 1) T gs mc (X.setCell ⟨kb, 0, none⟩ (.int .i64 ((n : Int) + 1))) := by
  have ho : ∀ k, k ≠ kb → (X.setCell ⟨kb, 0, none⟩ (.int .i64 ((n : Int) + 1))).heap[k]? = X.heap[k]? := fun k hk => heap_setCell_other X ⟨kb, 0, none⟩ k _ hk
  have hsz : (X.setCell ⟨kb, 0, none⟩ (.int .i64 ((n : Int) + 1))).heap.size = X.heap.size := by simp
  refine ⟨h.idx.keep' (fun k hk => ho k fun e => h.kb_out (e ▸ hk)) (fun t m hm k hk => ho k fun e => ?_), ⟨h.kept.os, h.kept.tape, h.kept.output, by rw [hsz]; exact h.kept.size, fun k hk hn => (ho k fun e => hn (by rw [e]; simp)).trans (h.kept.block k hk hn)⟩, h.foot, h.refs, ?_, h.tot⟩
  · obtain ⟨c, hc⟩ := ((h.idx.lines t).refs m hm).typed hk
    rw [e, h.cell] at hc
    exact absurd (cells_ty hc) (by decide)
  · rw [heap_setCell_same X kb 0 _ _ _ h.cell]
    simp
theorem RgI.removed {b0 : Nat} {W8 : World} {kb ib M : Nat} {gs0 : List MG} {B n T : Nat} {gs : List MG} {mc : Nat} {X X' : World} (h : RgI b0 W8 kb ib M gs0 B n T gs mc X) (hB8 : W8.heap.size ≤ B) (hB : B ≤ X.heap.size) {s : ByteArray} {z : Int} {r : Ending} (hp : RemovePost b0 ib M gs s z X r X') : (∃ gs' mc', RgI b0 W8 kb ib M gs0 B n T gs' mc' X') ∧ Kept (Go.Proofs.YtdjaphcelpchaaaGreatDoor.foot ib M gs) X X' := by
  rcases hp with ⟨_, _, hb⟩ | ⟨i, m, hi, _, _, gs', mc', hr⟩
  · exact ⟨⟨gs, mc, h.later hb⟩, Kept.of_below hb⟩
  · refine ⟨⟨gs', mc', hr.idx, h.kept.trans hr.kept fun k hk => ?_, fun k hk => ?_, fun t y hy k hk => ?_, (hr.kept.block kb (Array.getElem?_eq_some_iff.1 h.cell).1 h.kb_out).trans h.cell, by have := hr.tot; have := h.tot; omega⟩, hr.kept⟩
    · rcases h.foot k hk with h1 | h1
      · exact .inl (List.mem_cons_of_mem _ h1)
      · exact .inr (by omega)
    · rcases hr.foot k hk with h1 | h1
      · exact h.foot k h1
      · exact .inr (by omega)
    · rw [hr.lines t] at hy
      split at hy
      · exact h.refs s y (List.mem_of_mem_eraseIdx hy) k hk
      · exact h.refs t y hy k hk
theorem RgI.added {b0 : Nat} {W8 : World} {kb ib M : Nat} {gs0 : List MG} {B n T : Nat} {gs : List MG} {mc : Nat} {X X' : World} (h : RgI b0 W8 kb ib M gs0 B n T gs mc X) (hB8 : W8.heap.size ≤ B) (hB : B ≤ X.heap.size) {s : ByteArray} {p : PLine} {r : Ending} (hp : AddPost b0 ib M gs s p X r X') : (∃ gs' mc', RgI b0 W8 kb ib M gs0 B n (T + 1) gs' mc' X') ∧ Kept (Go.Proofs.YtdjaphcelpchaaaGreatDoor.foot ib M gs) X X' := by
  rcases hp.2 with ⟨_, hb⟩ | ⟨_, gs', mc', hr⟩
  · have h1 := h.later hb
    exact ⟨⟨gs, mc, h1.idx, h1.kept, h1.foot, h1.refs, h1.cell, by have := h1.tot; omega⟩, Kept.of_below hb⟩
  · obtain ⟨v, hv, hl⟩ := hr.lines
    refine ⟨⟨gs', mc', hr.idx, h.kept.trans hr.kept fun k hk => ?_, fun k hk => ?_, fun t y hy k hk => ?_, (hr.kept.block kb (Array.getElem?_eq_some_iff.1 h.cell).1 h.kb_out).trans h.cell, by have := hr.tot; have := h.tot; omega⟩, hr.kept⟩
    · rcases h.foot k hk with h1 | h1
      · exact .inl (List.mem_cons_of_mem _ h1)
      · exact .inr (by omega)
    · rcases hr.foot k hk with h1 | h1
      · exact h.foot k h1
      · exact .inr (by omega)
    · rw [hl t] at hy
      split at hy
      · rcases addMs_mem.1 hy with rfl | hy
        · have := hv k hk
          exact .inr (by omega)
        · exact h.refs s y hy k hk
      · exact h.refs t y hy k hk
/-- What a step of the index leaves of the iterator's blocks. -/
theorem RgI.out {b0 : Nat} {W8 : World} {kb ib M : Nat} {gs0 : List MG} {mc0 : Nat} {B n T : Nat} {gs : List MG} {mc : Nat} {X X' : World} (h : RgI b0 W8 kb ib M gs0 B n T gs mc X) (h8 : IdxAt b0 W8 ib M gs0 mc0) (hB : B ≤ X.heap.size) (hk : Kept (Go.Proofs.YtdjaphcelpchaaaGreatDoor.foot ib M gs) X X') {k : Nat} (h1 : W8.heap.size ≤ k) (h2 : k < B) : X'.heap[k]? = X.heap[k]? :=
  hk.block k (by omega) fun hf => by
    rcases h.foot k hf with h3 | h3
    · have := (h8.foot_lt k h3).2; omega
    · omega
theorem RgI.hold {b0 : Nat} {W8 : World} {kb ib M : Nat} {gs0 : List MG} {mc0 : Nat} {B n T : Nat} {gs : List MG} {mc : Nat} {X : World} (h : RgI b0 W8 kb ib M gs0 B n T gs mc X) (h8 : IdxAt b0 W8 ib M gs0 mc0) {k : Nat} {cur : Array Value} {ty : TypeId} (ht : ty ≠ 104 ∧ ty ≠ 115 ∧ ty ≠ 34) (hk : k ≠ kb) (hc : W8.heap[k]? = some (.cells cur ty (0, 0))) : X.heap[k]? = some (.cells cur ty (0, 0)) :=
  (h.kept.block k (Array.getElem?_eq_some_iff.1 hc).1 (fun hm => by
    rcases List.mem_cons.1 hm with h1 | h1
    · exact hk h1
    · exact h8.not_op ht hc h1)).trans hc
/-- Ahead of a round's body. -/
structure RgAx (n0 : Nat) (T : List PLine) (b0 : Nat) (W8 : World) (g0 xb ob ib M : Nat) (gs0 : List MG) (B : Nat) (pre : List ML) (x : ML) (a : Act) (X : World) : Prop where
  cnt : ∃ gs mc, RgI b0 W8 (ob + 1) ib M gs0 B pre.length (40 + pre.length) gs mc X ∧ ∃ yb, LineVar X yb x.g ∧ W8.heap.size + 2 ≤ yb ∧ yb ∉ foot ib M gs ∧ a.tmps.getD 12 undef = .pointer (some ⟨yb, 0, none⟩)
  gd : GdL T (W8.heap.size + 2) B pre x X
  sl : GSlots a.tmps g0 xb ob
  df : a.defers = []
  bB : W8.heap.size + 2 ≤ B
  le : pre.length ≤ n0

set_option maxRecDepth 100000 in
set_option maxHeartbeats 8000000 in
theorem law_range (v : Value) (os : List MO) (s : ByteArray) (st : Nat) (w : World) (hG : Gl w) (h : OpsAt w v os) (hs : s.size ≤ maxLen) (hst : st < 256) :
    Calls Tryz.prog 6 #[v, .string s, .int .u8 st] w fun r w' => r = .returned (.bool true) ∧ Below w.heap.size w w' := by
  obtain ⟨W0, hW0⟩ : ∃ W0, W0 = ((w.alloc (.cells #[.string s] 9)).alloc (.cells #[.int .u8 st] 5)).alloc (.cells #[.bool false] 4) := ⟨_, rfl⟩
  have hb0 : Below w.heap.size w W0 := by rw [hW0]; exact (((Below.refl _ _).alloc (Nat.le_refl _) _).alloc (by simp) _).alloc (by simp; omega) _
  have hx0 : RgBox w s st W0 := by
    refine ⟨hb0, ?_, ?_, ?_⟩
    · rw [hW0, heap_alloc_old _ _ (by simp; omega), heap_alloc_old _ _ (by simp), heap_alloc_new]
    · rw [hW0, heap_alloc_old _ _ (by simp)]
      have := heap_alloc_new (w.alloc (.cells #[.string s] 9)) (.cells #[.int .u8 st] 5)
      simpa using this
    · have := heap_alloc_new ((w.alloc (.cells #[.string s] 9)).alloc (.cells #[.int .u8 st] 5)) (.cells #[.bool false] 4)
      rw [hW0]
      simpa using this
  obtain ⟨va, vn, vc, hve⟩ : ∃ a n c, v = .slice a n c := by obtain ⟨a, c, e, _⟩ := h.row; exact ⟨a, _, c, e⟩
  subst hve
  have HX := Lib.hid h
  have HG := Lib.hid hG
  have HB0 := Lib.hid hx0
  clear h hG hb0 hx0
  refine (callsIn_wide (n := 3)).1 (callsIn_of_wp_marks Tryz.func6 rfl trivial ?_ rfl)
  simp only [Tryz.ntmps6, List.size_toArray, List.length_cons, List.length_nil, Nat.reduceAdd, Nat.reduceSub, Array.replicate_succ, Array.replicate_zero, List.push_toArray, List.append_toArray, List.nil_append, List.cons_append]
  refine wpIn_wide.2 ?_
  go_wp2_with fail
  rw [← hW0]
  clear hW0
  refine (knows W0 (HG.out.later HB0.out.bl)).mono ?_
  rintro r w1 ⟨rfl, hb1⟩
  have HB1 := Lib.hid (HB0.out.step hb1)
  have HF := Lib.hid (fits_any _ os w1 (HX.out.below HB1.out.bl))
  clear hb1 HB0
  go_wp2_with fail
  refine HF.out.mono ?_
  rintro r w2 ⟨rfl, hb2⟩
  have HB2 := Lib.hid (HB1.out.step hb2)
  clear hb2 HF HB1
  have hcs := cell_of_row w2 w.heap.size 0 _ _ _ HB2.out.g
  have hno : ∀ (W : World), RgBox w s st W → W.cell? ⟨w.heap.size + 2, 0, none⟩ = some (.bool false) ∧ W.frozen? ⟨w.heap.size + 2, 0, none⟩ = false := fun W h => ⟨cell_of_row W (w.heap.size + 2) 0 _ _ _ h.r, frozen_of_row W (w.heap.size + 2) 0 _ _ h.r⟩
  have HNO := Lib.hid hno
  clear hno
  unfold maxLen at hs
  cases hfit : fitsB os with
  | false =>
    clear hfit
    go_wp2_with fail
    refine (knows w2 (HG.out.later HB2.out.bl)).mono ?_
    rintro r w3 ⟨rfl, hb3⟩
    have HB3 := Lib.hid (HB2.out.step hb3)
    obtain ⟨k1, k2⟩ := HNO.out w3 HB3.out
    clear hb3 hcs
    go_wp2
    have hC := heap_setCell_same w3 (w.heap.size + 2) 0 _ _ (.bool true) HB3.out.r
    have hc5 := cell_of_row _ (w.heap.size + 2) 0 _ _ _ hC
    refine ⟨.bool true, ?_, rfl, HB3.out.bl.setCell (p := ⟨w.heap.size + 2, 0, none⟩) (by simp) _⟩
    exact results_cell1' Tryz.results6 Tryz.isAgg4 _ _ ⟨w.heap.size + 2, 0, none⟩ _ rfl hc5
  | true =>
    by_cases h200 : 200 < s.size
    · have h200z : (200 : Int) < (s.size : Int) := by omega
      go_wp2_with fail
      refine (knows w2 (HG.out.later HB2.out.bl)).mono ?_
      rintro r w3 ⟨rfl, hb3⟩
      have HB3 := Lib.hid (HB2.out.step hb3)
      obtain ⟨k1, k2⟩ := HNO.out w3 HB3.out
      clear hb3 hcs
      go_wp2
      have hC := heap_setCell_same w3 (w.heap.size + 2) 0 _ _ (.bool true) HB3.out.r
      have hc5 := cell_of_row _ (w.heap.size + 2) 0 _ _ _ hC
      refine ⟨.bool true, ?_, rfl, HB3.out.bl.setCell (p := ⟨w.heap.size + 2, 0, none⟩) (by simp) _⟩
      exact results_cell1' Tryz.results6 Tryz.isAgg4 _ _ ⟨w.heap.size + 2, 0, none⟩ _ rfl hc5
    · have h200z : ¬ (200 : Int) < (s.size : Int) := by omega
      have HBU := Lib.hid (build_any _ os w2 w2 (HG.out.later HB2.out.bl) (HX.out.below HB2.out.bl) (Below.refl _ _) hfit)
      have h40 : os.length ≤ 40 := by
        unfold fitsB at hfit
        rw [Bool.and_eq_true, decide_eq_true_eq] at hfit
        exact hfit.1
      clear hfit
      go_wp2_with fail
      refine HBU.out.mono ?_
      rintro r w3 ⟨ib, M, gs, mc, v', rs, rfl, hp⟩
      obtain ⟨xa, xn, xc, hve⟩ : ∃ a n c, v' = .slice a n c := own_slice hp.refs.row
      subst hve
      obtain ⟨Wa, hWa⟩ : ∃ Wa, Wa = w3.alloc (.cells #[.pointer (some ⟨ib, 0, none⟩)] 47) := ⟨_, rfl⟩
      have hba : Below w3.heap.size w3 Wa := by rw [hWa]; exact (Below.refl _ _).alloc (Nat.le_refl _) _
      have HXB : Hid (Wa.heap[w3.heap.size]? = some (.cells #[.pointer (some ⟨ib, 0, none⟩)] 47 (0, 0))) := Lib.hid (by rw [hWa]; exact heap_alloc_new _ _)
      have HPa := Lib.hid (hp.later hba)
      have HBa := Lib.hid ((HB2.out.step hp.bl).step hba)
      have HOF := Lib.hid (of_any w2.heap.size (.slice xa xn xc) rs s Wa HPa.out.refs)
      have hcs2 := cell_of_row Wa w.heap.size 0 _ _ _ HBa.out.g
      obtain ⟨xb, hxb⟩ : ∃ xb, xb = w3.heap.size := ⟨_, rfl⟩
      rw [hWa] at hcs2
      clear hp hba HBU hcs
      go_wp2_with fail
      rw [← hWa]
      rw [← hxb] at HXB ⊢
      clear hWa hcs2 hxb
      refine HOF.out.mono ?_
      rintro r w4 ⟨lv, rfl, hlv, hb4⟩
      obtain ⟨la, lc, hle⟩ : ∃ a c, lv = .slice a (ofR rs s).length c := by
        rcases hlv.head with ⟨e, h0⟩ | ⟨g', cap', _, e, _⟩
        · exact ⟨none, 0, by rw [e, h0]; rfl⟩
        · exact ⟨_, _, e⟩
      subst hle
      obtain ⟨W6, hW6⟩ : ∃ W6, W6 = (w4.alloc (.cells #[.slice la (ofR rs s).length lc] 49)).alloc (.cells #[.int .i64 0] 3) := ⟨_, rfl⟩
      have hb6 : Below w4.heap.size w4 W6 := by rw [hW6]; exact ((Below.refl _ _).alloc (Nat.le_refl _) _).alloc (by simp) _
      have hs6 : W6.heap.size = w4.heap.size + 2 := by rw [hW6]; simp
      have HLB : Hid (W6.heap[w4.heap.size]? = some (.cells #[.slice la (ofR rs s).length lc] 49 (0, 0))) := Lib.hid (by rw [hW6, heap_alloc_old _ _ (by simp), heap_alloc_new])
      have HKB : Hid (W6.heap[w4.heap.size + 1]? = some (.cells #[.int .i64 0] 3 (0, 0))) := Lib.hid (by
        have := heap_alloc_new (w4.alloc (.cells #[.slice la (ofR rs s).length lc] 49)) (.cells #[.int .i64 0] 3)
        rw [hW6]
        simpa using this)
      have hb46 : Below Wa.heap.size Wa W6 := hb4.trans (hb6.mono hb4.size)
      have HB6 := Lib.hid (HBa.out.step hb46)
      have HBa' := HBa
      have hb4s : Wa.heap.size ≤ w4.heap.size := hb4.size
      have HPa' : Hid (w2.heap.size ≤ w4.heap.size) := Lib.hid (Nat.le_trans HPa.out.bl.size hb4.size)
      have HP6 := Lib.hid (HPa.out.later hb46)
      have HXB6 : Hid (W6.heap[xb]? = some (.cells #[.pointer (some ⟨ib, 0, none⟩)] 47 (0, 0))) := Lib.hid ((hb46.block xb (Array.getElem?_eq_some_iff.1 HXB.out).1).trans HXB.out)
      have HLV6 := Lib.hid (hlv.below hb6)
      have q1 := cell_of_row W6 w.heap.size 0 _ _ _ HB6.out.g
      have q2 := cell_of_row W6 xb 0 _ _ _ HXB6.out
      have HS6 := Lib.hid hs6
      have hofl : (ofR rs s).length ≤ 100000 := by unfold ofR; exact Nat.le_trans (List.length_filter_le _ _) HPa.out.refs.few
      rw [hW6] at q1 q2
      clear hb4 hb6 hs6 hb46 HOF HXB HPa HBa hlv
      go_wp2_with fail
      rw [← hW6]
      clear hW6 q1 q2
      refine (range_call (some ⟨ib, 0, none⟩) s 0 1099511627776 W6).mono ?_
      rintro r W8 ⟨rfl, hW8⟩
      have hb8 : Below W6.heap.size W6 W8 := by rw [← hW8]; exact ((((Below.refl _ _).alloc (Nat.le_refl _) _).alloc (by simp) _).alloc (by simp; omega) _).alloc (by simp; omega) _
      have c0 : W8.cell? ⟨W6.heap.size, 0, none⟩ = some (.pointer (some ⟨ib, 0, none⟩)) := by
        rw [← hW8]; exact Lib.cell?_alloc_some _ (Lib.cell?_alloc_some _ (Lib.cell?_alloc_some _ (cells_new W6 _ _ 0)))
      have c1 : W8.cell? ⟨W6.heap.size + 1, 0, none⟩ = some (.string s) := by
        rw [← hW8]; exact Lib.cell?_alloc_some _ (Lib.cell?_alloc_some _ (by simp))
      have c2 : W8.cell? ⟨W6.heap.size + 1 + 1, 0, none⟩ = some (.int .i64 0) := by
        rw [← hW8]; exact Lib.cell?_alloc_some _ (by simpa using cells_new ((W6.alloc (.cells #[.pointer (some ⟨ib, 0, none⟩)] 47)).alloc (.cells #[.string s] 9)) #[.int .i64 0] 3 0)
      have c3 : W8.cell? ⟨W6.heap.size + 1 + 1 + 1, 0, none⟩ = some (.int .i64 1099511627776) := by
        rw [← hW8]; simpa using cells_new (((W6.alloc (.cells #[.pointer (some ⟨ib, 0, none⟩)] 47)).alloc (.cells #[.string s] 9)).alloc (.cells #[.int .i64 0] 3)) #[.int .i64 1099511627776] 3 0
      have HC := Lib.hid (And.intro c0 (And.intro c1 (And.intro c2 c3)))
      have HB8 := Lib.hid (HB6.out.step hb8)
      have HP8 := Lib.hid (HP6.out.later hb8)
      have HXB8 : Hid (W8.heap[xb]? = some (.cells #[.pointer (some ⟨ib, 0, none⟩)] 47 (0, 0))) := Lib.hid ((hb8.block xb (Array.getElem?_eq_some_iff.1 HXB6.out).1).trans HXB6.out)
      have HLB8 : Hid (W8.heap[w4.heap.size]? = some (.cells #[.slice la (ofR rs s).length lc] 49 (0, 0))) := Lib.hid ((hb8.block _ (by rw [HS6.out]; omega)).trans HLB.out)
      have HKB8 : Hid (W8.heap[w4.heap.size + 1]? = some (.cells #[.int .i64 0] 3 (0, 0))) := Lib.hid ((hb8.block _ (by rw [HS6.out]; omega)).trans HKB.out)
      have HLV8 := Lib.hid (HLV6.out.below hb8)
      have hwob0 : w.heap.size + 2 < w4.heap.size := Nat.lt_of_lt_of_le (Array.getElem?_eq_some_iff.1 HBa'.out.r).1 hb4s
      have hwob1 : w2.heap.size ≤ w4.heap.size + 1 := by have := HPa'.out; omega
      obtain ⟨ob, hob⟩ : ∃ ob, ob = w4.heap.size := ⟨_, rfl⟩
      obtain ⟨n6, hn6⟩ : ∃ n6, n6 = W6.heap.size := ⟨_, rfl⟩
      rw [← hob] at HKB8 HLB8 HS6 hwob0 hwob1 ⊢
      rw [← hn6] at HC HS6 ⊢
      clear hW8 hb8 c0 c1 c2 c3 HB6 HP6 HXB6 HKB HLB HLV6 hob hn6
      go_wp2_with fail
      refine name_act fun a8 ha8 => ?_
      have hsl : GSlots a8.tmps w.heap.size xb ob := by rw [ha8]; exact ⟨rfl, rfl, rfl, rfl, rfl, rfl, rfl⟩
      have HSL := Lib.hid hsl
      have HA8 := Lib.hid ha8
      have he39 : a8.eval (.tmp 39) = .func (.func 67) #[] #[.pointer (some ⟨n6, 0, none⟩), .pointer (some ⟨n6 + 1, 0, none⟩), .pointer (some ⟨n6 + 1 + 1, 0, none⟩), .pointer (some ⟨n6 + 1 + 1 + 1, 0, none⟩)] := by rw [ha8]; rfl
      have hkbl : ob + 1 < W8.heap.size := (Array.getElem?_eq_some_iff.1 HKB8.out).1
      have HX8 := Lib.hid HP8.out.idx
      have HWO : Hid (w.heap.size + 2 < ob) := Lib.hid hwob0
      have HWB : Hid (w2.heap.size ≤ ob + 1) := Lib.hid hwob1
      clear hsl ha8
      have HRT : Hid (rangeP (linesIn gs s) 0 1099511627776 = (ofR rs s).map (·.m.p)) := Lib.hid (by
        rw [← rel_lines HX8.out HP8.out.rel HP8.out.ord s]
        exact range_all0 fun m hm => HX8.out.good_in hm)
      have HI0 : Hid (∀ X, Below W8.heap.size W8 X → W8.heap.size + 2 ≤ X.heap.size → RgI w2.heap.size W8 (ob + 1) ib M gs X.heap.size 0 40 gs mc X) := Lib.hid fun X hb _ => ⟨HX8.out.below hb, Kept.of_below hb, fun k hk => .inl hk, fun t m hm k hk => .inl (HX8.out.ref_lt hm hk), (hb.block _ hkbl).trans HKB8.out, Nat.le_trans HP8.out.tot h40⟩
      refine (wpIn_wide (n := 3)).1 (wpIn_rangeFunc_guard (F := Fence.wide) rfl (by omega) (gf := 67) he39 trivial (enters_of Tryz.func67 (by kernel_rfl) rfl) (encs := fun x : ML => #[.agg (lineCells x.g)]) (Gd := GdL (rangeP (linesIn gs s) 0 1099511627776)) (Kp := KpL) (S := fun xs => xs.map (·.p) = rangeP (linesIn gs s) 0 1099511627776)
        (fun W' hb' hs' => rangeSeq_any _ _ _ _ _ w2.heap.size ib M mc gs s 0 1099511627776 W' ((hb'.cell (block_lt_of_cell HC.out.1)).trans HC.out.1) ((hb'.cell (block_lt_of_cell HC.out.2.1)).trans HC.out.2.1) ((hb'.cell (block_lt_of_cell HC.out.2.2.1)).trans HC.out.2.2.1) ((hb'.cell (block_lt_of_cell HC.out.2.2.2)).trans HC.out.2.2.2) (HX8.out.below hb'))
        ?kl ?kr (fun _ => rfl) (fun B pre X => pre.length ≤ st ∧ ∃ gs' mc', RgI w2.heap.size W8 (ob + 1) ib M gs B pre.length (40 + pre.length) gs' mc' X) (fun c B pre X => c = .exit 0 ∧ B ≤ X.heap.size ∧ pre.length = st + 1 ∧ pre.length ≤ (ofR rs s).length ∧ ∃ gs' mc', RgI w2.heap.size W8 (ob + 1) ib M gs B pre.length (40 + pre.length) gs' mc' X) (fun B pre X Y ⟨h1, gs', mc', hi⟩ _ _ hb => ⟨h1, gs', mc', hi.beside HX8.out hkbl hb⟩) (fun c B pre X Y ⟨h1, h2, h3, h4, gs', mc', hi⟩ _ _ hb => ⟨h1, Nat.le_trans h2 hb.size, h3, h4, gs', mc', hi.beside HX8.out hkbl hb⟩) (fun X hb h2 => ⟨Nat.zero_le _, gs, mc, HI0.out X hb h2⟩)
        (RgAx st (rangeP (linesIn gs s) 0 1099511627776) w2.heap.size W8 w.heap.size xb ob ib M gs) ?assign ?hax ?ka ?body ?done ?stop (fun _ _ _ _ h => h.2.1))
      case kl =>
        rintro B x X Y Z l o h1 h2 hk rfl
        have hsz : (X.putObj l o).heap.size = X.heap.size := by simp [World.putObj]
        exact ⟨by have := hk.1; omega, fun k hA hB hne => (hk.2 k hA hB hne).trans (World.putObj_heap_other (by omega))⟩
      case kr =>
        rintro B x X Y l o h1 h2 hk
        have hsz : (Y.putObj l o).heap.size = Y.heap.size := by simp [World.putObj]
        exact ⟨by have := hk.1; omega, fun k hA hB hne => (World.putObj_heap_other (by omega)).trans (hk.2 k hA hB hne)⟩
      case ka =>
        rintro B x X Y Z hb hBX hk
        exact ⟨Nat.le_trans hb.size hk.1, fun k hA hB hne => (hk.2 k hA hB hne).trans (hb.block k (by omega))⟩
      case hax =>
        rintro B pre x a' X l o ⟨⟨gs', mc', h1, yb, h5, h6, hyf, h7⟩, h2, h3, h4, h8, h9⟩ hl1 hl2
        have hbs2 : Beside W8.heap.size B X (X.putObj l o) := Beside.putObj X l o ⟨hl1, by omega⟩
        refine ⟨⟨gs', mc', h1.beside HX8.out hkbl hbs2, yb, (World.putObj_heap_other (by omega)).trans h5, h6, hyf, h7⟩, ⟨h2.here, h2.past, h2.refs.block fun k hk => World.putObj_heap_other (by have := (h2.refs.lt hk).1; omega), h2.lt⟩, h3, h4, h8, h9⟩
      case assign =>
        intro l B pre x X K hi hB hBX hgd hK
        have hsl2 : GSlots (a8.tmps.setIfInBounds 40 (.agg (lineCells x.g))) w.heap.size xb ob := HSL.out.set (by omega) _
        have h40' : (a8.tmps.setIfInBounds 40 (.agg (lineCells x.g))).getD 40 undef = .agg (lineCells x.g) := by
          have := HSL.out.size
          simp [this]
        rw [foldl_one]
        generalize a8.tmps.setIfInBounds 40 (.agg (lineCells x.g)) = t40 at hsl2 h40'
        obtain ⟨f', hf', hft⟩ := hsl2.out
        have h40'' : f' 40 = .agg (lineCells x.g) := (hf' 40).trans h40'
        rw [hft, h40'']
        have hone := hgd.refs.one
        have hft2 := fits_line (g := x.g) hone
        have hzs : ((lineCells zeroLine).size == 38) = true := by rw [lineCells_size]; rfl
        have HK := Lib.hid hK
        have HI8 := Lib.hid hi
        have HGD := Lib.hid hgd
        clear hK hi hgd hft hf' h40' h40'' hsl2
        gi_wp2
        have hba : Below X.heap.size X (X.alloc (.cells (lineCells x.g) 34)) := (Below.refl _ _).alloc (Nat.le_refl _) _
        obtain ⟨hle, gs', mc', hi⟩ := HI8.out
        refine HK.out _ _ ⟨⟨gs', mc', hi.later hba, X.heap.size, heap_alloc_new _ _, by omega, fun hf => by have := (hi.idx.foot_lt _ hf).2; omega, rfl⟩, HGD.out.below hba, ⟨rfl, rfl, rfl, rfl, rfl, rfl, rfl⟩, rfl, hB, hle⟩ hba
      case body =>
        rintro l B pre x a' X rfl hB hBX ⟨⟨gsX, mcX, hcnt, yb, hyv, hyb, hyf, h12⟩, hgd, hsl, hdf, hBB, hple⟩
        obtain ⟨tm, df⟩ := a'
        obtain rfl : df = [] := hdf
        obtain ⟨f', hf', hft⟩ := hsl.out
        have h12' : f' 12 = .pointer (some ⟨yb, 0, none⟩) := (hf' 12).trans h12
        simp only at hft
        rw [h12'] at hft
        subst hft
        clear hf' h12 h12' hsl
        have hhere := hgd.here
        rw [HRT.out, List.getElem?_map] at hhere
        obtain ⟨r0, hr0, hr0p⟩ := Option.map_eq_some_iff.1 hhere
        obtain ⟨hkl, hgk⟩ := List.getElem?_eq_some_iff.1 hr0
        have hr0m : r0 ∈ rs ∧ r0.s = s := ofR_mem.1 (List.mem_of_getElem? hr0)
        have hgood : pErr x.p = 0 := by
          obtain ⟨m, hm, he⟩ := (HP8.out.rel s r0.m.p).2 ⟨r0, hr0m.1, hr0m.2, rfl⟩
          rw [← hr0p, ← he]
          exact HX8.out.good_in hm
        have hrl := refs_len hgood
        have hnr := num_range hgood
        have hold : ∀ (k : Nat) (cur : Array Value) (ty : TypeId), (ty ≠ 104 ∧ ty ≠ 115 ∧ ty ≠ 34) → k ≠ ob + 1 → W8.heap[k]? = some (.cells cur ty (0, 0)) → X.heap[k]? = some (.cells cur ty (0, 0)) := fun k cur ty ht hk h8 => (hcnt.kept.block k (Array.getElem?_eq_some_iff.1 h8).1 (fun hm => by
          rcases List.mem_cons.1 hm with h1 | h1
          · exact hk h1
          · exact HX8.out.not_op ht h8 h1)).trans h8
        have hwob : w.heap.size + 2 < ob := HWO.out
        have hxbo : xb ≠ ob + 1 := by
          intro e
          have h1 := HXB8.out
          rw [e, HKB8.out] at h1
          exact absurd (cells_ty h1) (by decide)
        have hI0 : IdsAt X r0.m.v x.p.ids := by
          rw [← hr0p]
          exact (HP8.out.ids r0 hr0m.1).below (HP8.out.bl.trans (hcnt.kept.below HP8.out.bl.size (fun k hk => by
            rcases List.mem_cons.1 hk with h1 | h1
            · rw [h1]; exact HWB.out
            · exact (HX8.out.foot_lt k h1).1)))
        rcases HLV8.out.head with ⟨_, e0⟩ | ⟨lg, lcap, cur, hlve, hlB, hll8, hlle, _, hlcur, hlcell⟩
        · rw [e0] at hkl; cases hkl
        cases hlve
        have hlgo : lg ≠ ob + 1 := by
          intro e
          rw [e, HKB8.out] at hlcur
          exact absurd (cells_ty hlcur) (by decide)
        have hlXb := hold lg cur _ (by decide) hlgo hlcur
        have hlX : ∀ j u, (flatR (ofR rs s))[j]? = some u → X.cell? ⟨lg, j, none⟩ = some u := fun j u hu => (cell_of_same (a := ⟨lg, j, none⟩) (hlXb.trans hlcur.symm)).trans (hlcell j u hu)
        obtain ⟨i1, i2⟩ := rAt_rd hlX hkl
        rw [hgk] at i2
        have hgg : r0.m.g = { x.g with refs := r0.m.v } := by
          unfold ML.g
          rw [hr0p]
        rw [hgg, hr0m.2] at i2
        have hbx := hold xb _ _ (by decide) hxbo HXB8.out
        have hbo := hold ob _ _ (by decide) (by omega) HLB8.out
        have hbg := hold w.heap.size _ _ (by decide) (by omega) HB8.out.g
        have hbu := hold (w.heap.size + 1) _ _ (by decide) (by omega) HB8.out.u
        have e1 : X.cell? ⟨ob + 1, 0, none⟩ = some (.int .i64 pre.length) := cell_of_row X (ob + 1) 0 _ _ _ hcnt.cell
        have e2 := cell_of_row X ob 0 _ _ _ hbo
        have e5 := cell_of_row X w.heap.size 0 _ _ _ hbg
        obtain ⟨e6, e7⟩ := hyv.rd
        have hklz : (pre.length : Int) < ((ofR rs s).length : Int) := by omega
        have HGD := Lib.hid hgd
        have HCN := Lib.hid hcnt
        have HI0 := Lib.hid hI0
        have HYV := Lib.hid hyv
        have HLX := Lib.hid hlXb
        have HLC := Lib.hid hlX
        have HBX := Lib.hid hbx
        have HBO := Lib.hid hbo
        have HBG := Lib.hid hbg
        have HBU' := Lib.hid hbu
        clear hgd hcnt hI0 hlX hlcell hr0 hr0p hgk hr0m hgood hhere hgg hyv hlle hlB hold hbx hbo hbg hbu hlXb
        gi_wp2_with fail
        refine wpIn_region_stages (by kernel_rfl) (fun ⟨_, _, h⟩ => h) (by kernel_rfl) ?_
        have hbd : Below X.heap.size X X.drew := (Below.refl _ _).drew
        have HBD : Hid (∀ z : Later X.drew, Below X.heap.size X z.1) := Lib.hid fun z => hbd.trans (z.2.mono hbd.size)
        have z1 : ∀ z : Later X.drew, z.1.cell? ⟨ob + 1, 0, none⟩ = some (.int .i64 pre.length) := fun z => ((HBD.out z).cell (block_lt_of_cell e1)).trans e1
        have z2 : ∀ z : Later X.drew, z.1.cell? ⟨ob, 0, none⟩ = some (.slice (some ⟨lg, 0, none⟩) (ofR rs s).length lc) := fun z => ((HBD.out z).cell (block_lt_of_cell e2)).trans e2
        have z5 : ∀ z : Later X.drew, z.1.cell? ⟨w.heap.size, 0, none⟩ = some (.string s) := fun z => ((HBD.out z).cell (block_lt_of_cell e5)).trans e5
        have z6 : ∀ z : Later X.drew, okCells z.1 ⟨yb, 0, none⟩ 38 = true := fun z => Later.ok e6 ⟨z.1, HBD.out z⟩
        have z7 : ∀ z : Later X.drew, rdCells z.1 ⟨yb, 0, none⟩ 38 = lineCells x.g := fun z => (Later.rd e6 ⟨z.1, HBD.out z⟩).trans e7
        have z8 : ∀ z : Later X.drew, okCells z.1 ⟨lg, pre.length * 39, none⟩ 39 = true := fun z => Later.ok i1 ⟨z.1, HBD.out z⟩
        have z9 : ∀ z : Later X.drew, rdCells z.1 ⟨lg, pre.length * 39, none⟩ 39 = rlineCells s { x.g with refs := r0.m.v } := fun z => (Later.rd i1 ⟨z.1, HBD.out z⟩).trans i2
        clear e1 e2 e5 e6 e7 i1 i2
        generalize hXd : X.drew = Xd at hbd HBD z1 z2 z5 z6 z7 z8 z9 ⊢
        have HBXd := Lib.hid hbd
        clear hbd hXd
        refine wp_stage [0, 1] [2, 3, 4] 10 (fun w' => ∃ z : Later Xd, w' = z.1) (by kernel_rfl) (by kernel_rfl) (by kernel_rfl) rfl rfl ⟨⟨_, Below.refl _ _⟩, rfl⟩ ?_
        simp only [opsAt, List.map_cons, List.map_nil, Array.getD_eq_getD_getElem?, List.getElem?_toArray, List.getElem?_cons_zero, List.getElem?_cons_succ, Option.getD_some]
        repeat (go_big_quiet_step (fail))
        refine wpQuiet_nil ?_
        refine wpN_cons true rfl (by kernel_rfl) ?_
        go_wp2_with fail
        refine ⟨fun _ => ⟨⟨_, Below.refl _ _⟩, rfl⟩, wpN_list [3, 4] _ _ (by kernel_rfl) ?_⟩
        simp only [opsAt, List.map_cons, List.map_nil, Array.getD_eq_getD_getElem?, List.getElem?_toArray, List.getElem?_cons_zero, List.getElem?_cons_succ, Option.getD_some]
        go_wp2
        refine NoPanic.normal ?_
        rw [QS_normal]
        have hdg : decide ((ofR rs s).length ≤ pre.length) = false := decide_eq_false (by omega)
        simp only [hdg]
        clear hdg
        refine wp_stage [5, 6, 8, 9, 10, 11] [7, 12, 13, 14] 0 (fun w' => ∃ z : Later Xd, w' = z.1) (by kernel_rfl) (by kernel_rfl) (by kernel_rfl) rfl rfl ⟨⟨_, Below.refl _ _⟩, rfl⟩ ?_
        simp only [opsAt, List.map_cons, List.map_nil, Array.getD_eq_getD_getElem?, List.getElem?_toArray, List.getElem?_cons_zero, List.getElem?_cons_succ, Option.getD_some]
        repeat (go_big_quiet_step (fail))
        refine wpQuiet_nil ?_
        clear z1 z2 z5 z6 z7 z8 z9
        refine wpN_cons true rfl (by kernel_rfl) ?_
        have honx := HGD.out.refs.one
        have hcs : x.g.refs.cells = #[x.g.refs] := by
          obtain ⟨a', c', he, _⟩ := HGD.out.refs.at
          show x.v.cells = #[x.v]
          rw [he]; rfl
        go_wp2_with fail
        refine (back_any s x.g Xd hcs honx).mono ?_
        rintro r X2 ⟨rfl, hb2⟩
        have HB2' := Lib.hid (HBXd.out.trans (hb2.mono HBXd.out.size) : Below X.heap.size X X2)
        go_wp2_with fail
        refine ⟨fun _ => ⟨⟨_, hb2⟩, rfl⟩, wpN_list [12, 13, 14] _ _ (by kernel_rfl) ?_⟩
        clear hb2
        simp only [opsAt, List.map_cons, List.map_nil, Array.getD_eq_getD_getElem?, List.getElem?_toArray, List.getElem?_cons_zero, List.getElem?_cons_succ, Option.getD_some]
        have HSM := Lib.hid (same_true s x.g x.v r0.m.v x.p.ids X2 (HGD.out.refs.at.below HB2'.out) (HI0.out.below HB2'.out) (by omega))
        go_wp2_with fail
        refine HSM.out.mono ?_
        rintro r X3 ⟨rfl, hb3⟩
        have HB3 := Lib.hid (HB2'.out.trans (hb3.mono HB2'.out.size) : Below X.heap.size X X3)
        clear hb3 HSM HB2' HBXd
        go_wp2
        refine NoPanic.normal ?_
        rw [QS_normal]
        refine wpSt_end (by kernel_rfl) ?_
        have hcn3 := HCN.out.later HB3.out
        have g1 := cell_of_row X3 (ob + 1) 0 _ _ _ hcn3.cell
        have g2 := frozen_of_row X3 (ob + 1) 0 _ _ hcn3.cell
        have hpl : pre.length ≤ 100000 := by omega
        have HCN4 := Lib.hid hcn3.count
        have hsz4 : (X3.setCell ⟨ob + 1, 0, none⟩ (.int .i64 ((pre.length : Int) + 1))).heap.size = X3.heap.size := by simp
        have ho4 : ∀ k, k ≠ ob + 1 → (X3.setCell ⟨ob + 1, 0, none⟩ (.int .i64 ((pre.length : Int) + 1))).heap[k]? = X3.heap[k]? := fun k hk => heap_setCell_other X3 ⟨ob + 1, 0, none⟩ k _ hk
        have g3 : (X3.setCell ⟨ob + 1, 0, none⟩ (.int .i64 ((pre.length : Int) + 1))).cell? ⟨ob + 1, 0, none⟩ = some (.int .i64 ((pre.length : Int) + 1)) := cell_of_row _ (ob + 1) 0 _ _ _ HCN4.out.cell
        have g4 : (X3.setCell ⟨ob + 1, 0, none⟩ (.int .i64 ((pre.length : Int) + 1))).cell? ⟨ob, 0, none⟩ = some (.slice (some ⟨lg, 0, none⟩) (ofR rs s).length lc) := cell_of_row _ ob 0 _ _ _ ((ho4 ob (by omega)).trans ((HB3.out.block ob (Array.getElem?_eq_some_iff.1 HBO.out).1).trans HBO.out))
        obtain ⟨X4, hX4⟩ : ∃ X4, X4 = X3.setCell ⟨ob + 1, 0, none⟩ (.int .i64 ((pre.length : Int) + 1)) := ⟨_, rfl⟩
        have HX4 := Lib.hid hX4
        rw [← hX4] at HCN4 ho4 hsz4
        have HST4 : Hid (∀ k, W8.heap.size ≤ k → k < B → X4.heap[k]? = X.heap[k]?) := Lib.hid fun k h1 h2 => (ho4 k (by omega)).trans (HB3.out.block k (by omega))
        have HY4 : Hid (LineVar X4 yb x.g) := Lib.hid ((ho4 yb (by omega)).trans ((HB3.out.block _ HYV.out.lt).trans HYV.out))
        have HS4 : Hid (X.heap.size ≤ X4.heap.size) := Lib.hid (by rw [hsz4]; exact HB3.out.size)
        have HLT : Hid (∀ gs' mc' n T X', RgI w2.heap.size W8 (ob + 1) ib M gs B n T gs' mc' X' → Below w.heap.size w X') := Lib.hid fun gs' mc' n T X' hr => HB8.out.bl.trans (hr.kept.below HB8.out.bl.size (fun k hk => by
          rcases List.mem_cons.1 hk with h1 | h1
          · rw [h1]; omega
          · exact Nat.le_trans HB2.out.bl.size (HX8.out.foot_lt k h1).1))
        clear hcn3 ho4 hsz4 hX4
        obtain ⟨by8, hby⟩ : ∃ b : UInt8, ((pre.length : Int) + 1) % 256 = (b.toNat : Int) := ⟨UInt8.ofNat (pre.length + 1), by simp⟩
        by_cases hnl : pre.length + 1 < (ofR rs s).length
        · have hnlz : (pre.length : Int) + 1 < ((ofR rs s).length : Int) := by omega
          gi_wp2_with fail
          rw [← HX4.out]
          refine wpIn_region_stages (by kernel_rfl) (fun ⟨_, _, h⟩ => h) (by kernel_rfl) ?_
          have hbd : Below X4.heap.size X4 X4.drew := (Below.refl _ _).drew
          have HBD : Hid (∀ z : Later X4.drew, Below X4.heap.size X4 z.1) := Lib.hid fun z => hbd.trans (z.2.mono hbd.size)
          have y1 := cell_of_row X4 xb 0 _ _ _ (HCN4.out.hold HX8.out (by decide) hxbo HXB8.out)
          have y2 := cell_of_row X4 w.heap.size 0 _ _ _ (HCN4.out.hold HX8.out (by decide) (by omega) HB8.out.g)
          have y3 := cell_of_row X4 ob 0 _ _ _ (HCN4.out.hold HX8.out (by decide) (by omega) HLB8.out)
          have y4 := cell_of_row X4 (ob + 1) 0 _ _ _ HCN4.out.cell
          have hlX4 := HCN4.out.hold HX8.out (by decide) hlgo hlcur
          have y5 : X4.cell? ⟨lg, (pre.length + 1) * 39 + 1, none⟩ = some (.int .i64 (ofR rs s)[pre.length + 1].m.p.number) := rAt_cell (w := X4) (g := lg) (rs := ofR rs s) (fun j u hu => (cell_of_same (a := ⟨lg, j, none⟩) (hlX4.trans HLX.out.symm)).trans (HLC.out j u hu)) hnl (i := 1) rfl
          generalize (ofR rs s)[pre.length + 1].m.p.number = num at y5
          have z1 : ∀ z : Later X4.drew, z.1.cell? ⟨xb, 0, none⟩ = some (.pointer (some ⟨ib, 0, none⟩)) := fun z => ((HBD.out z).cell (block_lt_of_cell y1)).trans y1
          have z2 : ∀ z : Later X4.drew, z.1.cell? ⟨w.heap.size, 0, none⟩ = some (.string s) := fun z => ((HBD.out z).cell (block_lt_of_cell y2)).trans y2
          have z3 : ∀ z : Later X4.drew, z.1.cell? ⟨ob, 0, none⟩ = some (.slice (some ⟨lg, 0, none⟩) (ofR rs s).length lc) := fun z => ((HBD.out z).cell (block_lt_of_cell y3)).trans y3
          have z4 : ∀ z : Later X4.drew, z.1.cell? ⟨ob + 1, 0, none⟩ = some (.int .i64 ((pre.length + 1 : Nat) : Int)) := fun z => ((HBD.out z).cell (block_lt_of_cell y4)).trans y4
          have z5 : ∀ z : Later X4.drew, z.1.cell? ⟨lg, (pre.length + 1) * 39 + 1, none⟩ = some (.int .i64 num) := fun z => ((HBD.out z).cell (block_lt_of_cell y5)).trans y5
          have hnl2 : ((pre.length + 1 : Nat) : Int) < ((ofR rs s).length : Int) := by omega
          clear y1 y2 y3 y4 y5 hlX4 g1 g2 g3 g4
          generalize hXd : X4.drew = Xd at hbd HBD z1 z2 z3 z4 z5 ⊢
          have HCd : Hid (RgI w2.heap.size W8 (ob + 1) ib M gs B (pre.length + 1) (40 + pre.length) gsX mcX Xd) := Lib.hid (HCN4.out.later hbd)
          have HSTd : Hid (∀ k, W8.heap.size ≤ k → k < B → Xd.heap[k]? = X.heap[k]?) := Lib.hid fun k h1 h2 => (hbd.block k (by have := HS4.out; omega)).trans (HST4.out k h1 h2)
          have HYD : Hid (LineVar Xd yb x.g) := Lib.hid ((hbd.block yb HY4.out.lt).trans HY4.out)
          have HSd : Hid (X.heap.size ≤ Xd.heap.size) := Lib.hid (Nat.le_trans HS4.out hbd.size)
          clear hbd hXd
          refine wp_stage [0, 1, 2, 3, 4, 5, 6] [7] 0 (fun w' => ∃ z : Later Xd, w' = z.1) (by kernel_rfl) (by kernel_rfl) (by kernel_rfl) rfl rfl ⟨⟨_, Below.refl _ _⟩, rfl⟩ ?_
          simp only [opsAt, List.map_cons, List.map_nil, Array.getD_eq_getD_getElem?, List.getElem?_toArray, List.getElem?_cons_zero, List.getElem?_cons_succ, Option.getD_some]
          repeat (go_big_quiet_step (fail))
          refine wpQuiet_nil ?_
          clear z1 z2 z3 z4 z5
          refine wpN_list [7] _ _ (by kernel_rfl) ?_
          simp only [opsAt, List.map_cons, List.map_nil, Array.getD_eq_getD_getElem?, List.getElem?_toArray, List.getElem?_cons_zero, List.getElem?_cons_succ, Option.getD_some]
          have HRM := Lib.hid (remove_any w2.heap.size ib M mcX gsX s num Xd HCd.out.idx)
          go_wp2_with fail
          refine HRM.out.mono ?_
          intro r X5 hrp
          obtain ⟨eR, hret⟩ : ∃ e, r = .returned e := by
            rcases hrp with ⟨_, e, _⟩ | ⟨_, _, _, _, e, _⟩
            · exact ⟨_, e⟩
            · exact ⟨_, e⟩
          subst hret
          obtain ⟨⟨gsZ, mcZ, hcz⟩, hkz⟩ := HCd.out.removed (by omega) (by have := HSd.out; omega) hrp
          have HCZ := Lib.hid hcz
          have HSTZ : Hid (∀ k, W8.heap.size ≤ k → k < B → X5.heap[k]? = X.heap[k]?) := Lib.hid fun k h1 h2 => (HCd.out.out HX8.out (by have := HSd.out; omega) hkz h1 h2).trans (HSTd.out k h1 h2)
          have HSZ : Hid (X.heap.size ≤ X5.heap.size) := Lib.hid (Nat.le_trans HSd.out hkz.size)
          have hyk : LineVar X5 yb x.g := (hkz.block yb HYD.out.lt hyf).trans HYD.out
          clear hrp HRM hcz hkz
          go_wp2
          refine NoPanic.normal ?_
          rw [QS_normal]
          refine wpSt_end (by kernel_rfl) ?_
          have m1 := cell_of_row X5 xb 0 _ _ _ (HCZ.out.hold HX8.out (by decide) hxbo HXB8.out)
          have m2 := cell_of_row X5 w.heap.size 0 _ _ _ (HCZ.out.hold HX8.out (by decide) (by omega) HB8.out.g)
          have m3 : X5.cell? ⟨yb, 0, none⟩ = some (.int .i64 x.p.number) := cell_of_row X5 yb 0 _ _ _ hyk
          have m4 : X5.cell? ⟨ob + 1, 0, none⟩ = some (.int .i64 ((pre.length : Int) + 1)) := cell_of_row X5 (ob + 1) 0 _ _ _ HCZ.out.cell
          gi_wp2_with fail
          clear m1 m2 m3 m4 hby
          have HADD := Lib.hid (add_any w2.heap.size ib M mcZ gsZ s ⟨x.p.number + 1, id3 by8, ⟨#[]⟩, 0, ⟨#[]⟩, [], 0⟩ (.slice none 0 0) X5 (HG.out.later (HLT.out _ _ _ _ _ HCZ.out)) HCZ.out.idx (by unfold maxLen; omega) ⟨idsAt_nil _, by simp, by show (0 : Nat) ≤ _; omega, by show (0 : Nat) ≤ _; omega⟩ (World.ownsRow_nil _ _ _ _) (by have := HCZ.out.tot; omega))
          refine ⟨trivial, (CallsIn.inRound _ (callsIn_wide.2 HADD.out)).mono ?_⟩
          intro r X6 hap
          have hret := hap.1
          subst hret
          obtain ⟨⟨gs6, mc6, hc6⟩, hk6⟩ := HCZ.out.added (by omega) (by have := HSZ.out; omega) hap
          have HC6 := Lib.hid hc6
          have HST6 : Hid (∀ k, W8.heap.size ≤ k → k < B → X6.heap[k]? = X.heap[k]?) := Lib.hid fun k h1 h2 => (HCZ.out.out HX8.out (by have := HSZ.out; omega) hk6 h1 h2).trans (HSTZ.out k h1 h2)
          have HS6' : Hid (X.heap.size ≤ X6.heap.size) := Lib.hid (Nat.le_trans HSZ.out hk6.size)
          have p1 := cell_of_row X6 (ob + 1) 0 _ _ _ hc6.cell
          have p2 := cell_of_row X6 (w.heap.size + 1) 0 _ _ _ (hc6.hold HX8.out (by decide) (by omega) HB8.out.u)
          generalize addErr (linesIn gsZ s) s ⟨x.p.number + 1, id3 by8, ⟨#[]⟩, 0, ⟨#[]⟩, [], 0⟩ = eZ
          have hpp : (pre ++ [x]).length = pre.length + 1 := by simp
          clear hap hc6 hk6 HADD
          by_cases hstop : st < pre.length + 1
          · have hstz : (st : Int) < (pre.length : Int) + 1 := by omega
            gi_wp2
            refine ⟨⟨HS6'.out, fun k h1 h2 => HST6.out k h1 (by omega)⟩, rfl, by have := HS6'.out; omega, by omega, by omega, gs6, mc6, ?_⟩
            rw [hpp]
            exact HC6.out
          · have hstz : ¬ (st : Int) < (pre.length : Int) + 1 := by omega
            gi_wp2
            refine ⟨⟨HS6'.out, fun k h1 h2 => HST6.out k h1 (by omega)⟩, ⟨HS6'.out, fun k h1 h2 _ => HST6.out k (by omega) h2⟩, by omega, gs6, mc6, ?_⟩
            rw [hpp]
            exact HC6.out
        · have hnlz : ¬ (pre.length : Int) + 1 < ((ofR rs s).length : Int) := by omega
          have m1 : X3.cell? ⟨xb, 0, none⟩ = some (.pointer (some ⟨ib, 0, none⟩)) := cell_of_row X3 xb 0 _ _ _ ((HB3.out.block xb (Array.getElem?_eq_some_iff.1 HBX.out).1).trans HBX.out)
          have m2 : X3.cell? ⟨w.heap.size, 0, none⟩ = some (.string s) := cell_of_row X3 w.heap.size 0 _ _ _ ((HB3.out.block _ (Array.getElem?_eq_some_iff.1 HBG.out).1).trans HBG.out)
          have m3 : X3.cell? ⟨yb, 0, none⟩ = some (.int .i64 x.p.number) := cell_of_row X3 yb 0 _ _ _ ((HB3.out.block _ HYV.out.lt).trans HYV.out)
          have hyo : yb ≠ ob + 1 := by omega
          have hgo : w.heap.size ≠ ob + 1 := by omega
          gi_wp2_with fail
          rw [← HX4.out]
          clear m1 m2 m3 g1 g2 g3 g4 hby
          obtain ⟨gsZ, hgsZ⟩ : ∃ z, z = gsX := ⟨_, rfl⟩
          obtain ⟨mcZ, hmcZ⟩ : ∃ z, z = mcX := ⟨_, rfl⟩
          have HCZ : Hid (RgI w2.heap.size W8 (ob + 1) ib M gs B (pre.length + 1) (40 + pre.length) gsZ mcZ X4) := Lib.hid (by rw [hgsZ, hmcZ]; exact HCN4.out)
          have HSTZ := HST4
          have HSZ := HS4
          clear hgsZ hmcZ
          have HADD := Lib.hid (add_any w2.heap.size ib M mcZ gsZ s ⟨x.p.number + 1, id3 by8, ⟨#[]⟩, 0, ⟨#[]⟩, [], 0⟩ (.slice none 0 0) X4 (HG.out.later (HLT.out _ _ _ _ _ HCZ.out)) HCZ.out.idx (by unfold maxLen; omega) ⟨idsAt_nil _, by simp, by show (0 : Nat) ≤ _; omega, by show (0 : Nat) ≤ _; omega⟩ (World.ownsRow_nil _ _ _ _) (by have := HCZ.out.tot; omega))
          refine ⟨trivial, (CallsIn.inRound _ (callsIn_wide.2 HADD.out)).mono ?_⟩
          intro r X6 hap
          have hret := hap.1
          subst hret
          obtain ⟨⟨gs6, mc6, hc6⟩, hk6⟩ := HCZ.out.added (by omega) (by have := HSZ.out; omega) hap
          have HC6 := Lib.hid hc6
          have HST6 : Hid (∀ k, W8.heap.size ≤ k → k < B → X6.heap[k]? = X.heap[k]?) := Lib.hid fun k h1 h2 => (HCZ.out.out HX8.out (by have := HSZ.out; omega) hk6 h1 h2).trans (HSTZ.out k h1 h2)
          have HS6' : Hid (X.heap.size ≤ X6.heap.size) := Lib.hid (Nat.le_trans HSZ.out hk6.size)
          have p1 := cell_of_row X6 (ob + 1) 0 _ _ _ hc6.cell
          have p2 := cell_of_row X6 (w.heap.size + 1) 0 _ _ _ (hc6.hold HX8.out (by decide) (by omega) HB8.out.u)
          generalize addErr (linesIn gsZ s) s ⟨x.p.number + 1, id3 by8, ⟨#[]⟩, 0, ⟨#[]⟩, [], 0⟩ = eZ
          have hpp : (pre ++ [x]).length = pre.length + 1 := by simp
          clear hap hc6 hk6 HADD
          by_cases hstop : st < pre.length + 1
          · have hstz : (st : Int) < (pre.length : Int) + 1 := by omega
            gi_wp2
            refine ⟨⟨HS6'.out, fun k h1 h2 => HST6.out k h1 (by omega)⟩, rfl, by have := HS6'.out; omega, by omega, by omega, gs6, mc6, ?_⟩
            rw [hpp]
            exact HC6.out
          · have hstz : ¬ (st : Int) < (pre.length : Int) + 1 := by omega
            gi_wp2
            refine ⟨⟨HS6'.out, fun k h1 h2 => HST6.out k h1 (by omega)⟩, ⟨HS6'.out, fun k h1 h2 _ => HST6.out k (by omega) h2⟩, by omega, gs6, mc6, ?_⟩
            rw [hpp]
            exact HC6.out
      case done =>
        rintro B xs W9 hB hBW hS ⟨hle, gs9, mc9, hi⟩ hmk
        have hxl : xs.length = (ofR rs s).length := by
          have := congrArg List.length hS
          rw [HRT.out, List.length_map, List.length_map] at this
          exact this
        have p1 := cell_of_row W9 (ob + 1) 0 _ _ _ hi.cell
        have p2 := cell_of_row W9 ob 0 _ _ _ (hi.hold HX8.out (by decide) (by omega) HLB8.out)
        have p3 := cell_of_row W9 (w.heap.size + 1) 0 _ _ _ (hi.hold HX8.out (by decide) (by have := HWO.out; omega) HB8.out.u)
        have hr9 := hi.hold HX8.out (by decide) (by have := HWO.out; omega) HB8.out.r
        have p4 := cell_of_row W9 (w.heap.size + 2) 0 _ _ _ hr9
        have p5 := frozen_of_row W9 (w.heap.size + 2) 0 _ _ hr9
        have HMK := Lib.hid hmk
        have HR9 : Hid (W9.heap[w.heap.size + 1 + 1]? = some (.cells #[.bool false] 4 (0, 0))) := Lib.hid hr9
        have HBL9 : Hid (Below w.heap.size w W9) := Lib.hid (HB8.out.bl.trans (hi.kept.below HB8.out.bl.size (fun k hk => by
          rcases List.mem_cons.1 hk with h1 | h1
          · rw [h1]; have := HWO.out; omega
          · exact Nat.le_trans HB2.out.bl.size (HX8.out.foot_lt k h1).1)))
        rw [hxl] at p1
        rw [HA8.out]
        have hv : (((ofR rs s).length : Int) == min ((ofR rs s).length : Int) ((st : Int) + 1)) = true := by rw [beq_iff_eq]; omega
        clear hr9 hi hmk hxl hS
        go_wp2
        have hRD : w.heap.size + 1 + 1 ≠ W8.heap.size := by have := HWO.out; omega
        have hK := (heap_setCell_other W9 ⟨w.heap.size + 1 + 1, 0, none⟩ W8.heap.size (.bool true) (Ne.symm hRD)).trans HMK.out
        have hC := heap_setCell_same W9 (w.heap.size + 1 + 1) 0 _ _ (.bool true) HR9.out
        refine ⟨by simp, .inl ⟨_, _, rfl, run_takeDeferred hK, ?_⟩⟩
        have hC5 := (World.putObj_heap_other (o := .deferred none) hRD).trans hC
        have hc5 := cell_of_row _ (w.heap.size + 1 + 1) 0 _ _ _ hC5
        refine ⟨.bool true, ?_, rfl, (HBL9.out.setCell (p := ⟨w.heap.size + 1 + 1, 0, none⟩) (by simp; omega) _).trans (belowK_b (w := w) (Nat.le_refl _) _ W8.heap.size _ _ (by have := HWO.out; omega) hK rfl rfl)⟩
        exact results_cell1' Tryz.results6 Tryz.isAgg4 _ _ ⟨w.heap.size + 1 + 1, 0, none⟩ _ rfl hc5
      case stop =>
        rintro c B pre W9 hB ⟨rfl, hBW, hpl, hpo, gs9, mc9, hi⟩ hmk
        have p1 := cell_of_row W9 (ob + 1) 0 _ _ _ hi.cell
        have p2 := cell_of_row W9 ob 0 _ _ _ (hi.hold HX8.out (by decide) (by omega) HLB8.out)
        have p3 := cell_of_row W9 (w.heap.size + 1) 0 _ _ _ (hi.hold HX8.out (by decide) (by have := HWO.out; omega) HB8.out.u)
        have hr9 := hi.hold HX8.out (by decide) (by have := HWO.out; omega) HB8.out.r
        have p4 := cell_of_row W9 (w.heap.size + 2) 0 _ _ _ hr9
        have p5 := frozen_of_row W9 (w.heap.size + 2) 0 _ _ hr9
        have HMK := Lib.hid hmk
        have HR9 : Hid (W9.heap[w.heap.size + 1 + 1]? = some (.cells #[.bool false] 4 (0, 0))) := Lib.hid hr9
        have HBL9 : Hid (Below w.heap.size w W9) := Lib.hid (HB8.out.bl.trans (hi.kept.below HB8.out.bl.size (fun k hk => by
          rcases List.mem_cons.1 hk with h1 | h1
          · rw [h1]; have := HWO.out; omega
          · exact Nat.le_trans HB2.out.bl.size (HX8.out.foot_lt k h1).1)))
        rw [hpl] at p1
        rw [HA8.out]
        have hv : (((st : Int) + 1) == min ((ofR rs s).length : Int) ((st : Int) + 1)) = true := by rw [beq_iff_eq]; omega
        clear hr9 hi hmk hpl
        gi_wp2
        go_wp2
        have hRD : w.heap.size + 1 + 1 ≠ W8.heap.size := by have := HWO.out; omega
        have hK := (heap_setCell_other W9 ⟨w.heap.size + 1 + 1, 0, none⟩ W8.heap.size (.bool true) (Ne.symm hRD)).trans HMK.out
        have hC := heap_setCell_same W9 (w.heap.size + 1 + 1) 0 _ _ (.bool true) HR9.out
        refine ⟨by simp, .inl ⟨_, _, rfl, run_takeDeferred hK, ?_⟩⟩
        have hC5 := (World.putObj_heap_other (o := .deferred none) hRD).trans hC
        have hc5 := cell_of_row _ (w.heap.size + 1 + 1) 0 _ _ _ hC5
        refine ⟨.bool true, ?_, rfl, (HBL9.out.setCell (p := ⟨w.heap.size + 1 + 1, 0, none⟩) (by simp; omega) _).trans (belowK_b (w := w) (Nat.le_refl _) _ W8.heap.size _ _ (by have := HWO.out; omega) hK rfl rfl)⟩
        exact results_cell1' Tryz.results6 Tryz.isAgg4 _ _ ⟨w.heap.size + 1 + 1, 0, none⟩ _ rfl hc5

end Go.Proofs.YtdjaphcelpchaaaGreatDoor

/- The tied card of bulletinlaw28.OverviewRange, proved: for every list of operations, every group and every number of rounds the call returns true; package-level tables of Go's library as the program's text lays them. -/
namespace Go.Proofs.YtdjaphcelpchaaaGreatDoor.overviewRange
open Go Go.RowKit Go.Proofs Go.Proofs.YtdjaphcelpchaaaGreatDoor Go.ChangeShapes Go.WideShapes Go.ChangeAt Go.WideMaps Go.ChangeMaps

set_option maxRecDepth 100000 in
theorem contract (H : Type) (enc : TypeId × Value → H) (W : World) (base : Nat) (args : Array Value) (ds gs : List (DataW H)) (before : List MemPlace)
    (hval : ∀ (j : Nat) t v, Tryz.f6.params[j]? = some t → args[j]? = some v → Value.okWide Tryz.prog W .any base t v)
    (hW : DataW.Whole enc Tryz.prog Tryz.f6.params.toList Rows.overviewRangeSpec.vars false W args.toList ds gs before)
    (hR : (DataW.weightsEach Tryz.prog (Tryz.f6.params.toList ++ (OpenSpec.ofChange Rows.overviewRangeSpec).bare.plain.varTypes Tryz.prog) (ds ++ gs)).all (· ≤ reachBytes) = true)
    (hL : laidMetH Tryz.prog Rows.overviewRangeRow.laid W) (hS : W.ShapedOpen Tryz.prog) :
    Calls Tryz.prog 6 args W fun e W' => ∃ v, e = .returned v ∧ Rows.overviewRangeSpec.post enc Tryz.prog Tryz.f6 false true false false W args v W' := by
  have hW' := hW
  obtain ⟨p, q, hA0, hV, rfl, hfz, hnd⟩ := hW
  have hA : DataW.TrodAll enc Tryz.prog W 0 (fun _ => true) true Tryz.f6.params.toList args.toList ds p := hA0
  rw [Tryz.params6] at hA hval hR
  obtain ⟨v0, v1, v2, d0, d1, d2, p0, p1, p2, rfl, rfl, rfl, h0, h1, h2⟩ := trodAll_three hA
  obtain ⟨s, rfl, rfl, rfl, hs⟩ := open_string Tryz.underlying9 (hval 1 9 v1 rfl rfl) h1
  obtain ⟨z, rfl, rfl, rfl, hz⟩ := open_int Tryz.underlying5 (hval 2 5 v2 rfl rfl) h2
  have hz' : 0 ≤ z ∧ z ≤ 255 := by simpa [Lit.wf, IntKind.min, IntKind.max, IntKind.signed, IntKind.bits] using hz
  obtain ⟨n, rfl⟩ : ∃ n : Nat, z = n := ⟨z.toNat, by omega⟩
  obtain ⟨fuel, hf⟩ := h0
  obtain ⟨v, os, hcs, hO⟩ := open_ops (cs := v0.cells.toList) hf (fun n hn => by
    have := List.all_eq_true.1 hR n (DataW.weights_mem_each (j := 0) rfl rfl n hn)
    simpa using this)
  obtain rfl : v0 = v := by
    have ho := ops_cells (hval 0 45 v0 rfl rfl)
    rw [ho] at hcs
    simpa using hcs
  clear hA0 hA
  refine (law_range v0 os s n W (gl_of hL hS) hO hs (by omega)).mono fun e W' ⟨he, hb⟩ => ?_
  subst he
  exact ⟨_, rfl, law_post rfl (by kernel_rfl) hW' (by rw [Tryz.params6]; intro t ht; rcases (by simpa using ht : t = 45 ∨ t = 9 ∨ t = 5) with rfl | rfl | rfl <;> exact ⟨by kernel_rfl, of_decide_eq_true (by kernel_rfl)⟩) rfl hb⟩

theorem reads (os : Os) {H : Type} (enc : TypeId × Value → H) : ∃ places, DataW.whole enc Tryz.prog ((World.laidAll Tryz.prog os Rows.overviewRangeRow.laid).forCall (fun _ _ => 0) ⟨#[], #[.slice none 0 0, .string ⟨#[]⟩, .int .u8 0], []⟩).memory Tryz.f6.params.toList Rows.overviewRangeSpec.vars false (#[.slice none 0 0, .string ⟨#[]⟩, .int .u8 0] : Array Value).toList 8 = some ([.nil, .lit (.string []), .lit (.int .u8 0)], [], places) :=
  ⟨[], by kernel_rfl⟩

set_option maxRecDepth 100000 in
theorem lifted (os : Os) (started : os.Started) (H : Type) (enc : TypeId × Value → H) (F : Stop.Interp) :
    ReturnsInHanded {} Tryz.checked os 6 .any ((OpenSpec.ofChange Rows.overviewRangeSpec).preRow enc Tryz.prog Tryz.f6 Rows.overviewRangeRow.domain false Rows.overviewRangeRow.laid) (((OpenSpec.ofChange Rows.overviewRangeSpec).at F).post enc Tryz.prog Tryz.f6 false true false false) := by
  obtain ⟨places, hx⟩ := reads os enc
  refine returnsInHanded_of_row (C := Tryz.checked) (s := OpenSpec.ofChange Rows.overviewRangeSpec) own started (by kernel_rfl) Tryz.func6
    (witness_row_at (enc := enc) (C := Tryz.checked) false (World.laidAll Tryz.prog os Rows.overviewRangeRow.laid) #[.slice none 0 0, .string ⟨#[]⟩, .int .u8 0] (World.laidAll_os _ _ _) (by kernel_rfl) (by kernel_rfl) (by kernel_rfl)
      (OpenSpec.preRow_of_cond 8 hx (by kernel_rfl) (fun k hk => by cases hk) (by kernel_rfl) (laidMet_laidAll _ (by kernel_rfl) (by kernel_rfl)))) ?_
  intro W base args ds gs before hval hW _ _ hR hL hS _
  exact contract H enc W base args ds gs before hval hW hR hL hS

theorem said : Rows.OverviewRangeSaid :=
  OpenClaim.holds_of_cond 6 Tryz.f6 rfl rfl rfl rfl rfl rfl rfl ⟨rfl, rfl, rfl, rfl, rfl⟩ rfl rfl rfl rfl rfl (by kernel_rfl) Tryz.func6 (by kernel_rfl)
    (of_decide_eq_true (by kernel_rfl)) (by unfold Func.isWrapper; first | (rw [if_pos (by decide +kernel)]; kernel_rfl) | (rw [if_neg (by decide +kernel)]; exact ⟨rfl, rfl⟩))
    (fun os started H enc _ F => by rw [OpenClaim.pre_eq_preRow]; exact lifted os started H enc F)

theorem plain (f : FuncId) (fn : Func) (hf : Tryz.pinned.checked.prog.funcNamed "bulletin/bulletinlaw28.OverviewRange" = some f) (hfn : Tryz.pinned.checked.prog.funcs[f]? = some fn) :
    true = Tryz.pinned.checked.prog.looks [] ∧ ∀ (j : Nat) t, fn.params[j]? = some t → Tryz.pinned.checked.prog.wantsStandIn t = false := by
  obtain rfl : f = 6 := Option.some.inj ((show Tryz.prog.funcNamed "bulletin/bulletinlaw28.OverviewRange" = some 6 by kernel_rfl).symm.trans hf) |>.symm
  obtain rfl : fn = Tryz.f6 := (Option.some.inj (Tryz.func6.symm.trans hfn)).symm
  refine ⟨by kernel_rfl, fun j t ht => ?_⟩
  rw [Tryz.params6] at ht
  rcases (by simpa using Array.mem_of_getElem? ht : t = 45 ∨ t = 9 ∨ t = 5) with rfl | rfl | rfl
  · exact (show Tryz.prog.wantsStandIn 45 = false by kernel_rfl)
  · exact (show Tryz.prog.wantsStandIn 9 = false by kernel_rfl)
  · exact (show Tryz.prog.wantsStandIn 5 = false by kernel_rfl)

end Go.Proofs.YtdjaphcelpchaaaGreatDoor.overviewRange
namespace Go.Proofs.YtdjaphcelpchaaaGreatDoor
open Go
theorem overviewRange_card : Rows.OverviewRangeCardSaid :=
  Claim7.holds_tied_plain_at .later [] _ _ _ _ overviewRange.said (fun _ h => by cases h) (by kernel_rfl) (fun _ h => by cases h) overviewRange_row_tie rfl ⟨rfl, rfl⟩ (by kernel_rfl) rfl overviewRange.plain (by kernel_rfl)
#print axioms overviewRange_card
end Go.Proofs.YtdjaphcelpchaaaGreatDoor
