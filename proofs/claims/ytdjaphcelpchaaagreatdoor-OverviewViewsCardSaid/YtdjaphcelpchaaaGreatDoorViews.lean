/- The tied card of bulletinlaw28.OverviewViews, proved: for every list of operations, every group, every number, every range and every identity the call returns true; package-level tables of Go's library as the program's text lays them. -/
import Derived.Test.YtdjaphcelpchaaaGreatDoorShelf
import Derived.Test.YtdjaphcelpchaaaGreatDoorK1
import Derived.Test.YtdjaphcelpchaaaGreatDoorK2
import Derived.Test.YtdjaphcelpchaaaGreatDoorK3
import Derived.Test.YtdjaphcelpchaaaGreatDoorK4
import Derived.Test.YtdjaphcelpchaaaGreatDoorK5
import Derived.Test.YtdjaphcelpchaaaGreatDoorK6
import Derived.Test.YtdjaphcelpchaaaGreatDoorShelf2
import Derived.Test.YtdjaphcelpchaaaGreatDoorK7
import Derived.Test.YtdjaphcelpchaaaGreatDoorK8
import Derived.Test.YtdjaphcelpchaaaGreatDoorViewsL1

namespace Go.Proofs.YtdjaphcelpchaaaGreatDoor
open Go Go.RowKit Go.Proofs

attribute [local go_sem ↓] ex_load_id ex_store_id ex_load_line ex_store_line ex_load_rline ex_store_rline ex_alloc_line ex_build_line ex_alloc_rline ex_build_rline

attribute [local go_sem] ld_id st_id ld_line st_line ld_rline st_rline guard_id okCells_drew rdCells_drew okCells_drewN rdCells_drewN rowOk_drew rowOk_cells okCells_cells rdCells_cells setRow_drew setRow_new setRow_past

set_option maxRecDepth 100000 in
set_option maxHeartbeats 4000000 in
theorem vw28p {ops : Array Oper} (hreg : vwReg 28 = .region 28 ops true) (Q : Exit → Act → World → Prop) (t : Array Value) (c : Nat → Value) (g0 : Nat) (la : Option Addr) (ln lc : Nat) (a1 a2 a3 : Int) (y1 y2 y3 : Nat) (b1 b2 b3 : Bool) (s : ByteArray) (O : List MR) (g : GLine) (hln : ln = O.length) (hs : S28 t c g0 la ln lc a1 a2 a3 y1 y2 y3 b1 b2 b3) (hc : t.getD 206 undef = .bool false) (W : World) (hw : VwL g0 s la lc O W) (hy : LineVar W y2 g) (hh : Hit 0 W O a2 b2 g) (hO : ∀ (j : Nat) (r : MR), a2 = (j : Int) → O[j]? = some r → r.s = s ∧ r.m.p.ids.length ≤ 20)
    (hK : ∀ t' W', S28 t' c g0 la ln lc a1 a2 a3 y1 y2 y3 b1 b2 b3 → t'.getD 220 undef = .bool false → Below W.heap.size W W' → wpSt Tryz.prog ops Q [0, 1, 2, 3, 4, 5, 6, 7, 8, 9, 10, 11, 12, 13, 14, 15, 16, 17, 18, 19, 20, 21, 22, 23, 24, 25, 26, 27, 28, 29, 30, 31, 32, 33, 34, 35, 36, 37, 38, 39, 40, 41, 42, 43, 44] 40 ⟨t', []⟩ W') : wpSt Tryz.prog ops Q [0, 1, 2, 3, 4, 5, 6, 7, 8, 9, 10, 11, 12, 13, 14, 15, 16, 17, 18, 19, 20, 21, 22, 23, 24, 25, 26, 27, 28, 29, 30] 54 ⟨t, []⟩ W := by
  conv at hreg => lhs; whnf
  simp only [List.append_eq, List.cons_append, List.nil_append] at hreg
  cases hreg
  subst hln
  obtain ⟨f, hf, hft⟩ := hs.out
  have hc' : f 206 = .bool false := (hf 206).trans hc
  rw [hft, hc']
  have HK := Lib.hid hK
  have HW := Lib.hid hw
  have HOO := Lib.hid hO
  have hfew := hw.refs.few
  have q1 := cell_of_row W g0 0 _ _ _ hw.g
  obtain ⟨q2, q3⟩ := hy.rd
  clear hK hft hc hc' hf hs
  rcases hh with ⟨rfl, rfl, rfl⟩ | ⟨j, r, v, rfl, hr, rfl, rfl, hI⟩
  · clear hy
    refine wp_stage [] [31, 32] 52 (fun w' => ∃ z : Later W, w' = z.1) (by kernel_rfl) (by kernel_rfl) (by kernel_rfl) rfl rfl ⟨⟨_, Below.refl _ _⟩, rfl⟩ ?_
    simp only [opsAt, List.map_nil]
    refine wpQuiet_nil ?_
    refine wpN_list [31, 32] _ _ (by kernel_rfl) ?_
    simp only [opsAt, List.map_cons, List.map_nil, Array.getD_eq_getD_getElem?, List.getElem?_toArray, List.getElem?_cons_zero, List.getElem?_cons_succ, Option.getD_some]
    go_wp2
    refine NoPanic.normal ?_
    rw [QS_normal]
    refine wp_stage [33, 34, 36, 37, 38, 39] [35, 40, 41, 42, 43, 44] 40 (fun w' => ∃ z : Later W, w' = z.1) (by kernel_rfl) (by kernel_rfl) (by kernel_rfl) rfl rfl ⟨⟨_, Below.refl _ _⟩, rfl⟩ ?_
    simp only [opsAt, List.map_cons, List.map_nil, Array.getD_eq_getD_getElem?, List.getElem?_toArray, List.getElem?_cons_zero, List.getElem?_cons_succ, Option.getD_some]
    repeat (go_big_quiet_step (fail))
    refine wpQuiet_nil ?_
    refine wpN_at true (by kernel_rfl) (by kernel_rfl) ?_
    simp only [opsAt, List.map_cons, List.map_nil, Array.getD_eq_getD_getElem?, List.getElem?_toArray, List.getElem?_cons_zero, List.getElem?_cons_succ, Option.getD_some]
    go_wp2
    refine ⟨fun _ => ⟨⟨_, Below.refl _ _⟩, rfl⟩, wpN_list [40, 41, 42, 43, 44] _ _ (by kernel_rfl) ?_⟩
    simp only [opsAt, List.map_cons, List.map_nil, Array.getD_eq_getD_getElem?, List.getElem?_toArray, List.getElem?_cons_zero, List.getElem?_cons_succ, Option.getD_some]
    go_wp2
    refine NoPanic.normal ?_
    rw [QS_normal]
    exact HK.out _ _ ⟨rfl, rfl, rfl, rfl, rfl, rfl, rfl, rfl, rfl, rfl, rfl, rfl, rfl, rfl, rfl, rfl, rfl, rfl, rfl⟩ rfl (Below.refl _ _)
  · obtain ⟨hjl, hrj⟩ := List.getElem?_eq_some_iff.1 hr
    have hjz : (0 : Int) ≤ (j : Int) := by omega
    have hjlz : (j : Int) < (O.length : Int) := by omega
    obtain ⟨hrs, hrl⟩ := hO j r rfl hr
    rcases hw.refs.head with ⟨_, e0⟩ | ⟨lg, lcap, cur, hlve, _, hll, hle, _, hlcur, hlcell⟩
    · rw [e0] at hjl; cases hjl
    cases hlve
    obtain ⟨i1, i2⟩ := rAt_rd hlcell hjl
    rw [hrj, hrs] at i2
    have z1 : ∀ z : Later W, z.1.cell? ⟨g0, 0, none⟩ = some (.string s) := fun z => (z.2.cell (block_lt_of_cell q1)).trans q1
    have z2 : ∀ z : Later W, okCells z.1 ⟨y2, 0, none⟩ 38 = true := fun z => Later.ok q2 z
    have z3 : ∀ z : Later W, rdCells z.1 ⟨y2, 0, none⟩ 38 = lineCells { r.m.g with refs := v } := fun z => (Later.rd q2 z).trans q3
    have z4 : ∀ z : Later W, okCells z.1 ⟨lg, j * 39, none⟩ 39 = true := fun z => Later.ok i1 z
    have z5 : ∀ z : Later W, rdCells z.1 ⟨lg, j * 39, none⟩ 39 = rlineCells s { r.m.g with refs := r.m.v } := fun z => (Later.rd i1 z).trans i2
    have HI := Lib.hid hI
    have HI2 := Lib.hid (hw.ids r (List.mem_of_getElem? hr))
    clear q1 q2 q3 i1 i2 hlcell hlcur hr hrj hrs hy hw hO hI hle
    refine wp_stage [] [31, 32] 52 (fun w' => ∃ z : Later W, w' = z.1) (by kernel_rfl) (by kernel_rfl) (by kernel_rfl) rfl rfl ⟨⟨_, Below.refl _ _⟩, rfl⟩ ?_
    simp only [opsAt, List.map_nil]
    refine wpQuiet_nil ?_
    refine wpN_list [31, 32] _ _ (by kernel_rfl) ?_
    simp only [opsAt, List.map_cons, List.map_nil, Array.getD_eq_getD_getElem?, List.getElem?_toArray, List.getElem?_cons_zero, List.getElem?_cons_succ, Option.getD_some]
    go_wp2
    refine NoPanic.normal ?_
    rw [QS_normal]
    refine wp_stage [33, 34, 36, 37, 38, 39] [35, 40, 41, 42, 43, 44] 40 (fun w' => ∃ z : Later W, w' = z.1) (by kernel_rfl) (by kernel_rfl) (by kernel_rfl) rfl rfl ⟨⟨_, Below.refl _ _⟩, rfl⟩ ?_
    simp only [opsAt, List.map_cons, List.map_nil, Array.getD_eq_getD_getElem?, List.getElem?_toArray, List.getElem?_cons_zero, List.getElem?_cons_succ, Option.getD_some]
    repeat (go_big_quiet_step (fail))
    refine wpQuiet_nil ?_
    clear z1 z2 z3 z4 z5
    refine wpN_at true (by kernel_rfl) (by kernel_rfl) ?_
    simp only [opsAt, List.map_cons, List.map_nil, Array.getD_eq_getD_getElem?, List.getElem?_toArray, List.getElem?_cons_zero, List.getElem?_cons_succ, Option.getD_some]
    have honx : v.oneCell' = true := HI.out.one
    have hcs : ({ r.m.g with refs := v } : GLine).refs.cells = #[({ r.m.g with refs := v } : GLine).refs] := by
      obtain ⟨a', c', he, _⟩ := HI.out.at
      show v.cells = #[v]
      rw [he]; rfl
    go_wp2_with fail
    refine (back_any s { r.m.g with refs := v } W hcs honx).mono ?_
    rintro r0 W2 ⟨rfl, hb2⟩
    have HB2 := Lib.hid hb2
    go_wp2_with fail
    refine ⟨fun _ => ⟨⟨_, hb2⟩, rfl⟩, wpN_list [40, 41, 42, 43, 44] _ _ (by kernel_rfl) ?_⟩
    clear hb2
    simp only [opsAt, List.map_cons, List.map_nil, Array.getD_eq_getD_getElem?, List.getElem?_toArray, List.getElem?_cons_zero, List.getElem?_cons_succ, Option.getD_some]
    have HSM := Lib.hid (same_true s r.m.g v r.m.v r.m.p.ids W2 (HI.out.at.below HB2.out) (HI2.out.below HB2.out) (by omega))
    go_wp2_with fail
    refine HSM.out.mono ?_
    rintro r0 W3 ⟨rfl, hb3⟩
    have HB3 := Lib.hid (HB2.out.trans (hb3.mono HB2.out.size) : Below W.heap.size W W3)
    clear hb3 HSM
    go_wp2
    refine NoPanic.normal ?_
    rw [QS_normal]
    exact HK.out _ _ ⟨rfl, rfl, rfl, rfl, rfl, rfl, rfl, rfl, rfl, rfl, rfl, rfl, rfl, rfl, rfl, rfl, rfl, rfl, rfl⟩ rfl HB3.out

end Go.Proofs.YtdjaphcelpchaaaGreatDoor

namespace Go.Proofs.YtdjaphcelpchaaaGreatDoor
open Go Go.RowKit Go.Proofs

attribute [local go_sem ↓] ex_load_id ex_store_id ex_load_line ex_store_line ex_load_rline ex_store_rline ex_alloc_line ex_build_line ex_alloc_rline ex_build_rline

attribute [local go_sem] ld_id st_id ld_line st_line ld_rline st_rline guard_id okCells_drew rdCells_drew okCells_drewN rdCells_drewN rowOk_drew rowOk_cells okCells_cells rdCells_cells setRow_drew setRow_new setRow_past

set_option maxRecDepth 100000 in
set_option maxHeartbeats 4000000 in
theorem vw28f {ops : Array Oper} (hreg : vwReg 28 = .region 28 ops true) (Q : Exit → Act → World → Prop) (t : Array Value) (c : Nat → Value) (g0 : Nat) (la : Option Addr) (ln lc : Nat) (a1 a2 a3 : Int) (y1 y2 y3 : Nat) (b1 b2 b3 : Bool) (s : ByteArray) (O : List MR) (g : GLine) (hln : ln = O.length) (hs : S28 t c g0 la ln lc a1 a2 a3 y1 y2 y3 b1 b2 b3) (hc : t.getD 220 undef = .bool false) (W : World) (hw : VwL g0 s la lc O W) (hy : LineVar W y3 g) (hh : Hit 0 W O a3 b3 g) (hO : ∀ (j : Nat) (r : MR), a3 = (j : Int) → O[j]? = some r → r.s = s ∧ r.m.p.ids.length ≤ 20)
    (hK : ∀ t' W', S28 t' c g0 la ln lc a1 a2 a3 y1 y2 y3 b1 b2 b3 → t'.getD 234 undef = .bool false → Below W.heap.size W W' → wpSt Tryz.prog ops Q [0, 1, 2, 3, 4, 5, 6, 7, 8, 9, 10, 11, 12, 13, 14, 15, 16, 17, 18, 19, 20, 21, 22, 23, 24, 25, 26, 27, 28, 29, 30, 31, 32, 33, 34, 35, 36, 37, 38, 39, 40, 41, 42, 43, 44, 45, 46, 47, 48, 49, 50, 51, 52, 53, 54, 55, 56, 57, 58] 26 ⟨t', []⟩ W') : wpSt Tryz.prog ops Q [0, 1, 2, 3, 4, 5, 6, 7, 8, 9, 10, 11, 12, 13, 14, 15, 16, 17, 18, 19, 20, 21, 22, 23, 24, 25, 26, 27, 28, 29, 30, 31, 32, 33, 34, 35, 36, 37, 38, 39, 40, 41, 42, 43, 44] 40 ⟨t, []⟩ W := by
  conv at hreg => lhs; whnf
  simp only [List.append_eq, List.cons_append, List.nil_append] at hreg
  cases hreg
  subst hln
  obtain ⟨f, hf, hft⟩ := hs.out
  have hc' : f 220 = .bool false := (hf 220).trans hc
  rw [hft, hc']
  have HK := Lib.hid hK
  have HW := Lib.hid hw
  have HOO := Lib.hid hO
  have hfew := hw.refs.few
  have q1 := cell_of_row W g0 0 _ _ _ hw.g
  obtain ⟨q2, q3⟩ := hy.rd
  clear hK hft hc hc' hf hs
  rcases hh with ⟨rfl, rfl, rfl⟩ | ⟨j, r, v, rfl, hr, rfl, rfl, hI⟩
  · clear hy
    refine wp_stage [] [45, 46] 38 (fun w' => ∃ z : Later W, w' = z.1) (by kernel_rfl) (by kernel_rfl) (by kernel_rfl) rfl rfl ⟨⟨_, Below.refl _ _⟩, rfl⟩ ?_
    simp only [opsAt, List.map_nil]
    refine wpQuiet_nil ?_
    refine wpN_list [45, 46] _ _ (by kernel_rfl) ?_
    simp only [opsAt, List.map_cons, List.map_nil, Array.getD_eq_getD_getElem?, List.getElem?_toArray, List.getElem?_cons_zero, List.getElem?_cons_succ, Option.getD_some]
    go_wp2
    refine NoPanic.normal ?_
    rw [QS_normal]
    refine wp_stage [47, 48, 50, 51, 52, 53] [49, 54, 55, 56, 57, 58] 26 (fun w' => ∃ z : Later W, w' = z.1) (by kernel_rfl) (by kernel_rfl) (by kernel_rfl) rfl rfl ⟨⟨_, Below.refl _ _⟩, rfl⟩ ?_
    simp only [opsAt, List.map_cons, List.map_nil, Array.getD_eq_getD_getElem?, List.getElem?_toArray, List.getElem?_cons_zero, List.getElem?_cons_succ, Option.getD_some]
    repeat (go_big_quiet_step (fail))
    refine wpQuiet_nil ?_
    refine wpN_at true (by kernel_rfl) (by kernel_rfl) ?_
    simp only [opsAt, List.map_cons, List.map_nil, Array.getD_eq_getD_getElem?, List.getElem?_toArray, List.getElem?_cons_zero, List.getElem?_cons_succ, Option.getD_some]
    go_wp2
    refine ⟨fun _ => ⟨⟨_, Below.refl _ _⟩, rfl⟩, wpN_list [54, 55, 56, 57, 58] _ _ (by kernel_rfl) ?_⟩
    simp only [opsAt, List.map_cons, List.map_nil, Array.getD_eq_getD_getElem?, List.getElem?_toArray, List.getElem?_cons_zero, List.getElem?_cons_succ, Option.getD_some]
    go_wp2
    refine NoPanic.normal ?_
    rw [QS_normal]
    exact HK.out _ _ ⟨rfl, rfl, rfl, rfl, rfl, rfl, rfl, rfl, rfl, rfl, rfl, rfl, rfl, rfl, rfl, rfl, rfl, rfl, rfl⟩ rfl (Below.refl _ _)
  · obtain ⟨hjl, hrj⟩ := List.getElem?_eq_some_iff.1 hr
    have hjz : (0 : Int) ≤ (j : Int) := by omega
    have hjlz : (j : Int) < (O.length : Int) := by omega
    obtain ⟨hrs, hrl⟩ := hO j r rfl hr
    rcases hw.refs.head with ⟨_, e0⟩ | ⟨lg, lcap, cur, hlve, _, hll, hle, _, hlcur, hlcell⟩
    · rw [e0] at hjl; cases hjl
    cases hlve
    obtain ⟨i1, i2⟩ := rAt_rd hlcell hjl
    rw [hrj, hrs] at i2
    have z1 : ∀ z : Later W, z.1.cell? ⟨g0, 0, none⟩ = some (.string s) := fun z => (z.2.cell (block_lt_of_cell q1)).trans q1
    have z2 : ∀ z : Later W, okCells z.1 ⟨y3, 0, none⟩ 38 = true := fun z => Later.ok q2 z
    have z3 : ∀ z : Later W, rdCells z.1 ⟨y3, 0, none⟩ 38 = lineCells { r.m.g with refs := v } := fun z => (Later.rd q2 z).trans q3
    have z4 : ∀ z : Later W, okCells z.1 ⟨lg, j * 39, none⟩ 39 = true := fun z => Later.ok i1 z
    have z5 : ∀ z : Later W, rdCells z.1 ⟨lg, j * 39, none⟩ 39 = rlineCells s { r.m.g with refs := r.m.v } := fun z => (Later.rd i1 z).trans i2
    have HI := Lib.hid hI
    have HI2 := Lib.hid (hw.ids r (List.mem_of_getElem? hr))
    clear q1 q2 q3 i1 i2 hlcell hlcur hr hrj hrs hy hw hO hI hle
    refine wp_stage [] [45, 46] 38 (fun w' => ∃ z : Later W, w' = z.1) (by kernel_rfl) (by kernel_rfl) (by kernel_rfl) rfl rfl ⟨⟨_, Below.refl _ _⟩, rfl⟩ ?_
    simp only [opsAt, List.map_nil]
    refine wpQuiet_nil ?_
    refine wpN_list [45, 46] _ _ (by kernel_rfl) ?_
    simp only [opsAt, List.map_cons, List.map_nil, Array.getD_eq_getD_getElem?, List.getElem?_toArray, List.getElem?_cons_zero, List.getElem?_cons_succ, Option.getD_some]
    go_wp2
    refine NoPanic.normal ?_
    rw [QS_normal]
    refine wp_stage [47, 48, 50, 51, 52, 53] [49, 54, 55, 56, 57, 58] 26 (fun w' => ∃ z : Later W, w' = z.1) (by kernel_rfl) (by kernel_rfl) (by kernel_rfl) rfl rfl ⟨⟨_, Below.refl _ _⟩, rfl⟩ ?_
    simp only [opsAt, List.map_cons, List.map_nil, Array.getD_eq_getD_getElem?, List.getElem?_toArray, List.getElem?_cons_zero, List.getElem?_cons_succ, Option.getD_some]
    repeat (go_big_quiet_step (fail))
    refine wpQuiet_nil ?_
    clear z1 z2 z3 z4 z5
    refine wpN_at true (by kernel_rfl) (by kernel_rfl) ?_
    simp only [opsAt, List.map_cons, List.map_nil, Array.getD_eq_getD_getElem?, List.getElem?_toArray, List.getElem?_cons_zero, List.getElem?_cons_succ, Option.getD_some]
    have honx : v.oneCell' = true := HI.out.one
    have hcs : ({ r.m.g with refs := v } : GLine).refs.cells = #[({ r.m.g with refs := v } : GLine).refs] := by
      obtain ⟨a', c', he, _⟩ := HI.out.at
      show v.cells = #[v]
      rw [he]; rfl
    go_wp2_with fail
    refine (back_any s { r.m.g with refs := v } W hcs honx).mono ?_
    rintro r0 W2 ⟨rfl, hb2⟩
    have HB2 := Lib.hid hb2
    go_wp2_with fail
    refine ⟨fun _ => ⟨⟨_, hb2⟩, rfl⟩, wpN_list [54, 55, 56, 57, 58] _ _ (by kernel_rfl) ?_⟩
    clear hb2
    simp only [opsAt, List.map_cons, List.map_nil, Array.getD_eq_getD_getElem?, List.getElem?_toArray, List.getElem?_cons_zero, List.getElem?_cons_succ, Option.getD_some]
    have HSM := Lib.hid (same_true s r.m.g v r.m.v r.m.p.ids W2 (HI.out.at.below HB2.out) (HI2.out.below HB2.out) (by omega))
    go_wp2_with fail
    refine HSM.out.mono ?_
    rintro r0 W3 ⟨rfl, hb3⟩
    have HB3 := Lib.hid (HB2.out.trans (hb3.mono HB2.out.size) : Below W.heap.size W W3)
    clear hb3 HSM
    go_wp2
    refine NoPanic.normal ?_
    rw [QS_normal]
    exact HK.out _ _ ⟨rfl, rfl, rfl, rfl, rfl, rfl, rfl, rfl, rfl, rfl, rfl, rfl, rfl, rfl, rfl, rfl, rfl, rfl, rfl⟩ rfl HB3.out

end Go.Proofs.YtdjaphcelpchaaaGreatDoor

namespace Go.Proofs.YtdjaphcelpchaaaGreatDoor
open Go Go.RowKit Go.Proofs

attribute [local go_sem ↓] ex_load_id ex_store_id ex_load_line ex_store_line ex_load_rline ex_store_rline ex_alloc_line ex_build_line ex_alloc_rline ex_build_rline

attribute [local go_sem] ld_id st_id ld_line st_line ld_rline st_rline guard_id okCells_drew rdCells_drew okCells_drewN rdCells_drewN rowOk_drew rowOk_cells okCells_cells rdCells_cells setRow_drew setRow_new setRow_past

set_option maxRecDepth 100000 in
set_option maxHeartbeats 4000000 in
theorem vw28zn {ops : Array Oper} (hreg : vwReg 28 = .region 28 ops true) (Q : Exit → Act → World → Prop) (t : Array Value) (c : Nat → Value) (g0 : Nat) (la : Option Addr) (ln lc : Nat) (a1 a2 a3 : Int) (y1 y2 y3 : Nat) (b1 b2 b3 : Bool) (O : List MR) (g : GLine) (hs : S28 t c g0 la ln lc a1 a2 a3 y1 y2 y3 b1 b2 b3) (hc : t.getD 234 undef = .bool false) (W : World) (hy : LineVar W y1 g) (hh : Hit 0 W O a1 b1 g)
    (hK : ∀ t' W', S28 t' c g0 la ln lc a1 a2 a3 y1 y2 y3 b1 b2 b3 → t'.getD 243 undef = .bool false → Below W.heap.size W W' → wpSt Tryz.prog ops Q [0, 1, 2, 3, 4, 5, 6, 7, 8, 9, 10, 11, 12, 13, 14, 15, 16, 17, 18, 19, 20, 21, 22, 23, 24, 25, 26, 27, 28, 29, 30, 31, 32, 33, 34, 35, 36, 37, 38, 39, 40, 41, 42, 43, 44, 45, 46, 47, 48, 49, 50, 51, 52, 53, 54, 55, 56, 57, 58, 59, 60, 61, 62, 63, 64, 65, 66, 67] 17 ⟨t', []⟩ W') : wpSt Tryz.prog ops Q [0, 1, 2, 3, 4, 5, 6, 7, 8, 9, 10, 11, 12, 13, 14, 15, 16, 17, 18, 19, 20, 21, 22, 23, 24, 25, 26, 27, 28, 29, 30, 31, 32, 33, 34, 35, 36, 37, 38, 39, 40, 41, 42, 43, 44, 45, 46, 47, 48, 49, 50, 51, 52, 53, 54, 55, 56, 57, 58] 26 ⟨t, []⟩ W := by
  conv at hreg => lhs; whnf
  simp only [List.append_eq, List.cons_append, List.nil_append] at hreg
  cases hreg
  obtain ⟨f, hf, hft⟩ := hs.out
  have hc' : f 234 = .bool false := (hf 234).trans hc
  rw [hft, hc']
  have HK := Lib.hid hK
  obtain ⟨q2, q3⟩ := hy.rd
  clear hK hft hc hc' hf hs
  rcases hh with ⟨rfl, rfl, rfl⟩ | ⟨j, r, v, rfl, hr, rfl, rfl, hI⟩
  · have z2 : ∀ z : Later W, okCells z.1 ⟨y1, 0, none⟩ 38 = true := fun z => Later.ok q2 z
    have z3 : ∀ z : Later W, rdCells z.1 ⟨y1, 0, none⟩ 38 = lineCells zeroLine := fun z => (Later.rd q2 z).trans q3
    clear q2 q3 hy
    refine wp_stage [] [59, 60, 61] 23 (fun w' => ∃ z : Later W, w' = z.1) (by kernel_rfl) (by kernel_rfl) (by kernel_rfl) rfl rfl ⟨⟨_, Below.refl _ _⟩, rfl⟩ ?_
    simp only [opsAt, List.map_nil]
    refine wpQuiet_nil ?_
    refine wpN_list [59, 60, 61] _ _ (by kernel_rfl) ?_
    simp only [opsAt, List.map_cons, List.map_nil, Array.getD_eq_getD_getElem?, List.getElem?_toArray, List.getElem?_cons_zero, List.getElem?_cons_succ, Option.getD_some]
    go_wp2
    refine NoPanic.normal ?_
    rw [QS_normal]
    refine wp_stage [62] [63, 64, 65, 66, 67] 17 (fun w' => ∃ z : Later W, w' = z.1) (by kernel_rfl) (by kernel_rfl) (by kernel_rfl) rfl rfl ⟨⟨_, Below.refl _ _⟩, rfl⟩ ?_
    simp only [opsAt, List.map_cons, List.map_nil, Array.getD_eq_getD_getElem?, List.getElem?_toArray, List.getElem?_cons_zero, List.getElem?_cons_succ, Option.getD_some]
    repeat (go_big_quiet_step (fail))
    refine wpQuiet_nil ?_
    clear z2 z3
    refine wpN_list [63, 64, 65, 66, 67] _ _ (by kernel_rfl) ?_
    simp only [opsAt, List.map_cons, List.map_nil, Array.getD_eq_getD_getElem?, List.getElem?_toArray, List.getElem?_cons_zero, List.getElem?_cons_succ, Option.getD_some]
    go_wp2_with fail
    refine (zero_true W).mono ?_
    rintro r0 W3 ⟨rfl, hb3⟩
    have HB3 := Lib.hid hb3
    clear hb3
    go_wp2
    refine NoPanic.normal ?_
    rw [QS_normal]
    exact HK.out _ _ ⟨rfl, rfl, rfl, rfl, rfl, rfl, rfl, rfl, rfl, rfl, rfl, rfl, rfl, rfl, rfl, rfl, rfl, rfl, rfl⟩ rfl HB3.out
  · clear q2 q3 hy hI hr
    refine wp_stage [] [59, 60, 61] 23 (fun w' => ∃ z : Later W, w' = z.1) (by kernel_rfl) (by kernel_rfl) (by kernel_rfl) rfl rfl ⟨⟨_, Below.refl _ _⟩, rfl⟩ ?_
    simp only [opsAt, List.map_nil]
    refine wpQuiet_nil ?_
    refine wpN_list [59, 60, 61] _ _ (by kernel_rfl) ?_
    simp only [opsAt, List.map_cons, List.map_nil, Array.getD_eq_getD_getElem?, List.getElem?_toArray, List.getElem?_cons_zero, List.getElem?_cons_succ, Option.getD_some]
    go_wp2
    refine NoPanic.normal ?_
    rw [QS_normal]
    refine wp_stage [62] [63, 64, 65, 66, 67] 17 (fun w' => ∃ z : Later W, w' = z.1) (by kernel_rfl) (by kernel_rfl) (by kernel_rfl) rfl rfl ⟨⟨_, Below.refl _ _⟩, rfl⟩ ?_
    simp only [opsAt, List.map_cons, List.map_nil, Array.getD_eq_getD_getElem?, List.getElem?_toArray, List.getElem?_cons_zero, List.getElem?_cons_succ, Option.getD_some]
    repeat (go_big_quiet_step (fail))
    refine wpQuiet_nil ?_
    refine wpN_list [63, 64, 65, 66, 67] _ _ (by kernel_rfl) ?_
    simp only [opsAt, List.map_cons, List.map_nil, Array.getD_eq_getD_getElem?, List.getElem?_toArray, List.getElem?_cons_zero, List.getElem?_cons_succ, Option.getD_some]
    go_wp2
    refine NoPanic.normal ?_
    rw [QS_normal]
    exact HK.out _ _ ⟨rfl, rfl, rfl, rfl, rfl, rfl, rfl, rfl, rfl, rfl, rfl, rfl, rfl, rfl, rfl, rfl, rfl, rfl, rfl⟩ rfl (Below.refl _ _)

set_option maxRecDepth 100000 in
set_option maxHeartbeats 4000000 in
theorem vw28zp {ops : Array Oper} (hreg : vwReg 28 = .region 28 ops true) (Q : Exit → Act → World → Prop) (t : Array Value) (c : Nat → Value) (g0 : Nat) (la : Option Addr) (ln lc : Nat) (a1 a2 a3 : Int) (y1 y2 y3 : Nat) (b1 b2 b3 : Bool) (O : List MR) (g : GLine) (hs : S28 t c g0 la ln lc a1 a2 a3 y1 y2 y3 b1 b2 b3) (hc : t.getD 243 undef = .bool false) (W : World) (hy : LineVar W y2 g) (hh : Hit 0 W O a2 b2 g)
    (hK : ∀ t' W', S28 t' c g0 la ln lc a1 a2 a3 y1 y2 y3 b1 b2 b3 → t'.getD 252 undef = .bool false → Below W.heap.size W W' → wpSt Tryz.prog ops Q [0, 1, 2, 3, 4, 5, 6, 7, 8, 9, 10, 11, 12, 13, 14, 15, 16, 17, 18, 19, 20, 21, 22, 23, 24, 25, 26, 27, 28, 29, 30, 31, 32, 33, 34, 35, 36, 37, 38, 39, 40, 41, 42, 43, 44, 45, 46, 47, 48, 49, 50, 51, 52, 53, 54, 55, 56, 57, 58, 59, 60, 61, 62, 63, 64, 65, 66, 67, 68, 69, 70, 71, 72, 73, 74, 75, 76] 8 ⟨t', []⟩ W') : wpSt Tryz.prog ops Q [0, 1, 2, 3, 4, 5, 6, 7, 8, 9, 10, 11, 12, 13, 14, 15, 16, 17, 18, 19, 20, 21, 22, 23, 24, 25, 26, 27, 28, 29, 30, 31, 32, 33, 34, 35, 36, 37, 38, 39, 40, 41, 42, 43, 44, 45, 46, 47, 48, 49, 50, 51, 52, 53, 54, 55, 56, 57, 58, 59, 60, 61, 62, 63, 64, 65, 66, 67] 17 ⟨t, []⟩ W := by
  conv at hreg => lhs; whnf
  simp only [List.append_eq, List.cons_append, List.nil_append] at hreg
  cases hreg
  obtain ⟨f, hf, hft⟩ := hs.out
  have hc' : f 243 = .bool false := (hf 243).trans hc
  rw [hft, hc']
  have HK := Lib.hid hK
  obtain ⟨q2, q3⟩ := hy.rd
  clear hK hft hc hc' hf hs
  rcases hh with ⟨rfl, rfl, rfl⟩ | ⟨j, r, v, rfl, hr, rfl, rfl, hI⟩
  · have z2 : ∀ z : Later W, okCells z.1 ⟨y2, 0, none⟩ 38 = true := fun z => Later.ok q2 z
    have z3 : ∀ z : Later W, rdCells z.1 ⟨y2, 0, none⟩ 38 = lineCells zeroLine := fun z => (Later.rd q2 z).trans q3
    clear q2 q3 hy
    refine wp_stage [] [68, 69, 70] 14 (fun w' => ∃ z : Later W, w' = z.1) (by kernel_rfl) (by kernel_rfl) (by kernel_rfl) rfl rfl ⟨⟨_, Below.refl _ _⟩, rfl⟩ ?_
    simp only [opsAt, List.map_nil]
    refine wpQuiet_nil ?_
    refine wpN_list [68, 69, 70] _ _ (by kernel_rfl) ?_
    simp only [opsAt, List.map_cons, List.map_nil, Array.getD_eq_getD_getElem?, List.getElem?_toArray, List.getElem?_cons_zero, List.getElem?_cons_succ, Option.getD_some]
    go_wp2
    refine NoPanic.normal ?_
    rw [QS_normal]
    refine wp_stage [71] [72, 73, 74, 75, 76] 8 (fun w' => ∃ z : Later W, w' = z.1) (by kernel_rfl) (by kernel_rfl) (by kernel_rfl) rfl rfl ⟨⟨_, Below.refl _ _⟩, rfl⟩ ?_
    simp only [opsAt, List.map_cons, List.map_nil, Array.getD_eq_getD_getElem?, List.getElem?_toArray, List.getElem?_cons_zero, List.getElem?_cons_succ, Option.getD_some]
    repeat (go_big_quiet_step (fail))
    refine wpQuiet_nil ?_
    clear z2 z3
    refine wpN_list [72, 73, 74, 75, 76] _ _ (by kernel_rfl) ?_
    simp only [opsAt, List.map_cons, List.map_nil, Array.getD_eq_getD_getElem?, List.getElem?_toArray, List.getElem?_cons_zero, List.getElem?_cons_succ, Option.getD_some]
    go_wp2_with fail
    refine (zero_true W).mono ?_
    rintro r0 W3 ⟨rfl, hb3⟩
    have HB3 := Lib.hid hb3
    clear hb3
    go_wp2
    refine NoPanic.normal ?_
    rw [QS_normal]
    exact HK.out _ _ ⟨rfl, rfl, rfl, rfl, rfl, rfl, rfl, rfl, rfl, rfl, rfl, rfl, rfl, rfl, rfl, rfl, rfl, rfl, rfl⟩ rfl HB3.out
  · clear q2 q3 hy hI hr
    refine wp_stage [] [68, 69, 70] 14 (fun w' => ∃ z : Later W, w' = z.1) (by kernel_rfl) (by kernel_rfl) (by kernel_rfl) rfl rfl ⟨⟨_, Below.refl _ _⟩, rfl⟩ ?_
    simp only [opsAt, List.map_nil]
    refine wpQuiet_nil ?_
    refine wpN_list [68, 69, 70] _ _ (by kernel_rfl) ?_
    simp only [opsAt, List.map_cons, List.map_nil, Array.getD_eq_getD_getElem?, List.getElem?_toArray, List.getElem?_cons_zero, List.getElem?_cons_succ, Option.getD_some]
    go_wp2
    refine NoPanic.normal ?_
    rw [QS_normal]
    refine wp_stage [71] [72, 73, 74, 75, 76] 8 (fun w' => ∃ z : Later W, w' = z.1) (by kernel_rfl) (by kernel_rfl) (by kernel_rfl) rfl rfl ⟨⟨_, Below.refl _ _⟩, rfl⟩ ?_
    simp only [opsAt, List.map_cons, List.map_nil, Array.getD_eq_getD_getElem?, List.getElem?_toArray, List.getElem?_cons_zero, List.getElem?_cons_succ, Option.getD_some]
    repeat (go_big_quiet_step (fail))
    refine wpQuiet_nil ?_
    refine wpN_list [72, 73, 74, 75, 76] _ _ (by kernel_rfl) ?_
    simp only [opsAt, List.map_cons, List.map_nil, Array.getD_eq_getD_getElem?, List.getElem?_toArray, List.getElem?_cons_zero, List.getElem?_cons_succ, Option.getD_some]
    go_wp2
    refine NoPanic.normal ?_
    rw [QS_normal]
    exact HK.out _ _ ⟨rfl, rfl, rfl, rfl, rfl, rfl, rfl, rfl, rfl, rfl, rfl, rfl, rfl, rfl, rfl, rfl, rfl, rfl, rfl⟩ rfl (Below.refl _ _)

set_option maxRecDepth 100000 in
set_option maxHeartbeats 4000000 in
theorem vw28zf {ops : Array Oper} (hreg : vwReg 28 = .region 28 ops true) (Q : Exit → Act → World → Prop) (t : Array Value) (c : Nat → Value) (g0 : Nat) (la : Option Addr) (ln lc : Nat) (a1 a2 a3 : Int) (y1 y2 y3 : Nat) (b1 b2 b3 : Bool) (O : List MR) (g : GLine) (hs : S28 t c g0 la ln lc a1 a2 a3 y1 y2 y3 b1 b2 b3) (hc : t.getD 252 undef = .bool false) (W : World) (hy : LineVar W y3 g) (hh : Hit 0 W O a3 b3 g)
    (hK : ∀ t' W', S28 t' c g0 la ln lc a1 a2 a3 y1 y2 y3 b1 b2 b3 → t'.getD 260 undef = .bool false → Below W.heap.size W W' → wpSt Tryz.prog ops Q [0, 1, 2, 3, 4, 5, 6, 7, 8, 9, 10, 11, 12, 13, 14, 15, 16, 17, 18, 19, 20, 21, 22, 23, 24, 25, 26, 27, 28, 29, 30, 31, 32, 33, 34, 35, 36, 37, 38, 39, 40, 41, 42, 43, 44, 45, 46, 47, 48, 49, 50, 51, 52, 53, 54, 55, 56, 57, 58, 59, 60, 61, 62, 63, 64, 65, 66, 67, 68, 69, 70, 71, 72, 73, 74, 75, 76, 77, 78, 79, 80, 81, 82, 83, 84] 0 ⟨t', []⟩ W') : wpSt Tryz.prog ops Q [0, 1, 2, 3, 4, 5, 6, 7, 8, 9, 10, 11, 12, 13, 14, 15, 16, 17, 18, 19, 20, 21, 22, 23, 24, 25, 26, 27, 28, 29, 30, 31, 32, 33, 34, 35, 36, 37, 38, 39, 40, 41, 42, 43, 44, 45, 46, 47, 48, 49, 50, 51, 52, 53, 54, 55, 56, 57, 58, 59, 60, 61, 62, 63, 64, 65, 66, 67, 68, 69, 70, 71, 72, 73, 74, 75, 76] 8 ⟨t, []⟩ W := by
  conv at hreg => lhs; whnf
  simp only [List.append_eq, List.cons_append, List.nil_append] at hreg
  cases hreg
  obtain ⟨f, hf, hft⟩ := hs.out
  have hc' : f 252 = .bool false := (hf 252).trans hc
  rw [hft, hc']
  have HK := Lib.hid hK
  obtain ⟨q2, q3⟩ := hy.rd
  clear hK hft hc hc' hf hs
  rcases hh with ⟨rfl, rfl, rfl⟩ | ⟨j, r, v, rfl, hr, rfl, rfl, hI⟩
  · have z2 : ∀ z : Later W, okCells z.1 ⟨y3, 0, none⟩ 38 = true := fun z => Later.ok q2 z
    have z3 : ∀ z : Later W, rdCells z.1 ⟨y3, 0, none⟩ 38 = lineCells zeroLine := fun z => (Later.rd q2 z).trans q3
    clear q2 q3 hy
    refine wp_stage [] [77, 78, 79] 5 (fun w' => ∃ z : Later W, w' = z.1) (by kernel_rfl) (by kernel_rfl) (by kernel_rfl) rfl rfl ⟨⟨_, Below.refl _ _⟩, rfl⟩ ?_
    simp only [opsAt, List.map_nil]
    refine wpQuiet_nil ?_
    refine wpN_list [77, 78, 79] _ _ (by kernel_rfl) ?_
    simp only [opsAt, List.map_cons, List.map_nil, Array.getD_eq_getD_getElem?, List.getElem?_toArray, List.getElem?_cons_zero, List.getElem?_cons_succ, Option.getD_some]
    go_wp2
    refine NoPanic.normal ?_
    rw [QS_normal]
    refine wp_stage [80] [81, 82, 83, 84] 0 (fun w' => ∃ z : Later W, w' = z.1) (by kernel_rfl) (by kernel_rfl) (by kernel_rfl) rfl rfl ⟨⟨_, Below.refl _ _⟩, rfl⟩ ?_
    simp only [opsAt, List.map_cons, List.map_nil, Array.getD_eq_getD_getElem?, List.getElem?_toArray, List.getElem?_cons_zero, List.getElem?_cons_succ, Option.getD_some]
    repeat (go_big_quiet_step (fail))
    refine wpQuiet_nil ?_
    clear z2 z3
    refine wpN_list [81, 82, 83, 84] _ _ (by kernel_rfl) ?_
    simp only [opsAt, List.map_cons, List.map_nil, Array.getD_eq_getD_getElem?, List.getElem?_toArray, List.getElem?_cons_zero, List.getElem?_cons_succ, Option.getD_some]
    go_wp2_with fail
    refine (zero_true W).mono ?_
    rintro r0 W3 ⟨rfl, hb3⟩
    have HB3 := Lib.hid hb3
    clear hb3
    go_wp2
    refine NoPanic.normal ?_
    rw [QS_normal]
    exact HK.out _ _ ⟨rfl, rfl, rfl, rfl, rfl, rfl, rfl, rfl, rfl, rfl, rfl, rfl, rfl, rfl, rfl, rfl, rfl, rfl, rfl⟩ rfl HB3.out
  · clear q2 q3 hy hI hr
    refine wp_stage [] [77, 78, 79] 5 (fun w' => ∃ z : Later W, w' = z.1) (by kernel_rfl) (by kernel_rfl) (by kernel_rfl) rfl rfl ⟨⟨_, Below.refl _ _⟩, rfl⟩ ?_
    simp only [opsAt, List.map_nil]
    refine wpQuiet_nil ?_
    refine wpN_list [77, 78, 79] _ _ (by kernel_rfl) ?_
    simp only [opsAt, List.map_cons, List.map_nil, Array.getD_eq_getD_getElem?, List.getElem?_toArray, List.getElem?_cons_zero, List.getElem?_cons_succ, Option.getD_some]
    go_wp2
    refine NoPanic.normal ?_
    rw [QS_normal]
    refine wp_stage [80] [81, 82, 83, 84] 0 (fun w' => ∃ z : Later W, w' = z.1) (by kernel_rfl) (by kernel_rfl) (by kernel_rfl) rfl rfl ⟨⟨_, Below.refl _ _⟩, rfl⟩ ?_
    simp only [opsAt, List.map_cons, List.map_nil, Array.getD_eq_getD_getElem?, List.getElem?_toArray, List.getElem?_cons_zero, List.getElem?_cons_succ, Option.getD_some]
    repeat (go_big_quiet_step (fail))
    refine wpQuiet_nil ?_
    refine wpN_list [81, 82, 83, 84] _ _ (by kernel_rfl) ?_
    simp only [opsAt, List.map_cons, List.map_nil, Array.getD_eq_getD_getElem?, List.getElem?_toArray, List.getElem?_cons_zero, List.getElem?_cons_succ, Option.getD_some]
    go_wp2
    refine NoPanic.normal ?_
    rw [QS_normal]
    exact HK.out _ _ ⟨rfl, rfl, rfl, rfl, rfl, rfl, rfl, rfl, rfl, rfl, rfl, rfl, rfl, rfl, rfl, rfl, rfl, rfl, rfl⟩ rfl (Below.refl _ _)

end Go.Proofs.YtdjaphcelpchaaaGreatDoor

namespace Go.Proofs.YtdjaphcelpchaaaGreatDoor
open Go Go.RowKit Go.Proofs

attribute [local go_sem ↓] ex_load_id ex_store_id ex_load_line ex_store_line ex_load_rline ex_store_rline ex_alloc_line ex_build_line ex_alloc_rline ex_build_rline

attribute [local go_sem] ld_id st_id ld_line st_line ld_rline st_rline guard_id okCells_drew rdCells_drew okCells_drewN rdCells_drewN rowOk_drew rowOk_cells okCells_cells rdCells_cells setRow_drew setRow_new setRow_past

set_option maxRecDepth 100000 in
set_option maxHeartbeats 4000000 in
theorem vw8head {ops : Array Oper} (hreg : vwReg 8 = .region 8 ops true) (Q : Exit → Act → World → Prop) (t : Array Value) (c : Nat → Value) (g0 : Nat) (la : Option Addr) (ln lc : Nat) (a : Int) (yb : Nat) (b : Bool) (O : List MR) (g : GLine) (hs : S8 t c g0 la ln lc a yb b) (W : World) (hh : Hit 0 W O a b g)
    (hK : ∀ t' W', S8 t' c g0 la ln lc a yb b → t'.getD 72 undef = .bool false → Below W.heap.size W W' → wpSt Tryz.prog ops Q [0, 1, 2, 3, 4] 22 ⟨t', []⟩ W') : wpSt Tryz.prog ops Q [] 27 ⟨t, []⟩ W := by
  conv at hreg => lhs; whnf
  cases hreg
  obtain ⟨f, hf, hft⟩ := hs.out
  rw [hft]
  have HK := Lib.hid hK
  clear hK hft hf hs
  rcases hh with ⟨rfl, rfl, -⟩ | ⟨j, r, v, rfl, -, rfl, -, -⟩
  · refine wp_stage [0, 1] [2, 3, 4] 22 (fun w' => ∃ z : Later W, w' = z.1) (by kernel_rfl) (by kernel_rfl) (by kernel_rfl) rfl rfl ⟨⟨_, Below.refl _ _⟩, rfl⟩ ?_
    simp only [opsAt, List.map_cons, List.map_nil, Array.getD_eq_getD_getElem?, List.getElem?_toArray, List.getElem?_cons_zero, List.getElem?_cons_succ, Option.getD_some]
    repeat (go_big_quiet_step (fail))
    refine wpQuiet_nil ?_
    refine wpN_at true (by kernel_rfl) (by kernel_rfl) ?_
    simp only [opsAt, List.map_cons, List.map_nil, Array.getD_eq_getD_getElem?, List.getElem?_toArray, List.getElem?_cons_zero, List.getElem?_cons_succ, Option.getD_some]
    go_wp2_with fail
    refine ⟨fun _ => ⟨⟨_, Below.refl _ _⟩, rfl⟩, wpN_list [3, 4] _ _ (by kernel_rfl) ?_⟩
    simp only [opsAt, List.map_cons, List.map_nil, Array.getD_eq_getD_getElem?, List.getElem?_toArray, List.getElem?_cons_zero, List.getElem?_cons_succ, Option.getD_some]
    go_wp2
    refine NoPanic.normal ?_
    rw [QS_normal]
    exact HK.out _ _ ⟨rfl, rfl, rfl, rfl, rfl, rfl, rfl, rfl, rfl, rfl, rfl, rfl⟩ rfl (Below.refl _ _)
  · have hjz : (0 : Int) ≤ (j : Int) := by omega
    refine wp_stage [0, 1] [2, 3, 4] 22 (fun w' => ∃ z : Later W, w' = z.1) (by kernel_rfl) (by kernel_rfl) (by kernel_rfl) rfl rfl ⟨⟨_, Below.refl _ _⟩, rfl⟩ ?_
    simp only [opsAt, List.map_cons, List.map_nil, Array.getD_eq_getD_getElem?, List.getElem?_toArray, List.getElem?_cons_zero, List.getElem?_cons_succ, Option.getD_some]
    repeat (go_big_quiet_step (fail))
    refine wpQuiet_nil ?_
    refine wpN_at true (by kernel_rfl) (by kernel_rfl) ?_
    simp only [opsAt, List.map_cons, List.map_nil, Array.getD_eq_getD_getElem?, List.getElem?_toArray, List.getElem?_cons_zero, List.getElem?_cons_succ, Option.getD_some]
    go_wp2_with fail
    refine ⟨fun _ => ⟨⟨_, Below.refl _ _⟩, rfl⟩, wpN_list [3, 4] _ _ (by kernel_rfl) ?_⟩
    simp only [opsAt, List.map_cons, List.map_nil, Array.getD_eq_getD_getElem?, List.getElem?_toArray, List.getElem?_cons_zero, List.getElem?_cons_succ, Option.getD_some]
    go_wp2
    refine NoPanic.normal ?_
    rw [QS_normal]
    exact HK.out _ _ ⟨rfl, rfl, rfl, rfl, rfl, rfl, rfl, rfl, rfl, rfl, rfl, rfl⟩ rfl (Below.refl _ _)

set_option maxRecDepth 100000 in
set_option maxHeartbeats 4000000 in
theorem vw8same {ops : Array Oper} (hreg : vwReg 8 = .region 8 ops true) (Q : Exit → Act → World → Prop) (t : Array Value) (c : Nat → Value) (g0 : Nat) (la : Option Addr) (ln lc : Nat) (a : Int) (yb : Nat) (b : Bool) (s : ByteArray) (O : List MR) (g : GLine) (hln : ln = O.length) (hs : S8 t c g0 la ln lc a yb b) (hc : t.getD 72 undef = .bool false) (W : World) (hw : VwL g0 s la lc O W) (hy : LineVar W yb g) (hh : Hit 0 W O a b g) (hO : ∀ (j : Nat) (r : MR), a = (j : Int) → O[j]? = some r → r.s = s ∧ r.m.p.ids.length ≤ 20)
    (hK : ∀ t' W', S8 t' c g0 la ln lc a yb b → t'.getD 86 undef = .bool false → Below W.heap.size W W' → wpSt Tryz.prog ops Q [0, 1, 2, 3, 4, 5, 6, 7, 8, 9, 10, 11, 12, 13, 14, 15, 16, 17, 18] 8 ⟨t', []⟩ W') : wpSt Tryz.prog ops Q [0, 1, 2, 3, 4] 22 ⟨t, []⟩ W := by
  conv at hreg => lhs; whnf
  cases hreg
  subst hln
  obtain ⟨f, hf, hft⟩ := hs.out
  have hc' : f 72 = .bool false := (hf 72).trans hc
  rw [hft, hc']
  have HK := Lib.hid hK
  have HW := Lib.hid hw
  have HOO := Lib.hid hO
  have hfew := hw.refs.few
  have q1 := cell_of_row W g0 0 _ _ _ hw.g
  obtain ⟨q2, q3⟩ := hy.rd
  clear hK hft hc hc' hf hs
  rcases hh with ⟨rfl, rfl, rfl⟩ | ⟨j, r, v, rfl, hr, rfl, rfl, hI⟩
  · clear hy
    refine wp_stage [] [5, 6] 20 (fun w' => ∃ z : Later W, w' = z.1) (by kernel_rfl) (by kernel_rfl) (by kernel_rfl) rfl rfl ⟨⟨_, Below.refl _ _⟩, rfl⟩ ?_
    simp only [opsAt, List.map_nil]
    refine wpQuiet_nil ?_
    refine wpN_list [5, 6] _ _ (by kernel_rfl) ?_
    simp only [opsAt, List.map_cons, List.map_nil, Array.getD_eq_getD_getElem?, List.getElem?_toArray, List.getElem?_cons_zero, List.getElem?_cons_succ, Option.getD_some]
    go_wp2
    refine NoPanic.normal ?_
    rw [QS_normal]
    refine wp_stage [7, 8, 10, 11, 12, 13] [9, 14, 15, 16, 17, 18] 8 (fun w' => ∃ z : Later W, w' = z.1) (by kernel_rfl) (by kernel_rfl) (by kernel_rfl) rfl rfl ⟨⟨_, Below.refl _ _⟩, rfl⟩ ?_
    simp only [opsAt, List.map_cons, List.map_nil, Array.getD_eq_getD_getElem?, List.getElem?_toArray, List.getElem?_cons_zero, List.getElem?_cons_succ, Option.getD_some]
    repeat (go_big_quiet_step (fail))
    refine wpQuiet_nil ?_
    refine wpN_at true (by kernel_rfl) (by kernel_rfl) ?_
    simp only [opsAt, List.map_cons, List.map_nil, Array.getD_eq_getD_getElem?, List.getElem?_toArray, List.getElem?_cons_zero, List.getElem?_cons_succ, Option.getD_some]
    go_wp2
    refine ⟨fun _ => ⟨⟨_, Below.refl _ _⟩, rfl⟩, wpN_list [14, 15, 16, 17, 18] _ _ (by kernel_rfl) ?_⟩
    simp only [opsAt, List.map_cons, List.map_nil, Array.getD_eq_getD_getElem?, List.getElem?_toArray, List.getElem?_cons_zero, List.getElem?_cons_succ, Option.getD_some]
    go_wp2
    refine NoPanic.normal ?_
    rw [QS_normal]
    exact HK.out _ _ ⟨rfl, rfl, rfl, rfl, rfl, rfl, rfl, rfl, rfl, rfl, rfl, rfl⟩ rfl (Below.refl _ _)
  · obtain ⟨hjl, hrj⟩ := List.getElem?_eq_some_iff.1 hr
    have hjz : (0 : Int) ≤ (j : Int) := by omega
    have hjlz : (j : Int) < (O.length : Int) := by omega
    obtain ⟨hrs, hrl⟩ := hO j r rfl hr
    rcases hw.refs.head with ⟨_, e0⟩ | ⟨lg, lcap, cur, hlve, _, hll, hle, _, hlcur, hlcell⟩
    · rw [e0] at hjl; cases hjl
    cases hlve
    obtain ⟨i1, i2⟩ := rAt_rd hlcell hjl
    rw [hrj, hrs] at i2
    have z1 : ∀ z : Later W, z.1.cell? ⟨g0, 0, none⟩ = some (.string s) := fun z => (z.2.cell (block_lt_of_cell q1)).trans q1
    have z2 : ∀ z : Later W, okCells z.1 ⟨yb, 0, none⟩ 38 = true := fun z => Later.ok q2 z
    have z3 : ∀ z : Later W, rdCells z.1 ⟨yb, 0, none⟩ 38 = lineCells { r.m.g with refs := v } := fun z => (Later.rd q2 z).trans q3
    have z4 : ∀ z : Later W, okCells z.1 ⟨lg, j * 39, none⟩ 39 = true := fun z => Later.ok i1 z
    have z5 : ∀ z : Later W, rdCells z.1 ⟨lg, j * 39, none⟩ 39 = rlineCells s { r.m.g with refs := r.m.v } := fun z => (Later.rd i1 z).trans i2
    have HI := Lib.hid hI
    have HI2 := Lib.hid (hw.ids r (List.mem_of_getElem? hr))
    clear q1 q2 q3 i1 i2 hlcell hlcur hr hrj hrs hy hw hO hI hle
    refine wp_stage [] [5, 6] 20 (fun w' => ∃ z : Later W, w' = z.1) (by kernel_rfl) (by kernel_rfl) (by kernel_rfl) rfl rfl ⟨⟨_, Below.refl _ _⟩, rfl⟩ ?_
    simp only [opsAt, List.map_nil]
    refine wpQuiet_nil ?_
    refine wpN_list [5, 6] _ _ (by kernel_rfl) ?_
    simp only [opsAt, List.map_cons, List.map_nil, Array.getD_eq_getD_getElem?, List.getElem?_toArray, List.getElem?_cons_zero, List.getElem?_cons_succ, Option.getD_some]
    go_wp2
    refine NoPanic.normal ?_
    rw [QS_normal]
    refine wp_stage [7, 8, 10, 11, 12, 13] [9, 14, 15, 16, 17, 18] 8 (fun w' => ∃ z : Later W, w' = z.1) (by kernel_rfl) (by kernel_rfl) (by kernel_rfl) rfl rfl ⟨⟨_, Below.refl _ _⟩, rfl⟩ ?_
    simp only [opsAt, List.map_cons, List.map_nil, Array.getD_eq_getD_getElem?, List.getElem?_toArray, List.getElem?_cons_zero, List.getElem?_cons_succ, Option.getD_some]
    repeat (go_big_quiet_step (fail))
    refine wpQuiet_nil ?_
    clear z1 z2 z3 z4 z5
    refine wpN_at true (by kernel_rfl) (by kernel_rfl) ?_
    simp only [opsAt, List.map_cons, List.map_nil, Array.getD_eq_getD_getElem?, List.getElem?_toArray, List.getElem?_cons_zero, List.getElem?_cons_succ, Option.getD_some]
    have honx : v.oneCell' = true := HI.out.one
    have hcs : ({ r.m.g with refs := v } : GLine).refs.cells = #[({ r.m.g with refs := v } : GLine).refs] := by
      obtain ⟨a', c', he, _⟩ := HI.out.at
      show v.cells = #[v]
      rw [he]; rfl
    go_wp2_with fail
    refine (back_any s { r.m.g with refs := v } W hcs honx).mono ?_
    rintro r0 W2 ⟨rfl, hb2⟩
    have HB2 := Lib.hid hb2
    go_wp2_with fail
    refine ⟨fun _ => ⟨⟨_, hb2⟩, rfl⟩, wpN_list [14, 15, 16, 17, 18] _ _ (by kernel_rfl) ?_⟩
    clear hb2
    simp only [opsAt, List.map_cons, List.map_nil, Array.getD_eq_getD_getElem?, List.getElem?_toArray, List.getElem?_cons_zero, List.getElem?_cons_succ, Option.getD_some]
    have HSM := Lib.hid (same_true s r.m.g v r.m.v r.m.p.ids W2 (HI.out.at.below HB2.out) (HI2.out.below HB2.out) (by omega))
    go_wp2_with fail
    refine HSM.out.mono ?_
    rintro r0 W3 ⟨rfl, hb3⟩
    have HB3 := Lib.hid (HB2.out.trans (hb3.mono HB2.out.size) : Below W.heap.size W W3)
    clear hb3 HSM
    go_wp2
    refine NoPanic.normal ?_
    rw [QS_normal]
    exact HK.out _ _ ⟨rfl, rfl, rfl, rfl, rfl, rfl, rfl, rfl, rfl, rfl, rfl, rfl⟩ rfl HB3.out

set_option maxRecDepth 100000 in
set_option maxHeartbeats 4000000 in
theorem vw8zero {ops : Array Oper} (hreg : vwReg 8 = .region 8 ops true) (Q : Exit → Act → World → Prop) (t : Array Value) (c : Nat → Value) (g0 : Nat) (la : Option Addr) (ln lc : Nat) (a : Int) (yb : Nat) (b : Bool) (O : List MR) (g : GLine) (hs : S8 t c g0 la ln lc a yb b) (hc : t.getD 86 undef = .bool false) (W : World) (hy : LineVar W yb g) (hh : Hit 0 W O a b g)
    (hK : ∀ t' W', S8 t' c g0 la ln lc a yb b → t'.getD 94 undef = .bool false → Below W.heap.size W W' → wpSt Tryz.prog ops Q [0, 1, 2, 3, 4, 5, 6, 7, 8, 9, 10, 11, 12, 13, 14, 15, 16, 17, 18, 19, 20, 21, 22, 23, 24, 25, 26] 0 ⟨t', []⟩ W') : wpSt Tryz.prog ops Q [0, 1, 2, 3, 4, 5, 6, 7, 8, 9, 10, 11, 12, 13, 14, 15, 16, 17, 18] 8 ⟨t, []⟩ W := by
  conv at hreg => lhs; whnf
  cases hreg
  obtain ⟨f, hf, hft⟩ := hs.out
  have hc' : f 86 = .bool false := (hf 86).trans hc
  rw [hft, hc']
  have HK := Lib.hid hK
  obtain ⟨q2, q3⟩ := hy.rd
  clear hK hft hc hc' hf hs
  rcases hh with ⟨rfl, rfl, rfl⟩ | ⟨j, r, v, rfl, hr, rfl, rfl, hI⟩
  · have z2 : ∀ z : Later W, okCells z.1 ⟨yb, 0, none⟩ 38 = true := fun z => Later.ok q2 z
    have z3 : ∀ z : Later W, rdCells z.1 ⟨yb, 0, none⟩ 38 = lineCells zeroLine := fun z => (Later.rd q2 z).trans q3
    clear q2 q3 hy
    refine wp_stage [] [19, 20, 21] 5 (fun w' => ∃ z : Later W, w' = z.1) (by kernel_rfl) (by kernel_rfl) (by kernel_rfl) rfl rfl ⟨⟨_, Below.refl _ _⟩, rfl⟩ ?_
    simp only [opsAt, List.map_nil]
    refine wpQuiet_nil ?_
    refine wpN_list [19, 20, 21] _ _ (by kernel_rfl) ?_
    simp only [opsAt, List.map_cons, List.map_nil, Array.getD_eq_getD_getElem?, List.getElem?_toArray, List.getElem?_cons_zero, List.getElem?_cons_succ, Option.getD_some]
    go_wp2
    refine NoPanic.normal ?_
    rw [QS_normal]
    refine wp_stage [22] [23, 24, 25, 26] 0 (fun w' => ∃ z : Later W, w' = z.1) (by kernel_rfl) (by kernel_rfl) (by kernel_rfl) rfl rfl ⟨⟨_, Below.refl _ _⟩, rfl⟩ ?_
    simp only [opsAt, List.map_cons, List.map_nil, Array.getD_eq_getD_getElem?, List.getElem?_toArray, List.getElem?_cons_zero, List.getElem?_cons_succ, Option.getD_some]
    repeat (go_big_quiet_step (fail))
    refine wpQuiet_nil ?_
    clear z2 z3
    refine wpN_list [23, 24, 25, 26] _ _ (by kernel_rfl) ?_
    simp only [opsAt, List.map_cons, List.map_nil, Array.getD_eq_getD_getElem?, List.getElem?_toArray, List.getElem?_cons_zero, List.getElem?_cons_succ, Option.getD_some]
    go_wp2_with fail
    refine (zero_true W).mono ?_
    rintro r0 W3 ⟨rfl, hb3⟩
    have HB3 := Lib.hid hb3
    clear hb3
    go_wp2
    refine NoPanic.normal ?_
    rw [QS_normal]
    exact HK.out _ _ ⟨rfl, rfl, rfl, rfl, rfl, rfl, rfl, rfl, rfl, rfl, rfl, rfl⟩ rfl HB3.out
  · clear q2 q3 hy hI hr
    refine wp_stage [] [19, 20, 21] 5 (fun w' => ∃ z : Later W, w' = z.1) (by kernel_rfl) (by kernel_rfl) (by kernel_rfl) rfl rfl ⟨⟨_, Below.refl _ _⟩, rfl⟩ ?_
    simp only [opsAt, List.map_nil]
    refine wpQuiet_nil ?_
    refine wpN_list [19, 20, 21] _ _ (by kernel_rfl) ?_
    simp only [opsAt, List.map_cons, List.map_nil, Array.getD_eq_getD_getElem?, List.getElem?_toArray, List.getElem?_cons_zero, List.getElem?_cons_succ, Option.getD_some]
    go_wp2
    refine NoPanic.normal ?_
    rw [QS_normal]
    refine wp_stage [22] [23, 24, 25, 26] 0 (fun w' => ∃ z : Later W, w' = z.1) (by kernel_rfl) (by kernel_rfl) (by kernel_rfl) rfl rfl ⟨⟨_, Below.refl _ _⟩, rfl⟩ ?_
    simp only [opsAt, List.map_cons, List.map_nil, Array.getD_eq_getD_getElem?, List.getElem?_toArray, List.getElem?_cons_zero, List.getElem?_cons_succ, Option.getD_some]
    repeat (go_big_quiet_step (fail))
    refine wpQuiet_nil ?_
    refine wpN_list [23, 24, 25, 26] _ _ (by kernel_rfl) ?_
    simp only [opsAt, List.map_cons, List.map_nil, Array.getD_eq_getD_getElem?, List.getElem?_toArray, List.getElem?_cons_zero, List.getElem?_cons_succ, Option.getD_some]
    go_wp2
    refine NoPanic.normal ?_
    rw [QS_normal]
    exact HK.out _ _ ⟨rfl, rfl, rfl, rfl, rfl, rfl, rfl, rfl, rfl, rfl, rfl, rfl⟩ rfl (Below.refl _ _)

theorem vw8 {ops : Array Oper} (hreg : vwReg 8 = .region 8 ops true) (Q : Exit → Act → World → Prop) (t : Array Value) (c : Nat → Value) (g0 : Nat) (la : Option Addr) (ln lc : Nat) (a : Int) (yb : Nat) (b : Bool) (s : ByteArray) (O : List MR) (g : GLine) (hln : ln = O.length) (hs : S8 t c g0 la ln lc a yb b) (W : World) (hw : VwL g0 s la lc O W) (hy : LineVar W yb g) (hh : Hit 0 W O a b g) (hO : ∀ (j : Nat) (r : MR), a = (j : Int) → O[j]? = some r → r.s = s ∧ r.m.p.ids.length ≤ 20)
    (hK : ∀ t' W', S8 t' c g0 la ln lc a yb b → t'.getD 94 undef = .bool false → Below W.heap.size W W' → Q .normal ⟨t', []⟩ W') : (Code.region 8 ops true).wp Tryz.prog Q ⟨t, []⟩ W := by
  have hsz : ops.size = 27 := by
    conv at hreg => lhs; whnf
    cases hreg
    rfl
  have hend : ((List.range ops.size).all fun i => [0, 1, 2, 3, 4, 5, 6, 7, 8, 9, 10, 11, 12, 13, 14, 15, 16, 17, 18, 19, 20, 21, 22, 23, 24, 25, 26].contains i) = true := by rw [hsz]; rfl
  refine wp_region_stages (by kernel_rfl) ?_
  rw [hsz]
  have hb0 : Below W.heap.size W W.drew := (Below.refl _ _).drew
  refine vw8head hreg Q t c g0 la ln lc a yb b O g hs W.drew hh fun t1 W1 hs1 hc1 hb1 => ?_
  have hb1' : Below W.heap.size W W1 := hb0.trans hb1
  refine vw8same hreg Q t1 c g0 la ln lc a yb b s O g hln hs1 hc1 W1 (hw.below hb1') (hy.below hb1' hy.lt) (hh.below hb1') hO fun t2 W2 hs2 hc2 hb2 => ?_
  have hb2' : Below W.heap.size W W2 := hb1'.trans (hb2.mono hb1'.size)
  refine vw8zero hreg Q t2 c g0 la ln lc a yb b O g hs2 hc2 W2 (hy.below hb2' hy.lt) (hh.below hb2') fun t3 W3 hs3 hc3 hb3 => ?_
  exact wpSt_end hend (hK t3 W3 hs3 hc3 (hb2'.trans (hb3.mono hb2'.size)))

end Go.Proofs.YtdjaphcelpchaaaGreatDoor

namespace Go.Proofs.YtdjaphcelpchaaaGreatDoor
open Go Go.RowKit Go.Proofs

attribute [local go_sem ↓] ex_load_id ex_store_id ex_load_line ex_store_line ex_load_rline ex_store_rline ex_alloc_line ex_build_line ex_alloc_rline ex_build_rline

attribute [local go_sem] ld_id st_id ld_line st_line ld_rline st_rline guard_id okCells_drew rdCells_drew okCells_drewN rdCells_drewN rowOk_drew rowOk_cells okCells_cells rdCells_cells setRow_drew setRow_new setRow_past

theorem vw28 {ops : Array Oper} (hreg : vwReg 28 = .region 28 ops true) (Q : Exit → Act → World → Prop) (t : Array Value) (c : Nat → Value) (g0 : Nat) (la : Option Addr) (ln lc : Nat) (a1 a2 a3 : Int) (y1 y2 y3 : Nat) (b1 b2 b3 : Bool) (s : ByteArray) (O : List MR) (g1 g2 g3 : GLine) (hln : ln = O.length) (hs : S28 t c g0 la ln lc a1 a2 a3 y1 y2 y3 b1 b2 b3) (W : World) (hw : VwL g0 s la lc O W) (hy1 : LineVar W y1 g1) (hy2 : LineVar W y2 g2) (hy3 : LineVar W y3 g3) (hh1 : Hit 0 W O a1 b1 g1) (hh2 : Hit 0 W O a2 b2 g2) (hh3 : Hit 0 W O a3 b3 g3) (hO' : ∀ r ∈ O, r.s = s ∧ r.m.p.ids.length ≤ 20)
    (hK : ∀ t' W', S28 t' c g0 la ln lc a1 a2 a3 y1 y2 y3 b1 b2 b3 → t'.getD 260 undef = .bool false → Below W.heap.size W W' → Q .normal ⟨t', []⟩ W') : (Code.region 28 ops true).wp Tryz.prog Q ⟨t, []⟩ W := by
  have hsz : ops.size = 85 := by
    conv at hreg => lhs; whnf
    cases hreg
    rfl
  have hend : ((List.range ops.size).all fun i => [0, 1, 2, 3, 4, 5, 6, 7, 8, 9, 10, 11, 12, 13, 14, 15, 16, 17, 18, 19, 20, 21, 22, 23, 24, 25, 26, 27, 28, 29, 30, 31, 32, 33, 34, 35, 36, 37, 38, 39, 40, 41, 42, 43, 44, 45, 46, 47, 48, 49, 50, 51, 52, 53, 54, 55, 56, 57, 58, 59, 60, 61, 62, 63, 64, 65, 66, 67, 68, 69, 70, 71, 72, 73, 74, 75, 76, 77, 78, 79, 80, 81, 82, 83, 84].contains i) = true := by rw [hsz]; rfl
  have hO : ∀ {a : Int} (j : Nat) (r : MR), a = (j : Int) → O[j]? = some r → r.s = s ∧ r.m.p.ids.length ≤ 20 := fun j r _ h => hO' r (List.mem_of_getElem? h)
  refine wp_region_stages (by kernel_rfl) ?_
  rw [hsz]
  have hb0 : Below W.heap.size W W.drew := (Below.refl _ _).drew
  refine vw28a hreg Q t c g0 la ln lc a1 a2 a3 y1 y2 y3 b1 b2 b3 O g1 hs W.drew (hh1.below hb0) fun t1 W1 hs1 hc1 hb1 => ?_
  have hb1' : Below W.heap.size W W1 := hb0.trans (hb1.mono hb0.size)
  refine vw28b hreg Q t1 c g0 la ln lc a1 a2 a3 y1 y2 y3 b1 b2 b3 O g2 hs1 hc1 W1 (hh2.below hb1') fun t2 W2 hs2 hc2 hb2 => ?_
  have hb2' : Below W.heap.size W W2 := hb1'.trans (hb2.mono hb1'.size)
  refine vw28c hreg Q t2 c g0 la ln lc a1 a2 a3 y1 y2 y3 b1 b2 b3 O g3 hs2 hc2 W2 (hh3.below hb2') fun t3 W3 hs3 hc3 hb3 => ?_
  have hb3' : Below W.heap.size W W3 := hb2'.trans (hb3.mono hb2'.size)
  refine vw28n hreg Q t3 c g0 la ln lc a1 a2 a3 y1 y2 y3 b1 b2 b3 s O g1 hln hs3 hc3 W3 (hw.below hb3') (hy1.below hb3' hy1.lt) (hh1.below hb3') hO fun t4 W4 hs4 hc4 hb4 => ?_
  have hb4' : Below W.heap.size W W4 := hb3'.trans (hb4.mono hb3'.size)
  refine vw28p hreg Q t4 c g0 la ln lc a1 a2 a3 y1 y2 y3 b1 b2 b3 s O g2 hln hs4 hc4 W4 (hw.below hb4') (hy2.below hb4' hy2.lt) (hh2.below hb4') hO fun t5 W5 hs5 hc5 hb5 => ?_
  have hb5' : Below W.heap.size W W5 := hb4'.trans (hb5.mono hb4'.size)
  refine vw28f hreg Q t5 c g0 la ln lc a1 a2 a3 y1 y2 y3 b1 b2 b3 s O g3 hln hs5 hc5 W5 (hw.below hb5') (hy3.below hb5' hy3.lt) (hh3.below hb5') hO fun t6 W6 hs6 hc6 hb6 => ?_
  have hb6' : Below W.heap.size W W6 := hb5'.trans (hb6.mono hb5'.size)
  refine vw28zn hreg Q t6 c g0 la ln lc a1 a2 a3 y1 y2 y3 b1 b2 b3 O g1 hs6 hc6 W6 (hy1.below hb6' hy1.lt) (hh1.below hb6') fun t7 W7 hs7 hc7 hb7 => ?_
  have hb7' : Below W.heap.size W W7 := hb6'.trans (hb7.mono hb6'.size)
  refine vw28zp hreg Q t7 c g0 la ln lc a1 a2 a3 y1 y2 y3 b1 b2 b3 O g2 hs7 hc7 W7 (hy2.below hb7' hy2.lt) (hh2.below hb7') fun t8 W8 hs8 hc8 hb8 => ?_
  have hb8' : Below W.heap.size W W8 := hb7'.trans (hb8.mono hb7'.size)
  refine vw28zf hreg Q t8 c g0 la ln lc a1 a2 a3 y1 y2 y3 b1 b2 b3 O g3 hs8 hc8 W8 (hy3.below hb8' hy3.lt) (hh3.below hb8') fun t9 W9 hs9 hc9 hb9 => ?_
  have hb9' : Below W.heap.size W W9 := hb8'.trans (hb9.mono hb8'.size)
  exact wpSt_end hend (hK t9 W9 hs9 hc9 hb9')

end Go.Proofs.YtdjaphcelpchaaaGreatDoor

namespace Go.Proofs.YtdjaphcelpchaaaGreatDoor
open Go Go.RowKit Go.Proofs

attribute [local go_sem ↓] ex_load_id ex_store_id ex_load_line ex_store_line ex_load_rline ex_store_rline ex_alloc_line ex_build_line ex_alloc_rline ex_build_rline

attribute [local go_sem] ld_id st_id ld_line st_line ld_rline st_rline guard_id okCells_drew rdCells_drew okCells_drewN rdCells_drewN rowOk_drew rowOk_cells okCells_cells rdCells_cells setRow_drew setRow_new setRow_past run_eql_id run_neq_id eqIn_id

theorem guard_place : Tryz.prog.eqGuardType Tryz.prog.depth 76 = false := by kernel_rfl
theorem eqIn_place (t : ByteArray) (n : Int) (w : World) : (Op.equalIn 10000 76 (.agg #[.string t, .int .i64 n]) (.agg #[.string t, .int .i64 n])).run Tryz.prog w = .ok true w := by
  rw [run_equalIn_struct w 9999 76 _ _ (by kernel_rfl) (by kernel_rfl)]
  simp [go_sem, Tryz.underlying76]
attribute [local go_sem] guard_place eqIn_place

/-- What the slots hold in the last loop. -/
structure VM (t : Array Value) (g0 : Nat) (va : Option Addr) (vn vc wb kb : Nat) (pa : Option Addr) (pn pc : Nat) (kk ii : Int) : Prop where
  size : t.size = 334
  s11 : t.getD 11 undef = .pointer (some ⟨g0 + 1, 0, none⟩)
  s12 : t.getD 12 undef = .pointer (some ⟨g0 + 1 + 1, 0, none⟩)
  s14 : t.getD 14 undef = .slice va vn vc
  s22 : t.getD 22 undef = .pointer (some ⟨wb, 0, none⟩)
  s31 : t.getD 31 undef = .pointer (some ⟨kb, 0, none⟩)
  s33 : t.getD 33 undef = .slice pa pn pc
  s34 : t.getD 34 undef = .int .i64 kk
  s35 : t.getD 35 undef = .int .i64 ii
set_option maxRecDepth 100000 in
theorem VM.out {t : Array Value} {g0 : Nat} {va : Option Addr} {vn vc wb kb : Nat} {pa : Option Addr} {pn pc : Nat} {kk ii : Int} (h : VM t g0 va vn vc wb kb pa pn pc kk ii) : ∃ f : Nat → Value, (∀ k, f k = t.getD k undef) ∧ t = #[f 0, f 1, f 2, f 3, f 4, f 5, f 6, f 7, f 8, f 9, f 10, .pointer (some ⟨g0 + 1, 0, none⟩), .pointer (some ⟨g0 + 1 + 1, 0, none⟩), f 13, .slice va vn vc, f 15, f 16, f 17, f 18, f 19, f 20, f 21, .pointer (some ⟨wb, 0, none⟩), f 23, f 24, f 25, f 26, f 27, f 28, f 29, f 30, .pointer (some ⟨kb, 0, none⟩), f 32, .slice pa pn pc, .int .i64 kk, .int .i64 ii, f 36, f 37, f 38, f 39, f 40, f 41, f 42, f 43, f 44, f 45, f 46, f 47, f 48, f 49, f 50, f 51, f 52, f 53, f 54, f 55, f 56, f 57, f 58, f 59, f 60, f 61, f 62, f 63, f 64, f 65, f 66, f 67, f 68, f 69, f 70, f 71, f 72, f 73, f 74, f 75, f 76, f 77, f 78, f 79, f 80, f 81, f 82, f 83, f 84, f 85, f 86, f 87, f 88, f 89, f 90, f 91, f 92, f 93, f 94, f 95, f 96, f 97, f 98, f 99, f 100, f 101, f 102, f 103, f 104, f 105, f 106, f 107, f 108, f 109, f 110, f 111, f 112, f 113, f 114, f 115, f 116, f 117, f 118, f 119, f 120, f 121, f 122, f 123, f 124, f 125, f 126, f 127, f 128, f 129, f 130, f 131, f 132, f 133, f 134, f 135, f 136, f 137, f 138, f 139, f 140, f 141, f 142, f 143, f 144, f 145, f 146, f 147, f 148, f 149, f 150, f 151, f 152, f 153, f 154, f 155, f 156, f 157, f 158, f 159, f 160, f 161, f 162, f 163, f 164, f 165, f 166, f 167, f 168, f 169, f 170, f 171, f 172, f 173, f 174, f 175, f 176, f 177, f 178, f 179, f 180, f 181, f 182, f 183, f 184, f 185, f 186, f 187, f 188, f 189, f 190, f 191, f 192, f 193, f 194, f 195, f 196, f 197, f 198, f 199, f 200, f 201, f 202, f 203, f 204, f 205, f 206, f 207, f 208, f 209, f 210, f 211, f 212, f 213, f 214, f 215, f 216, f 217, f 218, f 219, f 220, f 221, f 222, f 223, f 224, f 225, f 226, f 227, f 228, f 229, f 230, f 231, f 232, f 233, f 234, f 235, f 236, f 237, f 238, f 239, f 240, f 241, f 242, f 243, f 244, f 245, f 246, f 247, f 248, f 249, f 250, f 251, f 252, f 253, f 254, f 255, f 256, f 257, f 258, f 259, f 260, f 261, f 262, f 263, f 264, f 265, f 266, f 267, f 268, f 269, f 270, f 271, f 272, f 273, f 274, f 275, f 276, f 277, f 278, f 279, f 280, f 281, f 282, f 283, f 284, f 285, f 286, f 287, f 288, f 289, f 290, f 291, f 292, f 293, f 294, f 295, f 296, f 297, f 298, f 299, f 300, f 301, f 302, f 303, f 304, f 305, f 306, f 307, f 308, f 309, f 310, f 311, f 312, f 313, f 314, f 315, f 316, f 317, f 318, f 319, f 320, f 321, f 322, f 323, f 324, f 325, f 326, f 327, f 328, f 329, f 330, f 331, f 332, f 333] := by
  obtain ⟨f, hf, hft⟩ := slots334 t h.size
  refine ⟨f, hf, ?_⟩
  have e11 := (hf 11).trans h.s11
  have e12 := (hf 12).trans h.s12
  have e14 := (hf 14).trans h.s14
  have e22 := (hf 22).trans h.s22
  have e31 := (hf 31).trans h.s31
  have e33 := (hf 33).trans h.s33
  have e34 := (hf 34).trans h.s34
  have e35 := (hf 35).trans h.s35
  rw [← e11, ← e12, ← e14, ← e22, ← e31, ← e33, ← e34, ← e35]
  exact hft

/-- The places of an article below i. -/
def placesR (x : Id32) (l : List MR) : List PL := (l.filter fun r => decide (r.m.p.id = x)).map fun r => (r.s, r.m.p.number)
theorem placesR_at {x : Id32} {rs : List MR} {i : Nat} (hi : i < rs.length) (hx : rs[i].m.p.id = x) : ∃ h : (placesR x (rs.take i)).length < (placesR x rs).length, (placesR x rs)[(placesR x (rs.take i)).length] = (rs[i].s, rs[i].m.p.number) := by
  have e : placesR x rs = placesR x (rs.take i) ++ (rs[i].s, rs[i].m.p.number) :: placesR x (rs.drop (i + 1)) := by
    have h1 : rs = rs.take i ++ rs[i] :: rs.drop (i + 1) := by rw [List.getElem_cons_drop, List.take_append_drop]
    conv => lhs; rw [h1]
    unfold placesR
    rw [List.filter_append, List.map_append, List.filter_cons_of_pos (by simpa using hx)]
    rfl
  refine ⟨by rw [e]; simp, ?_⟩
  have : ∀ (l : List PL) (h : (placesR x (rs.take i)).length < l.length), l = placesR x (rs.take i) ++ (rs[i].s, rs[i].m.p.number) :: placesR x (rs.drop (i + 1)) → l[(placesR x (rs.take i)).length] = (rs[i].s, rs[i].m.p.number) := by
    intro l h e'
    subst e'
    simp
  exact this _ _ e
theorem placesR_step {x : Id32} {rs : List MR} {i : Nat} (hi : i < rs.length) : (placesR x (rs.take (i + 1))).length = (placesR x (rs.take i)).length + (if rs[i].m.p.id = x then 1 else 0) := by
  rw [List.take_succ_eq_append_getElem hi]
  unfold placesR
  rw [List.filter_append, List.map_append, List.length_append]
  by_cases h : rs[i].m.p.id = x <;> simp [h]
structure VmI (g0 : Nat) (va : Option Addr) (vc wb kb : Nat) (pa : Option Addr) (pc : Nat) (x : Id32) (rs : List MR) (df : List Deferred) (W : World) (k : Nat) (a : Act) (X : World) : Prop where
  le : k ≤ rs.length
  df' : a.defers = df
  sl : VM a.tmps g0 va rs.length vc wb kb pa (placesR x rs).length pc (placesR x (rs.take k)).length k
  wd : ∃ q, X = W.drewN q
def leftM (n : Nat) (a : Act) : Nat := n - (intOf (a.tmps.getD 35 undef)).toNat
theorem VmI.left {g0 : Nat} {va : Option Addr} {vc wb kb : Nat} {pa : Option Addr} {pc : Nat} {x : Id32} {rs : List MR} {df : List Deferred} {W : World} {k : Nat} {a : Act} {X : World} (h : VmI g0 va vc wb kb pa pc x rs df W k a X) (m : Nat) : leftM m a = m - k := by
  unfold leftM
  rw [h.sl.s35]
  rfl

set_option maxRecDepth 100000 in
set_option maxHeartbeats 8000000 in
theorem vw_loop2 (Q : Exit → Act → World → Prop) (g0 : Nat) (va : Option Addr) (vc wb kb : Nat) (pa : Option Addr) (pc : Nat) (x : Id32) (rs : List MR) (df : List Deferred) (t : Array Value) (W : World)
    (hs : VM t g0 va rs.length vc wb kb pa (placesR x rs).length pc 0 0) (hid : W.heap[g0 + 1]? = some (.cells (encId x).toArray 23 (0, 0))) (hv : RefsAt 0 W (.slice va rs.length vc) rs) (hp : W.ownsRow 0 76 2 (.slice pa (placesR x rs).length pc) (placesR x rs).length (flatP (placesR x rs)))
    (hQ : ∀ a X, VmI g0 va vc wb kb pa pc x rs df W rs.length a X → Q (.exit 4) a X) : vwLoop2.wp Tryz.prog Q ⟨t, df⟩ W := by
  conv => arg 2; whnf
  have HID := Lib.hid hid
  have HV := Lib.hid hv
  have HQ := Lib.hid hQ
  have HP := Lib.hid hp
  have hfew := hv.few
  have hpl : (placesR x rs).length ≤ rs.length := by
    unfold placesR
    rw [List.length_map]
    exact List.length_filter_le _ _
  refine wp_loop (fun a X => ∃ k, VmI g0 va vc wb kb pa pc x rs df W k a X) (fun a _ => leftM rs.length a) ⟨0, Nat.zero_le _, rfl, hs, 0, rfl⟩ ?_
  clear hs hid hv hp hQ
  rintro a X ⟨k, hinv⟩
  have hmu := hinv.left rs.length
  have HMU : Hid (∀ a' X', VmI g0 va vc wb kb pa pc x rs df W (k + 1) a' X' → k < rs.length → leftM rs.length a' < leftM rs.length a) := Lib.hid fun a' X' h hl => by rw [h.left, hmu]; omega
  clear hmu
  generalize leftM rs.length a = mu at HMU
  obtain ⟨hle, hdf, hsl, q, rfl⟩ := hinv
  obtain ⟨tm, df'⟩ := a
  obtain rfl : df' = df := hdf
  obtain ⟨f, hf, hft⟩ := hsl.out
  simp only at hft
  subst hft
  clear hf hsl
  by_cases hlt : k < rs.length
  · have hltz : (k : Int) < (rs.length : Int) := by omega
    rcases HV.out.head with ⟨_, e0⟩ | ⟨lg, lcap, cur, hlve, _, hll, hlle, _, hlcur, hlcell⟩
    · rw [e0] at hlt; cases hlt
    cases hlve
    obtain ⟨i1, i2⟩ := rAt_id hlcell hlt
    obtain ⟨j1, j2⟩ := rd_of_block HID.out
    have c0 : W.cell? ⟨lg, k * 39, none⟩ = some (.string rs[k].s) := rAt_cell hlcell hlt (i := 0) rfl
    have c1 : W.cell? ⟨lg, k * 39 + 1, none⟩ = some (.int .i64 rs[k].m.p.number) := rAt_cell hlcell hlt (i := 1) rfl
    have HST := Lib.hid (placesR_step (x := x) hlt)
    have HAT := Lib.hid fun h => placesR_at (x := x) hlt h
    have HFIN : Hid (∀ (f' : Array Value) (q' : Nat), VM f' g0 (some ⟨lg, 0, none⟩) rs.length vc wb kb pa (placesR x rs).length pc (placesR x (rs.take (k + 1))).length ((k : Int) + 1) → VmI g0 (some ⟨lg, 0, none⟩) vc wb kb pa pc x rs df' W (k + 1) ⟨f', df'⟩ (W.drewN q')) := Lib.hid fun f' q' h =>
      ⟨hlt, rfl, by rw [show ((k + 1 : Nat) : Int) = (k : Int) + 1 by omega]; exact h, q', rfl⟩
    clear hlcell hlcur hlle
    generalize rs[k].m.p.id = y at i2 HST HAT
    generalize rs[k].m.p.number = num at c1 HAT
    generalize rs[k].s = st at c0 HAT
    by_cases hxy : y = x
    · have hd : decide (y = x) = true := decide_eq_true hxy
      obtain ⟨hkp, hpe⟩ := HAT.out hxy
      have HL := Lib.hid (show (placesR x (rs.take (k + 1))).length = (placesR x (rs.take k)).length + 1 by rw [HST.out, if_pos hxy])
      rw [HL.out] at HFIN
      have hg := flatP_get _ _ hkp
      rw [hpe] at hg
      obtain ⟨pb, pcap, pcur, hpv, hcell⟩ : ∃ pb pcap pcur, (Value.slice pa (placesR x rs).length pc = .slice (some ⟨pb, 0, none⟩) pcap pcur) ∧ ∀ j u, (flatP (placesR x rs))[j]? = some u → W.cell? ⟨pb, j, none⟩ = some u := by
        rcases HP.out.2 with ⟨_, h0⟩ | ⟨g, cap, cur, e, _⟩
        · omega
        · refine ⟨g, _, _, e, fun j u hu => ?_⟩
          have := World.ownsRow.cells HP.out (g := g) (by rw [e]; rfl) j u hu
          rwa [Addr.add_lit, Nat.zero_add] at this
      cases hpv
      have p0 := hcell _ _ hg.1
      have p1 := hcell _ _ hg.2
      have hkpz : ((placesR x (rs.take k)).length : Int) < ((placesR x rs).length : Int) := by omega
      clear HAT HST hxy hg hcell hpe HL HP
      generalize (placesR x (rs.take k)).length = kp at HFIN p0 p1 hkp hkpz
      generalize (placesR x rs).length = np at HFIN hkp hkpz hpl HMU HQ
      go_wp2
      go_quiet (fail)
      go_wp2
      go_quiet (fail)
      go_wp2
      exact ⟨⟨k + 1, HFIN.out _ _ ⟨rfl, rfl, rfl, rfl, rfl, rfl, rfl, rfl, rfl⟩⟩, HMU.out _ _ (HFIN.out _ 0 ⟨rfl, rfl, rfl, rfl, rfl, rfl, rfl, rfl, rfl⟩) hlt⟩
    · have hd : decide (y = x) = false := decide_eq_false hxy
      have HL := Lib.hid (show (placesR x (rs.take (k + 1))).length = (placesR x (rs.take k)).length by rw [HST.out, if_neg hxy]; rfl)
      rw [HL.out] at HFIN
      clear HAT HST c0 c1 hxy
      go_wp2
      go_quiet (fail)
      go_wp2
      exact ⟨⟨k + 1, HFIN.out _ _ ⟨rfl, rfl, rfl, rfl, rfl, rfl, rfl, rfl, rfl⟩⟩, HMU.out _ _ (HFIN.out _ 0 ⟨rfl, rfl, rfl, rfl, rfl, rfl, rfl, rfl, rfl⟩) hlt⟩
  · obtain rfl : k = rs.length := by omega
    have hltz : ¬ (rs.length : Int) < (rs.length : Int) := by omega
    clear HMU
    go_wp2
    exact HQ.out _ _ ⟨Nat.le_refl _, rfl, by rw [List.take_length]; exact ⟨rfl, rfl, rfl, rfl, rfl, rfl, rfl, rfl, rfl⟩, q, rfl⟩

end Go.Proofs.YtdjaphcelpchaaaGreatDoor

namespace Go.Proofs.YtdjaphcelpchaaaGreatDoor
open Go Go.RowKit Go.Proofs

attribute [local go_sem ↓] ex_load_id ex_store_id ex_load_line ex_store_line ex_load_rline ex_store_rline ex_alloc_line ex_build_line ex_alloc_rline ex_build_rline

attribute [local go_sem] ld_id st_id ld_line st_line ld_rline st_rline guard_id okCells_drew rdCells_drew okCells_drewN rdCells_drewN rowOk_drew rowOk_cells okCells_cells rdCells_cells setRow_drew setRow_new setRow_past

attribute [local go_sem] Oper.semAt_some

attribute [local go_sem ↓] exI_load_line exI_store_line exI_alloc_line exI_load_id exI_store_id exI_load_rline exI_store_rline

/-- The law's own boxes: the group, the identity, the result. -/
structure VwBox (w : World) (s : ByteArray) (x : Id32) (W : World) : Prop where
  bl : Below w.heap.size w W
  g : W.heap[w.heap.size]? = some (.cells #[.string s] 9 (0, 0))
  i : W.heap[w.heap.size + 1]? = some (.cells (encId x).toArray 23 (0, 0))
  r : W.heap[w.heap.size + 2]? = some (.cells #[.bool false] 4 (0, 0))
theorem VwBox.step {w : World} {s : ByteArray} {x : Id32} {W W' : World} (h : VwBox w s x W) (hb : Below W.heap.size W W') : VwBox w s x W' :=
  ⟨h.bl.trans (hb.mono h.bl.size), (hb.block _ (Array.getElem?_eq_some_iff.1 h.g).1).trans h.g, (hb.block _ (Array.getElem?_eq_some_iff.1 h.i).1).trans h.i, (hb.block _ (Array.getElem?_eq_some_iff.1 h.r).1).trans h.r⟩

theorem IdxAt.keepV {B : Nat} {w w' : World} {ib M mc : Nat} {gs : List MG} (h : IdxAt B w ib M gs mc) (hf : ∀ k ∈ foot ib M gs, w'.heap[k]? = w.heap[k]?) (hr : ∀ t, ∀ m ∈ linesIn gs t, ∀ k, m.v.ownBlock = some k → w'.heap[k]? = w.heap[k]?) : IdxAt B w' ib M gs mc :=
  h.keep hf fun G hG m hm k hk => hr G.name m (by rw [linesIn_of h hG]; exact hm) k hk
theorem RefsAt.base {B : Nat} {w : World} {v : Value} {rs : List MR} (h : RefsAt B w v rs) : RefsAt 0 w v rs := ⟨ownsRow_base h.row (Nat.zero_le _), h.one, h.names, h.few⟩
theorem RefsAt.typed {B : Nat} {w : World} {v : Value} {rs : List MR} (h : RefsAt B w v rs) {k : Nat} (hk : v.ownBlock = some k) : ∃ cur, w.heap[k]? = some (.cells cur 26 (0, 0)) := ownsRow_typed h.row hk
/-- All that the law's world holds behind Of. -/
structure VwW (w w2 : World) (s : ByteArray) (x : Id32) (ib M : Nat) (gs : List MG) (mc : Nat) (v : Value) (rs : List MR) (n : Nat) (lv : Value) (X : World) : Prop where
  box : VwBox w s x X
  play : PlaySt w2 ib M gs mc v rs n X
  of' : RefsAt 0 X lv (ofR rs s)
theorem VwW.step {w w2 : World} {s : ByteArray} {x : Id32} {ib M : Nat} {gs : List MG} {mc : Nat} {v : Value} {rs : List MR} {n : Nat} {lv : Value} {X Y : World} (h : VwW w w2 s x ib M gs mc v rs n lv X) (hb : Below X.heap.size X Y) : VwW w w2 s x ib M gs mc v rs n lv Y :=
  ⟨h.box.step hb, h.play.later hb, h.of'.below hb⟩
theorem VwW.kept {w w2 : World} {s : ByteArray} {x : Id32} {ib M : Nat} {gs : List MG} {mc : Nat} {v : Value} {rs : List MR} {n : Nat} {lv : Value} {X Y : World} (h : VwW w w2 s x ib M gs mc v rs n lv X) {wb : Nat} {c : Array Value} {ty : TypeId} (hty : ty ≠ 9 ∧ ty ≠ 23 ∧ ty ≠ 4 ∧ ty ≠ 26 ∧ ty ≠ 104 ∧ ty ≠ 115 ∧ ty ≠ 34) (hc : X.heap[wb]? = some (.cells c ty (0, 0))) (hw : w.heap.size ≤ wb) (hw2 : w2.heap.size ≤ wb) (hk : Kept [wb] X Y) : VwW w w2 s x ib M gs mc v rs n lv Y := by
  have one : ∀ {k : Nat} {c' : Array Value} {t : TypeId}, ty ≠ t → X.heap[k]? = some (.cells c' t (0, 0)) → Y.heap[k]? = X.heap[k]? := fun {k c' t} ht hk' => hk.block k (Array.getElem?_eq_some_iff.1 hk').1 (by
    rw [List.mem_singleton]
    rintro rfl
    rw [hc] at hk'
    exact ht (cells_ty hk'))
  have hb : ∀ B, B ≤ wb → B ≤ X.heap.size → Below B X Y := fun B h1 h2 => hk.below h2 (fun k hk' => by rw [List.mem_singleton.1 hk']; exact h1)
  refine ⟨⟨h.box.bl.trans (hb _ hw h.box.bl.size), (one hty.1 h.box.g).trans h.box.g, (one hty.2.1 h.box.i).trans h.box.i, (one hty.2.2.1 h.box.r).trans h.box.r⟩, ⟨h.play.bl.trans (hb _ hw2 h.play.bl.size), h.play.idx.keepV (fun k hk' => ?_) (fun t m hm k hk' => ?_), h.play.refs.keep fun k hk' => ?_, h.play.rel, h.play.ord, h.play.ids, h.play.tot, h.play.len⟩, h.of'.keep fun k hk' => ?_⟩
  · refine hk.block k (h.play.idx.foot_lt k hk').2 (fun e => ?_)
    rw [List.mem_singleton] at e
    subst e
    exact h.play.idx.not_op hty.2.2.2.2 hc hk'
  · obtain ⟨cur, hcur⟩ := ((h.play.idx.lines t).refs m hm).typed hk'
    exact one hty.2.1 hcur
  · obtain ⟨cur, hcur⟩ := h.play.refs.typed hk'
    exact one hty.2.2.2.1 hcur
  · obtain ⟨cur, hcur⟩ := h.of'.typed hk'
    exact one hty.2.2.2.1 hcur
theorem VwW.lists {w w2 : World} {s : ByteArray} {x : Id32} {ib M : Nat} {gs : List MG} {mc : Nat} {v : Value} {rs : List MR} {n : Nat} {la : Option Addr} {lc : Nat} {X : World} (h : VwW w w2 s x ib M gs mc v rs n (.slice la (ofR rs s).length lc) X) : VwL w.heap.size s la lc (ofR rs s) X :=
  ⟨h.box.g, h.of', fun r hr => (h.play.ids r (ofR_mem.1 hr).1).below h.play.bl⟩
/-- What the four look-ups tell, against the reference's lists. -/
theorem get_hits {B ib M mc : Nat} {gs : List MG} {w : World} (h : IdxAt B w ib M gs mc) {rs : List MR} (hr : RelR gs rs) (s : ByteArray) (n : Int) :
    Calls Tryz.prog 37 #[.pointer (some ⟨ib, 0, none⟩), .string s, .int .i64 n] w fun r w' => ∃ g is, r = .returned (.tuple #[.agg (lineCells g), .bool is]) ∧ refsOne g ∧ Hit 0 w' rs (findN rs s n) is g ∧ (∀ (j : Nat) (r : MR), findN rs s n = (j : Int) → rs[j]? = some r → r.s = s ∧ r.m.p.ids.length ≤ 20) ∧ Below w.heap.size w w' := by
  rcases get_hit h hr s n with ⟨h1, h2⟩ | ⟨i, j, m, r, h1, h2, h3, h4, h5, h6, h7⟩
  · refine (get_no B ib M mc gs s n w h h1).mono fun r w' ⟨hr', hb⟩ => ?_
    exact ⟨zeroLine, false, hr', rfl, .inl ⟨h2, rfl, rfl⟩, fun j _ e => by rw [h2] at e; omega, hb⟩
  · refine (get_yes B ib M mc gs s n i m w h h1 h2 h3).mono fun e w' ⟨v, hr', hI, hb⟩ => ?_
    refine ⟨_, true, hr', hI.one, .inr ⟨j, r, v, h4, h5, rfl, g_refs h7 v, by rw [← h7]; exact hI.mono (Nat.zero_le _)⟩, fun j' r' e1 e2 => ?_, hb⟩
    rw [h4] at e1
    obtain rfl : j = j' := by omega
    rw [h5] at e2
    cases e2
    exact ⟨h6, by rw [← h7]; exact refs_len h3⟩
theorem line_hits {o : Option ML} {w w' : World} {r : Ending} (hp : LinePost o w r w') : ∃ g is, r = .returned (.tuple #[.agg (lineCells g), .bool is]) ∧ refsOne g ∧ ((o = none ∧ g = zeroLine ∧ is = false) ∨ ∃ m v, o = some m ∧ g = { m.g with refs := v } ∧ is = true ∧ IdsOwn 0 w' v m.p.ids) ∧ Below w.heap.size w w' := by
  obtain ⟨h, hb⟩ := hp
  rcases h with ⟨h1, h2⟩ | ⟨m, v, h1, h2, h3⟩
  · exact ⟨zeroLine, false, h2, rfl, .inl ⟨h1, rfl, rfl⟩, hb⟩
  · exact ⟨_, true, h2, h3.one, .inr ⟨m, v, h1, rfl, rfl, h3.mono (Nat.zero_le _)⟩, hb⟩
theorem find_hits {ms : List ML} {x : Id32} {w w' : World} {r : Ending} (hp : FindPost ms x w r w') : ∃ g is, r = .returned (.tuple #[.agg (lineCells g), .bool is]) ∧ refsOne g ∧ (((∀ m ∈ ms, m.p.id ≠ x) ∧ g = zeroLine ∧ is = false) ∨ ∃ m ∈ ms, m.p.id = x ∧ ∃ v, g = { m.g with refs := v } ∧ is = true ∧ IdsOwn 0 w' v m.p.ids) ∧ Below w.heap.size w w' := by
  obtain ⟨h, hb⟩ := hp
  rcases h with ⟨h1, h2⟩ | ⟨m, h1, h2, v, h3, h4⟩
  · exact ⟨zeroLine, false, h2, rfl, .inl ⟨h1, rfl, rfl⟩, hb⟩
  · exact ⟨_, true, h3, h4.one, .inr ⟨m, h1, h2, v, rfl, rfl, h4.mono (Nat.zero_le _)⟩, hb⟩

/-- Ahead of a round's body. -/
structure VwAx (T : List PLine) (g0 ib : Nat) (va : Option Addr) (vn vc wb kb : Nat) (W8 : World) (B : Nat) (pre : List ML) (x : ML) (a : Act) (X : World) : Prop where
  cnt : KbAt W8 kb pre.length X
  gd : GdL T (W8.heap.size + 2) B pre x X
  sl : VD a.tmps g0 ib va vn vc wb kb
  df : a.defers = []
  yb : ∃ yb, LineVar X yb x.g ∧ W8.heap.size + 2 ≤ yb ∧ a.tmps.getD 32 undef = .pointer (some ⟨yb, 0, none⟩)
theorem within_map {L : List ML} {O : List MR} (hp : L.map (·.p) = O.map (·.m.p)) (lo hi : Int) : rangeP L lo hi = (withinR lo hi O).map (·.m.p) := by
  unfold rangeP withinR
  rw [hp, List.filter_map]
  rfl

set_option maxRecDepth 100000 in
set_option maxHeartbeats 8000000 in
theorem law_views (v : Value) (os : List MO) (s : ByteArray) (n lo hi : Int) (x : Id32) (w : World) (hG : Gl w) (h : OpsAt w v os) (hs : s.size ≤ maxLen) :
    Calls Tryz.prog 8 #[v, .string s, .int .i64 n, .int .i64 lo, .int .i64 hi, .agg (encId x).toArray] w fun r w' => r = .returned (.bool true) ∧ Below w.heap.size w w' := by
  obtain ⟨W0, hW0⟩ : ∃ W0, W0 = ((w.alloc (.cells #[.string s] 9)).alloc (.cells (encId x).toArray 23)).alloc (.cells #[.bool false] 4) := ⟨_, rfl⟩
  have hb0 : Below w.heap.size w W0 := by rw [hW0]; exact (((Below.refl _ _).alloc (Nat.le_refl _) _).alloc (by simp) _).alloc (by simp; omega) _
  have hx0 : VwBox w s x W0 := by
    refine ⟨hb0, ?_, ?_, ?_⟩
    · rw [hW0, heap_alloc_old _ _ (by simp; omega), heap_alloc_old _ _ (by simp), heap_alloc_new]
    · rw [hW0, heap_alloc_old _ _ (by simp)]
      have := heap_alloc_new (w.alloc (.cells #[.string s] 9)) (.cells (encId x).toArray 23)
      simpa using this
    · have := heap_alloc_new ((w.alloc (.cells #[.string s] 9)).alloc (.cells (encId x).toArray 23)) (.cells #[.bool false] 4)
      rw [hW0]
      simpa using this
  obtain ⟨va, vn, vc, hve⟩ : ∃ a n c, v = .slice a n c := by obtain ⟨a, c, e, _⟩ := h.row; exact ⟨a, _, c, e⟩
  subst hve
  have HX := Lib.hid h
  have HG := Lib.hid hG
  have HB0 := Lib.hid hx0
  have hzs : ((lineCells zeroLine).size == 38) = true := by rw [lineCells_size]; rfl
  clear h hG hb0 hx0
  refine (callsIn_wide (n := 3)).1 (callsIn_of_wp_marks Tryz.func8 rfl trivial ?_ rfl)
  simp only [Tryz.ntmps8, List.size_toArray, List.length_cons, List.length_nil, Nat.reduceAdd, Nat.reduceSub, Array.replicate_succ, Array.replicate_zero, List.push_toArray, List.append_toArray, List.nil_append, List.cons_append]
  refine wpIn_wide.2 ?_
  go_wp2_with fail
  rw [← hW0]
  clear hW0
  refine (knows W0 (HG.out.later HB0.out.bl)).mono ?_
  rintro r w1 ⟨rfl, hb1⟩
  have HB1 := Lib.hid (HB0.out.step hb1)
  have HF := Lib.hid (fits_any _ os w1 (HX.out.below HB1.out.bl))
  clear hb1 HB0
  go_wp2_with fail
  refine HF.out.mono ?_
  rintro r w2 ⟨rfl, hb2⟩
  have HB2 := Lib.hid (HB1.out.step hb2)
  clear hb2 HF HB1
  have hcs := cell_of_row w2 w.heap.size 0 _ _ _ HB2.out.g
  have hno : ∀ (W : World), VwBox w s x W → W.cell? ⟨w.heap.size + 2, 0, none⟩ = some (.bool false) ∧ W.frozen? ⟨w.heap.size + 2, 0, none⟩ = false := fun W h => ⟨cell_of_row W (w.heap.size + 2) 0 _ _ _ h.r, frozen_of_row W (w.heap.size + 2) 0 _ _ h.r⟩
  have HNO := Lib.hid hno
  clear hno
  unfold maxLen at hs
  cases hfit : fitsB os with
  | false =>
    clear hfit
    go_wp2_with fail
    refine (knows w2 (HG.out.later HB2.out.bl)).mono ?_
    rintro r w3 ⟨rfl, hb3⟩
    have HB3 := Lib.hid (HB2.out.step hb3)
    obtain ⟨k1, k2⟩ := HNO.out w3 HB3.out
    clear hb3 hcs
    go_wp2
    have hC := heap_setCell_same w3 (w.heap.size + 2) 0 _ _ (.bool true) HB3.out.r
    have hc5 := cell_of_row _ (w.heap.size + 2) 0 _ _ _ hC
    refine ⟨.bool true, ?_, rfl, HB3.out.bl.setCell (p := ⟨w.heap.size + 2, 0, none⟩) (by simp) _⟩
    exact results_cell1' Tryz.results8 Tryz.isAgg4 _ _ ⟨w.heap.size + 2, 0, none⟩ _ rfl hc5
  | true =>
    by_cases h200 : 200 < s.size
    · have h200z : (200 : Int) < (s.size : Int) := by omega
      go_wp2_with fail
      refine (knows w2 (HG.out.later HB2.out.bl)).mono ?_
      rintro r w3 ⟨rfl, hb3⟩
      have HB3 := Lib.hid (HB2.out.step hb3)
      obtain ⟨k1, k2⟩ := HNO.out w3 HB3.out
      clear hb3 hcs
      go_wp2
      have hC := heap_setCell_same w3 (w.heap.size + 2) 0 _ _ (.bool true) HB3.out.r
      have hc5 := cell_of_row _ (w.heap.size + 2) 0 _ _ _ hC
      refine ⟨.bool true, ?_, rfl, HB3.out.bl.setCell (p := ⟨w.heap.size + 2, 0, none⟩) (by simp) _⟩
      exact results_cell1' Tryz.results8 Tryz.isAgg4 _ _ ⟨w.heap.size + 2, 0, none⟩ _ rfl hc5
    · have h200z : ¬ (200 : Int) < (s.size : Int) := by omega
      have HBU := Lib.hid (build_any _ os w2 w2 (HG.out.later HB2.out.bl) (HX.out.below HB2.out.bl) (Below.refl _ _) hfit)
      have h40 : os.length ≤ 40 := by
        unfold fitsB at hfit
        rw [Bool.and_eq_true, decide_eq_true_eq] at hfit
        exact hfit.1
      clear hfit
      go_wp2_with fail
      refine HBU.out.mono ?_
      rintro r w3 ⟨ib, M, gs, mc, v', rs, rfl, hp⟩
      obtain ⟨xa, xc, hve⟩ : ∃ a c, v' = .slice a rs.length c := by
        rcases hp.refs.head with ⟨e, h0⟩ | ⟨g', cap', _, e, _⟩
        · exact ⟨none, 0, by rw [e, h0]; rfl⟩
        · exact ⟨_, _, e⟩
      subst hve
      have HP3 := Lib.hid hp
      have HB3 := Lib.hid (HB2.out.step hp.bl)
      have HFI := Lib.hid (find_ref w2.heap.size (.slice xa rs.length xc) rs s n w3 hp.refs)
      have hcs3 := cell_of_row w3 w.heap.size 0 _ _ _ HB3.out.g
      clear hp HBU hcs
      go_wp2_with fail
      refine HFI.out.mono ?_
      rintro r w3' ⟨rfl, rfl⟩
      -- Get
      have HGE := Lib.hid (get_hits HP3.out.idx HP3.out.rel s n)
      clear HFI
      go_wp2_with fail
      refine HGE.out.mono ?_
      rintro r w4 ⟨gl, is, rfl, hone, hhit, hat, hb4⟩
      obtain ⟨w5, hw5⟩ : ∃ w5, w5 = w4.alloc (.cells (lineCells gl) 34) := ⟨_, rfl⟩
      have hb45 : Below w4.heap.size w4 w5 := by rw [hw5]; exact (Below.refl _ _).alloc (Nat.le_refl _) _
      have hb35 : Below w3.heap.size w3 w5 := hb4.trans (hb45.mono hb4.size)
      have HY := Lib.hid (show LineVar w5 w4.heap.size gl by rw [hw5]; exact heap_alloc_new _ _)
      have HP5 := Lib.hid (HP3.out.later hb35)
      have HB5 := Lib.hid (HB3.out.step hb35)
      have HHIT := Lib.hid (hhit.below hb45)
      have HAT := Lib.hid hat
      have hft := fits_line (g := gl) hone
      clear hb4 hb45 hb35 hhit hat HGE hcs3
      obtain ⟨at0, hat0⟩ : ∃ a, a = findN rs s n := ⟨_, rfl⟩
      rw [← hat0] at HHIT HAT ⊢
      clear hat0
      go_wp2_with fail
      rw [← hw5]
      clear hw5
      refine name_act fun a8 ha8 => ?_
      obtain ⟨t8, d8⟩ := a8
      have ht8 : t8 = _ := congrArg Act.tmps ha8
      obtain rfl : d8 = [] := congrArg Act.defers ha8
      clear ha8
      have hs8 : S8 t8 (fun k => match k with | 2 => .int .i64 n | 3 => .int .i64 lo | 4 => .int .i64 hi | 11 => .pointer (some ⟨w.heap.size + 1, 0, none⟩) | 12 => .pointer (some ⟨w.heap.size + 1 + 1, 0, none⟩) | _ => .pointer (some ⟨ib, 0, none⟩)) w.heap.size xa rs.length xc at0 w4.heap.size is := by rw [ht8]; exact ⟨rfl, rfl, rfl, rfl, rfl, rfl, rfl, rfl, rfl, rfl, rfl, rfl⟩
      clear ht8
      refine vw8 rfl _ _ _ _ _ _ _ _ _ _ s rs gl rfl hs8 w5 ⟨HB5.out.g, HP5.out.refs.base, fun r hr => (HP5.out.ids r hr).below HP5.out.bl⟩ HY.out HHIT.out HAT.out fun t9 w6 hs9 h94 hb6 => ?_
      have hva : VA t9 n lo hi w.heap.size ib xa rs.length xc := ⟨hs9.size, hs9.s2, hs9.s3, hs9.s4, hs9.s7, hs9.s11, hs9.s12, hs9.s13, hs9.s14⟩
      obtain ⟨f, hf, hft9⟩ := hva.out
      have h94' : f 94 = .bool false := (hf 94).trans h94
      rw [hft9, h94']
      have HP6 := Lib.hid (HP5.out.later hb6)
      have HB6 := Lib.hid (HB5.out.step hb6)
      clear hs8 hs9 h94 hva hf hft9 h94' hb6 HHIT HAT HY hft hone
      have hcs6 := cell_of_row w6 w.heap.size 0 _ _ _ HB6.out.g
      have HOF := Lib.hid (of_any w2.heap.size (.slice xa rs.length xc) rs s w6 HP6.out.refs)
      go_wp2_with fail
      refine HOF.out.mono ?_
      rintro r w7 ⟨lv, rfl, hlv, hb7⟩
      obtain ⟨la, lc, hle⟩ : ∃ a c, lv = .slice a (ofR rs s).length c := by
        rcases hlv.head with ⟨e, h0⟩ | ⟨g', cap', _, e, _⟩
        · exact ⟨none, 0, by rw [e, h0]; rfl⟩
        · exact ⟨_, _, e⟩
      subst hle
      have hW7 : VwW w w2 s x ib M gs mc (.slice xa rs.length xc) rs os.length (.slice la (ofR rs s).length lc) w7 := ⟨HB6.out.step hb7, HP6.out.later hb7, hlv.base⟩
      obtain ⟨w8, hw8⟩ : ∃ w8, w8 = w7.alloc (.cells #[.slice none 0 0] 49) := ⟨_, rfl⟩
      have HW8 : Hid (VwW w w2 s x ib M gs mc (.slice xa rs.length xc) rs os.length (.slice la (ofR rs s).length lc) w8) := Lib.hid (hW7.step (by rw [hw8]; exact (Below.refl _ _).alloc (Nat.le_refl _) _))
      have HWB : Hid (w8.heap[w7.heap.size]? = some (.cells #[.slice none 0 0] 49 (0, 0))) := Lib.hid (by rw [hw8]; exact heap_alloc_new _ _)
      have HWS : Hid (w.heap.size + 2 < w7.heap.size ∧ w2.heap.size ≤ w7.heap.size) := Lib.hid ⟨(Array.getElem?_eq_some_iff.1 hW7.box.r).1, hW7.play.bl.size⟩
      obtain ⟨wb, hwb⟩ : ∃ wb, wb = w7.heap.size := ⟨_, rfl⟩
      clear hlv hb7 hW7 HOF hcs6 HP6 HB6 HP5 HB5
      go_wp2
      rw [← hw8]
      rw [← hwb] at HWB HWS ⊢
      clear hw8 hwb
      refine vw_loop1 _ n lo hi w.heap.size ib xa rs.length xc la lc wb x (ofR rs s) _ w8 ?ls HW8.out.box.i HW8.out.of' HWB.out (by have := HWS.out; omega) ?lq
      case ls => exact ⟨rfl, rfl, rfl, rfl, rfl, rfl, rfl, rfl, rfl, rfl, rfl, rfl, rfl, rfl, rfl⟩
      case lq =>
      rintro a9 X hI
      obtain ⟨a1, a2, a3, hsl, hf1, hf2, hf3⟩ := hI.at'
      obtain ⟨wv, hbx, hown⟩ := hI.box
      rw [List.take_length] at hown
      have HWX : Hid (VwW w w2 s x ib M gs mc (.slice xa rs.length xc) rs os.length (.slice la (ofR rs s).length lc) X) := Lib.hid (HW8.out.kept (by decide) HWB.out (by have := HWS.out; omega) (by have := HWS.out; omega) hI.kept)
      have hdf := hI.df
      obtain ⟨t9', d9⟩ := a9
      obtain rfl : d9 = [] := hdf
      obtain ⟨f2, hf2', hft⟩ := hsl.out
      simp only at hft
      rw [hft]
      have HF1 := Lib.hid hf1
      have HF2 := Lib.hid hf2
      have HF3 := Lib.hid hf3
      have HBX := Lib.hid hbx
      have HOW := Lib.hid hown
      obtain ⟨wa, wc, hwv⟩ : ∃ a c, wv = .slice a (withinR lo hi (ofR rs s)).length c := by
        rcases hown.head with ⟨e, h0⟩ | ⟨g', cap', _, e, _⟩
        · exact ⟨none, 0, by rw [e, h0]; rfl⟩
        · exact ⟨_, _, e⟩
      subst hwv
      clear hI hsl hf2' hft hf1 hf2 hf3 hbx hown HW8 HWB
      have HRL := Lib.hid (rel_lines HWX.out.play.idx HWX.out.play.rel HWX.out.play.ord s)
      have HSO := Lib.hid (HWX.out.play.idx.sorted s)
      have hgX := cell_of_row X w.heap.size 0 _ _ _ HWX.out.box.g
      have HNX := Lib.hid (next_any w2.heap.size ib M mc gs s n X HWX.out.play.idx)
      go_wp2_with fail
      refine HNX.out.mono ?_
      rintro r v1 hp
      obtain ⟨l1, b1, rfl, hone1, hx1, hb1⟩ := line_hits hp
      have hh1 := next_hit HRL.out HSO.out HF1.out hx1
      obtain ⟨u1, hu1⟩ : ∃ u, u = v1.alloc (.cells (lineCells l1) 34) := ⟨_, rfl⟩
      have hbu1 : Below v1.heap.size v1 u1 := by rw [hu1]; exact (Below.refl _ _).alloc (Nat.le_refl _) _
      have hb1' : Below X.heap.size X u1 := hb1.trans (hbu1.mono hb1.size)
      have HW1 := Lib.hid (HWX.out.step hb1')
      have HY1 := Lib.hid (show LineVar u1 v1.heap.size l1 by rw [hu1]; exact heap_alloc_new _ _)
      have HH1 := Lib.hid (hh1.below hbu1)
      have HBX1 : Hid (u1.heap[wb]? = some (.cells #[.slice wa (withinR lo hi (ofR rs s)).length wc] 49 (0, 0))) := Lib.hid ((hb1'.block wb (Array.getElem?_eq_some_iff.1 HBX.out).1).trans HBX.out)
      have HOW1 := Lib.hid (HOW.out.below hb1')
      have hft1 := fits_line (g := l1) hone1
      obtain ⟨y1, hy1⟩ : ∃ y, y = v1.heap.size := ⟨_, rfl⟩
      have hg1 := cell_of_row u1 w.heap.size 0 _ _ _ HW1.out.box.g
      have HPV := Lib.hid (previous_any w2.heap.size ib M mc gs s n u1 HW1.out.play.idx)
      rw [hu1] at hg1
      clear hp hx1 hh1 hbu1 hb1 hb1' HNX hgX HBX HOW HWX
      go_wp2_with fail
      rw [← hu1]
      rw [← hy1] at HY1 ⊢
      clear hu1 hy1 hg1
      refine HPV.out.mono ?_
      rintro r v2 hp
      obtain ⟨l2, b2, rfl, hone2, hx2, hb2⟩ := line_hits hp
      have hh2 := prev_hit HRL.out HSO.out HF2.out hx2
      obtain ⟨u2, hu2⟩ : ∃ u, u = v2.alloc (.cells (lineCells l2) 34) := ⟨_, rfl⟩
      have hbu2 : Below v2.heap.size v2 u2 := by rw [hu2]; exact (Below.refl _ _).alloc (Nat.le_refl _) _
      have hb2' : Below u1.heap.size u1 u2 := hb2.trans (hbu2.mono hb2.size)
      have HW2 := Lib.hid (HW1.out.step hb2')
      have HY12 := Lib.hid (HY1.out.below hb2' HY1.out.lt)
      have HY2 := Lib.hid (show LineVar u2 v2.heap.size l2 by rw [hu2]; exact heap_alloc_new _ _)
      have HH12 := Lib.hid (HH1.out.below hb2')
      have HH2 := Lib.hid (hh2.below hbu2)
      have HBX2 : Hid (u2.heap[wb]? = some (.cells #[.slice wa (withinR lo hi (ofR rs s)).length wc] 49 (0, 0))) := Lib.hid ((hb2'.block wb (Array.getElem?_eq_some_iff.1 HBX1.out).1).trans HBX1.out)
      have HOW2 := Lib.hid (HOW1.out.below hb2')
      have hft2 := fits_line (g := l2) hone2
      obtain ⟨y2, hy2⟩ : ∃ y, y = v2.heap.size := ⟨_, rfl⟩
      have hg2 := cell_of_row u2 w.heap.size 0 _ _ _ HW2.out.box.g
      obtain ⟨hi1, hi2⟩ := rd_of_block HW2.out.box.i
      have HFD := Lib.hid (find_all w2.heap.size ib M mc gs s x u2 HW2.out.play.idx)
      rw [hu2] at hg2 hi1 hi2
      clear hp hx2 hh2 hbu2 hb2 hb2' HPV HY1 HH1 HBX1 HOW1 HW1
      go_wp2_with fail
      rw [← hu2]
      rw [← hy2] at HY2 ⊢
      clear hu2 hy2 hg2 hi1 hi2
      refine HFD.out.mono ?_
      rintro r v3 hp
      obtain ⟨l3, b3, rfl, hone3, hx3, hb3⟩ := find_hits hp
      have hh3 := found_hit HRL.out (ids_in HW2.out.play.idx s) HF3.out hx3
      obtain ⟨u3, hu3⟩ : ∃ u, u = v3.alloc (.cells (lineCells l3) 34) := ⟨_, rfl⟩
      have hbu3 : Below v3.heap.size v3 u3 := by rw [hu3]; exact (Below.refl _ _).alloc (Nat.le_refl _) _
      have hb3' : Below u2.heap.size u2 u3 := hb3.trans (hbu3.mono hb3.size)
      have HW3 := Lib.hid (HW2.out.step hb3')
      have HY13 := Lib.hid (HY12.out.below hb3' HY12.out.lt)
      have HY23 := Lib.hid (HY2.out.below hb3' HY2.out.lt)
      have HY3 := Lib.hid (show LineVar u3 v3.heap.size l3 by rw [hu3]; exact heap_alloc_new _ _)
      have HH13 := Lib.hid (HH12.out.below hb3')
      have HH23 := Lib.hid (HH2.out.below hb3')
      have HH3 := Lib.hid (hh3.below hbu3)
      have HBX3 : Hid (u3.heap[wb]? = some (.cells #[.slice wa (withinR lo hi (ofR rs s)).length wc] 49 (0, 0))) := Lib.hid ((hb3'.block wb (Array.getElem?_eq_some_iff.1 HBX2.out).1).trans HBX2.out)
      have HOW3 := Lib.hid (HOW2.out.below hb3')
      have hft3 := fits_line (g := l3) hone3
      obtain ⟨y3, hy3⟩ : ∃ y, y = v3.heap.size := ⟨_, rfl⟩
      clear hp hx3 hh3 hbu3 hb3 hb3' HFD HY12 HY2 HH12 HH2 HBX2 HOW2
      go_wp2_with fail
      rw [← hu3]
      rw [← hy3] at HY3 ⊢
      clear hu3 hy3
      refine name_act fun a8 ha8 => ?_
      obtain ⟨t8, d8⟩ := a8
      have ht8 : t8 = _ := congrArg Act.tmps ha8
      obtain rfl : d8 = [] := congrArg Act.defers ha8
      clear ha8
      have hs8 : S28 t8 (fun k => match k with | 3 => .int .i64 lo | 4 => .int .i64 hi | 11 => .pointer (some ⟨w.heap.size + 1, 0, none⟩) | 12 => .pointer (some ⟨w.heap.size + 1 + 1, 0, none⟩) | 13 => .pointer (some ⟨ib, 0, none⟩) | 14 => .slice xa rs.length xc | _ => .pointer (some ⟨wb, 0, none⟩)) w.heap.size la (ofR rs s).length lc a1 a2 a3 y1 y2 y3 b1 b2 b3 := by rw [ht8]; exact ⟨rfl, rfl, rfl, rfl, rfl, rfl, rfl, rfl, rfl, rfl, rfl, rfl, rfl, rfl, rfl, rfl, rfl, rfl, rfl⟩
      clear ht8
      refine vw28 rfl _ _ _ _ _ _ _ _ _ _ _ _ _ _ _ _ s (ofR rs s) l1 l2 l3 rfl hs8 u3 HW3.out.lists HY13.out HY23.out HY3.out HH13.out HH23.out HH3.out (fun r hr => ⟨(ofR_mem.1 hr).2, ?rl⟩) fun t9 X4 hs9 h260 hb4 => ?_
      case rl =>
        obtain ⟨m, hm, he⟩ := (HW3.out.play.rel s r.m.p).2 ⟨r, (ofR_mem.1 hr).1, (ofR_mem.1 hr).2, rfl⟩
        rw [← he]
        exact refs_len (HW3.out.play.idx.good_in hm)
      have hvc : VC t9 lo hi w.heap.size ib xa rs.length xc wb := ⟨hs9.size, hs9.s3, hs9.s4, hs9.s7, hs9.s11, hs9.s12, hs9.s13, hs9.s14, hs9.s22⟩
      obtain ⟨f, hf, hft9⟩ := hvc.out
      have h260' : f 260 = .bool false := (hf 260).trans h260
      rw [hft9, h260']
      have HW4 := Lib.hid (HW3.out.step hb4)
      have HBX4 : Hid (X4.heap[wb]? = some (.cells #[.slice wa (withinR lo hi (ofR rs s)).length wc] 49 (0, 0))) := Lib.hid ((hb4.block wb (Array.getElem?_eq_some_iff.1 HBX3.out).1).trans HBX3.out)
      have HOW4 := Lib.hid (HOW3.out.below hb4)
      clear hs8 hs9 h260 hvc hf hft9 h260' hb4 HW3 HBX3 HOW3 HY13 HY23 HY3 HH13 HH23 HH3 hft1 hft2 hft3 hone1 hone2 hone3 HF1 HF2 HF3
      obtain ⟨W6, hW6⟩ : ∃ W6, W6 = X4.alloc (.cells #[.int .i64 0] 3) := ⟨_, rfl⟩
      have hb6 : Below X4.heap.size X4 W6 := by rw [hW6]; exact (Below.refl _ _).alloc (Nat.le_refl _) _
      have HW6 := Lib.hid (HW4.out.step hb6)
      have HKB : Hid (W6.heap[X4.heap.size]? = some (.cells #[.int .i64 0] 3 (0, 0))) := Lib.hid (by rw [hW6]; exact heap_alloc_new _ _)
      have HBX6 : Hid (W6.heap[wb]? = some (.cells #[.slice wa (withinR lo hi (ofR rs s)).length wc] 49 (0, 0))) := Lib.hid ((hb6.block wb (Array.getElem?_eq_some_iff.1 HBX4.out).1).trans HBX4.out)
      have HOW6 := Lib.hid (HOW4.out.below hb6)
      have hgs := cell_of_row W6 w.heap.size 0 _ _ _ HW6.out.box.g
      have HLT : Hid (w.heap.size + 2 < X4.heap.size ∧ w2.heap.size ≤ X4.heap.size ∧ wb < X4.heap.size) := Lib.hid ⟨(Array.getElem?_eq_some_iff.1 HW4.out.box.r).1, HW4.out.play.bl.size, (Array.getElem?_eq_some_iff.1 HBX4.out).1⟩
      have HOWK : Hid (∀ k, (Value.slice wa (withinR lo hi (ofR rs s)).length wc).ownBlock = some k → k < X4.heap.size) := Lib.hid fun k hk => (World.ownsRow.lt HOW4.out.row k hk).2
      obtain ⟨kb, hkb⟩ : ∃ kb, kb = X4.heap.size := ⟨_, rfl⟩
      rw [hW6] at hgs
      clear hb6 HW4 HBX4 HOW4
      go_wp2_with fail
      rw [← hW6]
      rw [← hkb] at HKB HLT HOWK ⊢
      clear hW6 hgs hkb
      refine (range_call (some ⟨ib, 0, none⟩) s lo hi W6).mono ?_
      rintro r W8 ⟨rfl, hW8⟩
      have hb8 : Below W6.heap.size W6 W8 := by rw [← hW8]; exact ((((Below.refl _ _).alloc (Nat.le_refl _) _).alloc (by simp) _).alloc (by simp; omega) _).alloc (by simp; omega) _
      have c0 : W8.cell? ⟨W6.heap.size, 0, none⟩ = some (.pointer (some ⟨ib, 0, none⟩)) := by
        rw [← hW8]; exact Lib.cell?_alloc_some _ (Lib.cell?_alloc_some _ (Lib.cell?_alloc_some _ (cells_new W6 _ _ 0)))
      have c1 : W8.cell? ⟨W6.heap.size + 1, 0, none⟩ = some (.string s) := by
        rw [← hW8]; exact Lib.cell?_alloc_some _ (Lib.cell?_alloc_some _ (by simp))
      have c2 : W8.cell? ⟨W6.heap.size + 1 + 1, 0, none⟩ = some (.int .i64 lo) := by
        rw [← hW8]; exact Lib.cell?_alloc_some _ (by simpa using cells_new ((W6.alloc (.cells #[.pointer (some ⟨ib, 0, none⟩)] 47)).alloc (.cells #[.string s] 9)) #[.int .i64 lo] 3 0)
      have c3 : W8.cell? ⟨W6.heap.size + 1 + 1 + 1, 0, none⟩ = some (.int .i64 hi) := by
        rw [← hW8]; simpa using cells_new (((W6.alloc (.cells #[.pointer (some ⟨ib, 0, none⟩)] 47)).alloc (.cells #[.string s] 9)).alloc (.cells #[.int .i64 lo] 3)) #[.int .i64 hi] 3 0
      have HC := Lib.hid (And.intro c0 (And.intro c1 (And.intro c2 c3)))
      have HW8' := Lib.hid (HW6.out.step hb8)
      have HKB8 : Hid (W8.heap[kb]? = some (.cells #[.int .i64 0] 3 (0, 0))) := Lib.hid ((hb8.block _ (Array.getElem?_eq_some_iff.1 HKB.out).1).trans HKB.out)
      have HBX8 : Hid (W8.heap[wb]? = some (.cells #[.slice wa (withinR lo hi (ofR rs s)).length wc] 49 (0, 0))) := Lib.hid ((hb8.block wb (Array.getElem?_eq_some_iff.1 HBX6.out).1).trans HBX6.out)
      have HOW8 := Lib.hid (HOW6.out.below hb8)
      obtain ⟨n6, hn6⟩ : ∃ n6, n6 = W6.heap.size := ⟨_, rfl⟩
      rw [← hn6] at HC ⊢
      clear hW8 hb8 c0 c1 c2 c3 HW6 HKB HBX6 HOW6 hn6
      go_wp2_with fail
      refine name_act fun a8 ha8 => ?_
      have hsl : VD a8.tmps w.heap.size ib xa rs.length xc wb kb := by rw [ha8]; exact ⟨rfl, rfl, rfl, rfl, rfl, rfl, rfl, rfl⟩
      have HSL := Lib.hid hsl
      have HA8 := Lib.hid ha8
      have he : a8.eval (.tmp 265) = .func (.func 67) #[] #[.pointer (some ⟨n6, 0, none⟩), .pointer (some ⟨n6 + 1, 0, none⟩), .pointer (some ⟨n6 + 1 + 1, 0, none⟩), .pointer (some ⟨n6 + 1 + 1 + 1, 0, none⟩)] := by rw [ha8]; rfl
      have hkbl : kb < W8.heap.size := (Array.getElem?_eq_some_iff.1 HKB8.out).1
      clear hsl ha8
      have HRT := Lib.hid (within_map HRL.out lo hi)
      refine (wpIn_wide (n := 3)).1 (wpIn_rangeFunc_guard (F := Fence.wide) rfl (by omega) (gf := 67) he trivial (enters_of Tryz.func67 (by kernel_rfl) rfl) (encs := fun x : ML => #[.agg (lineCells x.g)]) (Gd := GdL (rangeP (linesIn gs s) lo hi)) (Kp := KpL) (S := fun xs => xs.map (·.p) = rangeP (linesIn gs s) lo hi)
        (fun W' hb' hs' => rangeSeq_any _ _ _ _ _ w2.heap.size ib M mc gs s lo hi W' ((hb'.cell (block_lt_of_cell HC.out.1)).trans HC.out.1) ((hb'.cell (block_lt_of_cell HC.out.2.1)).trans HC.out.2.1) ((hb'.cell (block_lt_of_cell HC.out.2.2.1)).trans HC.out.2.2.1) ((hb'.cell (block_lt_of_cell HC.out.2.2.2)).trans HC.out.2.2.2) (HW8'.out.play.idx.below hb'))
        ?kl ?kr (fun _ => rfl) (fun _ pre X => KbAt W8 kb pre.length X) (fun _ _ _ _ => False) (fun B pre X Y h0 _ _ hb => h0.beside hkbl hb) (fun _ _ _ _ _ h _ _ _ => h) (fun X hb _ => ⟨Kept.of_below hb, (hb.block kb hkbl).trans HKB8.out⟩)
        (VwAx (rangeP (linesIn gs s) lo hi) w.heap.size ib xa rs.length xc wb kb W8) ?assign ?hax ?ka ?body ?done (fun _ _ _ _ _ h _ => h.elim) (fun _ _ _ _ h => h.elim))
      case kl =>
        rintro B x X Y Z l o h1 h2 hk rfl
        have hsz : (X.putObj l o).heap.size = X.heap.size := by simp [World.putObj]
        exact ⟨by have := hk.1; omega, fun k hA hB hne => (hk.2 k hA hB hne).trans (World.putObj_heap_other (by omega))⟩
      case kr =>
        rintro B x X Y l o h1 h2 hk
        have hsz : (Y.putObj l o).heap.size = Y.heap.size := by simp [World.putObj]
        exact ⟨by have := hk.1; omega, fun k hA hB hne => (World.putObj_heap_other (by omega)).trans (hk.2 k hA hB hne)⟩
      case ka =>
        rintro B x X Y Z hb hBX hk
        exact ⟨Nat.le_trans hb.size hk.1, fun k hA hB hne => (hk.2 k hA hB hne).trans (hb.block k (by omega))⟩
      case hax =>
        rintro B pre x a' X l o ⟨h1, h2, h3, h4, yb, h5, h6, h7⟩ hl1 hl2
        have hbs : Beside W8.heap.size (W8.heap.size + 2) X (X.putObj l o) := Beside.putObj X l o ⟨hl1, hl2⟩
        refine ⟨h1.beside hkbl hbs, ⟨h2.here, h2.past, h2.refs.block fun k hk => World.putObj_heap_other (by have := (h2.refs.lt hk).1; omega), h2.lt⟩, h3, h4, yb, ?_, h6, h7⟩
        exact (World.putObj_heap_other (by omega)).trans h5
      case assign =>
        intro l B pre y X K hi8 hB hBX hgd hK
        have hsl2 : VD (a8.tmps.setIfInBounds 266 (.agg (lineCells y.g))) w.heap.size ib xa rs.length xc wb kb := HSL.out.set (by omega) _
        have h266 : (a8.tmps.setIfInBounds 266 (.agg (lineCells y.g))).getD 266 undef = .agg (lineCells y.g) := by
          have := HSL.out.size
          simp [this]
        rw [foldl_one]
        generalize a8.tmps.setIfInBounds 266 (.agg (lineCells y.g)) = t63 at hsl2 h266
        obtain ⟨f', hf', hft⟩ := hsl2.out
        have h266' : f' 266 = .agg (lineCells y.g) := (hf' 266).trans h266
        rw [hft, h266']
        have hone := hgd.refs.one
        have hft2 := fits_line (g := y.g) hone
        have HK := Lib.hid hK
        have HI8 := Lib.hid hi8
        have HGD := Lib.hid hgd
        clear hK hi8 hgd hft hf' h266 h266' hsl2
        gi_wp2
        have hba : Below X.heap.size X (X.alloc (.cells (lineCells y.g) 34)) := (Below.refl _ _).alloc (Nat.le_refl _) _
        refine HK.out _ _ ⟨HI8.out.later hba, HGD.out.below hba, ⟨rfl, rfl, rfl, rfl, rfl, rfl, rfl, rfl⟩, rfl, X.heap.size, heap_alloc_new _ _, by omega, rfl⟩ hba
      case body =>
        rintro l B pre y a' X rfl hB hBX ⟨hcnt, hgd, hsl, hdf, yb, hyv, hyb, h32⟩
        obtain ⟨tm, df⟩ := a'
        obtain rfl : df = [] := hdf
        obtain ⟨f', hf', hft⟩ := hsl.out
        have h32' : f' 32 = .pointer (some ⟨yb, 0, none⟩) := (hf' 32).trans h32
        simp only at hft
        rw [h32'] at hft
        subst hft
        clear hf' h32 h32' hsl
        have hhere := hgd.here
        rw [HRT.out, List.getElem?_map] at hhere
        obtain ⟨r0, hr0, hr0p⟩ := Option.map_eq_some_iff.1 hhere
        obtain ⟨hkl, hgk⟩ := List.getElem?_eq_some_iff.1 hr0
        have hr0w : r0 ∈ ofR rs s := (List.mem_filter.1 (List.mem_of_getElem? hr0)).1
        have hr0m : r0 ∈ rs ∧ r0.s = s := ofR_mem.1 hr0w
        have hgood : pErr y.p = 0 := by
          obtain ⟨m, hm, he⟩ := (HW8'.out.play.rel s r0.m.p).2 ⟨r0, hr0m.1, hr0m.2, rfl⟩
          rw [← hr0p, ← he]
          exact HW8'.out.play.idx.good_in hm
        have hrl := refs_len hgood
        have hbX : Below w2.heap.size w2 X := HW8'.out.play.bl.trans (hcnt.kept.below HW8'.out.play.bl.size (fun k hk => by rw [List.mem_singleton.1 hk]; exact HLT.out.2.1))
        have hI0 : IdsAt X r0.m.v y.p.ids := by rw [← hr0p]; exact (HW8'.out.play.ids r0 hr0m.1).below hbX
        rcases HOW8.out.head with ⟨_, e0⟩ | ⟨lg, lcap, _, hlve, hlB, hll8, hlle, _, _, hlcell⟩
        · rw [e0] at hkl; cases hkl
        have hlk : lg < kb := HOWK.out lg (by rw [hlve]; rfl)
        cases hlve
        have hlX : ∀ j u, (flatR (withinR lo hi (ofR rs s)))[j]? = some u → X.cell? ⟨lg, j, none⟩ = some u := fun j u hu => (cell_of_same (a := ⟨lg, j, none⟩) (hcnt.old hll8 (Nat.ne_of_lt hlk))).trans (hlcell j u hu)
        obtain ⟨i1, i2⟩ := rAt_rd hlX hkl
        rw [hgk] at i2
        have hgg : r0.m.g = { y.g with refs := r0.m.v } := by
          unfold ML.g
          rw [hr0p]
        rw [hgg, hr0m.2] at i2
        have hlt3 := HLT.out
        have e1 : X.cell? ⟨kb, 0, none⟩ = some (.int .i64 pre.length) := cell_of_row X kb 0 _ _ _ hcnt.cell
        have e2 : X.cell? ⟨wb, 0, none⟩ = some (.slice (some ⟨lg, 0, none⟩) (withinR lo hi (ofR rs s)).length wc) := cell_of_row X wb 0 _ _ _ ((hcnt.old (Array.getElem?_eq_some_iff.1 HBX8.out).1 (by omega)).trans HBX8.out)
        have e5 : X.cell? ⟨w.heap.size, 0, none⟩ = some (.string s) := cell_of_row X w.heap.size 0 _ _ _ ((hcnt.old (Array.getElem?_eq_some_iff.1 HW8'.out.box.g).1 (by omega)).trans HW8'.out.box.g)
        obtain ⟨e6, e7⟩ := hyv.rd
        have hklz : (pre.length : Int) < ((withinR lo hi (ofR rs s)).length : Int) := by omega
        have hwl : (withinR lo hi (ofR rs s)).length ≤ 100000 := HOW8.out.few
        have HGD := Lib.hid hgd
        have HCN := Lib.hid hcnt
        have HI0 := Lib.hid hI0
        clear hgd hcnt hI0 hbX hlX hlcell hr0 hr0p hgk hr0m hgood hhere hgg hyv hlle hlB hr0w
        gi_wp2_with fail
        refine wpIn_region_stages (by kernel_rfl) (fun ⟨_, _, h⟩ => h) (by kernel_rfl) ?_
        have hbd : Below X.heap.size X X.drew := (Below.refl _ _).drew
        have HBD : Hid (∀ z : Later X.drew, Below X.heap.size X z.1) := Lib.hid fun z => hbd.trans (z.2.mono hbd.size)
        have z1 : ∀ z : Later X.drew, z.1.cell? ⟨kb, 0, none⟩ = some (.int .i64 pre.length) := fun z => ((HBD.out z).cell (block_lt_of_cell e1)).trans e1
        have z2 : ∀ z : Later X.drew, z.1.cell? ⟨wb, 0, none⟩ = some (.slice (some ⟨lg, 0, none⟩) (withinR lo hi (ofR rs s)).length wc) := fun z => ((HBD.out z).cell (block_lt_of_cell e2)).trans e2
        have z5 : ∀ z : Later X.drew, z.1.cell? ⟨w.heap.size, 0, none⟩ = some (.string s) := fun z => ((HBD.out z).cell (block_lt_of_cell e5)).trans e5
        have z6 : ∀ z : Later X.drew, okCells z.1 ⟨yb, 0, none⟩ 38 = true := fun z => Later.ok e6 ⟨z.1, HBD.out z⟩
        have z7 : ∀ z : Later X.drew, rdCells z.1 ⟨yb, 0, none⟩ 38 = lineCells y.g := fun z => (Later.rd e6 ⟨z.1, HBD.out z⟩).trans e7
        have z8 : ∀ z : Later X.drew, okCells z.1 ⟨lg, pre.length * 39, none⟩ 39 = true := fun z => Later.ok i1 ⟨z.1, HBD.out z⟩
        have z9 : ∀ z : Later X.drew, rdCells z.1 ⟨lg, pre.length * 39, none⟩ 39 = rlineCells s { y.g with refs := r0.m.v } := fun z => (Later.rd i1 ⟨z.1, HBD.out z⟩).trans i2
        clear e2 e5 e6 e7 i1 i2
        generalize hXd : X.drew = Xd at hbd HBD z1 z2 z5 z6 z7 z8 z9 ⊢
        have HBXd := Lib.hid hbd
        clear hbd hXd
        refine wp_stage [0, 1] [2, 3, 4] 10 (fun w' => ∃ z : Later Xd, w' = z.1) (by kernel_rfl) (by kernel_rfl) (by kernel_rfl) rfl rfl ⟨⟨_, Below.refl _ _⟩, rfl⟩ ?_
        simp only [opsAt, List.map_cons, List.map_nil, Array.getD_eq_getD_getElem?, List.getElem?_toArray, List.getElem?_cons_zero, List.getElem?_cons_succ, Option.getD_some]
        repeat (go_big_quiet_step (fail))
        refine wpQuiet_nil ?_
        refine wpN_at true (by kernel_rfl) (by kernel_rfl) ?_
        simp only [opsAt, List.map_cons, List.map_nil, Array.getD_eq_getD_getElem?, List.getElem?_toArray, List.getElem?_cons_zero, List.getElem?_cons_succ, Option.getD_some]
        go_wp2_with fail
        refine ⟨fun _ => ⟨⟨_, Below.refl _ _⟩, rfl⟩, wpN_list [3, 4] _ _ (by kernel_rfl) ?_⟩
        simp only [opsAt, List.map_cons, List.map_nil, Array.getD_eq_getD_getElem?, List.getElem?_toArray, List.getElem?_cons_zero, List.getElem?_cons_succ, Option.getD_some]
        go_wp2
        refine NoPanic.normal ?_
        rw [QS_normal]
        have hdg : decide ((withinR lo hi (ofR rs s)).length ≤ pre.length) = false := decide_eq_false (by omega)
        simp only [hdg]
        clear hdg
        refine wp_stage [5, 6, 8, 9, 10, 11] [7, 12, 13, 14] 0 (fun w' => ∃ z : Later Xd, w' = z.1) (by kernel_rfl) (by kernel_rfl) (by kernel_rfl) rfl rfl ⟨⟨_, Below.refl _ _⟩, rfl⟩ ?_
        simp only [opsAt, List.map_cons, List.map_nil, Array.getD_eq_getD_getElem?, List.getElem?_toArray, List.getElem?_cons_zero, List.getElem?_cons_succ, Option.getD_some]
        repeat (go_big_quiet_step (fail))
        refine wpQuiet_nil ?_
        clear z1 z2 z5 z6 z7 z8 z9
        refine wpN_at true (by kernel_rfl) (by kernel_rfl) ?_
        simp only [opsAt, List.map_cons, List.map_nil, Array.getD_eq_getD_getElem?, List.getElem?_toArray, List.getElem?_cons_zero, List.getElem?_cons_succ, Option.getD_some]
        have honx := HGD.out.refs.one
        have hcs : y.g.refs.cells = #[y.g.refs] := by
          obtain ⟨a', c', he, _⟩ := HGD.out.refs.at
          show y.v.cells = #[y.v]
          rw [he]; rfl
        go_wp2_with fail
        refine (back_any s y.g Xd hcs honx).mono ?_
        rintro r X2 ⟨rfl, hb2⟩
        have HB2' := Lib.hid (HBXd.out.trans (hb2.mono HBXd.out.size) : Below X.heap.size X X2)
        go_wp2_with fail
        refine ⟨fun _ => ⟨⟨_, hb2⟩, rfl⟩, wpN_list [12, 13, 14] _ _ (by kernel_rfl) ?_⟩
        clear hb2
        simp only [opsAt, List.map_cons, List.map_nil, Array.getD_eq_getD_getElem?, List.getElem?_toArray, List.getElem?_cons_zero, List.getElem?_cons_succ, Option.getD_some]
        have HSM := Lib.hid (same_true s y.g y.v r0.m.v y.p.ids X2 (HGD.out.refs.at.below HB2'.out) (HI0.out.below HB2'.out) (by omega))
        go_wp2_with fail
        refine HSM.out.mono ?_
        rintro r X3 ⟨rfl, hb3⟩
        have HB3 := Lib.hid (HB2'.out.trans (hb3.mono HB2'.out.size) : Below X.heap.size X X3)
        clear hb3 HSM HB2' HBXd
        go_wp2
        refine NoPanic.normal ?_
        rw [QS_normal]
        refine wpSt_end (by kernel_rfl) ?_
        have hk3 : X3.heap[kb]? = some (.cells #[.int .i64 pre.length] 3 (0, 0)) := (HB3.out.block kb (Array.getElem?_eq_some_iff.1 HCN.out.cell).1).trans HCN.out.cell
        have g1 := cell_of_row X3 kb 0 _ _ _ hk3
        have g2 := frozen_of_row X3 kb 0 _ _ hk3
        have hpl : pre.length ≤ 100000 := by omega
        clear e1
        gi_wp2
        have hsz : (X3.setCell ⟨kb, 0, none⟩ (.int .i64 ((pre.length : Int) + 1))).heap.size = X3.heap.size := by simp
        have ho : ∀ k, k ≠ kb → (X3.setCell ⟨kb, 0, none⟩ (.int .i64 ((pre.length : Int) + 1))).heap[k]? = X3.heap[k]? := fun k hk => heap_setCell_other X3 ⟨kb, 0, none⟩ k _ hk
        have hc := heap_setCell_same X3 kb 0 _ _ (.int .i64 ((pre.length : Int) + 1)) hk3
        refine ⟨⟨by rw [hsz]; exact HB3.out.size, fun k hk hk2 => ?_⟩, ⟨by rw [hsz]; exact HB3.out.size, fun k hA hB' _ => ?_⟩, ⟨⟨HB3.out.os.trans HCN.out.kept.os, HB3.out.tape.trans HCN.out.kept.tape, HB3.out.output.trans HCN.out.kept.output, by rw [hsz]; exact Nat.le_trans HCN.out.kept.size HB3.out.size, fun k hk hn => ?_⟩, ?_⟩⟩
        · exact (ho k (by omega)).trans (HB3.out.block k (by omega))
        · exact (ho k (by omega)).trans (HB3.out.block k (by omega))
        · have hn' : k ≠ kb := by simpa using hn
          exact (ho k hn').trans ((HB3.out.block k (Nat.lt_of_lt_of_le hk HCN.out.kept.size)).trans (HCN.out.old hk hn'))
        · rw [hc, List.length_append, List.length_singleton]
          simp
      case done =>
        intro B xs W9 hB hBW hS h9 hmk
        have hxl : xs.length = (withinR lo hi (ofR rs s)).length := by
          have := congrArg List.length hS
          rw [HRT.out, List.length_map, List.length_map] at this
          exact this
        have hlt3 := HLT.out
        have HW9 := Lib.hid (HW8'.out.kept (by decide) HKB8.out (by omega) (by omega) h9.kept)
        have HK9 : Hid (W9.heap[kb]? = some (.cells #[.int .i64 (withinR lo hi (ofR rs s)).length] 3 (0, 0))) := Lib.hid (by rw [← hxl]; exact h9.cell)
        have HB9 : Hid (W9.heap[wb]? = some (.cells #[.slice wa (withinR lo hi (ofR rs s)).length wc] 49 (0, 0))) := Lib.hid ((h9.old (Array.getElem?_eq_some_iff.1 HBX8.out).1 (by omega)).trans HBX8.out)
        have HMK := Lib.hid hmk
        have HDL : Hid (kb < W8.heap.size) := Lib.hid hkbl
        have hwl : (withinR lo hi (ofR rs s)).length ≤ 100000 := HOW8.out.few
        obtain ⟨wl, hwle⟩ : ∃ wl, wl = (withinR lo hi (ofR rs s)).length := ⟨_, rfl⟩
        rw [← hwle] at HK9 HB9 hwl
        obtain ⟨hi1, hi2⟩ := rd_of_block HW9.out.box.i
        have HWH := Lib.hid (where_any w2.heap.size ib M mc gs x W9 (HG.out.later HW9.out.box.bl) HW9.out.play.idx)
        clear hS h9 hmk hxl HBX8 HKB8 HC
        rw [HA8.out]
        clear hwle
        go_wp2_with fail
        refine HWH.out.mono ?_
        rintro r w10 ⟨pv, ns, rfl, hown, hord, hmem, hb10⟩
        have hnse := rel_names HW9.out.play.idx HW9.out.play.rel HW9.out.play.ord hord hmem
        subst hnse
        rw [rel_where HW9.out.play.idx HW9.out.play.rel HW9.out.play.ord x] at hown
        have hown0 : w10.ownsRow 0 76 2 pv (placesR x rs).length (flatP (placesR x rs)) := ownsRow_base hown (Nat.zero_le _)
        obtain ⟨pa, pc, hpe⟩ : ∃ a c, pv = .slice a (placesR x rs).length c := by
          rcases hown0.2 with ⟨e, h0⟩ | ⟨g, cap, cur, e, _⟩
          · exact ⟨none, 0, by rw [e, h0]⟩
          · exact ⟨_, _, e⟩
        subst hpe
        have HW10 := Lib.hid (HW9.out.step hb10)
        have HK10 : Hid (w10.heap[kb]? = some (.cells #[.int .i64 wl] 3 (0, 0))) := Lib.hid ((hb10.block kb (Array.getElem?_eq_some_iff.1 HK9.out).1).trans HK9.out)
        have HB10 : Hid (w10.heap[wb]? = some (.cells #[.slice wa wl wc] 49 (0, 0))) := Lib.hid ((hb10.block wb (Array.getElem?_eq_some_iff.1 HB9.out).1).trans HB9.out)
        have HMK10 : Hid (w10.heap[W8.heap.size]? = some (.deferred (some []))) := Lib.hid ((hb10.block _ (Array.getElem?_eq_some_iff.1 HMK.out).1).trans HMK.out)
        have HOWN := Lib.hid hown0
        clear hown hown0 hord hmem hb10 HWH hi1 hi2 HW9 HK9 HB9 HMK
        go_wp2
        refine vw_loop2 _ w.heap.size xa xc wb kb pa pc x rs _ _ w10 ?ls HW10.out.box.i HW10.out.play.refs.base HOWN.out ?lq
        case ls => exact ⟨rfl, rfl, rfl, rfl, rfl, rfl, rfl, rfl, rfl⟩
        case lq =>
        rintro a9 X9 ⟨-, hdf, hsl, q, rfl⟩
        rw [List.take_length] at hsl
        obtain ⟨t9, d9⟩ := a9
        obtain rfl : d9 = _ := hdf
        obtain ⟨f9, hf9, hft9⟩ := hsl.out
        simp only at hft9
        rw [hft9]
        clear hsl hf9 hft9
        have k1 : (w10.drewN q).cell? ⟨kb, 0, none⟩ = some (.int .i64 wl) := by rw [World.cell?_drewN]; exact cell_of_row w10 kb 0 _ _ _ HK10.out
        have k2 : (w10.drewN q).cell? ⟨wb, 0, none⟩ = some (.slice wa wl wc) := by rw [World.cell?_drewN]; exact cell_of_row w10 wb 0 _ _ _ HB10.out
        have hr9 : (w10.drewN q).heap[w.heap.size + 2]? = some (.cells #[.bool false] 4 (0, 0)) := by rw [World.heap_drewN]; exact HW10.out.box.r
        have hm9 : (w10.drewN q).heap[W8.heap.size]? = some (.deferred (some [])) := by rw [World.heap_drewN]; exact HMK10.out
        have hbl9 : Below w.heap.size w (w10.drewN q) := below_drewN' HW10.out.box.bl q
        generalize w10.drewN q = W9 at k1 k2 hr9 hm9 hbl9 ⊢
        have p4 := cell_of_row W9 (w.heap.size + 2) 0 _ _ _ hr9
        have p5 := frozen_of_row W9 (w.heap.size + 2) 0 _ _ hr9
        have HMK := Lib.hid hm9
        have HR9 : Hid (W9.heap[w.heap.size + 1 + 1]? = some (.cells #[.bool false] 4 (0, 0))) := Lib.hid hr9
        have HBL9 := Lib.hid hbl9
        have hpn : (placesR x rs).length ≤ 100000 := by
          unfold placesR
          rw [List.length_map]
          exact Nat.le_trans (List.length_filter_le _ _) HW10.out.play.refs.few
        clear hr9 hm9 hbl9 HW10 HK10 HB10 HMK10 HOWN
        generalize (placesR x rs).length = np at hpn ⊢
        go_wp2
        have hRD : w.heap.size + 1 + 1 ≠ W8.heap.size := by have := HDL.out; omega
        have hK := (heap_setCell_other W9 ⟨w.heap.size + 1 + 1, 0, none⟩ W8.heap.size (.bool true) (Ne.symm hRD)).trans HMK.out
        have hC := heap_setCell_same W9 (w.heap.size + 1 + 1) 0 _ _ (.bool true) HR9.out
        refine ⟨by simp, .inl ⟨_, _, rfl, run_takeDeferred hK, ?_⟩⟩
        have hC5 := (World.putObj_heap_other (o := .deferred none) hRD).trans hC
        have hc5 := cell_of_row _ (w.heap.size + 1 + 1) 0 _ _ _ hC5
        refine ⟨.bool true, ?_, rfl, (HBL9.out.setCell (p := ⟨w.heap.size + 1 + 1, 0, none⟩) (by simp; omega) _).trans (belowK_b (w := w) (Nat.le_refl _) _ W8.heap.size _ _ (by have := HDL.out; omega) hK rfl rfl)⟩
        exact results_cell1' Tryz.results8 Tryz.isAgg4 _ _ ⟨w.heap.size + 1 + 1, 0, none⟩ _ rfl hc5

end Go.Proofs.YtdjaphcelpchaaaGreatDoor

namespace Go.Proofs.YtdjaphcelpchaaaGreatDoor.overviewViews
open Go Go.RowKit Go.Proofs Go.Proofs.YtdjaphcelpchaaaGreatDoor Go.ChangeShapes Go.WideShapes Go.ChangeAt Go.WideMaps Go.ChangeMaps

set_option maxRecDepth 100000 in
theorem contract (H : Type) (enc : TypeId × Value → H) (W : World) (base : Nat) (args : Array Value) (ds gs : List (DataW H)) (before : List MemPlace)
    (hval : ∀ (j : Nat) t v, Tryz.f8.params[j]? = some t → args[j]? = some v → Value.okWide Tryz.prog W .any base t v)
    (hW : DataW.Whole enc Tryz.prog Tryz.f8.params.toList Rows.overviewViewsSpec.vars false W args.toList ds gs before)
    (hR : (DataW.weightsEach Tryz.prog (Tryz.f8.params.toList ++ (OpenSpec.ofChange Rows.overviewViewsSpec).bare.plain.varTypes Tryz.prog) (ds ++ gs)).all (· ≤ reachBytes) = true)
    (hL : laidMetH Tryz.prog Rows.overviewViewsRow.laid W) (hS : W.ShapedOpen Tryz.prog) :
    Calls Tryz.prog 8 args W fun e W' => ∃ v, e = .returned v ∧ Rows.overviewViewsSpec.post enc Tryz.prog Tryz.f8 false true false false W args v W' := by
  have hW' := hW
  obtain ⟨p, q, hA0, hV, rfl, hfz, hnd⟩ := hW
  have hA : DataW.TrodAll enc Tryz.prog W 0 (fun _ => true) true Tryz.f8.params.toList args.toList ds p := hA0
  rw [Tryz.params8] at hA hval hR
  obtain ⟨v0, vs0, d0, ds0, p0, q0, ha, rfl, rfl, h0, hA⟩ := trodAll_cons hA
  obtain ⟨v1, vs1, d1, ds1, p1, q1, rfl, rfl, rfl, h1, hA⟩ := trodAll_cons hA
  obtain ⟨v2, vs2, d2, ds2, p2, q2, rfl, rfl, rfl, h2, hA⟩ := trodAll_cons hA
  obtain ⟨v3, vs3, d3, ds3, p3, q3, rfl, rfl, rfl, h3, hA⟩ := trodAll_cons hA
  obtain ⟨v4, vs4, d4, ds4, p4, q4, rfl, rfl, rfl, h4, hA⟩ := trodAll_cons hA
  obtain ⟨v5, vs5, d5, ds5, p5, q5, rfl, rfl, rfl, h5, hA⟩ := trodAll_cons hA
  obtain ⟨rfl, rfl, rfl⟩ := trodAll_nil hA
  obtain rfl : args = #[v0, v1, v2, v3, v4, v5] := by cases args; simp_all
  obtain ⟨s, rfl, rfl, rfl, hs⟩ := open_string Tryz.underlying9 (hval 1 9 v1 rfl rfl) h1
  obtain ⟨n, rfl, rfl, rfl, _⟩ := open_int Tryz.underlying3 (hval 2 3 v2 rfl rfl) h2
  obtain ⟨lo, rfl, rfl, rfl, _⟩ := open_int Tryz.underlying3 (hval 3 3 v3 rfl rfl) h3
  obtain ⟨hi, rfl, rfl, rfl, _⟩ := open_int Tryz.underlying3 (hval 4 3 v4 rfl rfl) h4
  have ho5 := hval 5 23 v5 rfl rfl
  unfold Value.okWide at ho5
  rw [Tryz.underlying23] at ho5
  obtain ⟨cs, rfl, _, _⟩ := ho5
  obtain ⟨fuel5, hf5⟩ := h5
  obtain ⟨x, hcx⟩ := open_idcells (cs := cs.toList) hf5
  obtain rfl : cs = (encId x).toArray := by rw [← hcx]
  obtain ⟨fuel, hf⟩ := h0
  obtain ⟨v, os, hcs, hO⟩ := open_ops (cs := v0.cells.toList) hf (fun n hn => by
    have := List.all_eq_true.1 hR n (DataW.weights_mem_each (j := 0) rfl rfl n hn)
    simpa using this)
  obtain rfl : v0 = v := by
    have ho := ops_cells (hval 0 45 v0 rfl rfl)
    rw [ho] at hcs
    simpa using hcs
  clear hA0 hA
  refine (law_views v0 os s n lo hi x W (gl_of hL hS) hO hs).mono fun e W' ⟨he, hb⟩ => ?_
  subst he
  exact ⟨_, rfl, law_post rfl (by kernel_rfl) hW' (by rw [Tryz.params8]; intro t ht; rcases (by simpa using ht : t = 45 ∨ t = 9 ∨ t = 3 ∨ t = 23) with rfl | rfl | rfl | rfl <;> exact ⟨by kernel_rfl, of_decide_eq_true (by kernel_rfl)⟩) rfl hb⟩

theorem reads (os : Os) {H : Type} (enc : TypeId × Value → H) : ∃ places, DataW.whole enc Tryz.prog ((World.laidAll Tryz.prog os Rows.overviewViewsRow.laid).forCall (fun _ _ => 0) ⟨#[], #[.slice none 0 0, .string ⟨#[]⟩, .int .i64 0, .int .i64 0, .int .i64 0, .agg (encId default).toArray], []⟩).memory Tryz.f8.params.toList Rows.overviewViewsSpec.vars false (#[.slice none 0 0, .string ⟨#[]⟩, .int .i64 0, .int .i64 0, .int .i64 0, .agg (encId default).toArray] : Array Value).toList 8 = some ([.nil, .lit (.string []), .lit (.int .i64 0), .lit (.int .i64 0), .lit (.int .i64 0), .agg (List.replicate 32 (.lit (.int .u8 0)))], [], places) :=
  ⟨[], by kernel_rfl⟩

set_option maxRecDepth 100000 in
theorem lifted (os : Os) (started : os.Started) (H : Type) (enc : TypeId × Value → H) (F : Stop.Interp) :
    ReturnsInHanded {} Tryz.checked os 8 .any ((OpenSpec.ofChange Rows.overviewViewsSpec).preRow enc Tryz.prog Tryz.f8 Rows.overviewViewsRow.domain false Rows.overviewViewsRow.laid) (((OpenSpec.ofChange Rows.overviewViewsSpec).at F).post enc Tryz.prog Tryz.f8 false true false false) := by
  obtain ⟨places, hx⟩ := reads os enc
  refine returnsInHanded_of_row (C := Tryz.checked) (s := OpenSpec.ofChange Rows.overviewViewsSpec) own started (by kernel_rfl) Tryz.func8
    (witness_row_at (enc := enc) (C := Tryz.checked) false (World.laidAll Tryz.prog os Rows.overviewViewsRow.laid) #[.slice none 0 0, .string ⟨#[]⟩, .int .i64 0, .int .i64 0, .int .i64 0, .agg (encId default).toArray] (World.laidAll_os _ _ _) (by kernel_rfl) (by kernel_rfl) (by kernel_rfl)
      (OpenSpec.preRow_of_cond 8 hx (by kernel_rfl) (fun k hk => by cases hk) (by kernel_rfl) (laidMet_laidAll _ (by kernel_rfl) (by kernel_rfl)))) ?_
  intro W base args ds gs before hval hW _ _ hR hL hS _
  exact contract H enc W base args ds gs before hval hW hR hL hS

theorem said : Rows.OverviewViewsSaid :=
  OpenClaim.holds_of_cond 8 Tryz.f8 rfl rfl rfl rfl rfl rfl rfl ⟨rfl, rfl, rfl, rfl, rfl⟩ rfl rfl rfl rfl rfl (by kernel_rfl) Tryz.func8 (by kernel_rfl)
    (of_decide_eq_true (by kernel_rfl)) (by unfold Func.isWrapper; first | (rw [if_pos (by decide +kernel)]; kernel_rfl) | (rw [if_neg (by decide +kernel)]; exact ⟨rfl, rfl⟩))
    (fun os started H enc _ F => by rw [OpenClaim.pre_eq_preRow]; exact lifted os started H enc F)

theorem plain (f : FuncId) (fn : Func) (hf : Tryz.pinned.checked.prog.funcNamed "bulletin/bulletinlaw28.OverviewViews" = some f) (hfn : Tryz.pinned.checked.prog.funcs[f]? = some fn) :
    true = Tryz.pinned.checked.prog.looks [] ∧ ∀ (j : Nat) t, fn.params[j]? = some t → Tryz.pinned.checked.prog.wantsStandIn t = false := by
  obtain rfl : f = 8 := Option.some.inj ((show Tryz.prog.funcNamed "bulletin/bulletinlaw28.OverviewViews" = some 8 by kernel_rfl).symm.trans hf) |>.symm
  obtain rfl : fn = Tryz.f8 := (Option.some.inj (Tryz.func8.symm.trans hfn)).symm
  refine ⟨by kernel_rfl, fun j t ht => ?_⟩
  rw [Tryz.params8] at ht
  rcases (by simpa using Array.mem_of_getElem? ht : t = 45 ∨ t = 9 ∨ t = 3 ∨ t = 23) with rfl | rfl | rfl | rfl
  · exact (show Tryz.prog.wantsStandIn 45 = false by kernel_rfl)
  · exact (show Tryz.prog.wantsStandIn 9 = false by kernel_rfl)
  · exact (show Tryz.prog.wantsStandIn 3 = false by kernel_rfl)
  · exact (show Tryz.prog.wantsStandIn 23 = false by kernel_rfl)

end Go.Proofs.YtdjaphcelpchaaaGreatDoor.overviewViews
namespace Go.Proofs.YtdjaphcelpchaaaGreatDoor
open Go
theorem overviewViews_card : Rows.OverviewViewsCardSaid :=
  Claim7.holds_tied_plain_at .later [] _ _ _ _ overviewViews.said (fun _ h => by cases h) (by kernel_rfl) (fun _ h => by cases h) overviewViews_row_tie rfl ⟨rfl, rfl⟩ (by kernel_rfl) rfl overviewViews.plain (by kernel_rfl)
#print axioms overviewViews_card
end Go.Proofs.YtdjaphcelpchaaaGreatDoor
