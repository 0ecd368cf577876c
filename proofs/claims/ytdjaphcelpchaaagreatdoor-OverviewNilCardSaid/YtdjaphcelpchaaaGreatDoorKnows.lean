/- 'known' answers true: the law's own self-test. -/
import Derived.Test.YtdjaphcelpchaaaGreatDoorAdd0
namespace Go.Proofs.YtdjaphcelpchaaaGreatDoor
open Go Go.RowKit Go.Proofs

attribute [local go_sem ↓] ex_load_id ex_store_id ex_load_line ex_store_line ex_alloc_line ex_build_line
attribute [local go_sem] ld_id st_id ld_line st_line guard_id okCells_drew rdCells_drew okCells_drewN rdCells_drewN rowOk_drew rowOk_cells okCells_cells rdCells_cells setRow_drew setRow_new setRow_past

/-- The line that 'known' prints, and its text. -/
def seven : GLine := { zeroLine with number := 7, name := ⟨#[65, 110, 110]⟩, subject := ⟨#[82, 101, 58, 32, 116, 101, 97]⟩, bytes := 120 }
theorem seven_ok : lineErr seven [] = 0 := by decide +kernel
def sevenTxt : List UInt8 := [55, 9] ++ Lib.repeatL [48] 64 ++ [9, 65, 110, 110, 9, 48, 9, 82, 101, 58, 32, 116, 101, 97, 9, 9, 49, 50, 48]
theorem seven_txt : lineTxt 7 zeroId ⟨#[65, 110, 110]⟩ 0 ⟨#[82, 101, 58, 32, 116, 101, 97]⟩ [] 120 = sevenTxt := by decide +kernel

theorem ex_build_l4 (ρ : Operand → Value) (d : Option Tmp) (x0 x2 x4 x6 : Operand) (ty : TypeId) (pos : String) (af : Array Edge) (gd : Option (Nat × Bool)) (w : World) :
    Sem.run Tryz.prog (execOp ρ ⟨d, .build 34 #[(0, x0), (2, x2), (4, x4), (6, x6)], ty, pos, af, gd⟩) w = blRes Tryz.prog 34 w #[(0, ρ x0), (2, ρ x2), (4, ρ x4), (6, ρ x6)] := by kernel_rfl
theorem ex_build_l1 (ρ : Operand → Value) (d : Option Tmp) (x0 : Operand) (ty : TypeId) (pos : String) (af : Array Edge) (gd : Option (Nat × Bool)) (w : World) :
    Sem.run Tryz.prog (execOp ρ ⟨d, .build 34 #[(0, x0)], ty, pos, af, gd⟩) w = blRes Tryz.prog 34 w #[(0, ρ x0)] := by kernel_rfl
theorem bl_seven (w : World) : blRes Tryz.prog 34 w #[(0, .int .i64 7), (2, .string ⟨#[65, 110, 110]⟩), (4, .string ⟨#[82, 101, 58, 32, 116, 101, 97]⟩), (6, .int .i64 120)] = .ok (.value (.agg (lineCells seven))) w := by kernel_rfl
theorem bl_three (w : World) : blRes Tryz.prog 34 w #[(0, .int .i64 3)] = .ok (.value (.agg (lineCells three))) w := by kernel_rfl
attribute [local go_sem ↓] ex_build_l4 ex_build_l1
attribute [local go_sem] bl_seven bl_three

set_option maxHeartbeats 1000000 in
theorem new_any (w : World) : Calls Tryz.prog 25 #[] w fun r w' => r = .returned (.pointer (some ⟨w.heap.size + 1, 0, none⟩)) ∧ (w.alloc (.map #[] 0)).alloc (.cells #[.map (some w.heap.size), .int .i64 0] 104) = w' := by
  have hmm := @run_makeMap Tryz.prog
  go_enter Tryz.func25, Tryz.ntmps25
  go_wp2
  go_ret
  exact ⟨rfl, rfl⟩

set_option maxHeartbeats 1000000 in
theorem len_one (IB M gb n c : Nat) (w : World) (a : Option Addr) (hc : w.cell? ⟨IB, 0, none⟩ = some (.map (some M))) (hm : w.heap[M]? = some (.map #[{ key := .string ⟨#[97, 46, 98]⟩, val := .pointer (some ⟨gb, 0, none⟩), born := 0 }] 1)) (hg : w.cell? ⟨gb, 0, none⟩ = some (.slice a n c)) :
    Calls Tryz.prog 48 #[.pointer (some ⟨IB, 0, none⟩), .string ⟨#[97, 46, 98]⟩] w fun r w' => r = .returned (.int .i64 n) ∧ w = w' := by
  have HL := Lib.hid (linesOf_one IB M gb n c w a hc hm hg)
  clear hc hm hg
  go_enter Tryz.func48, Tryz.ntmps48
  go_wp2_with fail
  refine HL.out.mono ?_
  rintro r w' ⟨rfl, rfl⟩
  go_wp2
  go_ret
  exact ⟨rfl, rfl⟩

set_option maxRecDepth 100000 in
set_option maxHeartbeats 2000000 in
theorem knows : Knows := by
  intro w hG
  have hp := print_any seven [] w hG ⟨idsAt_nil _, by decide +kernel, by decide +kernel, by decide +kernel⟩
  have e0 : (if lineErr seven [] = 0 then str (lineTxt seven.number.toNat seven.id seven.name seven.date.toNat seven.subject [] seven.bytes.toNat) else ⟨#[]⟩) = str sevenTxt := by
    rw [if_pos seven_ok, ← seven_txt]; rfl
  rw [e0, seven_ok] at hp
  have HP := Lib.hid hp
  clear hp e0
  go_enter Tryz.func13, Tryz.ntmps13
  go_wp2_with fail
  refine HP.out.mono ?_
  rintro r w1 ⟨rfl, hb1⟩
  have HB1 := Lib.hid hb1
  clear hb1 HP
  go_wp2_with fail
  refine (new_any w1).mono ?_
  rintro r w2' ⟨rfl, rfl⟩
  have hb2 : Below w1.heap.size w1 ((w1.alloc (.map #[] 0)).alloc (.cells #[.map (some w1.heap.size), .int .i64 0] 104)) := ((Below.refl _ _).alloc (Nat.le_refl _) _).alloc (by simp) _
  have hI2 : ((w1.alloc (.map #[] 0)).alloc (.cells #[.map (some w1.heap.size), .int .i64 0] 104)).heap[w1.heap.size + 1]? = some (.cells #[.map (some w1.heap.size), .int .i64 0] 104 (0, 0)) := by
    have := heap_alloc_new (w1.alloc (.map #[] 0)) (.cells #[.map (some w1.heap.size), .int .i64 0] 104)
    simpa using this
  have hM2 : ((w1.alloc (.map #[] 0)).alloc (.cells #[.map (some w1.heap.size), .int .i64 0] 104)).heap[w1.heap.size]? = some (.map #[] 0) := by
    rw [heap_alloc_old _ _ (by simp), heap_alloc_new]
  generalize (w1.alloc (.map #[] 0)).alloc (.cells #[.map (some w1.heap.size), .int .i64 0] 104) = w2 at hb2 hI2 hM2 ⊢
  have hs2 : w1.heap.size + 1 < w2.heap.size := (Array.getElem?_eq_some_iff.1 hI2).1
  have HB2 := Lib.hid hb2
  have HI2 := Lib.hid hI2
  have HM2 := Lib.hid hM2
  clear hb2 hI2 hM2
  have hrep := Tryz.strings_Repeat ⟨#[48]⟩ 64 w2 (by omega) (by decide +kernel)
  have HR := Lib.hid hrep
  clear hrep
  go_wp2_with fail
  refine HR.out.mono ?_
  rintro r w3 ⟨rfl, hb3⟩
  have hI3 := (hb3.block _ hs2).trans HI2.out
  have hM3 := (hb3.block w1.heap.size (by omega)).trans HM2.out
  have hB3 : Below w1.heap.size w1 w3 := HB2.out.trans (hb3.mono (by omega))
  have hG3 : Gl w3 := hG.later (HB1.out.trans (hB3.mono HB1.out.size))
  have HA := Lib.hid (add_fresh (w1.heap.size + 1) w1.heap.size w1.heap.size w3 hG3 hI3 hM3 (by omega) (Nat.le_refl _))
  have HB3 := Lib.hid hB3
  clear hI3 hM3 hB3 hG3 hb3 HR HB2 HI2 HM2 hs2
  go_wp2_with fail
  refine HA.out.mono ?_
  rintro r w4 ⟨rfl, hb4, gb, a, c, hc4, hm4, hg4⟩
  have HLn := Lib.hid (len_one _ _ gb 1 c w4 a hc4 hm4 hg4)
  have hB4 := HB1.out.trans ((HB3.out.trans hb4).mono HB1.out.size)
  have HB4 := Lib.hid hB4
  clear hc4 hm4 hg4 hb4 hB4 HA HB3
  go_wp2_with fail
  refine HLn.out.mono ?_
  rintro r w5 ⟨rfl, rfl⟩
  go_wp2
  go_ret
  exact ⟨rfl, HB4.out⟩

#print axioms knows
end Go.Proofs.YtdjaphcelpchaaaGreatDoor
