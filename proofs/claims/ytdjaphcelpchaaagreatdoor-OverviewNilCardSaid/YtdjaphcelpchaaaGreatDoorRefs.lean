/- Slices of identities in memory, and the functions that check references: bulletinref28.refs and overview.checkReferences return what refsErr tells. -/
import Derived.Test.YtdjaphcelpchaaaGreatDoorMem
import Derived.Test.YtdjaphcelpchaaaGreatDoorMix
import Derived.Deep.LoopGhost
import Derived.Deep.RegionWith
import Derived.Deep.DeepFit
import Derived.StillTailTactics
import Derived.Deep.RegionHeld3
namespace Go.Proofs.YtdjaphcelpchaaaGreatDoor
open Go Go.RowKit Go.Proofs

attribute [local go_sem ↓] ex_load_id ex_store_id
attribute [local go_sem 2000] run_eql_id
attribute [local go_sem] ld_id st_id guard_id okCells_drew rdCells_drew okCells_drewN rdCells_drewN ok_alloc rd_alloc

/-- The cells of a row of identities. -/
def IdRow (w : World) (b off : Nat) (ids : List Id32) : Prop := ∀ j, j < ids.length → ∀ i v, (encId ids[j]!)[i]? = some v → w.cell? ⟨b, off + j * 32 + i, none⟩ = some v
/-- A slice value that reads as a list of identities. -/
def IdsAt (w : World) (v : Value) (ids : List Id32) : Prop :=
  ∃ a c, v = .slice a ids.length c ∧ ids.length ≤ c ∧ (ids ≠ [] → ∃ b off, a = some ⟨b, off, none⟩ ∧ IdRow w b off ids)

theorem IdRow.rd {w : World} {b off : Nat} {ids : List Id32} (h : IdRow w b off ids) {j : Nat} (hj : j < ids.length) :
    okCells w ⟨b, off + j * 32, none⟩ 32 = true ∧ rdCells w ⟨b, off + j * 32, none⟩ 32 = (encId ids[j]!).toArray := by
  have := rd_of_cells (w := w) (a := ⟨b, off + j * 32, none⟩) (cs := encId ids[j]!) (fun i v hi => by rw [Addr.add_lit]; exact h j hj i v hi)
  rwa [encId_length] at this
theorem IdRow.lt {w : World} {b off : Nat} {ids : List Id32} (h : IdRow w b off ids) (hne : ids ≠ []) : b < w.heap.size := by
  have h0 : 0 < ids.length := List.length_pos_iff.2 hne
  have := h 0 h0 0 _ (encId_get _ 0 (by omega))
  exact block_lt_of_cell this
theorem IdRow.below {w w' : World} {b off : Nat} {ids : List Id32} (h : IdRow w b off ids) {B : Nat} (hb : Below B w w') (hB : b < B) : IdRow w' b off ids :=
  fun j hj i v hi => (hb.cell (p := ⟨b, _, none⟩) hB).trans (h j hj i v hi)
theorem IdsAt.below {w w' : World} {v : Value} {ids : List Id32} (h : IdsAt w v ids) (hb : Below w.heap.size w w') : IdsAt w' v ids := by
  obtain ⟨a, c, e, hc, hr⟩ := h
  exact ⟨a, c, e, hc, fun hne => let ⟨b, off, e2, hrow⟩ := hr hne; ⟨b, off, e2, hrow.below hb (hrow.lt hne)⟩⟩

/-- Is one of the first k identities equal to x? -/
def among (ids : List Id32) (k : Nat) (x : Id32) : Bool := (ids.take k).any fun y => decide (x = y)
def dupUpto (ids : List Id32) (k : Nat) : Bool := (List.range k).any fun i => among ids i ids[i]!
def refsErr (ids : List Id32) : Int := if 20 < ids.length then 9 else if dupUpto ids ids.length then 7 else 0

theorem among_succ (ids : List Id32) (k : Nat) (x : Id32) (h : k < ids.length) : among ids (k + 1) x = (among ids k x || decide (x = ids[k]!)) := by
  unfold among
  rw [List.take_succ_eq_append_getElem h, List.any_append]
  simp [h]
theorem dupUpto_succ (ids : List Id32) (k : Nat) : dupUpto ids (k + 1) = (dupUpto ids k || among ids k ids[k]!) := by
  unfold dupUpto
  rw [List.range_succ, List.any_append]
  simp
theorem dupUpto_mono {ids : List Id32} {k n : Nat} (h : k ≤ n) (hd : dupUpto ids k = true) : dupUpto ids n = true := by
  unfold dupUpto at *
  rw [List.any_eq_true] at *
  obtain ⟨i, hi, hx⟩ := hd
  exact ⟨i, by simp at hi ⊢; omega, hx⟩
theorem among_mono {ids : List Id32} {k n : Nat} {x : Id32} (h : k ≤ n) (hd : among ids k x = true) : among ids n x = true := by
  unfold among at *
  rw [List.any_eq_true] at *
  obtain ⟨i, hi, hx⟩ := hd
  exact ⟨i, (List.take_subset_take_left ids h) hi, hx⟩
theorem refsErr_long {ids : List Id32} (h : 20 < ids.length) : refsErr ids = 9 := if_pos h
theorem refsErr_dup {ids : List Id32} (h : ids.length ≤ 20) (hd : dupUpto ids ids.length = true) : refsErr ids = 7 := by
  unfold refsErr; rw [if_neg (by omega), if_pos hd]
theorem refsErr_ok {ids : List Id32} (h : ids.length ≤ 20) (hd : dupUpto ids ids.length = false) : refsErr ids = 0 := by
  unfold refsErr; rw [if_neg (by omega), if_neg (by simp [hd])]
theorem refsErr_at {ids : List Id32} {i k : Nat} (h : ids.length ≤ 20) (hi : i < ids.length) (hk : k < i) (e : ids[i]! = ids[k]!) : refsErr ids = 7 :=
  refsErr_dup h (dupUpto_mono (show i + 1 ≤ ids.length from hi) (by
    rw [dupUpto_succ, among_mono (show k + 1 ≤ i from hk) (by rw [among_succ ids k _ (by omega), e]; simp)]; simp))

set_option maxHeartbeats 1000000 in
theorem refs_any (v : Value) (ids : List Id32) (w : World) (h : IdsAt w v ids) (hm : ids.length ≤ maxLen) :
    Calls Tryz.prog 53 #[v] w fun r w' => r = .returned (.int .i64 (refsErr ids)) ∧ ∃ q, w' = w.drewN q := by
  unfold maxLen at hm
  obtain ⟨a, c, rfl, hc, hr⟩ := h
  by_cases hlong : 20 < ids.length
  · have hf := Lib.hid (refsErr_long hlong)
    have hlong' : (20 : Int) < (ids.length : Int) := by omega
    clear hr
    go_enter Tryz.func53, Tryz.ntmps53
    go_wp2
    go_ret
    exact ⟨ret_int hf.out.symm, 0, rfl⟩
  · have HR := Lib.hid hr
    clear hr
    have hshort : (ids.length : Int) ≤ 20 := by omega
    go_enter Tryz.func53, Tryz.ntmps53
    go_wp2
    go_loopw [3, 4] (fun i _ wr => ∃ k q : Nat, k ≤ ids.length ∧ i = .int .i64 k ∧ dupUpto ids k = false ∧ wr = w.drewN q) (fun i _ _ => ids.length - (intOf i).toNat)
    case atStart => exact ⟨0, 0, Nat.zero_le _, rfl, rfl, rfl⟩
    case round =>
      obtain ⟨k, q, hk, rfl, hd, rfl⟩ := hrel
      have HD := Lib.hid hd
      clear hd
      by_cases hlt : k < ids.length
      · obtain ⟨b, off, rfl, hrow⟩ := HR.out (by intro e; rw [e] at hlt; simp at hlt)
        have hltz : (k : Int) < (ids.length : Int) := by omega
        have HW := Lib.hid hrow
        have hr1 := hrow.rd hlt
        clear hrow
        generalize hx : ids[k]! = x at hr1
        have HX := Lib.hid hx
        clear hx
        go_wp2
        go_loopw [4] (fun j wr => ∃ m q2 : Nat, m ≤ k ∧ j = .int .i64 m ∧ among ids m x = false ∧ wr = w.drewN q2) (fun j _ => k - (intOf j).toNat)
        case atStart => exact ⟨0, q, Nat.zero_le _, rfl, rfl, rfl⟩
        case round =>
          obtain ⟨m, q2, hmk, rfl, ha, rfl⟩ := hrel
          have HA := Lib.hid ha
          clear ha
          by_cases hm2 : m < k
          · have hmz : (m : Int) < (k : Int) := by omega
            have hmz2 : (m : Int) < (ids.length : Int) := by omega
            have hr2 := HW.out.rd (show m < ids.length by omega)
            generalize hy : ids[m]! = y at hr2
            have HY := Lib.hid hy
            clear hy
            obtain ⟨o1, d1⟩ := hr1
            obtain ⟨o2, d2⟩ := hr2
            by_cases hxy : x = y
            · have hf := Lib.hid (refsErr_at (by omega) hlt hm2 (by rw [HX.out, HY.out, hxy]))
              have hxy' : decide (x = y) = true := by simp [hxy]
              have HXY := Lib.hid hxy
              clear hxy
              go_wp2
              go_quiet (fail)
              go_wp2
              go_ret
              exact ⟨ret_int hf.out.symm, q2 + nq, by first | rfl | rw [World.drewN_drewN]⟩
            · have hn := Lib.hid (show among ids (m + 1) x = false by rw [among_succ ids m x (by omega), HA.out, HY.out]; simp [hxy])
              have hxy' : decide (x = y) = false := by simp [hxy]
              clear hxy
              go_wp2
              go_quiet (fail)
              go_wp2
              go_roundw
              case rel => exact ⟨m + 1, q2 + nq, by omega, by go_num, hn.out, by first | rfl | rw [World.drewN_drewN]⟩
              case measure => simp [intOf]; omega
          · have hmk2 : m = k := by omega
            have hn := Lib.hid (show dupUpto ids (k + 1) = false by rw [dupUpto_succ, HD.out, HX.out, ← hmk2, HA.out]; rfl)
            clear hmk2
            go_wp2
            go_roundw
            case rel => exact ⟨k + 1, q2, by omega, by go_num, hn.out, rfl⟩
            case measure => simp [intOf]; omega
      · have hf := Lib.hid (refsErr_ok (show ids.length ≤ 20 by omega) (by rw [show ids.length = k by omega]; exact HD.out))
        go_wp2
        go_ret
        exact ⟨ret_int hf.out.symm, q, rfl⟩

theorem contains_id (b off n c : Nat) (ids : List Id32) (x : Id32) (w : World) (hz : n ≤ ids.length) (hm : n ≤ 9223372036854775807) (h : IdRow w b off ids) :
    Calls Tryz.prog 94 #[.slice (some ⟨b, off, none⟩) n c, .agg (encId x).toArray] w fun e w' => e = .returned (.bool (among ids n x)) ∧ Below w.heap.size w w' :=
  AnyQ.slices_Contains Tryz.containsId 32 Tryz.isAgg23 Tryz.sizeOf23 encId encId_length _ eqId b off n c ids x w hz hm h

attribute [local go_sem] rowOk_drew rowOk_new rowOk_alloc setRow_drew setRow_new setRow_past fits_id ok_new_id rd_new_id

set_option maxRecDepth 100000 in
set_option maxHeartbeats 1000000 in
theorem checkReferences_any (v : Value) (ids : List Id32) (w : World) (h : IdsAt w v ids) (hm : ids.length ≤ maxLen) :
    Calls Tryz.prog 58 #[v] w fun r w' => r = .returned (.int .i64 (refsErr ids)) ∧ Below w.heap.size w w' := by
  unfold maxLen at hm
  obtain ⟨a, c, rfl, hc, hr⟩ := h
  by_cases hlong : 20 < ids.length
  · have hf := Lib.hid (refsErr_long hlong)
    have hlong' : (20 : Int) < (ids.length : Int) := by omega
    clear hr
    go_enter Tryz.func58, Tryz.ntmps58
    go_wp2
    go_ret
    exact ⟨ret_int hf.out.symm, Below.refl _ _⟩
  · have HR := Lib.hid hr
    clear hr
    have hshort : (ids.length : Int) ≤ 20 := by omega
    go_enter Tryz.func58, Tryz.ntmps58
    go_wp2
    go_loopw [10] (fun i wr => ∃ k : Nat, k ≤ ids.length ∧ i = .int .i64 k ∧ dupUpto ids k = false ∧ Below w.heap.size w wr) (fun i _ => ids.length - (intOf i).toNat)
    case atStart => exact ⟨0, Nat.zero_le _, rfl, rfl, Below.refl _ _⟩
    case round =>
      obtain ⟨k, hk, rfl, hd, hb⟩ := hrel
      have HD := Lib.hid hd
      clear hd
      by_cases hlt : k < ids.length
      · obtain ⟨b, off, rfl, hrow⟩ := HR.out (by intro e; rw [e] at hlt; simp at hlt)
        have hltz : (k : Int) < (ids.length : Int) := by omega
        have hcz : (k : Int) ≤ (c : Int) := by omega
        have hne : ids ≠ [] := by intro e; rw [e] at hlt; simp at hlt
        have HW := Lib.hid (hrow.below hb (hrow.lt hne))
        clear hrow hne
        obtain ⟨o1, d1⟩ := HW.out.rd hlt
        generalize hx : ids[k]! = x at d1
        have HX := Lib.hid hx
        clear hx
        go_wp2
        have oz : ∀ z : Later (wr.alloc (.cells (encId x).toArray 23)), okCells z.1 ⟨wr.heap.size, 0, none⟩ 32 = true := fun z => z.ok (ok_new_id _ _ _)
        have dz : ∀ z : Later (wr.alloc (.cells (encId x).toArray 23)), rdCells z.1 ⟨wr.heap.size, 0, none⟩ 32 = (encId x).toArray := fun z => (z.rd (ok_new_id _ _ _)).trans (rd_new_id _ _ _)
        refine wp_region_ht 4 (fun w' => ∃ z : Later (wr.alloc (.cells (encId x).toArray 23)), w' = z.1) (by kernel_rfl) (by kernel_rfl) ⟨⟨_, (Below.refl _ _).drew⟩, rfl⟩ ?_
        simp only [List.take_succ_cons, List.take_zero, List.drop_succ_cons, List.drop_zero]
        repeat (go_big_quiet_step (fail))
        refine wpQuiet_nil ?_
        rintro _ ⟨z, rfl⟩
        have hz := z.2
        generalize z.1 = wz at hz ⊢
        clear oz dz o1 d1
        have hzr : Below wr.heap.size wr wz := ((Below.refl _ _).alloc (Nat.le_refl _) _).trans (hz.mono (by simp))
        have hbz : Below w.heap.size w wz := hb.trans (hzr.mono hb.size)
        have hrz : IdRow wz b off ids := HW.out.below hzr (HW.out.lt (by intro e; rw [e] at hlt; simp at hlt))
        have hmk : k ≤ 9223372036854775807 := by omega
        clear hz hzr
        cases hq : among ids k x with
        | true =>
          have hc94 := contains_id b off k c ids x wz hk hmk hrz
          rw [hq] at hc94
          have hf := Lib.hid (refsErr_dup (show ids.length ≤ 20 by omega) (dupUpto_mono (show k + 1 ≤ ids.length from hlt) (by rw [dupUpto_succ, HX.out, hq]; simp)))
          clear hq hrz
          have H94 := Lib.hid hc94
          clear hc94
          go_wp2_with fail
          refine H94.out.mono ?_
          rintro e w1 ⟨rfl, hb1⟩
          go_wp2
          go_ret
          exact ⟨ret_int hf.out.symm, hbz.trans (hb1.mono hbz.size)⟩
        | false =>
          have hc94 := contains_id b off k c ids x wz hk hmk hrz
          rw [hq] at hc94
          have hn := Lib.hid (show dupUpto ids (k + 1) = false by rw [dupUpto_succ, HX.out, hq, HD.out]; rfl)
          clear hq hrz
          have H94 := Lib.hid hc94
          clear hc94
          go_wp2_with fail
          refine H94.out.mono ?_
          rintro e w1 ⟨rfl, hb1⟩
          go_wp2
          go_roundw
          case rel => exact ⟨k + 1, by omega, by go_num, hn.out, hbz.trans (hb1.mono hbz.size)⟩
          case measure => simp [intOf]; omega
      · have hf := Lib.hid (refsErr_ok (show ids.length ≤ 20 by omega) (by rw [show ids.length = k by omega]; exact HD.out))
        go_wp2
        go_ret
        exact ⟨ret_int hf.out.symm, hb⟩

end Go.Proofs.YtdjaphcelpchaaaGreatDoor
