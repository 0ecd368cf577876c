/- Parts of the proofs about bulletinlaw28: Equal, EqualM, Encode, RefEnc, TxtLaw, DecLaw, DecWalk, DecPure, Clone2, CloneIdx, BuildLaw, OrdLaw2, ClnS. -/
import Derived.Test.YtdjaphcelpchaaaGreatDoorShelf
import Derived.Test.YtdjaphcelpchaaaGreatDoorK1
import Derived.Test.YtdjaphcelpchaaaGreatDoorK2
import Derived.Test.YtdjaphcelpchaaaGreatDoorShelf2
import Derived.Test.YtdjaphcelpchaaaGreatDoorClonesL1
import Derived.Test.YtdjaphcelpchaaaGreatDoorClonesL2
import Derived.Test.YtdjaphcelpchaaaGreatDoorClonesL3
import Derived.Test.YtdjaphcelpchaaaGreatDoorClonesL4
import Derived.Test.YtdjaphcelpchaaaGreatDoorClonesL5
import Derived.Maps.RangeRun
import Derived.Shelf.SlMaps.Clone

namespace Go.Proofs.YtdjaphcelpchaaaGreatDoor
open Go Go.RowKit Go.Proofs

attribute [local go_sem ↓] ex_load_id ex_store_id ex_load_line ex_store_line ex_load_rline ex_store_rline ex_alloc_line ex_build_line ex_alloc_rline ex_build_rline

attribute [local go_sem] ld_id st_id ld_line st_line ld_rline st_rline guard_id okCells_drew rdCells_drew okCells_drewN rdCells_drewN rowOk_drew rowOk_cells okCells_cells rdCells_cells setRow_drew setRow_new setRow_past

attribute [local go_sem] run_eql_id run_neq_id eqIn_id

theorem ids_ext {a b : List Id32} (hl : a.length = b.length) (h : ∀ j, j < a.length → a[j]! = b[j]!) : a = b := by
  refine List.ext_getElem hl fun j h1 h2 => ?_
  have := h j h1
  rwa [getElem!_pos a j h1, getElem!_pos b j h2] at this

set_option maxRecDepth 100000 in
set_option maxHeartbeats 2000000 in
theorem eqIds_any (v1 v2 : Value) (ids1 ids2 : List Id32) (w : World) (h1 : IdsAt w v1 ids1) (h2 : IdsAt w v2 ids2) (hn1 : ids1.length ≤ 1000000) :
    Calls Tryz.prog 113 #[v1, v2] w fun r w' => r = .returned (.bool (decide (ids1 = ids2))) ∧ Below w.heap.size w w' := by
  obtain ⟨a1, c1, rfl, hc1, hr1⟩ := h1
  obtain ⟨a2, c2, rfl, hc2, hr2⟩ := h2
  by_cases hl : ids1.length = ids2.length
  · have HR1 := Lib.hid hr1
    have HR2 := Lib.hid hr2
    have HL := Lib.hid hl
    have hlz : ((ids1.length : Int) != (ids2.length : Int)) = false := by rw [hl]; simp
    clear hr1 hr2 hl
    go_enter Tryz.func113, Tryz.ntmps113
    go_wp2
    go_loopw [5, 13] (fun _ i wr => ∃ k q : Nat, k ≤ ids1.length ∧ i = .int .i64 k ∧ wr = w.drewN q ∧ Hid (∀ j, j < k → ids1[j]! = ids2[j]!)) (fun _ i _ => ids1.length - (intOf i).toNat)
    case atStart => exact ⟨0, 0, Nat.zero_le _, rfl, rfl, Lib.hid fun _ h => by omega⟩
    case round =>
      obtain ⟨k, q, hk, rfl, rfl, HS⟩ := hrel
      by_cases hlt : k < ids1.length
      · have hltz : (k : Int) < (ids1.length : Int) := by omega
        have hlt2 : k < ids2.length := by have := HL.out; omega
        have hltz2 : (k : Int) < (ids2.length : Int) := by omega
        have hne : ids1 ≠ [] := by intro e; rw [e] at hlt; simp at hlt
        have hne2 : ids2 ≠ [] := by intro e; rw [e] at hlt2; simp at hlt2
        obtain ⟨b1, o1, rfl, hw1⟩ := HR1.out hne
        obtain ⟨b2, o2, rfl, hw2⟩ := HR2.out hne2
        have hr1 := hw1.rd hlt
        have hr2 := hw2.rd hlt2
        have HNX : Hid (ids1[k]! = ids2[k]! → ∀ j, j < k + 1 → ids1[j]! = ids2[j]!) := Lib.hid fun h j hj => by
          by_cases e : j = k
          · subst e; exact h
          · exact HS.out j (by omega)
        have HNO : Hid (ids1[k]! ≠ ids2[k]! → ids1 ≠ ids2) := Lib.hid fun h e => h (by rw [e])
        generalize ids1[k]! = x at hr1 HNX HNO
        generalize ids2[k]! = y at hr2 HNX HNO
        obtain ⟨e1, e2⟩ := hr1
        obtain ⟨e3, e4⟩ := hr2
        clear hw1 hw2 hne hne2 HS
        by_cases hxy : x = y
        · have HS2 := Lib.hid (HNX.out hxy)
          clear HNX HNO
          subst hxy
          go_wp2
          go_quiet (fail)
          go_wp2
          go_roundw
          case rel => exact ⟨k + 1, q + nq, by omega, by go_num, by first | rfl | rw [World.drewN_drewN], HS2⟩
          case measure => simp [intOf]; omega
        · have HE := Lib.hid (HNO.out hxy)
          have hd : decide (x = y) = false := decide_eq_false hxy
          clear HNX HNO hxy
          go_wp2
          go_quiet (fail)
          go_wp2
          go_ret
          exact ⟨by rw [decide_eq_false HE.out]; rfl, below_drewN' (below_drewN' (Below.refl _ _) q) nq⟩
      · have HE : Hid (ids1 = ids2) := Lib.hid (ids_ext HL.out fun j hj => HS.out j (by omega))
        have hltz : ¬ (k : Int) < (ids1.length : Int) := by omega
        go_wp2
        go_ret
        exact ⟨by rw [decide_eq_true HE.out]; rfl, below_drewN' (Below.refl _ _) q⟩
  · have hlz : ((ids1.length : Int) != (ids2.length : Int)) = true := by rw [bne_iff_ne]; omega
    have HE : Hid (ids1 ≠ ids2) := Lib.hid fun e => hl (by rw [e])
    clear hl hr1 hr2
    go_enter Tryz.func113, Tryz.ntmps113
    go_wp2
    go_ret
    exact ⟨by rw [decide_eq_false HE.out]; rfl, Below.refl _ _⟩

/-- Two lines with the same data. -/
def eqP (p q : PLine) : Bool := decide (p.number = q.number) && decide (p.id = q.id) && decide (p.name = q.name) && decide (p.date = q.date) && decide (p.subject = q.subject) && decide (p.ids = q.ids) && decide (p.bytes = q.bytes)
theorem eqP_iff (p q : PLine) : eqP p q = true ↔ p = q := by
  unfold eqP
  simp only [Bool.and_eq_true, decide_eq_true_eq]
  constructor
  · rintro ⟨⟨⟨⟨⟨⟨h1, h2⟩, h3⟩, h4⟩, h5⟩, h6⟩, h7⟩
    obtain ⟨_, _, _, _, _, _, _⟩ := p
    obtain ⟨_, _, _, _, _, _, _⟩ := q
    subst h1 h2 h3 h4 h5 h6 h7
    rfl
  · rintro rfl
    exact ⟨⟨⟨⟨⟨⟨rfl, rfl⟩, rfl⟩, rfl⟩, rfl⟩, rfl⟩, rfl⟩

section
attribute [local go_sem] lc0 lc33 lc34 lc35 lc36 lc37 okArr_lid rdArr_lid

set_option maxRecDepth 100000 in
set_option maxHeartbeats 4000000 in
theorem equal_any (p q : PLine) (v1 v2 : Value) (w : World) (h1 : IdsAt w v1 p.ids) (h2 : IdsAt w v2 q.ids) (hn1 : p.ids.length ≤ 1000000) :
    Calls Tryz.prog 79 #[.agg (lineCells (ML.g ⟨p, v1⟩)), .agg (lineCells (ML.g ⟨q, v2⟩))] w fun r w' => r = .returned (.bool (eqP p q)) ∧ Below w.heap.size w w' := by
  obtain ⟨n1, i1, m1, d1, s1, r1, b1⟩ := p
  obtain ⟨n2, i2, m2, d2, s2, r2, b2⟩ := q
  have HE := Lib.hid fun (W : World) (hb : Below w.heap.size w W) => eqIds_any v1 v2 r1 r2 W (h1.below hb) (h2.below hb) hn1
  obtain ⟨ra, rc, e1, _⟩ := h1
  obtain ⟨qa, qc, e2, _⟩ := h2
  subst e1 e2
  have hbA : Below w.heap.size w ((w.alloc (.cells (lineCells ⟨n1, i1, m1, d1, s1, .slice ra r1.length rc, b1⟩) 34)).alloc (.cells (lineCells ⟨n2, i2, m2, d2, s2, .slice qa r2.length qc, b2⟩) 34)) := ((Below.refl _ _).alloc (Nat.le_refl _) _).alloc (by simp) _
  have HB := Lib.hid hbA
  show Calls Tryz.prog 79 #[.agg (lineCells ⟨n1, i1, m1, d1, s1, .slice ra r1.length rc, b1⟩), .agg (lineCells ⟨n2, i2, m2, d2, s2, .slice qa r2.length qc, b2⟩)] w fun r w' => r = .returned (.bool (eqP ⟨n1, i1, m1, d1, s1, r1, b1⟩ ⟨n2, i2, m2, d2, s2, r2, b2⟩)) ∧ Below w.heap.size w w'
  have HD : Hid (eqP ⟨n1, i1, m1, d1, s1, r1, b1⟩ ⟨n2, i2, m2, d2, s2, r2, b2⟩ = (decide (n1 = n2) && decide (i1 = i2) && decide (m1 = m2) && decide (d1 = d2) && decide (s1 = s2) && decide (r1 = r2) && decide (b1 = b2))) := Lib.hid rfl
  generalize eqP ⟨n1, i1, m1, d1, s1, r1, b1⟩ ⟨n2, i2, m2, d2, s2, r2, b2⟩ = res at HD
  clear hbA
  go_enter Tryz.func79, Tryz.ntmps79
  by_cases h1 : n1 = n2
  · subst h1
    by_cases h2 : i1 = i2
    · subst h2
      by_cases h3 : m1 = m2
      · subst h3
        by_cases h4 : d1 = d2
        · subst h4
          by_cases h5 : s1 = s2
          · subst h5
            go_wp2_with fail
            refine (HE.out _ HB.out).mono ?_
            rintro r w1 ⟨rfl, hb1⟩
            have hk : ∀ k j, k < w.heap.size + 2 → w1.cell? ⟨k, j, none⟩ = ((w.alloc (.cells (lineCells ⟨n1, i1, m1, d1, s1, .slice ra r1.length rc, b1⟩) 34)).alloc (.cells (lineCells ⟨n1, i1, m1, d1, s1, .slice qa r2.length qc, b2⟩) 34)).cell? ⟨k, j, none⟩ := fun k j hk => hb1.cell (by simp; omega)
            have c1 : w1.cell? ⟨w.heap.size, 37, none⟩ = some (.int .i64 b1) := by
              rw [hk _ _ (by omega), cell_of_row _ w.heap.size 37 _ _ (0, 0) (by rw [heap_alloc_old _ _ (by simp), heap_alloc_new])]
              exact lc37 _
            have c2 : w1.cell? ⟨w.heap.size + 1, 37, none⟩ = some (.int .i64 b2) := by
              rw [hk _ _ (by omega), cell_of_row _ (w.heap.size + 1) 37 _ _ (0, 0) (by have := heap_alloc_new (w.alloc (.cells (lineCells ⟨n1, i1, m1, d1, s1, .slice ra r1.length rc, b1⟩) 34)) (.cells (lineCells ⟨n1, i1, m1, d1, s1, .slice qa r2.length qc, b2⟩) 34); simpa using this)]
              exact lc37 _
            have HB1 := Lib.hid (HB.out.trans (hb1.mono HB.out.size) : Below w.heap.size w w1)
            clear hk hb1 HE HB
            by_cases h6 : r1 = r2
            · have hd6 : decide (r1 = r2) = true := decide_eq_true h6
              by_cases h7 : b1 = b2
              · have hr : Hid (res = true) := Lib.hid (by rw [HD.out]; simp [h6, h7])
                clear h6
                subst h7
                go_wp2
                go_ret
                exact ⟨by rw [hr.out]; rfl, HB1.out⟩
              · have hr : Hid (res = false) := Lib.hid (by rw [HD.out]; simp [h7])
                have hb7 : (b1 == b2) = false := by rw [beq_eq_false_iff_ne]; exact h7
                clear h6
                go_wp2
                go_ret
                exact ⟨by rw [hr.out]; rfl, HB1.out⟩
            · have hr : Hid (res = false) := Lib.hid (by rw [HD.out]; simp [h6])
              have hd6 : decide (r1 = r2) = false := decide_eq_false h6
              clear h6
              go_wp2
              go_ret
              exact ⟨by rw [hr.out]; rfl, HB1.out⟩
          · have hr : Hid (res = false) := Lib.hid (by rw [HD.out]; simp [h5])
            have hs5 : (s1.toList == s2.toList) = false := by rw [str_eq_iff, decide_eq_false h5]
            go_wp2
            go_ret
            exact ⟨by rw [hr.out]; rfl, HB.out⟩
        · have hr : Hid (res = false) := Lib.hid (by rw [HD.out]; simp [h4])
          go_wp2
          go_ret
          exact ⟨by rw [hr.out]; rfl, HB.out⟩
      · have hr : Hid (res = false) := Lib.hid (by rw [HD.out]; simp [h3])
        have hs3 : (m1.toList == m2.toList) = false := by rw [str_eq_iff, decide_eq_false h3]
        go_wp2
        go_ret
        exact ⟨by rw [hr.out]; rfl, HB.out⟩
    · have hr : Hid (res = false) := Lib.hid (by rw [HD.out]; simp [h2])
      have hd2 : decide (i1 = i2) = false := decide_eq_false h2
      go_wp2
      go_ret
      exact ⟨by rw [hr.out]; rfl, HB.out⟩
  · have hr : Hid (res = false) := Lib.hid (by rw [HD.out]; simp [h1])
    go_wp2
    go_ret
    exact ⟨by rw [hr.out]; rfl, HB.out⟩
end

/-- Two rows of lines with the same data. -/
def eqMs (a b : List ML) : Bool := decide (a.length = b.length) && (List.range a.length).all fun j => eqP a[j]!.p b[j]!.p
theorem eqMs_iff (a b : List ML) : eqMs a b = true ↔ a.map (·.p) = b.map (·.p) := by
  unfold eqMs
  rw [Bool.and_eq_true, decide_eq_true_eq, List.all_eq_true]
  constructor
  · rintro ⟨hl, h⟩
    refine List.ext_getElem (by simpa using hl) fun j h1 h2 => ?_
    rw [List.length_map] at h1 h2
    have := (eqP_iff _ _).1 (h j (by simpa using h1))
    rw [getElem!_pos a j h1, getElem!_pos b j h2] at this
    simpa using this
  · intro h
    have hl : a.length = b.length := by
      have := congrArg List.length h
      rwa [List.length_map, List.length_map] at this
    refine ⟨hl, fun j hj => ?_⟩
    have hj1 : j < a.length := by simpa using hj
    rw [eqP_iff, getElem!_pos a j hj1, getElem!_pos b j (by omega)]
    have := congrArg (·[j]?) h
    simp only [List.getElem?_map, List.getElem?_eq_getElem hj1, List.getElem?_eq_getElem (show j < b.length by omega), Option.map_some, Option.some.injEq] at this
    exact this
theorem eqMs_no {a b : List ML} {j : Nat} (h1 : j < a.length) (h2 : j < b.length) (h : eqP a[j].p b[j].p = false) : eqMs a b = false := by
  cases he : eqMs a b with
  | false => rfl
  | true =>
    have := (eqMs_iff a b).1 he
    have := congrArg (·[j]?) this
    simp only [List.getElem?_map, List.getElem?_eq_getElem h1, List.getElem?_eq_getElem h2, Option.map_some, Option.some.injEq] at this
    rw [this, (eqP_iff _ _).2 rfl] at h
    cases h
theorem eqMs_yes {a b : List ML} (hl : a.length = b.length) (h : ∀ j (h1 : j < a.length) (h2 : j < b.length), eqP a[j].p b[j].p = true) : eqMs a b = true := by
  rw [eqMs_iff]
  refine List.ext_getElem (by simpa using hl) fun j h1 h2 => ?_
  rw [List.length_map] at h1 h2
  simpa using (eqP_iff _ _).1 (h j h1 h2)

set_option maxRecDepth 100000 in
set_option maxHeartbeats 4000000 in
theorem eqLines_any (B1 B2 : Nat) (v1 v2 : Value) (ms1 ms2 : List ML) (w : World) (h1 : LinesAt B1 w v1 ms1) (h2 : LinesAt B2 w v2 ms2) (hn1 : ms1.length ≤ 65536) (hi1 : ∀ m ∈ ms1, m.p.ids.length ≤ 20) (hi2 : ∀ m ∈ ms2, m.p.ids.length ≤ 20) :
    Calls Tryz.prog 78 #[v1, v2, .func (.func 79) #[] #[]] w fun r w' => r = .returned (.bool (eqMs ms1 ms2)) ∧ Below w.heap.size w w' := by
  have HL1 := Lib.hid h1
  have HL2 := Lib.hid h2
  obtain ⟨a1, c1, e1⟩ : ∃ a c, v1 = .slice a ms1.length c := by
    rcases h1.head with ⟨e, e2⟩ | ⟨g, cap, e, _⟩
    · exact ⟨none, 0, by rw [e, e2]; rfl⟩
    · exact ⟨_, _, e⟩
  obtain ⟨a2, c2, e2⟩ : ∃ a c, v2 = .slice a ms2.length c := by
    rcases h2.head with ⟨e, e2⟩ | ⟨g, cap, e, _⟩
    · exact ⟨none, 0, by rw [e, e2]; rfl⟩
    · exact ⟨_, _, e⟩
  subst e1 e2
  clear h1 h2
  have HI1 := Lib.hid hi1
  have HI2 := Lib.hid hi2
  clear hi1 hi2
  have hzs : ((lineCells zeroLine).size == 38) = true := by rw [lineCells_size]; rfl
  by_cases hl : ms1.length = ms2.length
  · have HLE := Lib.hid hl
    have hlz : ((ms1.length : Int) != (ms2.length : Int)) = false := by rw [hl]; simp
    clear hl
    go_enter Tryz.func78, Tryz.ntmps78
    go_wp2
    go_loopw [7, 8, 9, 17] (fun _ _ _ i wr => ∃ k : Nat, k ≤ ms1.length ∧ i = .int .i64 k ∧ Hid (Below w.heap.size w wr) ∧ Hid (∀ j (h1 : j < ms1.length) (h2 : j < ms2.length), j < k → eqP ms1[j].p ms2[j].p = true)) (fun _ _ _ i _ => ms1.length - (intOf i).toNat)
    case atStart => exact ⟨0, Nat.zero_le _, rfl, Lib.hid (Below.refl _ _), Lib.hid fun _ _ _ h => by omega⟩
    case round =>
      obtain ⟨k, hk, rfl, HB, HS⟩ := hrel
      by_cases hlt : k < ms1.length
      · have hltz : (k : Int) < (ms1.length : Int) := by omega
        have hlt2 : k < ms2.length := by have := HLE.out; omega
        have hltz2 : (k : Int) < (ms2.length : Int) := by omega
        rcases HL1.out.head with ⟨_, e⟩ | ⟨g1, cap1, hv1, _, hgl1, _, _, hcell1⟩
        · rw [e] at hlt; cases hlt
        cases hv1
        rcases HL2.out.head with ⟨_, e⟩ | ⟨g2, cap2, hv2, _, hgl2, _, _, hcell2⟩
        · rw [e] at hlt2; cases hlt2
        cases hv2
        have hone1 := (HL1.out.refs ms1[k] (List.getElem_mem hlt)).one
        have hone2 := (HL2.out.refs ms2[k] (List.getElem_mem hlt2)).one
        have hft1 := fits_line (g := ms1[k].g) hone1
        have hft2 := fits_line (g := ms2[k].g) hone2
        obtain ⟨o1, d1⟩ := lineAt_rd (w := wr) (g := g1) (off := k * 38) (l := ms1[k].g) (fun i u hu => (HB.out.cell (p := ⟨g1, k * 38 + i, none⟩) hgl1).trans (hcell1 k hlt i u hu))
        have HBa : Hid (Below w.heap.size w (wr.alloc (.cells (lineCells ms1[k].g) 34))) := Lib.hid (HB.out.alloc HB.out.size _)
        obtain ⟨o2, d2⟩ := lineAt_rd (w := wr.alloc (.cells (lineCells ms1[k].g) 34)) (g := g2) (off := k * 38) (l := ms2[k].g) (fun i u hu => (HBa.out.cell (p := ⟨g2, k * 38 + i, none⟩) hgl2).trans (hcell2 k hlt2 i u hu))
        have o3 := ok_new_line wr ms1[k].g 34
        have d3 := rd_new_line wr ms1[k].g 34
        have o4 : okCells ((wr.alloc (.cells (lineCells ms1[k].g) 34)).alloc (.cells (lineCells ms2[k].g) 34)) ⟨wr.heap.size, 0, none⟩ 38 = true := ok_alloc _ o3
        have d4 : rdCells ((wr.alloc (.cells (lineCells ms1[k].g) 34)).alloc (.cells (lineCells ms2[k].g) 34)) ⟨wr.heap.size, 0, none⟩ 38 = lineCells ms1[k].g := (rd_alloc _ o3).trans d3
        have o5 : okCells ((wr.alloc (.cells (lineCells ms1[k].g) 34)).alloc (.cells (lineCells ms2[k].g) 34)) ⟨wr.heap.size + 1, 0, none⟩ 38 = true := by
          have := ok_new_line (wr.alloc (.cells (lineCells ms1[k].g) 34)) ms2[k].g 34
          simpa using this
        have d5 : rdCells ((wr.alloc (.cells (lineCells ms1[k].g) 34)).alloc (.cells (lineCells ms2[k].g) 34)) ⟨wr.heap.size + 1, 0, none⟩ 38 = lineCells ms2[k].g := by
          have := rd_new_line (wr.alloc (.cells (lineCells ms1[k].g) 34)) ms2[k].g 34
          simpa using this
        have HB2 : Hid (Below w.heap.size w ((wr.alloc (.cells (lineCells ms1[k].g) 34)).alloc (.cells (lineCells ms2[k].g) 34))) := Lib.hid (HBa.out.alloc HBa.out.size _)
        have HC := Lib.hid (equal_any ms1[k].p ms2[k].p ms1[k].v ms2[k].v _ (((HL1.out.refs ms1[k] (List.getElem_mem hlt)).at).below HB2.out) (((HL2.out.refs ms2[k] (List.getElem_mem hlt2)).at).below HB2.out) (Nat.le_trans (HI1.out _ (List.getElem_mem hlt)) (by omega)))
        have HNO : Hid (eqP ms1[k].p ms2[k].p = false → eqMs ms1 ms2 = false) := Lib.hid fun h => eqMs_no hlt hlt2 h
        have HNX : Hid (eqP ms1[k].p ms2[k].p = true → ∀ j (h1 : j < ms1.length) (h2 : j < ms2.length), j < k + 1 → eqP ms1[j].p ms2[j].p = true) := Lib.hid fun h j h1 h2 hj => by
          by_cases e : j = k
          · subst e; exact h
          · exact HS.out j h1 h2 (by omega)
        clear hcell1 hcell2 HS hone1 hone2
        generalize ms1[k] = x1 at *
        generalize ms2[k] = x2 at *
        generalize eqP x1.p x2.p = res at HC HNO HNX
        go_wp2_with fail
        refine HC.out.mono ?_
        rintro r w2 ⟨rfl, hb2⟩
        have HB3 := Lib.hid (HB2.out.trans (hb2.mono HB2.out.size) : Below w.heap.size w w2)
        clear hb2 HC HB2 HBa HB o1 d1 o2 d2 o3 d3 o4 d4 o5 d5
        cases res with
        | true =>
          have HS2 := Lib.hid (HNX.out rfl)
          clear HNX HNO
          go_wp2
          go_roundw
          case rel => exact ⟨k + 1, by omega, by go_num, HB3, HS2⟩
          case measure => simp [intOf]; omega
        | false =>
          have HE := Lib.hid (HNO.out rfl)
          clear HNX HNO
          go_wp2
          go_ret
          exact ⟨by rw [HE.out]; rfl, HB3.out⟩
      · have HE : Hid (eqMs ms1 ms2 = true) := Lib.hid (eqMs_yes HLE.out fun j h1 h2 => HS.out j h1 h2 (by omega))
        have hltz : ¬ (k : Int) < (ms1.length : Int) := by omega
        go_wp2
        go_ret
        exact ⟨by rw [HE.out]; rfl, HB.out⟩
  · have hlz : ((ms1.length : Int) != (ms2.length : Int)) = true := by rw [bne_iff_ne]; omega
    have HE : Hid (eqMs ms1 ms2 = false) := Lib.hid (by unfold eqMs; rw [decide_eq_false hl]; rfl)
    clear hl
    go_enter Tryz.func78, Tryz.ntmps78
    go_wp2
    go_ret
    exact ⟨by rw [HE.out]; rfl, Below.refl _ _⟩

end Go.Proofs.YtdjaphcelpchaaaGreatDoor

namespace Go.Proofs.YtdjaphcelpchaaaGreatDoor
open Go Go.RowKit Go.Proofs
open Go.ChangeMaps (setBlock)

theorem GrpAt.slice {B : Nat} {w : World} {G : MG} (h : GrpAt B w G) : ∃ a c, G.v = .slice a G.ms.length c := by
  rcases h.lines.head with ⟨e, e2⟩ | ⟨g, cap, e, _⟩
  · exact ⟨none, 0, by rw [e, e2]; rfl⟩
  · exact ⟨_, _, e⟩
set_option maxRecDepth 100000 in
set_option maxHeartbeats 2000000 in
theorem eqGroup_any (B1 B2 : Nat) (G1 G2 : MG) (w : World) (h1 : GrpAt B1 w G1) (h2 : GrpAt B2 w G2) (hn1 : G1.ms.length ≤ 65536) :
    Calls Tryz.prog 77 #[.pointer (some ⟨G1.gb, 0, none⟩), .pointer (some ⟨G2.gb, 0, none⟩)] w fun r w' => r = .returned (.bool (eqMs G1.ms G2.ms)) ∧ Below w.heap.size w w' := by
  have hb0 : Below w.heap.size w w.drew := (Below.refl _ _).drew
  have HE := Lib.hid (eqLines_any B1 B2 G1.v G2.v G1.ms G2.ms w.drew (h1.lines.below hb0) (h2.lines.below hb0) hn1 (fun m hm => refs_len (h1.good m hm)) (fun m hm => refs_len (h2.good m hm)))
  have HB0 := Lib.hid hb0
  have c1 : w.cell? ⟨G1.gb, 0, none⟩ = some G1.v := cell_of_row w G1.gb 0 _ _ _ h1.blk
  have c2 : w.cell? ⟨G2.gb, 0, none⟩ = some G2.v := cell_of_row w G2.gb 0 _ _ _ h2.blk
  obtain ⟨a1, e1, hv1⟩ := h1.slice
  obtain ⟨a2, e2, hv2⟩ := h2.slice
  rw [hv1] at HE c1
  rw [hv2] at HE c2
  have z1 : ∀ z : Later w, z.1.cell? ⟨G1.gb, 0, none⟩ = some (.slice a1 G1.ms.length e1) := fun z => Later.cell c1 z
  have z2 : ∀ z : Later w, z.1.cell? ⟨G2.gb, 0, none⟩ = some (.slice a2 G2.ms.length e2) := fun z => Later.cell c2 z
  clear h1 h2 hb0 c1 c2 hv1 hv2
  go_enter Tryz.func77, Tryz.ntmps77
  go_wp2_with fail
  refine wp_region_mix0 [0, 1, 2, 3, 4, 5, 6, 7] [8, 9] (fun w' => ∃ z : Later w, w' = z.1) (by kernel_rfl) (by kernel_rfl) (by kernel_rfl) ⟨⟨_, (Below.refl _ _).drew⟩, rfl⟩ ?_
  simp only [opsAt, List.map_cons, List.map_nil, Array.getD_eq_getD_getElem?, List.getElem?_toArray, List.getElem?_cons_zero, List.getElem?_cons_succ, Option.getD_some]
  repeat (go_big_quiet_step (fail))
  refine wpQuiet_nil ?_
  clear z1 z2
  refine wpR_list [8, 9] _ _ (by kernel_rfl) ?_
  simp only [opsAt, List.map_cons, List.map_nil, Array.getD_eq_getD_getElem?, List.getElem?_toArray, List.getElem?_cons_zero, List.getElem?_cons_succ, Option.getD_some]
  go_wp2_with fail
  refine HE.out.mono ?_
  rintro r w1 ⟨rfl, hb1⟩
  have HB1 := Lib.hid (HB0.out.trans (hb1.mono HB0.out.size) : Below w.heap.size w w1)
  clear hb1 HE HB0
  go_wp2
  refine NoPanic.normal ?_
  go_wp2
  go_ret
  exact ⟨rfl, HB1.out⟩

/-- Two indexes with the same lines. -/
def eqG (gs1 gs2 : List MG) : Bool := decide (gs1.length = gs2.length) && gs1.all fun G => match groupOf gs2 G.name with | some H => eqMs G.ms H.ms | none => false
def okG (gs2 : List MG) (G : MG) : Bool := match groupOf gs2 G.name with | some H => eqMs G.ms H.ms | none => false
theorem eqG_eq (gs1 gs2 : List MG) : eqG gs1 gs2 = (decide (gs1.length = gs2.length) && gs1.all (okG gs2)) := rfl
theorem okG_no {gs2 : List MG} {G : MG} (h : groupOf gs2 G.name = none) : okG gs2 G = false := by unfold okG; rw [h]
theorem okG_some {gs2 : List MG} {G H : MG} (h : groupOf gs2 G.name = some H) : okG gs2 G = eqMs G.ms H.ms := by unfold okG; rw [h]

theorem heap_setBlock (w : World) (b : Nat) (o : Obj) (h : b < w.heap.size) : (setBlock w b o).heap[b]? = some o := by
  unfold setBlock
  simp [h]
theorem heap_setBlock_ne (w : World) (b k : Nat) (o : Obj) (h : k ≠ b) : (setBlock w b o).heap[k]? = w.heap[k]? := by
  unfold setBlock
  simp [Ne.symm h]
theorem below_setBlock {B : Nat} (w : World) (b : Nat) (o : Obj) (h : B ≤ b) : Below B w (setBlock w b o) :=
  ⟨rfl, rfl, rfl, by unfold setBlock; simp, fun k hk => heap_setBlock_ne w b k o (by omega)⟩
/-- The entries of an index's map. -/
def entsOf (gs : List MG) : Array MapEntry := ((gs.map MG.e).map (enE ekS)).toArray
theorem mem_ents {gs : List MG} {e : MapEntry} (h : e ∈ (entsOf gs).toList) : ∃ G ∈ gs, e = enE ekS G.e := by
  unfold entsOf at h
  simp only [List.mem_map] at h
  obtain ⟨_, ⟨G, hG, rfl⟩, rfl⟩ := h
  exact ⟨G, hG, rfl⟩
theorem ents_born (gs : List MG) : (entsOf gs).toList.map (·.born) = gs.map (·.born) := by
  unfold entsOf
  simp only [List.map_map]
  rfl

theorem born_inj : ∀ {l : List MG}, (l.map fun G => G.born).Nodup → ∀ A ∈ l, ∀ C ∈ l, A.born = C.born → A = C := by
  intro l hl
  induction l with
  | nil => intro A hA; cases hA
  | cons D l ih =>
    rw [List.map_cons, List.nodup_cons] at hl
    intro A hA C hC he
    rcases List.mem_cons.1 hA with hA' | hA'
    · rcases List.mem_cons.1 hC with hC' | hC'
      · rw [hA', hC']
      · exact absurd (hA' ▸ he ▸ List.mem_map.2 ⟨C, hC', rfl⟩) hl.1
    · rcases List.mem_cons.1 hC with hC' | hC'
      · exact absurd (hC' ▸ List.mem_map.2 ⟨A, hA', he⟩) hl.1
      · exact ih hl.2 A hA' C hC' he
/-- In the middle of the range over the groups of an index: which have come up is told by the iterator's block. -/
structure RdSt (B : Nat) (w : World) (ib M mc : Nat) (gs : List MG) (D : MG → Prop) (r : Nat) (X : World) (seen : Array Nat) : Prop where
  iter : X.heap[r]? = some (.mapIter (some M) mc seen mc)
  bl : Below w.heap.size w X
  lo : w.heap.size ≤ r
  idx : IdxAt B w ib M gs mc
  did : ∀ G ∈ gs, seen.contains G.born = true → D G
theorem RdSt.step {B : Nat} {w : World} {ib M mc : Nat} {gs : List MG} {D : MG → Prop} {r : Nat} {X Y : World} {seen : Array Nat} (h : RdSt B w ib M mc gs D r X seen) (hb : Below X.heap.size X Y) : RdSt B w ib M mc gs D r Y seen :=
  ⟨(hb.block r (Array.getElem?_eq_some_iff.1 h.iter).1).trans h.iter, h.bl.trans (hb.mono h.bl.size), h.lo, h.idx, h.did⟩
theorem RdSt.start {B : Nat} {w W : World} {ib M mc : Nat} {gs : List MG} {D : MG → Prop} (h : IdxAt B w ib M gs mc) (hb : Below w.heap.size w W) : RdSt B w ib M mc gs D W.heap.size (W.alloc (.mapIter (some M) mc #[] mc)) #[] :=
  ⟨heap_alloc_new _ _, hb.alloc hb.size _, hb.size, h, fun G _ hs => by simp at hs⟩
/-- One step: nothing is left, or one group comes up. -/
theorem RdSt.next {B : Nat} {w : World} {ib M mc : Nat} {gs : List MG} {D : MG → Prop} {r : Nat} {X : World} {seen : Array Nat} (h : RdSt B w ib M mc gs D r X seen) (ty : TypeId) :
    ((∀ G ∈ gs, D G) ∧ (Instr.next (.pointer (some ⟨r, 0, none⟩)) false ty).run Tryz.prog X = .ok (.tuple #[.bool false]) X) ∨
    ∃ G ∈ gs, ∃ X', (Instr.next (.pointer (some ⟨r, 0, none⟩)) false ty).run Tryz.prog X = .ok (.tuple #[.bool true, .string G.name, .pointer (some ⟨G.gb, 0, none⟩)]) X' ∧ Below w.heap.size X X' ∧
      (Instr.entry (.pointer (some ⟨r, 0, none⟩))).run Tryz.prog X' = .ok (.tuple #[.string G.name, .pointer (some ⟨G.gb, 0, none⟩)]) X' ∧ (leftOf (entsOf gs) (seen.push G.born)).size < (leftOf (entsOf gs) seen).size ∧
      (D G → RdSt B w ib M mc gs D r X' (seen.push G.born)) ∧ X'.heap[r]? = some (.mapIter (some M) mc (seen.push G.born) mc) ∧ seen.contains G.born = false := by
  have hX := h.idx.below h.bl
  have hmap : X.heap[M]? = some (.map (entsOf gs) mc) := hX.map
  have hrM : r ≠ M := fun e => by
    have := h.iter
    rw [e, hmap] at this
    cases this
  have hold : ∀ e ∈ (entsOf gs).toList, e.born < mc := fun e he => by
    obtain ⟨G, hG, rfl⟩ := mem_ents he
    exact h.idx.young G hG
  rcases run_next_at (P := Tryz.prog) X ty r M mc mc seen (entsOf gs) mc h.iter hmap hold (Nat.le_refl _) with ⟨h0, hr⟩ | ⟨e, he, X1, hX1, hr⟩
  · refine .inl ⟨fun G hG => h.did G hG ?_, hr⟩
    have := all_seen (entsOf gs) seen h0 (enE ekS G.e) (by unfold entsOf; simp only [List.mem_map]; exact ⟨_, ⟨G, hG, rfl⟩, rfl⟩)
    exact this
  · obtain ⟨hm, hns⟩ := mem_left he
    obtain ⟨G, hG, rfl⟩ := mem_ents hm
    have hrl := (Array.getElem?_eq_some_iff.1 h.iter).1
    have hX1h : X1.heap = X.heap := by rcases hX1 with rfl | rfl <;> rfl
    have hb1 : Below w.heap.size X X1 := by
      rcases hX1 with rfl | rfl
      · exact Below.refl _ _
      · exact (Below.refl _ _).drew
    have hit : (setBlock X1 r (.mapIter (some M) mc (seen.push G.born) mc)).heap[r]? = some (.mapIter (some M) mc (seen.push G.born) mc) := heap_setBlock _ _ _ (by rw [hX1h]; exact hrl)
    have hmp : (setBlock X1 r (.mapIter (some M) mc (seen.push G.born) mc)).heap[M]? = some (.map (entsOf gs) mc) := by
      rw [heap_setBlock_ne _ _ _ _ (Ne.symm hrM), hX1h]
      exact hmap
    have hb2 : Below w.heap.size X (setBlock X1 r (.mapIter (some M) mc (seen.push G.born) mc)) := hb1.trans (below_setBlock X1 r _ h.lo)
    refine .inr ⟨G, hG, _, hr, hb2, run_entry_at _ r M mc seen (entsOf gs) mc (enE ekS G.e) hit hmp hm (by rw [ents_born]; exact h.idx.born), left_shrinks _ _ _ he, fun hD => ⟨hit, h.bl.trans hb2, h.lo, h.idx, fun H hH hs => ?_⟩, hit, hns⟩
    rw [Array.contains_push] at hs
    rw [Bool.or_eq_true] at hs
    rcases hs with hs | hs
    · exact h.did H hH hs
    · have hb : H.born = G.born := by simpa using hs
      have : H = G := by
        have h1 := h.idx.born
        exact born_inj h1 H hH G hG hb
      rw [this]; exact hD

/-- How many are still to come, off the iterator's block. -/
def leftR (gs : List MG) (r : Nat) (w : World) : Nat := match w.heap[r]? with
  | some (.mapIter _ _ seen _) => (leftOf (entsOf gs) seen).size
  | _ => 0
theorem leftR_eq {gs : List MG} {r : Nat} {w : World} {m : Option Nat} {s c : Nat} {seen : Array Nat} (h : w.heap[r]? = some (.mapIter m s seen c)) : leftR gs r w = (leftOf (entsOf gs) seen).size := by
  unfold leftR
  rw [h]
theorem look_grp {B : Nat} {w : World} {ib M mc : Nat} {gs : List MG} (h : IdxAt B w ib M gs mc) (s : ByteArray) :
    (Instr.lookup 102 (.map (some M)) (.string s) true).run Tryz.prog w = .ok (.tuple #[((groupOf gs s).map fun G => Value.pointer (some ⟨G.gb, 0, none⟩)).getD (.pointer none), .bool (groupOf gs s).isSome]) w := by
  have h1 := look_ok keyS Tryz.underlying102 (.pointer none) zero_ptr w M _ mc h.map s
  have h2 := find_groups s gs 0
  have h3 : (findK s (gs.map MG.e) 0).isSome = (groupOf gs s).isSome := by
    have := congrArg Option.isSome h2
    rwa [Option.isSome_map, Option.isSome_map] at this
  rw [h2, h3] at h1
  exact h1
theorem len_map {B : Nat} {w : World} {ib M mc : Nat} {gs : List MG} (h : IdxAt B w ib M gs mc) (ty : TypeId) : (Builtin.len_ #[102] ty #[.map (some M)]).run Tryz.prog w = .ok (.int .i64 gs.length) w := by
  have := run_len_map (P := Tryz.prog) (w := w) 102 ty M _ mc (by kernel_rfl) h.map
  simpa [goInt] using this

set_option maxRecDepth 100000 in
set_option maxHeartbeats 4000000 in
theorem eqMaps_any (B1 B2 ib1 ib2 M1 M2 mc1 mc2 : Nat) (gs1 gs2 : List MG) (w : World) (h1 : IdxAt B1 w ib1 M1 gs1 mc1) (h2 : IdxAt B2 w ib2 M2 gs2 mc2) :
    Calls Tryz.prog 76 #[.map (some M1), .map (some M2), .func (.func 77) #[] #[]] w fun r w' => r = .returned (.bool (eqG gs1 gs2)) ∧ Below w.heap.size w w' := by
  have l1 := len_map h1
  have l2 := len_map h2
  have H1 := Lib.hid h1
  have H2 := Lib.hid h2
  have hrg := run_range_map (P := Tryz.prog) w 102 _ _ M1 _ mc1 Tryz.underlying102 h1.map
  have hg1 := h1.groups
  have hg2 := h2.groups
  have HST : Hid (RdSt B1 w ib1 M1 mc1 gs1 (fun G => okG gs2 G = true) w.heap.size (w.alloc (.mapIter (some M1) mc1 #[] mc1)) #[]) := Lib.hid (RdSt.start h1 (Below.refl _ _))
  clear h1 h2
  by_cases hl : gs1.length = gs2.length
  · have hlz : ((gs1.length : Int) != (gs2.length : Int)) = false := by rw [hl]; simp
    have HLE := Lib.hid hl
    clear hl
    go_enter Tryz.func76, Tryz.ntmps76
    go_wp2
    clear hrg l1 l2
    go_loopw [7, 8, 9, 10] (fun _ _ _ _ wr => ∃ seen, Hid (RdSt B1 w ib1 M1 mc1 gs1 (fun G => okG gs2 G = true) w.heap.size wr seen)) (fun _ _ _ _ wr => leftR gs1 w.heap.size wr)
    case atStart => exact ⟨_, HST⟩
    case round =>
      obtain ⟨seen, HR⟩ := hrel
      have HMU := Lib.hid (leftR_eq (gs := gs1) HR.out.iter)
      rcases HR.out.next 0 with ⟨hall, hn⟩ | ⟨G, hG, X', hn, hb, hen, hlt, hst, hit, hns⟩
      · have HE : Hid (eqG gs1 gs2 = true) := Lib.hid (by
          rw [eqG_eq, HLE.out, decide_eq_true rfl, Bool.true_and, List.all_eq_true]
          exact hall)
        have HB := Lib.hid HR.out.bl
        clear hall
        go_wp2
        go_ret
        exact ⟨by rw [HE.out]; rfl, HB.out⟩
      · have HB := Lib.hid (HR.out.bl.trans hb)
        have hlk := look_grp (H2.out.below HB.out) G.name
        have HST' := Lib.hid hst
        have HLT := Lib.hid hlt
        have HIT := Lib.hid hit
        have HGM := Lib.hid hG
        clear hb hst hlt hit hns hG
        cases hg : groupOf gs2 G.name with
        | none =>
          rw [hg] at hlk
          have HE : Hid (eqG gs1 gs2 = false) := Lib.hid (by
            rw [eqG_eq, Bool.and_eq_false_iff]
            right
            rw [List.all_eq_false]
            exact ⟨G, HGM.out, by rw [okG_no hg]; simp⟩)
          clear hg
          go_wp2
          go_ret
          exact ⟨by rw [HE.out]; rfl, HB.out⟩
        | some H =>
          rw [hg] at hlk
          have HEG := Lib.hid (eqGroup_any B1 B2 G H X' ((H1.out.below HB.out).grps G HGM.out) ((H2.out.below HB.out).grps H (groupOf_mem hg).1) (Nat.le_trans (length_le_total HGM.out) H1.out.few))
          have HOK := Lib.hid (okG_some hg)
          clear hg
          generalize eqMs G.ms H.ms = res at HEG HOK
          go_wp2_with fail
          refine HEG.out.mono ?_
          rintro r w2 ⟨rfl, hb2⟩
          have HB2 := Lib.hid hb2
          clear hb2 HEG hn hen hlk
          cases res with
          | true =>
            have HST2 := Lib.hid ((HST'.out HOK.out).step HB2.out)
            go_wp2
            go_roundw
            case rel => exact ⟨_, HST2⟩
            case measure =>
              rw [HMU.out, leftR_eq HST2.out.iter]
              exact HLT.out
          | false =>
            have HE : Hid (eqG gs1 gs2 = false) := Lib.hid (by
              rw [eqG_eq, Bool.and_eq_false_iff]
              right
              rw [List.all_eq_false]
              exact ⟨G, HGM.out, by rw [HOK.out]; simp⟩)
            go_wp2
            go_ret
            exact ⟨by rw [HE.out]; rfl, HB.out.trans (HB2.out.mono HB.out.size)⟩
  · have hlz : ((gs1.length : Int) != (gs2.length : Int)) = true := by rw [bne_iff_ne]; omega
    have HE : Hid (eqG gs1 gs2 = false) := Lib.hid (by unfold eqG; rw [decide_eq_false hl]; rfl)
    clear hl hrg
    go_enter Tryz.func76, Tryz.ntmps76
    go_wp2
    go_ret
    exact ⟨by rw [HE.out]; rfl, Below.refl _ _⟩

set_option maxRecDepth 100000 in
set_option maxHeartbeats 1000000 in
theorem equalIdx_any (B1 B2 ib1 ib2 M1 M2 mc1 mc2 : Nat) (gs1 gs2 : List MG) (w : World) (h1 : IdxAt B1 w ib1 M1 gs1 mc1) (h2 : IdxAt B2 w ib2 M2 gs2 mc2) :
    Calls Tryz.prog 34 #[.pointer (some ⟨ib1, 0, none⟩), .pointer (some ⟨ib2, 0, none⟩)] w fun r w' => r = .returned (.bool (eqG gs1 gs2)) ∧ Below w.heap.size w w' := by
  have hb0 : Below w.heap.size w w.drew := (Below.refl _ _).drew
  have HE := Lib.hid (eqMaps_any B1 B2 ib1 ib2 M1 M2 mc1 mc2 gs1 gs2 w.drew (h1.below hb0) (h2.below hb0))
  have HB0 := Lib.hid hb0
  have c1 := h1.cell0
  have c2 := h2.cell0
  have z1 : ∀ z : Later w, z.1.cell? ⟨ib1, 0, none⟩ = some (.map (some M1)) := fun z => Later.cell c1 z
  have z2 : ∀ z : Later w, z.1.cell? ⟨ib2, 0, none⟩ = some (.map (some M2)) := fun z => Later.cell c2 z
  clear h1 h2 hb0 c1 c2
  go_enter Tryz.func34, Tryz.ntmps34
  go_wp2_with fail
  refine wp_region_mix0 [0, 1, 2, 3, 4, 5, 6, 7] [8, 9] (fun w' => ∃ z : Later w, w' = z.1) (by kernel_rfl) (by kernel_rfl) (by kernel_rfl) ⟨⟨_, (Below.refl _ _).drew⟩, rfl⟩ ?_
  simp only [opsAt, List.map_cons, List.map_nil, Array.getD_eq_getD_getElem?, List.getElem?_toArray, List.getElem?_cons_zero, List.getElem?_cons_succ, Option.getD_some]
  repeat (go_big_quiet_step (fail))
  refine wpQuiet_nil ?_
  clear z1 z2
  refine wpR_list [8, 9] _ _ (by kernel_rfl) ?_
  simp only [opsAt, List.map_cons, List.map_nil, Array.getD_eq_getD_getElem?, List.getElem?_toArray, List.getElem?_cons_zero, List.getElem?_cons_succ, Option.getD_some]
  go_wp2_with fail
  refine HE.out.mono ?_
  rintro r w1 ⟨rfl, hb1⟩
  have HB1 := Lib.hid (HB0.out.trans (hb1.mono HB0.out.size) : Below w.heap.size w w1)
  clear hb1 HE HB0
  go_wp2
  refine NoPanic.normal ?_
  go_wp2
  go_ret
  exact ⟨rfl, HB1.out⟩

/-- Equal tells whether all groups have the same lines. -/
theorem eqG_iff {B1 B2 ib1 ib2 M1 M2 mc1 mc2 : Nat} {gs1 gs2 : List MG} {w1 w2 : World} (h1 : IdxAt B1 w1 ib1 M1 gs1 mc1) (h2 : IdxAt B2 w2 ib2 M2 gs2 mc2) : eqG gs1 gs2 = true ↔ ∀ t, (linesIn gs1 t).map (·.p) = (linesIn gs2 t).map (·.p) := by
  have hne1 : ∀ G ∈ gs1, G.ms ≠ [] := fun G hG => (h1.grps G hG).some'
  have hne2 : ∀ G ∈ gs2, G.ms ≠ [] := fun G hG => (h2.grps G hG).some'
  rw [eqG_eq, Bool.and_eq_true, decide_eq_true_eq, List.all_eq_true]
  constructor
  · rintro ⟨hl, hall⟩ t
    have hsub : ∀ G ∈ gs1, ∃ H, groupOf gs2 G.name = some H ∧ G.ms.map (·.p) = H.ms.map (·.p) := fun G hG => by
      have := hall G hG
      unfold okG at this
      cases hg : groupOf gs2 G.name with
      | none => rw [hg] at this; cases this
      | some H => rw [hg] at this; exact ⟨H, rfl, (eqMs_iff _ _).1 this⟩
    have hss : (gs1.map fun G => G.name) ⊆ gs2.map fun G => G.name := fun x hx => by
      obtain ⟨G, hG, rfl⟩ := List.mem_map.1 hx
      obtain ⟨H, hH, _⟩ := hsub G hG
      obtain ⟨e1, e2⟩ := groupOf_mem hH
      exact List.mem_map.2 ⟨H, e1, e2⟩
    by_cases ht : t ∈ gs1.map fun G => G.name
    · obtain ⟨G, hG, rfl⟩ := List.mem_map.1 ht
      obtain ⟨H, hH, e⟩ := hsub G hG
      unfold linesIn
      rw [groupOf_of h1.names hG, hH]
      exact e
    · have hn1 : groupOf gs1 t = none := by
        cases hg : groupOf gs1 t with
        | none => rfl
        | some G => exact absurd (List.mem_map.2 ⟨G, groupOf_mem hg⟩) ht
      have hn2 : groupOf gs2 t = none := by
        cases hg : groupOf gs2 t with
        | none => rfl
        | some G =>
          exfalso
          have h3 : (t :: gs1.map fun G => G.name).Nodup := List.nodup_cons.2 ⟨ht, h1.names⟩
          have h4 := h3.length_le_of_subset (l₂ := gs2.map fun G => G.name) (fun x hx => by
            rcases List.mem_cons.1 hx with rfl | hx
            · exact List.mem_map.2 ⟨G, groupOf_mem hg⟩
            · exact hss hx)
          rw [List.length_cons, List.length_map, List.length_map] at h4
          omega
      unfold linesIn
      rw [hn1, hn2]
  · intro h
    have hsub : ∀ {gsa gsb : List MG}, (∀ G ∈ gsa, G.ms ≠ []) → (gsa.map fun G => G.name).Nodup → (∀ t, (linesIn gsa t).map (·.p) = (linesIn gsb t).map (·.p)) → ∀ G ∈ gsa, ∃ H, groupOf gsb G.name = some H ∧ G.ms.map (·.p) = H.ms.map (·.p) := fun {gsa gsb} hn hd hh G hG => by
      have h0 := hh G.name
      unfold linesIn at h0
      rw [groupOf_of hd hG] at h0
      cases hg : groupOf gsb G.name with
      | none =>
        rw [hg] at h0
        exact absurd (List.map_eq_nil_iff.1 h0) (hn G hG)
      | some H => rw [hg] at h0; exact ⟨H, rfl, h0⟩
    have p1 : (gs1.map fun G => G.name) ⊆ gs2.map fun G => G.name := fun x hx => by
      obtain ⟨G, hG, rfl⟩ := List.mem_map.1 hx
      obtain ⟨H, hH, _⟩ := hsub hne1 h1.names h G hG
      obtain ⟨e1, e2⟩ := groupOf_mem hH
      exact List.mem_map.2 ⟨H, e1, e2⟩
    have p2 : (gs2.map fun G => G.name) ⊆ gs1.map fun G => G.name := fun x hx => by
      obtain ⟨G, hG, rfl⟩ := List.mem_map.1 hx
      obtain ⟨H, hH, _⟩ := hsub hne2 h2.names (fun t => (h t).symm) G hG
      obtain ⟨e1, e2⟩ := groupOf_mem hH
      exact List.mem_map.2 ⟨H, e1, e2⟩
    refine ⟨?_, fun G hG => ?_⟩
    · have a1 := h1.names.length_le_of_subset p1
      have a2 := h2.names.length_le_of_subset p2
      rw [List.length_map, List.length_map] at a1 a2
      omega
    · obtain ⟨H, hH, e⟩ := hsub hne1 h1.names h G hG
      rw [okG_some hH, eqMs_iff]
      exact e

end Go.Proofs.YtdjaphcelpchaaaGreatDoor

namespace Go.Proofs.YtdjaphcelpchaaaGreatDoor
open Go Go.RowKit Go.Proofs Go.Shelf

attribute [local go_sem ↓] ex_load_id ex_store_id ex_load_line ex_store_line ex_load_rline ex_store_rline ex_alloc_line ex_build_line ex_alloc_rline ex_build_rline

attribute [local go_sem] ld_id st_id ld_line st_line ld_rline st_rline guard_id okCells_drew rdCells_drew okCells_drewN rdCells_drewN rowOk_drew rowOk_cells okCells_cells rdCells_cells setRow_drew setRow_new setRow_past

/-- The text of a line with its end; of a group; of groups. -/
def txtP (p : PLine) : List UInt8 := lineTxt p.number.toNat p.id p.name p.date.toNat p.subject p.ids p.bytes.toNat ++ [10]
def grpHead (t : ByteArray) (n : Nat) : List UInt8 := [103, 114, 111, 117, 112, 32] ++ t.data.toList ++ [32] ++ Lib.decDigits n ++ [10]
def grpTxt (t : ByteArray) (ps : List PLine) : List UInt8 := grpHead t ps.length ++ ps.flatMap txtP
def encTxt (f : ByteArray → List PLine) (ts : List ByteArray) : List UInt8 := ts.flatMap fun t => grpTxt t (f t)

theorem good_bounds {p : PLine} (h : pErr p = 0) : (∃ n d b : Nat, p.number = (n : Int) ∧ p.date = (d : Int) ∧ p.bytes = (b : Int) ∧ n ≤ 9223372036854775807 ∧ d ≤ 9223372036854775807 ∧ b ≤ 9223372036854775807) ∧ p.name.size ≤ 1300 ∧ p.subject.size ≤ 1300 ∧ p.ids.length ≤ 20 := by
  obtain ⟨h1, h2, h3, h4, h5, h6⟩ := lineErr_zero h
  have h1' : 1 ≤ p.number ∧ p.number ≤ 2147483646 := h1
  have h2' : p.name.size ≤ 60 := h2
  have h3' : 0 ≤ p.date ∧ p.date ≤ 105190559 := h3
  have h4' : p.subject.size ≤ 200 := h4
  have h6' : 0 ≤ p.bytes ∧ p.bytes ≤ 65536 := h6
  exact ⟨⟨p.number.toNat, p.date.toNat, p.bytes.toNat, by omega, by omega, by omega, by omega, by omega, by omega⟩, by omega, by omega, h5⟩
theorem txtP_le {p : PLine} (h : pErr p = 0) : (txtP p).length ≤ 10001 := by
  obtain ⟨⟨n, d, b, h1, h2, h3, h4, h5, h6⟩, h7, h8, h9⟩ := good_bounds h
  have := lineTxt_le n p.id p.name d p.subject p.ids b h4 h5 h6 h7 h8 h9
  unfold txtP
  rw [h1, h2, h3]
  simp only [Int.toNat_natCast, List.length_append, List.length_singleton]
  omega
theorem flat_le {α : Type} (f : α → List UInt8) (m : Nat) : ∀ (l : List α), (∀ x ∈ l, (f x).length ≤ m) → (l.flatMap f).length ≤ l.length * m
  | [], _ => by simp
  | a :: l, h => by
    have h1 := h a (by simp)
    have h2 := flat_le f m l fun x hx => h x (by simp [hx])
    rw [List.flatMap_cons, List.length_append, List.length_cons, Nat.succ_mul]
    omega
end Go.Proofs.YtdjaphcelpchaaaGreatDoor

namespace Go.Proofs.YtdjaphcelpchaaaGreatDoor
open Go Go.RowKit Go.Proofs

attribute [local go_sem ↓] ex_load_id ex_store_id ex_load_line ex_store_line ex_load_rline ex_store_rline ex_alloc_line ex_build_line ex_alloc_rline ex_build_rline

attribute [local go_sem] ld_id st_id ld_line st_line ld_rline st_rline guard_id okCells_drew rdCells_drew okCells_drewN rdCells_drewN rowOk_drew rowOk_cells okCells_cells rdCells_cells setRow_drew setRow_new setRow_past

/-- The text of the first k lines. -/
def newGrp (rs : List MR) (k : Nat) : Bool := decide (k = 0) || !decide ((rs[k - 1]?).map (·.s) = (rs[k]?).map (·.s))
def stepTxt (rs : List MR) (k : Nat) : List UInt8 := match rs[k]? with
  | some r => (if newGrp rs k then grpHead r.s (ofR rs r.s).length else []) ++ txtP r.m.p
  | none => []
def refTxt (rs : List MR) (k : Nat) : List UInt8 := (List.range k).flatMap (stepTxt rs)
theorem refTxt_succ (rs : List MR) (k : Nat) : refTxt rs (k + 1) = refTxt rs k ++ stepTxt rs k := by
  unfold refTxt
  rw [List.range_succ, List.flatMap_append]
  simp

theorem head_str2 (T : List UInt8) (t : ByteArray) (n : Nat) : (str T ++ (⟨#[103, 114, 111, 117, 112, 32]⟩ : ByteArray) ++ t ++ ⟨#[32]⟩ ++ str (Lib.decDigits n) ++ ⟨#[10]⟩) = str (T ++ grpHead t n) := by
  have e1 : (⟨#[103, 114, 111, 117, 112, 32]⟩ : ByteArray) = str [103, 114, 111, 117, 112, 32] := rfl
  have e2 : (⟨#[32]⟩ : ByteArray) = str [32] := rfl
  have e3 : (⟨#[10]⟩ : ByteArray) = str [10] := rfl
  have e4 : t = str t.data.toList := rfl
  rw [e1, e2, e3, e4, str_append, str_append, str_append, str_append, str_append]
  unfold grpHead
  simp only [List.append_assoc]
  rfl
theorem line_str2 (T L : List UInt8) : (str T ++ str L ++ (⟨#[10]⟩ : ByteArray)) = str (T ++ (L ++ [10])) := by
  have e3 : (⟨#[10]⟩ : ByteArray) = str [10] := rfl
  rw [e3, str_append, str_append, List.append_assoc]
theorem stepTxt_le {rs : List MR} (h1 : ∀ r ∈ rs, r.s.size ≤ 100000) (h2 : ∀ r ∈ rs, pErr r.m.p = 0) (h3 : rs.length ≤ 100000) (k : Nat) : (stepTxt rs k).length ≤ 200000 := by
  unfold stepTxt
  cases hk : rs[k]? with
  | none => simp
  | some r =>
    have hm := List.mem_of_getElem? hk
    have hs := h1 r hm
    have hp := txtP_le (h2 r hm)
    have ho : (ofR rs r.s).length ≤ rs.length := by unfold ofR; exact List.length_filter_le _ _
    have hd := decDigits_len (ofR rs r.s).length (by omega)
    have he : r.s.data.toList.length = r.s.size := Array.length_toList
    simp only [List.length_append]
    split
    · unfold grpHead; simp only [List.length_append, List.length_cons, List.length_nil]; omega
    · simp only [List.length_nil]; omega
theorem refTxt_le {rs : List MR} (h1 : ∀ r ∈ rs, r.s.size ≤ 100000) (h2 : ∀ r ∈ rs, pErr r.m.p = 0) (h3 : rs.length ≤ 100000) (k : Nat) : (refTxt rs k).length ≤ k * 200000 := by
  have := flat_le (stepTxt rs) 200000 (List.range k) fun x _ => stepTxt_le h1 h2 h3 x
  rwa [List.length_range] at this
set_option maxHeartbeats 1000000 in
theorem refPrint_p (r : MR) (w : World) (hg : pErr r.m.p = 0) (h : IdsAt w r.m.v r.m.p.ids) :
    Calls Tryz.prog 20 #[.agg (rlineCells r.s r.m.g)] w fun x w' => x = .returned (.string (str (lineTxt r.m.p.number.toNat r.m.p.id r.m.p.name r.m.p.date.toNat r.m.p.subject r.m.p.ids r.m.p.bytes.toNat))) ∧ Below w.heap.size w w' := by
  obtain ⟨⟨n, d, b, e1, e2, e3, h4, h5, h6⟩, h7, h8, h9⟩ := good_bounds hg
  rw [e1, e2, e3]
  simp only [Int.toNat_natCast]
  exact refPrint_any r.s r.m.g r.m.p.ids n d b w ⟨h, by unfold maxLen; omega, by show r.m.p.name.size ≤ _; unfold maxLen; omega, by show r.m.p.subject.size ≤ _; unfold maxLen; omega⟩ e1 e2 e3 h4 h5 h6 h7 h8 h9

set_option maxRecDepth 100000 in
set_option maxHeartbeats 8000000 in
theorem refEncode_any (B : Nat) (v : Value) (rs : List MR) (w : World) (h : RefsAt B w v rs) (hI : ∀ r ∈ rs, IdsAt w r.m.v r.m.p.ids) (hg : ∀ r ∈ rs, pErr r.m.p = 0) :
    Calls Tryz.prog 45 #[v] w fun r w' => r = .returned (.string (str (refTxt rs rs.length))) ∧ Below w.heap.size w w' := by
  have hfew := h.few
  have HX := Lib.hid h
  have HI := Lib.hid hI
  have HGD := Lib.hid hg
  clear hI hg
  obtain ⟨va, vc, hve⟩ : ∃ a c, v = .slice a rs.length c := by
    rcases h.head with ⟨e, h0⟩ | ⟨g', cap', _, e, _⟩
    · exact ⟨none, 0, by rw [e, h0]; rfl⟩
    · exact ⟨_, _, e⟩
  subst hve
  clear h
  go_enter Tryz.func45, Tryz.ntmps45
  go_wp2
  go_loopw [3, 4] (fun s i wr => ∃ k : Nat, k ≤ rs.length ∧ i = .int .i64 k ∧ s = .string (str (refTxt rs k)) ∧ Hid (Below w.heap.size w wr)) (fun _ i _ => rs.length - (intOf i).toNat)
  case atStart => exact ⟨0, by omega, rfl, rfl, Lib.hid (Below.refl _ _)⟩
  case round =>
    obtain ⟨k, hk, rfl, rfl, HB⟩ := hrel
    by_cases hlt : k < rs.length
    · have hltz : (k : Int) < (rs.length : Int) := by omega
      rcases HX.out.head with ⟨_, e0⟩ | ⟨lg, lcap, cur, hlve, _, hll, hlle, _, hlcur, hlcell⟩
      · rw [e0] at hlt; cases hlt
      cases hlve
      have hcX : ∀ j u, (flatR rs)[j]? = some u → wr.cell? ⟨lg, j, none⟩ = some u := fun j u hu => (HB.out.cell (p := ⟨lg, j, none⟩) hll).trans (hlcell j u hu)
      have HCX := Lib.hid hcX
      have HGR : Hid (rs[k]? = some rs[k]) := Lib.hid (List.getElem?_eq_getElem hlt)
      have hmem : rs[k] ∈ rs := List.getElem_mem hlt
      have HST : Hid (stepTxt rs k = (if newGrp rs k then grpHead rs[k].s (ofR rs rs[k].s).length else []) ++ txtP rs[k].m.p) := Lib.hid (by unfold stepTxt; rw [HGR.out])
      have HSU := Lib.hid (refTxt_succ rs k)
      have HNM := Lib.hid (HX.out.names _ hmem)
      have HIK := Lib.hid (HI.out _ hmem)
      have HGK := Lib.hid (HGD.out _ hmem)
      have c0 : wr.cell? ⟨lg, k * 39, none⟩ = some (.string rs[k].s) := by have := rAt_cell hcX hlt (i := 0) (u := .string rs[k].s) rfl; rwa [Nat.add_zero] at this
      have z0 : ∀ z : Later wr, z.1.cell? ⟨lg, k * 39, none⟩ = some (.string rs[k].s) := fun z => Later.cell c0 z
      obtain ⟨o1, d1⟩ := rAt_rd (rs := rs) (k := k) hcX hlt
      have HRT : Hid ((refTxt rs k).length ≤ 20000000000) := Lib.hid (by
        have h1 := refTxt_le HX.out.names HGD.out HX.out.few k
        have h2 : k * 200000 ≤ 100000 * 200000 := Nat.mul_le_mul_right _ (by omega)
        omega)
      have hsz : (str (refTxt rs k)).size ≤ 20000000000 := by rw [str_size]; exact HRT.out
      have hnz : rs[k].s.size ≤ 100000 := HNM.out
      have h20 : ¬ 9223372036854775807 < (str (refTxt rs k)).size + 6 := by omega
      have h21 : ¬ 9223372036854775807 < (str (refTxt rs k)).size + 6 + rs[k].s.size := by omega
      have h22 : ¬ 9223372036854775807 < (str (refTxt rs k)).size + 6 + rs[k].s.size + 1 := by omega
      obtain ⟨L, hL⟩ : ∃ L, L = lineTxt rs[k].m.p.number.toNat rs[k].m.p.id rs[k].m.p.name rs[k].m.p.date.toNat rs[k].m.p.subject rs[k].m.p.ids rs[k].m.p.bytes.toNat := ⟨_, rfl⟩
      have HLP : Hid (txtP rs[k].m.p = L ++ [10]) := Lib.hid (by rw [hL]; rfl)
      have hLs : (str L).size ≤ 10001 := by
        have h1 := txtP_le HGK.out
        rw [HLP.out, List.length_append] at h1
        rw [str_size]; omega
      have HLE := Lib.hid hL
      clear hL
      have hol : (ofR rs rs[k].s).length ≤ 9223372036854775807 := by
        have h1 : (ofR rs rs[k].s).length ≤ rs.length := by unfold ofR; exact List.length_filter_le _ _
        omega
      have hdl := decDigits_len _ hol
      have hds : (str (Lib.decDigits (ofR rs rs[k].s).length)).size ≤ 20 := by rw [str_size]; exact hdl
      have h23 : ¬ 9223372036854775807 < (str (refTxt rs k)).size + 6 + rs[k].s.size + 1 + (str (Lib.decDigits (ofR rs rs[k].s).length)).size := by omega
      have h24 : ¬ 9223372036854775807 < (str (refTxt rs k)).size + 6 + rs[k].s.size + 1 + (str (Lib.decDigits (ofR rs rs[k].s).length)).size + 1 := by omega
      by_cases hk0 : k = 0
      · have HNG : Hid (newGrp rs k = true) := Lib.hid (by unfold newGrp; rw [decide_eq_true hk0]; rfl)
        have hkb : ((k : Int) == 0) = true := by rw [hk0]; rfl
        clear hk0
        go_wp2
        go_quiet (fail)
        go_upto_region 6 with (fail)
        refine wp_region_mix0 [0, 1, 2, 3, 4, 5, 6, 7, 8, 9, 10, 11, 12, 13, 14] [15, 16, 17, 18, 19, 20] (fun w' => ∃ z : Later wr, w' = z.1) (by kernel_rfl) (by kernel_rfl) (by kernel_rfl) ⟨⟨_, (below_drewN' (Below.refl _ _) _).drew⟩, rfl⟩ ?_
        simp only [opsAt, List.map_cons, List.map_nil, Array.getD_eq_getD_getElem?, List.getElem?_toArray, List.getElem?_cons_zero, List.getElem?_cons_succ, Option.getD_some]
        repeat (go_big_quiet_step (fail))
        refine wpQuiet_nil ?_
        refine wpR_cons true rfl (by kernel_rfl) ?_
        go_wp2_with fail
        refine (of_any B _ rs rs[k].s _ (HX.out.below (HB.out.trans ((below_drewN' (Below.refl _ _) _).mono HB.out.size)))).mono ?_
        rintro r w3 ⟨v3, rfl, hr3, hb3⟩
        obtain ⟨va3, vc3, rfl⟩ : ∃ a c, v3 = .slice a (ofR rs rs[k].s).length c := by
          rcases hr3.head with ⟨e, h0⟩ | ⟨g', cap', _, e, _⟩
          · exact ⟨none, 0, by rw [e, h0]; rfl⟩
          · exact ⟨_, _, e⟩
        have hb4 : Below wr.heap.size wr w3 := (below_drewN' (Below.refl wr.heap.size wr) _).trans hb3
        clear hb3 hr3
        go_wp2_with fail
        refine ⟨fun _ => ⟨⟨_, hb4⟩, rfl⟩, wpR_cons true rfl (by kernel_rfl) ?_⟩
        go_wp2_with fail
        refine ⟨fun _ => ⟨⟨_, hb4⟩, rfl⟩, wpR_cons true rfl (by kernel_rfl) ?_⟩
        go_wp2_with fail
        refine (decimal_any _ _ hol).mono ?_
        rintro r w4 ⟨rfl, hb5⟩
        have hb6 : Below wr.heap.size wr w4 := hb4.trans (hb5.mono hb4.size)
        clear hb4 hb5
        go_wp2_with fail
        refine ⟨fun _ => ⟨⟨_, hb6⟩, rfl⟩, wpR_list [18, 19, 20] _ _ (by kernel_rfl) ?_⟩
        simp only [opsAt, List.map_cons, List.map_nil, Array.getD_eq_getD_getElem?, List.getElem?_toArray, List.getElem?_cons_zero, List.getElem?_cons_succ, Option.getD_some]
        go_wp2
        refine NoPanic.normal ?_
        go_upto_region 7 with (fail)
        rw [head_str2]
        have hbX : Below w.heap.size w w4 := HB.out.trans (hb6.mono HB.out.size)
        obtain ⟨o2, d2⟩ := rAt_rd (w := w4) (g := lg) (rs := rs) (k := k) (fun j u hu => (hbX.cell (p := ⟨lg, j, none⟩) hll).trans (hlcell j u hu)) hlt
        obtain ⟨X, hX⟩ : ∃ X, X = refTxt rs k ++ grpHead rs[k].s (ofR rs rs[k].s).length := ⟨_, rfl⟩
        rw [← hX]
        have hXs : (str X).size ≤ 20000200000 := by rw [str_size, hX, List.length_append]; have h1 := HRT.out; have h2 : rs[k].s.data.toList.length = rs[k].s.size := Array.length_toList; unfold grpHead; simp only [List.length_append, List.length_cons, List.length_nil]; omega
        have HEQ : Hid (refTxt rs (k + 1) = X ++ (L ++ [10])) := Lib.hid (by rw [HSU.out, HST.out, HNG.out, HLP.out, hX]; simp)
        clear hX
        have h30 : ¬ 9223372036854775807 < (str X).size + (str L).size := by omega
        have h31 : ¬ 9223372036854775807 < (str X).size + (str L).size + 1 := by omega
        have HPR := Lib.hid (refPrint_p rs[k] w4 HGK.out (HIK.out.below hbX))
        rw [← HLE.out] at HPR
        go_wp2_with fail
        refine HPR.out.mono ?_
        rintro r w5 ⟨rfl, hb7⟩
        have HB7 := Lib.hid (hbX.trans (hb7.mono hbX.size) : Below w.heap.size w w5)
        clear hb7 HPR o2 d2 hbX
        go_wp2
        go_roundw
        case rel => exact ⟨k + 1, by omega, by go_num, by rw [line_str2, HEQ.out], HB7⟩
        case measure => simp [intOf]; omega
      · have hk1 : k - 1 < rs.length := by omega
        obtain ⟨i, hi⟩ : ∃ i : Nat, k - 1 = i := ⟨_, rfl⟩
        have hkb : ((k : Int) == 0) = false := by simp; omega
        rw [hi] at hk1
        have c1 : wr.cell? ⟨lg, i * 39, none⟩ = some (.string rs[i].s) := by have := rAt_cell hcX hk1 (i := 0) (u := .string rs[i].s) rfl; rwa [Nat.add_zero] at this
        have hiw : IntKind.i64.wrap (i : Int) = i := by rw [IntKind.wrap_i64]; omega
        have hiz : (i : Int) < (rs.length : Int) := by omega
        have HNG : Hid (newGrp rs k = !(rs[i].s.toList == rs[k].s.toList)) := Lib.hid (by
          unfold newGrp
          rw [decide_eq_false hk0, hi, List.getElem?_eq_getElem hlt, List.getElem?_eq_getElem hk1]
          simp only [Option.map_some, Option.some.injEq, Bool.false_or]
          by_cases e : rs[i].s = rs[k].s
          · rw [e]; simp
          · rw [decide_eq_false e]
            have : rs[i].s.toList ≠ rs[k].s.toList := fun h => e (by
              rw [ByteArray.toList_eq, ByteArray.toList_eq] at h
              exact ByteArray.ext (Array.toList_inj.1 h))
            simp [this])
        cases hne : (rs[i].s.toList == rs[k].s.toList) with
        | false =>
          rw [hne] at HNG
          go_wp2
          go_quiet (fail)
          go_upto_region 6 with (fail)
          refine wp_region_mix0 [0, 1, 2, 3, 4, 5, 6, 7, 8, 9, 10, 11, 12, 13, 14] [15, 16, 17, 18, 19, 20] (fun w' => ∃ z : Later wr, w' = z.1) (by kernel_rfl) (by kernel_rfl) (by kernel_rfl) ⟨⟨_, (below_drewN' (Below.refl _ _) _).drew⟩, rfl⟩ ?_
          simp only [opsAt, List.map_cons, List.map_nil, Array.getD_eq_getD_getElem?, List.getElem?_toArray, List.getElem?_cons_zero, List.getElem?_cons_succ, Option.getD_some]
          repeat (go_big_quiet_step (fail))
          refine wpQuiet_nil ?_
          refine wpR_cons true rfl (by kernel_rfl) ?_
          go_wp2_with fail
          refine (of_any B _ rs rs[k].s _ (HX.out.below (HB.out.trans ((below_drewN' (Below.refl _ _) _).mono HB.out.size)))).mono ?_
          rintro r w3 ⟨v3, rfl, hr3, hb3⟩
          obtain ⟨va3, vc3, rfl⟩ : ∃ a c, v3 = .slice a (ofR rs rs[k].s).length c := by
            rcases hr3.head with ⟨e, h0⟩ | ⟨g', cap', _, e, _⟩
            · exact ⟨none, 0, by rw [e, h0]; rfl⟩
            · exact ⟨_, _, e⟩
          have hb4 : Below wr.heap.size wr w3 := (below_drewN' (Below.refl wr.heap.size wr) _).trans hb3
          clear hb3 hr3
          go_wp2_with fail
          refine ⟨fun _ => ⟨⟨_, hb4⟩, rfl⟩, wpR_cons true rfl (by kernel_rfl) ?_⟩
          go_wp2_with fail
          refine ⟨fun _ => ⟨⟨_, hb4⟩, rfl⟩, wpR_cons true rfl (by kernel_rfl) ?_⟩
          go_wp2_with fail
          refine (decimal_any _ _ hol).mono ?_
          rintro r w4 ⟨rfl, hb5⟩
          have hb6 : Below wr.heap.size wr w4 := hb4.trans (hb5.mono hb4.size)
          clear hb4 hb5
          go_wp2_with fail
          refine ⟨fun _ => ⟨⟨_, hb6⟩, rfl⟩, wpR_list [18, 19, 20] _ _ (by kernel_rfl) ?_⟩
          simp only [opsAt, List.map_cons, List.map_nil, Array.getD_eq_getD_getElem?, List.getElem?_toArray, List.getElem?_cons_zero, List.getElem?_cons_succ, Option.getD_some]
          go_wp2
          refine NoPanic.normal ?_
          go_upto_region 7 with (fail)
          rw [head_str2]
          have hbX : Below w.heap.size w w4 := HB.out.trans (hb6.mono HB.out.size)
          obtain ⟨o2, d2⟩ := rAt_rd (w := w4) (g := lg) (rs := rs) (k := k) (fun j u hu => (hbX.cell (p := ⟨lg, j, none⟩) hll).trans (hlcell j u hu)) hlt
          obtain ⟨X, hX⟩ : ∃ X, X = refTxt rs k ++ grpHead rs[k].s (ofR rs rs[k].s).length := ⟨_, rfl⟩
          rw [← hX]
          have hXs : (str X).size ≤ 20000200000 := by rw [str_size, hX, List.length_append]; have h1 := HRT.out; have h2 : rs[k].s.data.toList.length = rs[k].s.size := Array.length_toList; unfold grpHead; simp only [List.length_append, List.length_cons, List.length_nil]; omega
          have HEQ : Hid (refTxt rs (k + 1) = X ++ (L ++ [10])) := Lib.hid (by rw [HSU.out, HST.out, HNG.out, HLP.out, hX]; simp)
          clear hX
          have h30 : ¬ 9223372036854775807 < (str X).size + (str L).size := by omega
          have h31 : ¬ 9223372036854775807 < (str X).size + (str L).size + 1 := by omega
          have HPR := Lib.hid (refPrint_p rs[k] w4 HGK.out (HIK.out.below hbX))
          rw [← HLE.out] at HPR
          go_wp2_with fail
          refine HPR.out.mono ?_
          rintro r w5 ⟨rfl, hb7⟩
          have HB7 := Lib.hid (hbX.trans (hb7.mono hbX.size) : Below w.heap.size w w5)
          clear hb7 HPR o2 d2 hbX
          go_wp2
          go_roundw
          case rel => exact ⟨k + 1, by omega, by go_num, by rw [line_str2, HEQ.out], HB7⟩
          case measure => simp [intOf]; omega
        | true =>
          rw [hne] at HNG
          go_wp2
          go_quiet (fail)
          have HEQ : Hid (refTxt rs (k + 1) = refTxt rs k ++ (L ++ [10])) := Lib.hid (by rw [HSU.out, HST.out, HNG.out, HLP.out]; simp)
          have h30 : ¬ 9223372036854775807 < (str (refTxt rs k)).size + (str L).size := by omega
          have h31 : ¬ 9223372036854775807 < (str (refTxt rs k)).size + (str L).size + 1 := by omega
          go_wp2_with fail
          have hbX : Below w.heap.size w (wr.drewN nq) := HB.out.trans ((below_drewN' (Below.refl _ _) _).mono HB.out.size)
          have HPR := Lib.hid (refPrint_p rs[k] (wr.drewN nq) HGK.out (HIK.out.below hbX))
          rw [← HLE.out] at HPR
          refine HPR.out.mono ?_
          rintro r w5 ⟨rfl, hb7⟩
          have HB7 := Lib.hid (hbX.trans (hb7.mono hbX.size) : Below w.heap.size w w5)
          clear hb7 HPR hbX
          go_wp2
          go_roundw
          case rel => exact ⟨k + 1, by omega, by go_num, by rw [line_str2, HEQ.out], HB7⟩
          case measure => simp [intOf]; omega
    · obtain rfl : k = rs.length := by omega
      go_wp2
      go_ret
      exact ⟨rfl, HB.out⟩

end Go.Proofs.YtdjaphcelpchaaaGreatDoor

namespace Go.Proofs.YtdjaphcelpchaaaGreatDoor
open Go Go.RowKit Go.Proofs

def txtGo (cnt : ByteArray → Nat) : Option ByteArray → List MR → List UInt8
  | _, [] => []
  | prev, r :: rest => (if prev = some r.s then [] else grpHead r.s (cnt r.s)) ++ txtP r.m.p ++ txtGo cnt (some r.s) rest

theorem txtGo_snoc (cnt : ByteArray → Nat) : ∀ (l : List MR) (prev : Option ByteArray) (r : MR), txtGo cnt prev (l ++ [r]) = txtGo cnt prev l ++ ((if (match l.getLast? with | some q => some q.s | none => prev) = some r.s then [] else grpHead r.s (cnt r.s)) ++ txtP r.m.p)
  | [], prev, r => by
    by_cases h : prev = some r.s <;> simp [txtGo, h]
  | a :: l, prev, r => by
    rw [List.cons_append]
    unfold txtGo
    rw [txtGo_snoc cnt l (some a.s) r]
    have e : (match (a :: l).getLast? with | some q => some q.s | none => prev) = (match l.getLast? with | some q => some q.s | none => some a.s) := by
      cases l with
      | nil => rfl
      | cons b l =>
        rw [List.getLast?_cons_cons]
        cases hx : (b :: l).getLast? with
        | none => simp at hx
        | some q => rfl
    rw [e]
    simp only [List.append_assoc]

theorem refTxt_go (rs : List MR) : ∀ k, k ≤ rs.length → refTxt rs k = txtGo (fun t => (ofR rs t).length) none (rs.take k)
  | 0, _ => rfl
  | k + 1, hk => by
    rw [refTxt_succ, refTxt_go rs k (by omega), List.take_succ_eq_append_getElem (by omega), txtGo_snoc]
    congr 1
    unfold stepTxt
    rw [List.getElem?_eq_getElem (by omega)]
    simp only
    congr 1
    have hl : (rs.take k).getLast? = if k = 0 then none else rs[k - 1]? := by
      by_cases h0 : k = 0
      · subst h0; rfl
      · rw [if_neg h0, List.getLast?_eq_getElem?, List.length_take, Nat.min_eq_left (by omega), List.getElem?_take, if_pos (by omega)]
    rw [hl]
    unfold newGrp
    by_cases h0 : k = 0
    · subst h0
      simp
    · rw [if_neg h0, List.getElem?_eq_getElem (show k - 1 < rs.length by omega), List.getElem?_eq_getElem (show k < rs.length by omega)]
      simp only [h0, decide_false, Bool.false_or, Option.map_some, Option.some.injEq]
      by_cases he : rs[k - 1].s = rs[k].s <;> simp [he]

theorem txtGo_block (cnt : ByteArray → Nat) (t : ByteArray) : ∀ (b : List MR) (rest : List MR), (∀ r ∈ b, r.s = t) → txtGo cnt (some t) (b ++ rest) = b.flatMap (fun r => txtP r.m.p) ++ txtGo cnt (some t) rest
  | [], rest, _ => rfl
  | a :: b, rest, h => by
    have ha := h a (by simp)
    rw [List.cons_append]
    conv => lhs; unfold txtGo
    rw [ha, if_pos rfl, txtGo_block cnt t b rest fun r hr => h r (by simp [hr])]
    simp
theorem txtGo_groups (cnt : ByteArray → Nat) (blk : ByteArray → List MR) : ∀ (ts : List ByteArray) (prev : Option ByteArray), (∀ t ∈ ts, blk t ≠ [] ∧ ∀ r ∈ blk t, r.s = t) → ts.Nodup → (∀ t ∈ ts, prev ≠ some t) →
    txtGo cnt prev (ts.flatMap blk) = ts.flatMap fun t => grpHead t (cnt t) ++ (blk t).flatMap fun r => txtP r.m.p
  | [], _, _, _, _ => rfl
  | t :: ts, prev, h, hn, hp => by
    obtain ⟨h1, h2⟩ := h t (by simp)
    rw [List.nodup_cons] at hn
    obtain ⟨a, b, hb⟩ : ∃ a b, blk t = a :: b := by
      cases hx : blk t with
      | nil => exact absurd hx h1
      | cons a b => exact ⟨a, b, rfl⟩
    have ha : a.s = t := h2 a (by rw [hb]; simp)
    have ih := txtGo_groups cnt blk ts (some t) (fun x hx => h x (by simp [hx])) hn.2 (fun x hx e => hn.1 (by cases e; exact hx))
    rw [List.flatMap_cons, List.flatMap_cons, hb, List.cons_append]
    conv => lhs; unfold txtGo
    rw [ha, if_neg (hp t (by simp)), txtGo_block cnt t b _ (fun r hr => h2 r (by rw [hb]; simp [hr])), ih]
    simp
theorem refTxt_enc {rs : List MR} (ho : ordR rs) : refTxt rs rs.length = encTxt (fun t => (ofR rs t).map (·.m.p)) (groupsR rs) := by
  obtain ⟨h1, h2, _⟩ := groupsR_ok rs ho
  have hnd : (groupsR rs).Nodup := h1.imp fun {a b} hab e => by rw [e, cmpN_refl] at hab; omega
  rw [refTxt_go rs _ (Nat.le_refl _), List.take_length]
  conv => lhs; rw [flat_groups ho]
  rw [txtGo_groups _ (ofR rs) (groupsR rs) none (fun t ht => ⟨fun e => ?_, fun r hr => (ofR_mem.1 hr).2⟩) hnd (fun _ _ e => by cases e)]
  · unfold encTxt grpTxt
    rw [← flat_groups ho]
    rw [List.flatMap_def, List.flatMap_def]
    refine congrArg List.flatten (List.map_congr_left fun t _ => ?_)
    rw [List.length_map, List.flatMap_map]
  · obtain ⟨r, hr, hs⟩ := (h2 t).1 ht
    have : r ∈ ofR rs t := ofR_mem.2 ⟨hr, hs⟩
    rw [e] at this
    cases this

end Go.Proofs.YtdjaphcelpchaaaGreatDoor

namespace Go.Proofs.YtdjaphcelpchaaaGreatDoor
open Go Go.RowKit Go.Proofs

/-- The line of a text, if it is one. -/
def gP (s : ByteArray) : GLine := gAt (splitS 9 s) (.slice none 0 0) 7
def parseP (s : ByteArray) : Option PLine := if (parseOut s).1 = 0 then some ⟨(gP s).number, (gP s).id, (gP s).name, (gP s).date, (gP s).subject, refIds (nth (splitS 9 s) 5), (gP s).bytes⟩ else none
abbrev LF : Type := ByteArray → List PLine
def setL (L : LF) (t : ByteArray) (ps : List PLine) : LF := fun u => if u = t then ps else L u
def numsP (ps : List PLine) : List Int := ps.map (·.number)
def addP (ps : List PLine) (p : PLine) : List PLine := ps.take (posN (numsP ps) p.number) ++ p :: ps.drop (posN (numsP ps) p.number)
def addErrP (ps : List PLine) (t : ByteArray) (p : PLine) : Int := if nameErr t ≠ 0 then nameErr t else if pErr p ≠ 0 then pErr p else if (numsP ps).contains p.number || ps.any (fun q => decide (q.id = p.id)) then 7 else 0
/-- The lines of a group. -/
def dgLoop (t : ByteArray) : Nat → Int → LF → List UInt8 → Option (List UInt8 × LF)
  | 0, _, L, rest => some (rest, L)
  | n + 1, last, L, rest => match parseP (str (Lib.cut rest [10]).1) with
    | none => none
    | some p => if (Lib.cut rest [10]).2.2 = true ∧ last < p.number ∧ addErrP (L t) t p = 0 then dgLoop t n p.number (setL L t (addP (L t) p)) (Lib.cut rest [10]).2.1 else none
def wordsOf (s : List UInt8) : List (List UInt8) := splitL 32 (Lib.cut s [10]).1
/-- A group. -/
def dg (L : LF) (s : List UInt8) : Option (List UInt8 × LF) :=
  if (Lib.cut s [10]).2.2 = true ∧ (wordsOf s).length = 3 ∧ (wordsOf s)[0]? = some [103, 114, 111, 117, 112] ∧ numOk ((wordsOf s).getD 2 []) = true then dgLoop (str ((wordsOf s).getD 1 [])) (numVal ((wordsOf s).getD 2 [])) 0 L (Lib.cut s [10]).2.1 else none
def decGo : Nat → LF → List UInt8 → Option LF
  | 0, _, _ => none
  | n + 1, L, s => if s = [] then some L else match dg L s with
    | none => none
    | some (rest, L') => decGo n L' rest

/-! ## A text that an index has is taken back -/

theorem cut_pre (x l : List UInt8) (h : (10 : UInt8) ∉ x) : Lib.cut (x ++ 10 :: l) [10] = (x, l, true) := by
  have hi : Lib.index (x ++ 10 :: l) [10] = x.length := by
    refine Lib.index_first (by simp) ?_ fun j hj => ?_
    · unfold Lib.occAt
      simp
    · unfold Lib.occAt
      rw [List.drop_append_of_le_length (by omega)]
      have hne : x.drop j ≠ [] := by simp; omega
      obtain ⟨a, b, hab⟩ : ∃ a b, x.drop j = a :: b := by
        cases hx : x.drop j with
        | nil => exact absurd hx hne
        | cons a b => exact ⟨a, b, rfl⟩
      rw [hab, List.cons_append]
      have ha : a ≠ 10 := fun e => h (by rw [← e]; exact List.mem_of_mem_drop (by rw [hab]; simp : a ∈ x.drop j))
      simp [List.isPrefixOf, Ne.symm ha]
  unfold Lib.cut
  rw [hi, if_pos (by omega)]
  simp
theorem no_dig (c : UInt8) (hc : isDig c = false) (u : Nat) : c ∉ Lib.decDigits u := fun h => by
  have := List.all_eq_true.1 (dec_back u).2.1 c h
  rw [hc] at this
  cases this
theorem no10_text {l : List UInt8} {most : Int} (h : textErr l most = 0) : (10 : UInt8) ∉ l := fun h9 => by
  unfold textErr at h
  split at h
  · cases h
  · split at h
    · cases h
    · rename_i hb
      exact hb (List.any_eq_true.2 ⟨10, h9, by decide⟩)
theorem no10_refs (ids : List Id32) : (10 : UInt8) ∉ refsTxt ids := fun h => by
  rw [refsTxt_eq] at h
  rcases mem_join h with h | ⟨x, hx, hc⟩
  · revert h; decide
  · obtain ⟨y, _, rfl⟩ := List.mem_map.1 hx
    exact no_hex 10 (by decide) y hc
theorem no10_line {p : PLine} (h : pErr p = 0) : (10 : UInt8) ∉ lineTxt p.number.toNat p.id p.name p.date.toNat p.subject p.ids p.bytes.toNat := fun hm => by
  have hz := orErr_zero (show lineErr (ML.g ⟨p, .slice none 0 0⟩) p.ids = 0 from h)
  have z2 := hz (textErr p.name.data.toList 60) (by simp [ML.g])
  have z4 := hz (textErr p.subject.data.toList 200) (by simp [ML.g])
  unfold lineTxt joinS at hm
  rcases mem_join hm with hm | ⟨x, hx, hc⟩
  · revert hm; decide
  · simp only [lineParts, List.map_cons, List.map_nil, List.mem_cons, List.mem_nil_iff, or_false, str_data, hexS] at hx
    rcases hx with rfl | rfl | rfl | rfl | rfl | rfl | rfl
    · exact no_dig 10 (by decide) _ hc
    · exact no_hex 10 (by decide) _ hc
    · exact no10_text z2 hc
    · exact no_dig 10 (by decide) _ hc
    · exact no10_text z4 hc
    · exact no10_refs _ hc
    · exact no_dig 10 (by decide) _ hc
theorem cut_line {p : PLine} (h : pErr p = 0) (X : List UInt8) : Lib.cut (txtP p ++ X) [10] = (lineTxt p.number.toNat p.id p.name p.date.toNat p.subject p.ids p.bytes.toNat, X, true) := by
  unfold txtP
  rw [List.append_assoc]
  exact cut_pre _ _ (no10_line h)
theorem parse_txt {p : PLine} (h : pErr p = 0) : parseP (str (lineTxt p.number.toNat p.id p.name p.date.toNat p.subject p.ids p.bytes.toNat)) = some p := by
  obtain ⟨h1, h2⟩ := parse_print (g := ML.g ⟨p, .slice none 0 0⟩) (ids := p.ids) h
  have h1' : parseOut (str (lineTxt p.number.toNat p.id p.name p.date.toNat p.subject p.ids p.bytes.toNat)) = (0, 0) := h1
  have h0 : (parseOut (str (lineTxt p.number.toNat p.id p.name p.date.toNat p.subject p.ids p.bytes.toNat))).1 = 0 := by rw [h1']
  have hP : ParsedIs (str (lineTxt p.number.toNat p.id p.name p.date.toNat p.subject p.ids p.bytes.toNat)) (gP (str (lineTxt p.number.toNat p.id p.name p.date.toNat p.subject p.ids p.bytes.toNat))) (refIds (nth (splitS 9 (str (lineTxt p.number.toNat p.id p.name p.date.toNat p.subject p.ids p.bytes.toNat))) 5)) := ⟨fun hne => absurd h0 hne, fun _ => ⟨_, rfl, rfl⟩⟩
  obtain ⟨e1, e2⟩ := h2 _ _ hP
  unfold parseP
  rw [if_pos h0, e2, e1]
  rfl

/-- Lines that follow in order behind those that are there. -/
theorem addP_end {ps : List PLine} {p : PLine} (h : ∀ q ∈ ps, q.number < p.number) : addP ps p = ps ++ [p] := by
  have hp : posN (numsP ps) p.number = ps.length := by
    unfold posN numsP
    rw [List.countP_eq_length.2 (fun k hk => ?_), List.length_map]
    obtain ⟨q, hq, rfl⟩ := List.mem_map.1 hk
    simpa using h q hq
  unfold addP
  rw [hp, List.take_length, List.drop_length]
theorem addErrP_ok {ps : List PLine} {t : ByteArray} {p : PLine} (ht : nameErr t = 0) (hp : pErr p = 0) (h : ∀ q ∈ ps, q.number < p.number) (hi : ∀ q ∈ ps, q.id ≠ p.id) : addErrP ps t p = 0 := by
  unfold addErrP
  have h1 : (numsP ps).contains p.number = false := by
    cases hc : (numsP ps).contains p.number with
    | false => rfl
    | true =>
      unfold numsP at hc
      rw [List.contains_iff_mem] at hc
      obtain ⟨q, hq, e⟩ := List.mem_map.1 hc
      have := h q hq
      omega
  have h2 : ps.any (fun q => decide (q.id = p.id)) = false := by
    rw [List.any_eq_false]
    intro q hq
    simpa using hi q hq
  rw [if_neg (by simp [ht]), if_neg (by simp [hp]), h1, h2]
  rfl
theorem setL_setL (L : LF) (t : ByteArray) (a b : List PLine) : setL (setL L t a) t b = setL L t b := by
  funext u
  unfold setL
  by_cases h : u = t <;> simp [h]
theorem setL_at (L : LF) (t : ByteArray) (a : List PLine) : setL L t a t = a := by unfold setL; simp
/-- A good row of lines. -/
structure RowP (ps : List PLine) : Prop where
  good : ∀ p ∈ ps, pErr p = 0
  sorted : (numsP ps).Pairwise (· < ·)
  ids : (ps.map (·.id)).Nodup
theorem loop_ok {t : ByteArray} (ht : nameErr t = 0) (X : List UInt8) : ∀ (ps qs : List PLine) (last : Int) (L : LF), RowP (qs ++ ps) → L t = qs → (∀ p ∈ ps, last < p.number) →
    dgLoop t ps.length last L (ps.flatMap txtP ++ X) = some (X, setL L t (qs ++ ps))
  | [], qs, last, L, _, hL, _ => by
    have : setL L t (qs ++ []) = L := by
      funext u
      unfold setL
      by_cases h : u = t
      · rw [if_pos h, List.append_nil, h, hL]
      · rw [if_neg h]
    rw [this]
    rfl
  | p :: ps, qs, last, L, hR, hL, hlast => by
    have hp : pErr p = 0 := hR.good p (by simp)
    have hs := hR.sorted
    have hi := hR.ids
    unfold numsP at hs
    rw [List.map_append, List.map_cons, List.pairwise_append] at hs
    rw [List.map_append, List.map_cons, List.nodup_append] at hi
    have hq : ∀ q ∈ qs, q.number < p.number := fun q hq => hs.2.2 _ (List.mem_map.2 ⟨q, hq, rfl⟩) _ (by simp)
    have hqi : ∀ q ∈ qs, q.id ≠ p.id := fun q hq e => hi.2.2 q.id (List.mem_map.2 ⟨q, hq, rfl⟩) p.id (by simp) e
    have hn : ∀ r ∈ ps, p.number < r.number := fun r hr => (List.pairwise_cons.1 hs.2.1).1 _ (List.mem_map.2 ⟨r, hr, rfl⟩)
    rw [List.flatMap_cons, List.append_assoc, List.length_cons]
    unfold dgLoop
    rw [cut_line hp, parse_txt hp]
    simp only
    rw [if_pos ⟨trivial, hlast p (by simp), by rw [hL]; exact addErrP_ok ht hp hq hqi⟩, hL, addP_end hq, loop_ok ht X ps (qs ++ [p]) p.number _ (by rw [List.append_assoc]; exact hR) (setL_at _ _ _) hn, setL_setL, List.append_assoc]
    rfl

theorem name_no {t : ByteArray} (h : nameErr t = 0) {c : UInt8} (hc : badB c = true) (h46 : c ≠ 46) : c ∉ t.data.toList := fun hm => by
  unfold nameErr at h
  split at h
  · cases h
  · split at h
    · cases h
    · rename_i hb
      rw [← join_split 46 t.data.toList] at hm
      rcases mem_join hm with hm | ⟨x, hx, hcx⟩
      · exact h46 (by simpa using hm)
      · apply hb
        rw [List.any_eq_true]
        refine ⟨str x, List.mem_map.2 ⟨x, hx, rfl⟩, ?_⟩
        have : compB x = false := by
          cases x with
          | nil => cases hcx
          | cons a r =>
            have : (a :: r).any badB = true := List.any_eq_true.2 ⟨c, hcx, hc⟩
            unfold compB
            simp only [this, Bool.not_true, Bool.and_false]
        rw [str_list, this]
        rfl
theorem head_form (t : ByteArray) (n : Nat) (X : List UInt8) : grpHead t n ++ X = ([103, 114, 111, 117, 112] ++ 32 :: (t.data.toList ++ 32 :: Lib.decDigits n)) ++ 10 :: X := by
  unfold grpHead
  simp
theorem dg_ok {t : ByteArray} (ht : nameErr t = 0) {ps : List PLine} (hR : RowP ps) (hn : ps.length < 10000000000) {L : LF} (hL : L t = []) (X : List UInt8) : dg L (grpTxt t ps ++ X) = some (X, setL L t ps) := by
  have e : grpTxt t ps ++ X = ([103, 114, 111, 117, 112] ++ 32 :: (t.data.toList ++ 32 :: Lib.decDigits ps.length)) ++ 10 :: (ps.flatMap txtP ++ X) := by
    unfold grpTxt
    rw [List.append_assoc, head_form]
  have h10 : (10 : UInt8) ∉ ([103, 114, 111, 117, 112] ++ 32 :: (t.data.toList ++ 32 :: Lib.decDigits ps.length) : List UInt8) := fun hm => by
    simp only [List.mem_append, List.mem_cons] at hm
    rcases hm with hm | hm | hm | hm | hm
    · revert hm; decide
    · revert hm; decide
    · exact name_no ht (by decide) (by decide) hm
    · revert hm; decide
    · exact no_dig 10 (by decide) _ hm
  have hcut := cut_pre _ (ps.flatMap txtP ++ X) h10
  have hw : wordsOf (grpTxt t ps ++ X) = [[103, 114, 111, 117, 112], t.data.toList, Lib.decDigits ps.length] := by
    unfold wordsOf
    rw [e, hcut]
    simp only
    rw [splitL_pre 32 [103, 114, 111, 117, 112] _ (by decide), splitL_pre 32 _ _ (name_no ht (by decide) (by decide)), splitL_none 32 _ (no_dig 32 (by decide) _)]
  obtain ⟨n1, n2⟩ := num_dec ps.length hn
  unfold dg
  rw [hw, e, hcut]
  simp only [List.length_cons, List.length_nil, List.getElem?_cons_zero, List.getD_cons_succ, List.getD_cons_zero]
  rw [if_pos ⟨trivial, trivial, trivial, n1⟩, n2, str_of]
  exact loop_ok ht X ps [] 0 L hR hL fun p hp => by
    have := (lineErr_zero (show lineErr (ML.g ⟨p, .slice none 0 0⟩) p.ids = 0 from hR.good p hp)).1.1
    have h1 : 1 ≤ p.number := this
    omega
/-- The lines of some names. -/
def putAll (L F : LF) (ts : List ByteArray) : LF := fun u => if ts.any (fun t => decide (t = u)) = true then F u else L u
theorem dec_ok (F : LF) : ∀ (ts : List ByteArray) (L : LF) (n : Nat), (∀ t ∈ ts, nameErr t = 0 ∧ RowP (F t) ∧ (F t).length < 10000000000 ∧ L t = []) → ts.Nodup → (encTxt F ts).length < n → decGo n L (encTxt F ts) = some (putAll L F ts)
  | [], L, n, _, _, hn => by
    cases n with
    | zero => exact absurd hn (Nat.not_lt_zero _)
    | succ n =>
      unfold decGo
      rw [if_pos (show encTxt F [] = [] from rfl)]
      congr 1
  | t :: ts, L, n, h, hnd, hn => by
    obtain ⟨h1, h2, h3, h4⟩ := h t (by simp)
    rw [List.nodup_cons] at hnd
    have e : encTxt F (t :: ts) = grpTxt t (F t) ++ encTxt F ts := by unfold encTxt; rw [List.flatMap_cons]
    have hne : encTxt F (t :: ts) ≠ [] := by
      rw [e]
      unfold grpTxt grpHead
      simp
    cases n with
    | zero => exact absurd hn (Nat.not_lt_zero _)
    | succ n =>
      have hlt : (encTxt F ts).length < n := by
        have : 0 < (grpTxt t (F t)).length := by unfold grpTxt grpHead; simp
        rw [e, List.length_append] at hn
        omega
      unfold decGo
      rw [if_neg hne, e, dg_ok h1 h2 h3 h4]
      simp only
      rw [dec_ok F ts (setL L t (F t)) n (fun u hu => by
        obtain ⟨k1, k2, k3, k4⟩ := h u (by simp [hu])
        refine ⟨k1, k2, k3, ?_⟩
        unfold setL
        rw [if_neg (fun e' => hnd.1 (by rw [← e']; exact hu))]
        exact k4) hnd.2 hlt]
      congr 1
      funext u
      unfold putAll setL
      by_cases hu : u = t
      · subst hu
        simp
      · have hu' : ¬ t = u := fun e => hu e.symm
        rw [List.any_cons, decide_eq_false hu', Bool.false_or, if_neg hu]

end Go.Proofs.YtdjaphcelpchaaaGreatDoor

namespace Go.Proofs.YtdjaphcelpchaaaGreatDoor
open Go Go.RowKit Go.Proofs

attribute [local go_sem ↓] ex_load_id ex_store_id ex_load_line ex_store_line ex_load_rline ex_store_rline ex_alloc_line ex_build_line ex_alloc_rline ex_build_rline

attribute [local go_sem] ld_id st_id ld_line st_line ld_rline st_rline guard_id okCells_drew rdCells_drew okCells_drewN rdCells_drewN rowOk_drew rowOk_cells okCells_cells rdCells_cells setRow_drew setRow_new setRow_past

/-- The lines of an index's groups. -/
def lfOf (gs : List MG) : LF := fun t => (linesIn gs t).map (·.p)
end Go.Proofs.YtdjaphcelpchaaaGreatDoor

namespace Go.Proofs.YtdjaphcelpchaaaGreatDoor
open Go Go.RowKit Go.Proofs

/-- Good lines of some names. -/
def GoodF (F : LF) (ts : List ByteArray) : Prop := ordN ts ∧ ∀ t ∈ ts, nameErr t = 0 ∧ RowP (F t) ∧ (F t).length < 10000000000 ∧ F t ≠ []
abbrev noL : LF := fun _ => []
theorem ordN_nodup {ts : List ByteArray} (h : ordN ts) : ts.Nodup := h.imp fun {a b} hab e => by rw [e, cmpN_refl] at hab; omega
theorem dec_good {F : LF} {ts : List ByteArray} (h : GoodF F ts) {n : Nat} (hn : (encTxt F ts).length < n) : decGo n noL (encTxt F ts) = some (putAll noL F ts) :=
  dec_ok F ts noL n (fun t ht => by
    obtain ⟨h1, h2, h3, _⟩ := h.2 t ht
    exact ⟨h1, h2, h3, rfl⟩) (ordN_nodup h.1) hn
theorem putAll_in {F : LF} {ts : List ByteArray} {t : ByteArray} (h : t ∈ ts) : putAll noL F ts t = F t := by
  unfold putAll
  rw [if_pos (List.any_eq_true.2 ⟨t, h, by simp⟩)]
theorem putAll_out {F : LF} {ts : List ByteArray} {t : ByteArray} (h : t ∉ ts) : putAll noL F ts t = [] := by
  unfold putAll
  rw [if_neg]
  intro hx
  obtain ⟨u, hu, e⟩ := List.any_eq_true.1 hx
  rw [decide_eq_true_eq] at e
  exact h (e ▸ hu)
theorem lf_names {B ib M mc : Nat} {gs : List MG} {w : World} (h : IdxAt B w ib M gs mc) (t : ByteArray) : (∃ G ∈ gs, G.name = t) ↔ lfOf gs t ≠ [] := by
  unfold lfOf
  rw [Ne, List.map_eq_nil_iff]
  constructor
  · rintro ⟨G, hG, rfl⟩
    rw [linesIn_of h hG]
    exact (h.grps G hG).some'
  · intro hne
    obtain ⟨G, hG, _⟩ := linesIn_ne hne
    exact ⟨G, groupOf_mem hG⟩
theorem row_of_grp {B : Nat} {w : World} {G : MG} (h : GrpAt B w G) : RowP (G.ms.map (·.p)) := by
  refine ⟨fun p hp => ?_, ?_, ?_⟩
  · obtain ⟨m, hm, rfl⟩ := List.mem_map.1 hp
    exact h.good m hm
  · have := h.sorted
    unfold nums at this
    unfold numsP
    rw [List.map_map]
    exact this
  · have := h.ids
    rw [List.map_map]
    exact this
theorem good_of_idx {B ib M mc : Nat} {gs : List MG} {w : World} (h : IdxAt B w ib M gs mc) {ns : List ByteArray} (hn : ordN ns) (hm : ∀ t, t ∈ ns ↔ ∃ G ∈ gs, G.name = t) : GoodF (lfOf gs) ns := by
  refine ⟨hn, fun t ht => ?_⟩
  obtain ⟨G, hG, rfl⟩ := (hm t).1 ht
  have h1 := h.grps G hG
  have e : lfOf gs G.name = G.ms.map (·.p) := by unfold lfOf; rw [linesIn_of h hG]
  rw [e]
  refine ⟨h1.named, row_of_grp h1, ?_, ?_⟩
  · rw [List.length_map]
    have := length_le_total hG
    have := h.few
    omega
  · rw [Ne, List.map_eq_nil_iff]
    exact h1.some'
theorem putAll_idx {B ib M mc : Nat} {gs : List MG} {w : World} (h : IdxAt B w ib M gs mc) {ns : List ByteArray} (hm : ∀ t, t ∈ ns ↔ ∃ G ∈ gs, G.name = t) : putAll noL (lfOf gs) ns = lfOf gs := by
  funext t
  cases Classical.em (t ∈ ns) with
  | inl h1 => exact putAll_in h1
  | inr h1 =>
    rw [putAll_out h1]
    have h2 : ¬ lfOf gs t ≠ [] := fun h3 => h1 ((hm t).2 ((lf_names h t).2 h3))
    exact (Classical.not_not.1 h2).symm
/-- Good texts that are the same have the same lines. -/
theorem good_inj {F F' : LF} {ts ts' : List ByteArray} (h : GoodF F ts) (h' : GoodF F' ts') (he : encTxt F ts = encTxt F' ts') : putAll noL F ts = putAll noL F' ts' := by
  have h1 := dec_good h (Nat.lt_succ_self _)
  have h2 := dec_good h' (Nat.lt_succ_self _)
  rw [he] at h1
  exact Option.some.inj (h1.symm.trans h2)
/-- Two indexes with the same text. -/
theorem idx_inj {B1 B2 ib1 ib2 M1 M2 mc1 mc2 : Nat} {gs1 gs2 : List MG} {w1 w2 : World} (h1 : IdxAt B1 w1 ib1 M1 gs1 mc1) (h2 : IdxAt B2 w2 ib2 M2 gs2 mc2) {ns1 ns2 : List ByteArray} (hn1 : ordN ns1) (hm1 : ∀ t, t ∈ ns1 ↔ ∃ G ∈ gs1, G.name = t) (hn2 : ordN ns2) (hm2 : ∀ t, t ∈ ns2 ↔ ∃ G ∈ gs2, G.name = t) (he : encTxt (lfOf gs1) ns1 = encTxt (lfOf gs2) ns2) : lfOf gs1 = lfOf gs2 := by
  have := good_inj (good_of_idx h1 hn1 hm1) (good_of_idx h2 hn2 hm2) he
  rwa [putAll_idx h1 hm1, putAll_idx h2 hm2] at this
theorem RelR.lf {gs gs' : List MG} {rs : List MR} (h : RelR gs rs) (he : lfOf gs = lfOf gs') : RelR gs' rs := fun t p => by
  rw [← h t p]
  have e : (linesIn gs t).map (·.p) = (linesIn gs' t).map (·.p) := congrFun he t
  have h1 : ∀ (l : List ML), (∃ m ∈ l, m.p = p) ↔ p ∈ l.map (·.p) := fun l => by rw [List.mem_map]
  rw [h1, h1, e]

end Go.Proofs.YtdjaphcelpchaaaGreatDoor

namespace Go.Proofs.YtdjaphcelpchaaaGreatDoor
open Go Go.RowKit Go.Proofs
open Go.ChangeMaps (setBlock)

set_option maxRecDepth 100000 in
set_option maxHeartbeats 1000000 in
theorem mapsClone_any (b : Nat) (es : Array MapEntry) (clock : Nat) (w : World) (hb : w.heap[b]? = some (.map es clock)) :
    Calls Tryz.prog 83 #[.map (some b)] w fun e w' => e = .returned (.map (some w.heap.size)) ∧ w.alloc (.map es clock) = w' := by
  have hu : Tryz.prog.underlying 113 = some (.map 23 3) := Tryz.underlying113
  have hq := fun w => run_eql_map_nil_sl (P := Tryz.prog) w 113 _ _ (some b) hu
  go_enter Tryz.func83, Tryz.ntmps83
  go_wp2
  rw [run_callFunc_extern Tryz.func116 (by kernel_rfl) (by kernel_rfl) (by kernel_rfl) (e := Extern.MapsClone.clone) (by kernel_rfl), run_maps_clone_sl w 113 hb]
  simp only [Result.andThen]
  rw [Oper.upon_value]
  go_wp2
  rw [run_typeAssert_map_sl _ 113 20 _ _ _ hu]
  simp only [Result.andThen]
  rw [Oper.upon_value]
  go_wp2
  go_ret
  exact ⟨rfl, rfl⟩

theorem setBlock_size (w : World) (b : Nat) (o : Obj) : (setBlock w b o).heap.size = w.heap.size := by unfold setBlock; simp
/-- One step of the range, with all that stays. -/
theorem RdSt.next2 {B : Nat} {w : World} {ib M mc : Nat} {gs : List MG} {D : MG → Prop} {r : Nat} {X : World} {seen : Array Nat} (h : RdSt B w ib M mc gs D r X seen) (ty : TypeId) :
    ((∀ G ∈ gs, D G) ∧ (Instr.next (.pointer (some ⟨r, 0, none⟩)) false ty).run Tryz.prog X = .ok (.tuple #[.bool false]) X) ∨
    ∃ G ∈ gs, ∃ X', (Instr.next (.pointer (some ⟨r, 0, none⟩)) false ty).run Tryz.prog X = .ok (.tuple #[.bool true, .string G.name, .pointer (some ⟨G.gb, 0, none⟩)]) X' ∧ Kept [r] X X' ∧
      (Instr.entry (.pointer (some ⟨r, 0, none⟩))).run Tryz.prog X' = .ok (.tuple #[.string G.name, .pointer (some ⟨G.gb, 0, none⟩)]) X' ∧ (leftOf (entsOf gs) (seen.push G.born)).size < (leftOf (entsOf gs) seen).size ∧
      X'.heap[r]? = some (.mapIter (some M) mc (seen.push G.born) mc) ∧ seen.contains G.born = false := by
  have hX := h.idx.below h.bl
  have hmap : X.heap[M]? = some (.map (entsOf gs) mc) := hX.map
  have hrM : r ≠ M := fun e => by
    have := h.iter
    rw [e, hmap] at this
    cases this
  have hold : ∀ e ∈ (entsOf gs).toList, e.born < mc := fun e he => by
    obtain ⟨G, hG, rfl⟩ := mem_ents he
    exact h.idx.young G hG
  rcases run_next_at (P := Tryz.prog) X ty r M mc mc seen (entsOf gs) mc h.iter hmap hold (Nat.le_refl _) with ⟨h0, hr⟩ | ⟨e, he, X1, hX1, hr⟩
  · refine .inl ⟨fun G hG => h.did G hG ?_, hr⟩
    have := all_seen (entsOf gs) seen h0 (enE ekS G.e) (by unfold entsOf; simp only [List.mem_map]; exact ⟨_, ⟨G, hG, rfl⟩, rfl⟩)
    exact this
  · obtain ⟨hm, hns⟩ := mem_left he
    obtain ⟨G, hG, rfl⟩ := mem_ents hm
    have hrl := (Array.getElem?_eq_some_iff.1 h.iter).1
    have hX1h : X1.heap = X.heap := by rcases hX1 with rfl | rfl <;> rfl
    have hk1 : Kept [r] X X1 := by
      rcases hX1 with rfl | rfl
      · exact Kept.of_below (Below.refl _ _)
      · exact Kept.of_below (Below.refl _ _).drew
    have hit : (setBlock X1 r (.mapIter (some M) mc (seen.push G.born) mc)).heap[r]? = some (.mapIter (some M) mc (seen.push G.born) mc) := heap_setBlock _ _ _ (by rw [hX1h]; exact hrl)
    have hmp : (setBlock X1 r (.mapIter (some M) mc (seen.push G.born) mc)).heap[M]? = some (.map (entsOf gs) mc) := by
      rw [heap_setBlock_ne _ _ _ _ (Ne.symm hrM), hX1h]
      exact hmap
    refine .inr ⟨G, hG, _, hr, ⟨hk1.os, hk1.tape, hk1.output, by rw [setBlock_size]; exact hk1.size, fun k hk hn => ?_⟩, run_entry_at _ r M mc seen (entsOf gs) mc (enE ekS G.e) hit hmp hm (by rw [ents_born]; exact h.idx.born), left_shrinks _ _ _ he, hit, hns⟩
    rw [heap_setBlock_ne _ _ _ _ (fun e => hn (by rw [e]; simp)), hX1h]

theorem total_le : ∀ {A Bl : List MG}, (A.map fun G => G.name).Nodup → (∀ a ∈ A, ∃ b ∈ Bl, b.name = a.name ∧ b.ms.length = a.ms.length) → total A ≤ total Bl
  | [], _, _, _ => Nat.zero_le _
  | a :: A, Bl, hn, h => by
    rw [List.map_cons, List.nodup_cons] at hn
    obtain ⟨b, hb, hbn, hbl⟩ := h a (by simp)
    obtain ⟨l1, l2, rfl⟩ := List.append_of_mem hb
    have ih := total_le (A := A) (Bl := l1 ++ l2) hn.2 fun x hx => by
      obtain ⟨c, hc, hcn, hcl⟩ := h x (by simp [hx])
      refine ⟨c, ?_, hcn, hcl⟩
      rw [List.mem_append, List.mem_cons] at hc
      rw [List.mem_append]
      rcases hc with hc | rfl | hc
      · exact .inl hc
      · exact absurd (List.mem_map.2 ⟨x, hx, hcn.symm.trans hbn⟩) hn.1
      · exact .inr hc
    have e1 : total (a :: A) = a.ms.length + total A := rfl
    have e2 : total (l1 ++ b :: l2) = total (l1 ++ l2) + b.ms.length := by
      unfold total
      simp only [List.map_append, List.map_cons, List.sum_append, List.sum_cons]
      omega
    omega

/-- A group copied. -/
def cpG (G : MG) (born cb nb : Nat) (v : Value) (ms : List ML) : MG := ⟨G.name, born, cb, nb, v, ms, G.nl, G.nc⟩
theorem map_of_p {α : Type} (f : PLine → α) {a b : List ML} (h : a.map (·.p) = b.map (·.p)) : a.map (fun m => f m.p) = b.map (fun m => f m.p) := by
  have := congrArg (List.map f) h
  rwa [List.map_map, List.map_map] at this
theorem grp_copy {B0 : Nat} {w0 : World} {G : MG} (h : GrpAt B0 w0 G) {B : Nat} {W : World} {born cb nb : Nat} {v : Value} {ms : List ML} (hp : ms.map (·.p) = G.ms.map (·.p)) (hb : W.heap[cb]? = some (.cells #[v, .map (some nb)] 115 (0, 0))) (hl : LinesAt B W v ms) (hn : MapAt ekI W nb G.nl G.nc) (h1 : B ≤ cb) (h2 : B ≤ nb) : GrpAt B W (cpG G born cb nb v ms) where
  blk := hb
  lines := hl
  nums := hn
  agree := by
    have := h.agree
    rw [← map_of_p (fun p => (p.id, Value.int .i64 p.number)) hp] at this
    exact this
  ids := by
    have := h.ids
    rw [← map_of_p (fun p => p.id) hp] at this
    exact this
  sorted := by
    have := h.sorted
    unfold nums at this ⊢
    rw [← map_of_p (fun p => p.number) hp] at this
    exact this
  good := fun m hm => by
    have : m.p ∈ G.ms.map (·.p) := by rw [← hp]; exact List.mem_map.2 ⟨m, hm, rfl⟩
    obtain ⟨q, hq, e⟩ := List.mem_map.1 this
    rw [← e]
    exact h.good q hq
  named := h.named
  some' := fun e => h.some' (by
    have e' : ms = [] := e
    rw [e'] at hp
    exact List.map_eq_nil_iff.1 hp.symm)
  gbB := h1
  nbB := h2

/-- In the middle of Clone: the range over the old index; the new index, whose number of lines is told already. -/
structure ClSt (B : Nat) (w : World) (ib M mc : Nat) (gs : List MG) (ib2 M2 r : Nat) (gs2 : List MG) (mc2 : Nat) (seen : Array Nat) (W : World) : Prop where
  rd : RdSt B w ib M mc gs (fun G => seen.contains G.born = true) r W seen
  blk : W.heap[ib2]? = some (.cells #[.map (some M2), .int .i64 (total gs)] 104 (0, 0))
  cl : IdxAt w.heap.size (setBlock W ib2 (.cells #[.map (some M2), .int .i64 (total gs2)] 104 (0, 0))) ib2 M2 gs2 mc2
  fwd : ∀ G ∈ gs, seen.contains G.born = true → ∃ G2 ∈ gs2, G2.name = G.name ∧ G2.ms.map (·.p) = G.ms.map (·.p)
  bwd : ∀ G2 ∈ gs2, ∃ G ∈ gs, seen.contains G.born = true ∧ G2.name = G.name ∧ G2.ms.map (·.p) = G.ms.map (·.p)
  rne : ∀ k ∈ foot ib2 M2 gs2, k ≠ r
theorem cl_keep {b : Nat} {X Y : World} {ib2 M2 mc2 : Nat} {gs2 : List MG} {o : Obj} (h : IdxAt b (setBlock X ib2 o) ib2 M2 gs2 mc2) (hl : ib2 < X.heap.size) (hl2 : ib2 < Y.heap.size) (hk : ∀ k, k < X.heap.size → k ≠ ib2 → (k ∈ foot ib2 M2 gs2 ∨ ∃ c, X.heap[k]? = some (.cells c 23 (0, 0))) → Y.heap[k]? = X.heap[k]?) : IdxAt b (setBlock Y ib2 o) ib2 M2 gs2 mc2 := by
  refine h.keep (fun k hf => ?_) (fun G hG m hm k hkm => ?_)
  · by_cases e : k = ib2
    · subst e
      rw [heap_setBlock _ _ _ hl2, heap_setBlock _ _ _ hl]
    · have h1 := (h.foot_lt k hf).2
      rw [setBlock_size] at h1
      rw [heap_setBlock_ne _ _ _ _ e, heap_setBlock_ne _ _ _ _ e]
      exact hk k h1 e (.inl hf)
  · have hr := (h.grps G hG).lines.refs m hm
    have h1 := (hr.lt hkm).2
    rw [setBlock_size] at h1
    obtain ⟨c, hc⟩ := hr.typed hkm
    have e : k ≠ ib2 := fun e => by
      have := h.not_id hc
      exact this (by rw [e]; simp [foot])
    rw [heap_setBlock_ne _ _ _ _ e] at hc
    rw [heap_setBlock_ne _ _ _ _ e, heap_setBlock_ne _ _ _ _ e]
    exact hk k h1 e (.inr ⟨c, hc⟩)
theorem ClSt.start {B : Nat} {w : World} {ib M mc : Nat} {gs : List MG} (h : IdxAt B w ib M gs mc) {W : World} (hW : W = ((w.alloc (.map #[] 0)).alloc (.cells #[.map (some w.heap.size), .int .i64 (total gs)] 104)).alloc (.mapIter (some M) mc #[] mc)) : ClSt B w ib M mc gs (w.heap.size + 1) w.heap.size (w.heap.size + 1 + 1) [] 0 #[] W := by
  have hs : W.heap.size = w.heap.size + 3 := by rw [hW]; simp
  have hr : RdSt B w ib M mc gs (fun G => (#[] : Array Nat).contains G.born = true) (w.heap.size + 1 + 1) W #[] := by
    have := RdSt.start (B := B) (w := w) (W := (w.alloc (.map #[] 0)).alloc (.cells #[.map (some w.heap.size), .int .i64 (total gs)] 104)) (D := fun G => (#[] : Array Nat).contains G.born = true) h (((Below.refl _ _).alloc (Nat.le_refl _) _).alloc (by simp) _)
    rw [← hW] at this
    simpa using this
  have hb : W.heap[w.heap.size + 1]? = some (.cells #[.map (some w.heap.size), .int .i64 (total gs)] 104 (0, 0)) := by
    rw [hW, heap_alloc_old _ _ (by simp)]
    have := heap_alloc_new (w.alloc (.map #[] 0)) (.cells #[.map (some w.heap.size), .int .i64 (total gs)] 104)
    simpa using this
  have hm : W.heap[w.heap.size]? = some (.map #[] 0) := by
    rw [hW, heap_alloc_old _ _ (by simp; omega), heap_alloc_old _ _ (by simp), heap_alloc_new]
  refine ⟨hr, hb, ?_, fun G _ hs => (by simp at hs), fun _ h => (by cases h), fun k hk => ?_⟩
  · refine ⟨?_, ?_, List.nodup_nil, fun _ h => (by cases h), by simp [foot], List.nodup_nil, fun _ h => (by cases h), by simp [total], by omega, Nat.le_refl _⟩
    · rw [heap_setBlock _ _ _ (by omega)]
    · unfold MapAt
      rw [heap_setBlock_ne _ _ _ _ (by omega), hm]
      rfl
  · simp only [foot, List.flatMap_nil, List.mem_cons, List.mem_nil_iff, or_false] at hk
    omega
/-- A group more. -/
theorem ClSt.put {B : Nat} {w : World} {ib M mc : Nat} {gs : List MG} {ib2 M2 r : Nat} {gs2 : List MG} {mc2 : Nat} {seen : Array Nat} {X X1 Y1 Y2 : World} (h : ClSt B w ib M mc gs ib2 M2 r gs2 mc2 seen X) {G : MG} (hG : G ∈ gs) (hns : seen.contains G.born = false) (hk1 : Kept [r] X X1) (hit : X1.heap[r]? = some (.mapIter (some M) mc (seen.push G.born) mc)) (hb : Below X1.heap.size X1 Y1)
    {cb nb : Nat} {v : Value} {ms : List ML} (hp : ms.map (·.p) = G.ms.map (·.p)) (hcb : Y1.heap[cb]? = some (.cells #[v, .map (some nb)] 115 (0, 0))) (hl : LinesAt X1.heap.size Y1 v ms) (hn : MapAt ekI Y1 nb G.nl G.nc) (h1 : X1.heap.size ≤ cb) (h2 : X1.heap.size ≤ nb)
    (hY : Y2 = Y1.putObj M2 (.map (((gs2.map MG.e) ++ [(⟨G.name, .pointer (some ⟨cb, 0, none⟩), mc2⟩ : KE ByteArray)]).map (enE ekS)).toArray (mc2 + 1))) :
    ClSt B w ib M mc gs ib2 M2 r (gs2 ++ [cpG G mc2 cb nb v ms]) (mc2 + 1) (seen.push G.born) Y2 := by
  have hib := (Array.getElem?_eq_some_iff.1 h.blk).1
  have hM2 : M2 < X.heap.size := by
    have := (h.cl.foot_lt M2 (by simp [foot])).2
    rwa [setBlock_size] at this
  have hrl := (Array.getElem?_eq_some_iff.1 h.rd.iter).1
  have hwX : w.heap.size ≤ X.heap.size := h.rd.bl.size
  have hX1 : X.heap.size ≤ X1.heap.size := hk1.size
  have hY1 : X1.heap.size ≤ Y1.heap.size := hb.size
  have hne : ib2 ≠ M2 := by
    have := (apart_iff.1 h.cl.apart).1
    exact this
  have hrib : ib2 ≠ r := h.rne ib2 (by simp [foot])
  have hrM : M2 ≠ r := h.rne M2 (by simp [foot])
  have hYo : ∀ k, k ≠ M2 → Y2.heap[k]? = Y1.heap[k]? := fun k hk => by rw [hY]; exact World.putObj_heap_other hk
  have hYs : Y2.heap.size = Y1.heap.size := by rw [hY]; simp [World.putObj]
  have hYm : Y2.heap[M2]? = some (.map (((gs2.map MG.e) ++ [(⟨G.name, .pointer (some ⟨cb, 0, none⟩), mc2⟩ : KE ByteArray)]).map (enE ekS)).toArray (mc2 + 1)) := by
    rw [hY]
    simp [World.putObj, show M2 < Y1.heap.size by omega]
  -- the new index, before the group, in the world behind the step
  have hc1 : IdxAt w.heap.size (setBlock X1 ib2 (.cells #[.map (some M2), .int .i64 (total gs2)] 104 (0, 0))) ib2 M2 gs2 mc2 := cl_keep h.cl hib (by omega) fun k hk _ hc => hk1.block k hk (fun e => by
    rw [List.mem_singleton] at e
    subst e
    rcases hc with hc | ⟨c, hc⟩
    · exact h.rne k hc rfl
    · rw [h.rd.iter] at hc
      cases hc)
  have hno : groupOf gs2 G.name = none := by
    cases hg : groupOf gs2 G.name with
    | none => rfl
    | some G2 =>
      exfalso
      obtain ⟨m1, m2⟩ := groupOf_mem hg
      obtain ⟨G0, hG0, hs0, hn0, _⟩ := h.bwd G2 m1
      have : G0 = G := name_inj h.rd.idx.names G0 hG0 G hG (hn0.symm.trans m2)
      rw [this, hns] at hs0
      cases hs0
  have hfresh : ∀ k ∈ (cpG G mc2 cb nb v ms).foot, X1.heap.size ≤ k := fun k hk => by
    unfold MG.foot cpG at hk
    simp only [List.mem_append, List.mem_cons, List.mem_nil_iff, or_false, Option.mem_toList] at hk
    rcases hk with (rfl | rfl) | hk
    · exact h1
    · exact h2
    · exact (World.ownsRow.lt hl.row k hk).1
  have hnd : (cpG G mc2 cb nb v ms).foot.Nodup := by
    have e1 : cb ≠ nb := fun e => by
      have := hn
      unfold MapAt at this
      rw [← e, hcb] at this
      cases this
    have e2 : ∀ k, v.ownBlock = some k → cb ≠ k ∧ nb ≠ k := fun k hk => by
      obtain ⟨c, hc⟩ := ownsRow_typed hl.row hk
      constructor
      · rintro rfl
        rw [hcb] at hc
        exact absurd (cells_ty hc) (by decide)
      · rintro rfl
        have := hn
        unfold MapAt at this
        rw [hc] at this
        cases this
    unfold MG.foot cpG
    cases hv : v.ownBlock with
    | none => simp [e1]
    | some k =>
      obtain ⟨e3, e4⟩ := e2 k hv
      simp [e1, e3, e4]
  have hgl : ∀ k ∈ (cpG G mc2 cb nb v ms).foot, k ≠ ib2 ∧ k ≠ M2 := fun k hk => by
    have := hfresh k hk
    omega
  have hGrp : GrpAt w.heap.size Y1 (cpG G mc2 cb nb v ms) := grp_copy (h.rd.idx.grps G hG) hp hcb ⟨ownsRow_base hl.row (by omega), fun m hm => (hl.refs m hm).mono (by omega)⟩ hn (by omega) (by omega)
  have hGrp2 : GrpAt w.heap.size (setBlock Y2 ib2 (.cells #[.map (some M2), .int .i64 (total (gs2 ++ [cpG G mc2 cb nb v ms]))] 104 (0, 0))) (cpG G mc2 cb nb v ms) := hGrp.keep (fun k hk => by
      obtain ⟨g1, g2⟩ := hgl k hk
      rw [heap_setBlock_ne _ _ _ _ g1, hYo k g2]) (fun m hm k hk => by
      have := (IdsOwn.lt (hl.refs m hm) hk).1
      rw [heap_setBlock_ne _ _ _ _ (by omega), hYo k (by omega)])
  have hfew : total (gs2 ++ [cpG G mc2 cb nb v ms]) ≤ 65536 := Nat.le_trans (total_le (Bl := gs) (by
      rw [List.map_append]
      refine List.nodup_append.2 ⟨h.cl.names, by simp, fun a ha b hb e => ?_⟩
      obtain ⟨G2, hG2, rfl⟩ := List.mem_map.1 ha
      simp only [List.map_cons, List.map_nil, List.mem_singleton] at hb
      exact groupOf_none hno G2 hG2 (e.trans hb)) (fun a ha => by
      rcases List.mem_append.1 ha with ha | ha
      · obtain ⟨G0, hG0, _, hn0, hp0⟩ := h.bwd a ha
        refine ⟨G0, hG0, hn0.symm, ?_⟩
        have := congrArg List.length hp0
        rw [List.length_map, List.length_map] at this
        exact this.symm
      · obtain rfl := List.mem_singleton.1 ha
        refine ⟨G, hG, rfl, ?_⟩
        have := congrArg List.length hp
        rw [List.length_map, List.length_map] at this
        exact this.symm)) h.rd.idx.few
  obtain ⟨hidx, hfoot⟩ := hc1.new (s := G.name) (G' := cpG G mc2 cb nb v ms) (w' := setBlock Y2 ib2 (.cells #[.map (some M2), .int .i64 (total (gs2 ++ [cpG G mc2 cb nb v ms]))] 104 (0, 0))) hno rfl rfl (by rw [setBlock_size]; exact hfresh) hnd hGrp2 (heap_setBlock _ _ _ (by omega)) (by
    unfold MapAt
    rw [heap_setBlock_ne _ _ _ _ (Ne.symm hne), hYm]
    simp only [List.map_append, List.map_cons, List.map_nil]
    rfl) ⟨by rw [show (setBlock Y2 ib2 (.cells #[.map (some M2), .int .i64 (total (gs2 ++ [cpG G mc2 cb nb v ms]))] 104 (0, 0))).os = Y2.os from rfl, hY]; exact hb.os, by rw [show (setBlock Y2 ib2 (.cells #[.map (some M2), .int .i64 (total (gs2 ++ [cpG G mc2 cb nb v ms]))] 104 (0, 0))).tape = Y2.tape from rfl, hY]; exact hb.tape, by rw [show (setBlock Y2 ib2 (.cells #[.map (some M2), .int .i64 (total (gs2 ++ [cpG G mc2 cb nb v ms]))] 104 (0, 0))).output = Y2.output from rfl, hY]; exact hb.output, by rw [setBlock_size, setBlock_size, hYs]; exact hY1, fun k hk hn' => by
      simp only [List.mem_cons, List.mem_nil_iff, or_false, not_or] at hn'
      rw [setBlock_size] at hk
      rw [heap_setBlock_ne _ _ _ _ hn'.1, heap_setBlock_ne _ _ _ _ hn'.1, hYo k hn'.2]
      exact hb.block k hk⟩ hfew
  have hit2 : Y2.heap[r]? = some (.mapIter (some M) mc (seen.push G.born) mc) := by
    rw [hYo r (Ne.symm hrM), hb.block r (by omega)]
    exact hit
  have hwr : w.heap.size ≤ r := h.rd.lo
  have hwM : w.heap.size ≤ M2 := h.cl.MB
  have hbl : Below w.heap.size w Y2 := by
    refine h.rd.bl.trans ⟨?_, ?_, ?_, by omega, fun k hk => ?_⟩
    · rw [hY]; exact hb.os.trans hk1.os
    · rw [hY]; exact hb.tape.trans hk1.tape
    · rw [hY]; exact hb.output.trans hk1.output
    · rw [hYo k (by omega), hb.block k (by omega)]
      exact hk1.block k (by omega) (by simp; omega)
  refine ⟨⟨hit2, hbl, hwr, h.rd.idx, fun H hH hs => hs⟩, ?_, hidx, fun H hH hs => ?_, fun G2 hG2 => ?_, fun k hk => ?_⟩
  · rw [hYo ib2 hne, hb.block ib2 (by omega)]
    exact (hk1.block ib2 hib (by simpa using hrib)).trans h.blk
  · rw [Array.contains_push, Bool.or_eq_true] at hs
    rcases hs with hs | hs
    · obtain ⟨G2, hG2, e⟩ := h.fwd H hH hs
      exact ⟨G2, List.mem_append_left _ hG2, e⟩
    · have hbn : H.born = G.born := by simpa using hs
      have : H = G := born_inj h.rd.idx.born H hH G hG hbn
      subst this
      exact ⟨cpG H mc2 cb nb v ms, List.mem_append_right _ (by simp), rfl, hp⟩
  · rcases List.mem_append.1 hG2 with hG2 | hG2
    · obtain ⟨G0, hG0, hs0, e⟩ := h.bwd G2 hG2
      exact ⟨G0, hG0, by rw [Array.contains_push, hs0]; rfl, e⟩
    · obtain rfl := List.mem_singleton.1 hG2
      exact ⟨G, hG, by rw [Array.contains_push]; simp, rfl, hp⟩
  · rcases hfoot k hk with hk | hk
    · exact h.rne k hk
    · rw [setBlock_size] at hk
      omega
/-- The store of a group copied. -/
theorem ClSt.out {B : Nat} {w : World} {ib M mc : Nat} {gs : List MG} {ib2 M2 r : Nat} {gs2 : List MG} {mc2 : Nat} {seen : Array Nat} {X X1 Y1 : World} (h : ClSt B w ib M mc gs ib2 M2 r gs2 mc2 seen X) {G : MG} (hG : G ∈ gs) (hns : seen.contains G.born = false) (hk1 : Kept [r] X X1) (hb : Below X1.heap.size X1 Y1) (cb : Nat) :
    Y1.cell? ⟨ib2, 0, none⟩ = some (.map (some M2)) ∧ (Instr.mapUpdate 102 (.map (some M2)) (.string G.name) (.pointer (some ⟨cb, 0, none⟩))).run Tryz.prog Y1 = .ok () (Y1.putObj M2 (.map (((gs2.map MG.e) ++ [(⟨G.name, .pointer (some ⟨cb, 0, none⟩), mc2⟩ : KE ByteArray)]).map (enE ekS)).toArray (mc2 + 1))) := by
  have hib := (Array.getElem?_eq_some_iff.1 h.blk).1
  have hM2 : M2 < X.heap.size := by
    have := (h.cl.foot_lt M2 (by simp [foot])).2
    rwa [setBlock_size] at this
  have hX1 : X.heap.size ≤ X1.heap.size := hk1.size
  have hrib : ib2 ≠ r := h.rne ib2 (by simp [foot])
  have hrM : M2 ≠ r := h.rne M2 (by simp [foot])
  have hne : ib2 ≠ M2 := (apart_iff.1 h.cl.apart).1
  have hno : groupOf gs2 G.name = none := by
    cases hg : groupOf gs2 G.name with
    | none => rfl
    | some G2 =>
      exfalso
      obtain ⟨m1, m2⟩ := groupOf_mem hg
      obtain ⟨G0, hG0, hs0, hn0, _⟩ := h.bwd G2 m1
      have : G0 = G := name_inj h.rd.idx.names G0 hG0 G hG (hn0.symm.trans m2)
      rw [this, hns] at hs0
      cases hs0
  have hcell : Y1.heap[ib2]? = some (.cells #[.map (some M2), .int .i64 (total gs)] 104 (0, 0)) := by
    rw [hb.block ib2 (by omega)]
    exact (hk1.block ib2 hib (by simpa using hrib)).trans h.blk
  have hmap : MapAt ekS Y1 M2 (gs2.map MG.e) mc2 := by
    have hm := h.cl.map
    unfold MapAt at hm ⊢
    rw [heap_setBlock_ne _ _ _ _ (Ne.symm hne)] at hm
    rw [hb.block M2 (by omega), hk1.block M2 hM2 (by simpa using hrM)]
    exact hm
  refine ⟨cell_of_row Y1 ib2 0 _ _ _ hcell, ?_⟩
  refine put_new keyS Tryz.underlying102 Y1 M2 _ mc2 hmap G.name _ ?_
  have h2 := find_groups G.name gs2 0
  rw [hno] at h2
  simpa using h2
/-- At the end: an index with the same lines. -/
theorem ClSt.done {B : Nat} {w : World} {ib M mc : Nat} {gs : List MG} {ib2 M2 r : Nat} {gs2 : List MG} {mc2 : Nat} {seen : Array Nat} {W : World} (h : ClSt B w ib M mc gs ib2 M2 r gs2 mc2 seen W) (hall : ∀ G ∈ gs, seen.contains G.born = true) : IdxAt w.heap.size W ib2 M2 gs2 mc2 ∧ lfOf gs2 = lfOf gs ∧ total gs2 = total gs := by
  have hlen : ∀ {a b : List ML}, a.map (·.p) = b.map (·.p) → a.length = b.length := fun {a b} h => by
    have := congrArg List.length h
    rwa [List.length_map, List.length_map] at this
  have ht : total gs2 = total gs := by
    refine Nat.le_antisymm (total_le h.cl.names fun a ha => ?_) (total_le h.rd.idx.names fun a ha => ?_)
    · obtain ⟨G, hG, _, hn, hp⟩ := h.bwd a ha
      exact ⟨G, hG, hn.symm, (hlen hp).symm⟩
    · obtain ⟨G2, hG2, hn, hp⟩ := h.fwd a ha (hall a ha)
      exact ⟨G2, hG2, hn, hlen hp⟩
  have hib := (Array.getElem?_eq_some_iff.1 h.blk).1
  have hsame : ∀ k, W.heap[k]? = (setBlock W ib2 (.cells #[.map (some M2), .int .i64 (total gs2)] 104 (0, 0))).heap[k]? := fun k => by
    by_cases e : k = ib2
    · subst e
      rw [heap_setBlock _ _ _ hib, h.blk, ht]
    · rw [heap_setBlock_ne _ _ _ _ e]
  refine ⟨h.cl.keep (fun k _ => hsame k) (fun _ _ _ _ k _ => hsame k), ?_, ht⟩
  funext t
  unfold lfOf linesIn
  cases hg : groupOf gs t with
  | none =>
    cases hg2 : groupOf gs2 t with
    | none => rfl
    | some G2 =>
      exfalso
      obtain ⟨m1, m2⟩ := groupOf_mem hg2
      obtain ⟨G, hG, _, hn, _⟩ := h.bwd G2 m1
      exact groupOf_none hg G hG (hn.symm.trans m2)
  | some G =>
    obtain ⟨m1, m2⟩ := groupOf_mem hg
    obtain ⟨G2, hG2, hn, hp⟩ := h.fwd G m1 (hall G m1)
    have : groupOf gs2 t = some G2 := by
      rw [← m2, ← hn]
      exact groupOf_of h.cl.names hG2
    rw [this]
    exact hp

end Go.Proofs.YtdjaphcelpchaaaGreatDoor

namespace Go.Proofs.YtdjaphcelpchaaaGreatDoor
open Go Go.RowKit Go.Proofs
open Go.ChangeMaps (setBlock)

attribute [local go_sem ↓] ex_load_id ex_store_id ex_load_line ex_store_line ex_load_rline ex_store_rline ex_alloc_line ex_build_line ex_alloc_rline ex_build_rline ex_bs_line

attribute [local go_sem] ld_id st_id ld_line st_line ld_rline st_rline guard_id okCells_drew rdCells_drew okCells_drewN rdCells_drewN rowOk_drew rowOk_cells okCells_cells rdCells_cells setRow_drew setRow_new setRow_past bs_line

/-- What Clone answers. -/
def ClonePost (gs : List MG) (w : World) (r : Ending) (w' : World) : Prop := ∃ ib2 M2 gs2 mc2, r = .returned (.pointer (some ⟨ib2, 0, none⟩)) ∧ IdxAt w.heap.size w' ib2 M2 gs2 mc2 ∧ lfOf gs2 = lfOf gs ∧ total gs2 = total gs ∧ Below w.heap.size w w'

/-- In the middle of a group's copy. -/
structure CpSt (X : World) (G : MG) (k : Nat) (v : Value) (ms : List ML) (W : World) : Prop where
  bl : Below X.heap.size X W
  blk : W.heap[X.heap.size + 1]? = some (.cells #[v, .map (some X.heap.size)] 115 (0, 0))
  row : RowAt X.heap.size W v ms
  nums : MapAt ekI W X.heap.size G.nl G.nc
  ps : ms.map (·.p) = (G.ms.take k).map (·.p)
theorem RowAt.keep {A : Nat} {w w' : World} {v : Value} {ls : List ML} (h : RowAt A w v ls) (hv : ∀ k, v.ownBlock = some k → w'.heap[k]? = w.heap[k]?) (hr : ∀ m ∈ ls, ∀ k, m.v.ownBlock = some k → w'.heap[k]? = w.heap[k]?) : RowAt A w' v ls := ⟨h.lin.keep hv hr, h.apart⟩
/-- The worlds in which the copy's slice and the line's variable lie as they lie. -/
def InCp (cb lb : Nat) (v : Value) (g : GLine) : Type := { z : World // z.cell? ⟨cb, 0, none⟩ = some v ∧ okCells z ⟨lb, 0, none⟩ 38 = true ∧ rdCells z ⟨lb, 0, none⟩ 38 = lineCells g }
theorem InCp.same {cb lb : Nat} {v : Value} {g : GLine} {w w' : World} (h : w.cell? ⟨cb, 0, none⟩ = some v ∧ okCells w ⟨lb, 0, none⟩ 38 = true ∧ rdCells w ⟨lb, 0, none⟩ 38 = lineCells g) (h1 : w'.heap[cb]? = w.heap[cb]?) (h2 : w'.heap[lb]? = w.heap[lb]?) : ∃ z : InCp cb lb v g, w' = z.1 := by
  have hc : ∀ j, w'.cell? ⟨lb, j, none⟩ = w.cell? ⟨lb, j, none⟩ := fun j => by unfold World.cell?; rw [h2]
  have h3 := rd_same (w := w) (w' := w') (a := ⟨lb, 0, none⟩) (n := 38) (fun j _ => by rw [Addr.add_lit]; exact hc _)
  refine ⟨⟨w', ?_, by rw [h3.1]; exact h.2.1, by rw [h3.2]; exact h.2.2⟩, rfl⟩
  rw [← h.1]
  unfold World.cell?; rw [h1]

set_option maxRecDepth 100000 in
set_option maxHeartbeats 8000000 in
theorem cloneIdx_any (B ib M mc : Nat) (gs : List MG) (w : World) (h : IdxAt B w ib M gs mc) :
    Calls Tryz.prog 43 #[.pointer (some ⟨ib, 0, none⟩)] w fun r w' => ClonePost gs w r w' := by
  have hmm := @run_makeMap Tryz.prog
  obtain ⟨W1, hW1⟩ : ∃ W1, W1 = w.alloc (.map #[] 0) := ⟨_, rfl⟩
  have hb1 : Below w.heap.size w W1 := by rw [hW1]; exact (Below.refl _ _).alloc (Nat.le_refl _) _
  obtain ⟨W2, hW2⟩ : ∃ W2, W2 = W1.alloc (.cells #[.map (some w.heap.size), .int .i64 (total gs)] 104) := ⟨_, rfl⟩
  have hb2 : Below w.heap.size w W2 := by rw [hW2]; exact hb1.alloc hb1.size _
  have c1 := (h.below hb1).cell1
  have c0 := (h.below hb2).cell0
  have hrg := run_range_map (P := Tryz.prog) W2 102 _ _ M _ mc Tryz.underlying102 (h.below hb2).map
  have hst := ClSt.start h (W := W2.alloc (.mapIter (some M) mc #[] mc)) (by rw [hW2, hW1])
  have hs1 : W1.heap.size = w.heap.size + 1 := by rw [hW1]; simp
  have hs2 : W2.heap.size = w.heap.size + 1 + 1 := by rw [hW2]; simp [hs1]
  have HX := Lib.hid h
  have HST := Lib.hid hst
  rw [hW1] at c1
  rw [hW2, hW1] at c0 hrg
  clear h hb1 hb2 hst
  go_enter Tryz.func43, Tryz.ntmps43
  go_upto_region 5 with fail
  rw [← hW1, ← hW2]
  obtain ⟨W3, hW3⟩ : ∃ W3, W3 = W2.alloc (.mapIter (some M) mc #[] mc) := ⟨_, rfl⟩
  rw [← hW3] at HST ⊢
  have hbW : w.heap.size ≤ w.heap.size := Nat.le_refl _
  obtain ⟨n0, hn0⟩ : ∃ n0, n0 = w.heap.size := ⟨_, rfl⟩
  rw [← hn0] at HST ⊢
  have HN0 := Lib.hid hn0
  clear hW3 hW1 hW2 c1 c0 hrg hs1 hs2 hbW hmm hn0
  go_loopw [4, 5, 6, 8] (fun _ _ _ _ wr => ∃ (seen : Array Nat) (gs2 : List MG) (mc2 : Nat), Hid (ClSt B w ib M mc gs (n0 + 1) n0 (n0 + 1 + 1) gs2 mc2 seen wr)) (fun _ _ _ _ wr => leftR gs (n0 + 1 + 1) wr)
  case atStart => exact ⟨#[], [], 0, HST⟩
  case round =>
    obtain ⟨seen, gs2, mc2, HS⟩ := hrel
    have HMU := Lib.hid (leftR_eq (gs := gs) HS.out.rd.iter)
    rcases HS.out.rd.next2 0 with ⟨hall, hn⟩ | ⟨G, hG, X, hn, hk, hen, hlt, hit, hns⟩
    · have HD := Lib.hid (HS.out.done hall)
      have HBL := Lib.hid HS.out.rd.bl
      clear hall HS
      go_wp2
      go_ret
      exact ⟨n0 + 1, n0, gs2, mc2, rfl, HD.out.1, HD.out.2.1, HD.out.2.2, HBL.out⟩
    · have hn0r : n0 + 1 + 1 < wr.heap.size := (Array.getElem?_eq_some_iff.1 HS.out.rd.iter).1
      have hsx := hk.size
      have hbX : Below w.heap.size w X := HS.out.rd.bl.trans (hk.below (by rw [← HN0.out]; omega) (fun k hk => by rw [List.mem_singleton.1 hk, ← HN0.out]; omega))
      have hgx := (HX.out.below hbX).grps G hG
      have g1 := cell_of_row X G.gb 1 _ _ _ hgx.blk
      have g0 := cell_of_row X G.gb 0 _ _ _ hgx.blk
      have HMC := Lib.hid (mapsClone_any G.nb _ _ X hgx.nums)
      obtain ⟨Xa, hXa⟩ : ∃ Xa, Xa = X.alloc (.map (G.nl.map (enE ekI)).toArray G.nc) := ⟨_, rfl⟩
      obtain ⟨Xb, hXb⟩ : ∃ Xb, Xb = Xa.alloc (.cells #[.slice none 0 0, .map (some X.heap.size)] 115) := ⟨_, rfl⟩
      have hxa : X.heap.size ≤ Xa.heap.size := by rw [hXa]; simp
      have hsa : Xa.heap.size = X.heap.size + 1 := by rw [hXa]; simp
      have hba : Below X.heap.size X Xa := by rw [hXa]; exact (Below.refl _ _).alloc (Nat.le_refl _) _
      have hbb : Below X.heap.size X Xb := by rw [hXb]; exact hba.alloc hba.size _
      have HCP0 : Hid (CpSt X G 0 (.slice none 0 0) [] Xb) := Lib.hid ⟨hbb, by rw [hXb, ← hsa]; exact heap_alloc_new _ _, RowAt.nil _ _, by
        unfold MapAt
        rw [hXb, heap_alloc_old _ _ (by omega), hXa]
        exact heap_alloc_new _ _, rfl⟩
      obtain ⟨la, lc, hGv⟩ := hgx.slice
      have HGX := Lib.hid hgx
      have hgl := length_le_total hG
      have hgf := HX.out.few
      have g0b : Xb.cell? ⟨G.gb, 0, none⟩ = some G.v := (hbb.cell (block_lt_of_cell g0)).trans g0
      rw [hGv] at g0b
      have HST' : Hid (∀ (cb nb : Nat) (v : Value) (ms : List ML) (Y1 : World), Below X.heap.size X Y1 → ms.map (·.p) = G.ms.map (·.p) → Y1.heap[cb]? = some (.cells #[v, .map (some nb)] 115 (0, 0)) → LinesAt X.heap.size Y1 v ms → MapAt ekI Y1 nb G.nl G.nc → X.heap.size ≤ cb → X.heap.size ≤ nb → ClSt B w ib M mc gs (n0 + 1) n0 (n0 + 1 + 1) (gs2 ++ [cpG G mc2 cb nb v ms]) (mc2 + 1) (seen.push G.born) (Y1.putObj n0 (.map (((gs2.map MG.e) ++ [(⟨G.name, .pointer (some ⟨cb, 0, none⟩), mc2⟩ : KE ByteArray)]).map (enE ekS)).toArray (mc2 + 1)))) := Lib.hid fun cb nb v ms Y1 hb hp hcb hl hn h1 h2 => HS.out.put hG hns hk hit hb hp hcb hl hn h1 h2 rfl
      have HPUT : Hid (∀ (cb : Nat) (Y1 : World), Below X.heap.size X Y1 → Y1.cell? ⟨n0 + 1, 0, none⟩ = some (.map (some n0)) ∧ (Instr.mapUpdate 102 (.map (some n0)) (.string G.name) (.pointer (some ⟨cb, 0, none⟩))).run Tryz.prog Y1 = .ok () (Y1.putObj n0 (.map (((gs2.map MG.e) ++ [(⟨G.name, .pointer (some ⟨cb, 0, none⟩), mc2⟩ : KE ByteArray)]).map (enE ekS)).toArray (mc2 + 1)))) := Lib.hid fun cb Y1 hb => HS.out.out hG hns hk hb cb
      have HLT := Lib.hid hlt
      have HHB := Lib.hid hbX
      clear hk hit hns hlt hbX hgx HS hxa hbb hba hG g0
      have HXa := Lib.hid hXa
      have HXb := Lib.hid hXb
      rw [hXb] at g0b
      clear hXa hXb
      go_wp2_with fail
      refine HMC.out.mono ?_
      rintro r w2 ⟨rfl, hw2⟩
      rw [← HXa.out] at hw2
      subst hw2
      clear HMC
      go_upto_region 9 with fail
      rw [← HXb.out]
      have HGV := Lib.hid hGv
      have HXS : Hid (X.heap.size + 2 ≤ Xb.heap.size) := Lib.hid (by rw [HXb.out]; simp; omega)
      have hXn : n0 + 1 + 1 < X.heap.size := by omega
      clear hGv HXa HXb g0b g1 hn hen hsa
      obtain ⟨A, hA⟩ : ∃ A, A = X.heap.size := ⟨_, rfl⟩
      rw [← hA] at hXn ⊢
      have HA := Lib.hid hA
      clear hA
      obtain ⟨i0, hi0, hz0, hz1, hz2⟩ := info_parts Tryz.info_line
      go_loopw [8, 40] (fun _ i wy => ∃ (k : Nat) (v : Value) (ms : List ML), k ≤ G.ms.length ∧ i = .int .i64 k ∧ Hid (CpSt X G k v ms wy)) (fun _ i _ => G.ms.length - (intOf i).toNat)
      case atStart => exact ⟨0, _, [], Nat.zero_le _, rfl, HCP0⟩
      case round =>
        obtain ⟨k, v, ms, hk, rfl, HC⟩ := hrel
        by_cases hltk : k < G.ms.length
        · have hltz : (k : Int) < (G.ms.length : Int) := by omega
          obtain ⟨lg, cap, hlve, hlB, hll, hcell⟩ : ∃ lg cap, G.v = .slice (some ⟨lg, 0, none⟩) G.ms.length cap ∧ B ≤ lg ∧ lg < X.heap.size ∧ ∀ j (hj : j < G.ms.length) i u, (lineList G.ms[j].g)[i]? = some u → X.cell? ⟨lg, j * 38 + i, none⟩ = some u := by
            rcases HGX.out.lines.head with ⟨_, e⟩ | ⟨lg, cap, h1, h2, h3, _, _, h4⟩
            · rw [e] at hltk; cases hltk
            · exact ⟨lg, cap, h1, h2, h3, h4⟩
          rw [HGV.out] at hlve
          cases hlve
          obtain ⟨o1, d1⟩ := lineAt_rd (w := wr) (g := lg) (off := k * 38) (l := G.ms[k].g) (fun i u hu => (HC.out.bl.cell (p := ⟨lg, k * 38 + i, none⟩) hll).trans (hcell k hltk i u hu))
          have hmem : G.ms[k] ∈ G.ms := List.getElem_mem hltk
          have hrl := refs_len (HGX.out.good _ hmem)
          have HRF := Lib.hid ((HGX.out.lines.refs _ hmem).below HC.out.bl)
          have HTK : Hid ((G.ms.take (k + 1)).map (·.p) = (G.ms.take k).map (·.p) ++ [G.ms[k].p]) := Lib.hid (by rw [List.take_succ_eq_append_getElem hltk, List.map_append]; rfl)
          have hmsk : ms.length = k := by
            have := congrArg List.length HC.out.ps
            rw [List.length_map, List.length_map, List.length_take] at this
            omega
          generalize G.ms[k] = m at o1 d1 hrl HRF HTK
          obtain ⟨va, vn, vc, hve⟩ : ∃ a n c, v = .slice a n c := own_slice HC.out.row.lin.row
          subst hve
          have hone := HRF.out.one
          have hft := fits_line (g := m.g) hone
          have hzs : ((lineCells zeroLine).size == 38) = true := by rw [lineCells_size]; rfl
          obtain ⟨W1, hW1⟩ : ∃ W1, W1 = wr.alloc (.cells (lineCells m.g) 34) := ⟨_, rfl⟩
          have hbW1 : Below wr.heap.size wr W1 := by rw [hW1]; exact (Below.refl _ _).alloc (Nat.le_refl _) _
          have hLV : LineVar W1 wr.heap.size m.g := by rw [hW1]; exact heap_alloc_new _ _
          have hblk1 : W1.heap[X.heap.size + 1]? = some (.cells #[.slice va vn vc, .map (some X.heap.size)] 115 (0, 0)) := (hbW1.block _ (Array.getElem?_eq_some_iff.1 HC.out.blk).1).trans HC.out.blk
          have hcbl : X.heap.size + 1 < wr.heap.size := (Array.getElem?_eq_some_iff.1 HC.out.blk).1
          have hbase : W1.drew.cell? ⟨A + 1, 0, none⟩ = some (.slice va vn vc) ∧ okCells W1.drew ⟨wr.heap.size, 0, none⟩ 38 = true ∧ rdCells W1.drew ⟨wr.heap.size, 0, none⟩ 38 = lineCells m.g := by
            rw [HA.out]
            exact ⟨cell_of_row W1 (X.heap.size + 1) 0 _ _ _ hblk1, hLV.rd.1, hLV.rd.2⟩
          haveI : Nonempty (InCp (A + 1) wr.heap.size (.slice va vn vc) m.g) := ⟨⟨_, hbase⟩⟩
          have z1 : ∀ z : InCp (A + 1) wr.heap.size (.slice va vn vc) m.g, z.1.cell? ⟨A + 1, 0, none⟩ = some (.slice va vn vc) := fun z => z.2.1
          have z2 : ∀ z : InCp (A + 1) wr.heap.size (.slice va vn vc) m.g, okCells z.1 ⟨wr.heap.size, 0, none⟩ 38 = true := fun z => z.2.2.1
          have z3 : ∀ z : InCp (A + 1) wr.heap.size (.slice va vn vc) m.g, rdCells z.1 ⟨wr.heap.size, 0, none⟩ 38 = lineCells m.g := fun z => z.2.2.2
          have HW1 := Lib.hid hW1
          have HBASE := Lib.hid hbase
          have HBW1 := Lib.hid hbW1
          clear hW1 hLV hblk1 hbase hcell hbW1
          go_upto_region 11 with fail
          rw [← HW1.out]
          refine wp_region_mix0 [0, 1, 2, 3, 4, 5] [6, 7, 8, 9, 10, 11] (fun w' => ∃ z : InCp (A + 1) wr.heap.size (.slice va vn vc) m.g, w' = z.1) (by kernel_rfl) (by kernel_rfl) (by kernel_rfl) ⟨⟨_, HBASE.out⟩, rfl⟩ ?_
          simp only [opsAt, List.map_cons, List.map_nil, Array.getD_eq_getD_getElem?, List.getElem?_toArray, List.getElem?_cons_zero, List.getElem?_cons_succ, Option.getD_some]
          repeat (go_big_quiet_step (fail))
          refine wpQuiet_nil ?_
          clear z1 z2 z3 o1 d1
          have hbd : Below wr.heap.size wr W1.drew := HBW1.out.drew
          have hsd : wr.heap.size < W1.drew.heap.size := by rw [HW1.out]; simp [World.drew]
          generalize W1.drew = Wd at HBASE hbd hsd ⊢
          have HBD := Lib.hid hbd
          have hcd : A + 1 < wr.heap.size := by rw [HA.out]; exact hcbl
          have HCL := Lib.hid (clone_any B m.g m.p.ids Wd (HRF.out.below hbd) (by omega))
          clear hbd HBW1 HW1 HRF
          refine wpR_at true (by kernel_rfl) (by kernel_rfl) ?_
          simp only [opsAt, List.map_cons, List.map_nil, Array.getD_eq_getD_getElem?, List.getElem?_toArray, List.getElem?_cons_zero, List.getElem?_cons_succ, Option.getD_some]
          go_wp2_with fail
          refine HCL.out.mono ?_
          rintro r w2 ⟨v', rfl, hI2, hb2⟩
          obtain ⟨x, hx⟩ : ∃ x : ML, x = ⟨m.p, v'⟩ := ⟨_, rfl⟩
          have hxg : ({ m.g with refs := v' } : GLine) = x.g := by rw [hx]; rfl
          have hxp : x.p = m.p := by rw [hx]
          have hxv : x.v = v' := by rw [hx]
          rw [hxg]
          have HI2 : Hid (IdsOwn Wd.heap.size w2 x.v x.p.ids) := Lib.hid (by rw [hxp, hxv]; exact hI2)
          have HXP := Lib.hid hxp
          have honex : ∀ u ∈ lineList x.g, u.oneCell' = true := lineList_one (g := x.g) (by show x.v.oneCell' = true; exact HI2.out.one)
          have HONEX := Lib.hid honex
          have HB2 : Hid (Below wr.heap.size wr w2) := Lib.hid (HBD.out.trans (hb2.mono HBD.out.size))
          have HC2 : Hid (∃ z : InCp (A + 1) wr.heap.size (.slice va vn vc) m.g, w2 = z.1) := Lib.hid (InCp.same HBASE.out (hb2.block _ (by omega)) (hb2.block _ (by omega)))
          have hs2 : Wd.heap.size ≤ w2.heap.size := hb2.size
          clear hI2 hb2 hx hxg hxp hxv honex HCL
          go_wp2_with fail
          refine ⟨fun _ => HC2.out, wpR_at true (by kernel_rfl) (by kernel_rfl) ?_⟩
          simp only [opsAt, List.map_cons, List.map_nil, Array.getD_eq_getD_getElem?, List.getElem?_toArray, List.getElem?_cons_zero, List.getElem?_cons_succ, Option.getD_some]
          go_wp2_with fail
          have hal : Below w2.heap.size w2 (w2.alloc (.cells (lineCells x.g) 34)) := (Below.refl _ _).alloc (Nat.le_refl _) _
          have hb3 : Below wr.heap.size wr (w2.alloc (.cells (lineCells x.g) 34)) := HB2.out.alloc HB2.out.size _
          have hc3 : ∃ z : InCp (A + 1) wr.heap.size (.slice va vn vc) m.g, w2.alloc (.cells (lineCells x.g) 34) = z.1 := by
            obtain ⟨z, hz⟩ := HC2.out
            refine InCp.same (w := w2) ?_ (heap_alloc_old _ _ (by omega)) (heap_alloc_old _ _ (by omega))
            rw [hz]
            exact z.2
          have HC3 := Lib.hid hc3
          have HB3 := Lib.hid hb3
          have hnew : ∀ j, (w2.alloc (.cells (lineCells x.g) 34)).cell? ⟨w2.heap.size, j, none⟩ = (lineCells x.g)[j]? := fun j => cells_new _ _ _ j
          have HNEW := Lib.hid hnew
          have HIX := Lib.hid (HI2.out.below hal)
          have hs3 : (w2.alloc (.cells (lineCells x.g) 34)).heap.size = w2.heap.size + 1 := by simp
          generalize w2.alloc (.cells (lineCells x.g) 34) = w3 at HC3 HB3 HNEW HIX hs3 ⊢
          clear hal hb3 hc3 hnew
          refine ⟨fun _ => HC3.out, wpR_at true (by kernel_rfl) (by kernel_rfl) ?_⟩
          simp only [opsAt, List.map_cons, List.map_nil, Array.getD_eq_getD_getElem?, List.getElem?_toArray, List.getElem?_cons_zero, List.getElem?_cons_succ, Option.getD_some]
          have hrow3 : RowAt X.heap.size w3 (.slice va vn vc) ms := ⟨HC.out.row.lin.below HB3.out, HC.out.row.apart⟩
          have HROW3 := Lib.hid hrow3
          have hown := hrow3.lin.row
          rw [hmsk] at hown
          have hrs : X.heap.size ≤ wr.heap.size := HC.out.bl.size
          refine wpList_append_own _ rfl (.tmp 48) (.tmp 51) 107 rfl X.heap.size 34 i0 (.agg (lineCells zeroLine)) 38 112 Tryz.underlying107 hi0 hz0 hz1 hz2 (lineCells_size _) (by decide) _ _ _ rfl hown ⟨w2.heap.size, 0, none⟩ 1 1 (lineList x.g) rfl (lineList_length _) ?c1 HONEX.out ?c3 ?c4 ?c5 ?_
          case c1 =>
            intro j u hj
            rw [Addr.add_lit, Nat.zero_add, HNEW.out]
            unfold lineCells
            rw [List.getElem?_toArray]
            exact hj
          case c3 => unfold maxLen; omega
          case c4 => omega
          case c5 => omega
          intro v2 w4 hown4 hgr4 _
          have hty : ∀ k, (Value.slice va vn vc).ownBlock = some k → ∃ c, w3.heap[k]? = some (.cells c 34 (0, 0)) := fun k hk => ownsRow_typed hown hk
          have hb4 : Below wr.heap.size wr w4 ∨ True := .inr trivial
          have hgrow : ∀ k, k < w3.heap.size → (Value.slice va vn vc).ownBlock ≠ some k → w4.heap[k]? = w3.heap[k]? := fun k hk hne => hgr4.block k hk (fun e => hne e.symm)
          have hcbT : w3.heap[X.heap.size + 1]? = some (.cells #[.slice va vn vc, .map (some X.heap.size)] 115 (0, 0)) := (HB3.out.block _ hcbl).trans HC.out.blk
          have hcbn : (Value.slice va vn vc).ownBlock ≠ some (X.heap.size + 1) := fun e => by
            obtain ⟨c, hc⟩ := hty _ e
            rw [hcbT] at hc
            exact absurd (cells_ty hc) (by decide)
          have hlbT : (Value.slice va vn vc).ownBlock ≠ some wr.heap.size := fun e => by
            have := (World.ownsRow.lt HC.out.row.lin.row _ e).2
            omega
          have hnbn : (Value.slice va vn vc).ownBlock ≠ some X.heap.size := fun e => by
            obtain ⟨c, hc⟩ := hty _ e
            have hm := HC.out.nums
            unfold MapAt at hm
            rw [HB3.out.block _ (by omega), hm] at hc
            cases hc
          have hC4 : ∃ z : InCp (A + 1) wr.heap.size (.slice va vn vc) m.g, w4 = z.1 := by
            obtain ⟨z, hz⟩ := HC3.out
            refine InCp.same (w := w3) (by rw [hz]; exact z.2) (hgrow _ (by omega) (by rw [HA.out]; exact hcbn)) (hgrow _ (by omega) hlbT)
          have hblk4 : w4.heap[A + 1]? = some (.cells #[.slice va vn vc, .map (some X.heap.size)] 115 (0, 0)) := by
            rw [HA.out]
            exact (hgrow _ (by omega) hcbn).trans hcbT
          have hrow4 : RowAt X.heap.size w4 v2 (ms ++ [x]) := by
            have hrowd : RowAt X.heap.size Wd (.slice va vn vc) ms := ⟨HC.out.row.lin.below HBD.out, HC.out.row.apart⟩
            refine hrowd.snoc (by rw [hmsk]; exact hown4) (fun y hy => ids_grown (HROW3.out.lin.refs y hy) hgr4 hty) (ids_grown (HIX.out.mono (by omega)) hgr4 hty) (fun k hk => (HI2.out.lt hk).1)
          have hbl4 : Below X.heap.size X w4 := (HC.out.bl.trans (HB3.out.mono hrs)).grown hgr4 (by omega) (fun j hj => (World.ownsRow.lt HC.out.row.lin.row j hj).1)
          obtain ⟨v2a, v2n, v2c, hve⟩ : ∃ a n c, v2 = .slice a n c := own_slice hown4
          subst hve
          have hq1 := cell_of_row w4 (A + 1) 0 _ _ _ hblk4
          have hq2 := frozen_of_row w4 (A + 1) 0 _ _ hblk4
          have HNX : Hid (CpSt X G (k + 1) (.slice v2a v2n v2c) (ms ++ [x]) (w4.setCell ⟨A + 1, 0, none⟩ (.slice v2a v2n v2c))) := Lib.hid (by
            have ho : ∀ j, j ≠ A + 1 → (w4.setCell ⟨A + 1, 0, none⟩ (.slice v2a v2n v2c)).heap[j]? = w4.heap[j]? := fun j hj => heap_setCell_other w4 ⟨A + 1, 0, none⟩ j _ hj
            have hcs := heap_setCell_same w4 (A + 1) 0 _ _ (.slice v2a v2n v2c) hblk4
            refine ⟨hbl4.setCell (p := ⟨A + 1, 0, none⟩) (by show _ ≤ A + 1; rw [HA.out]; omega) _, by rw [← HA.out] at hcs ⊢; exact hcs, hrow4.keep (fun j hj => ho j fun e => ?_) (fun y hy j hj => ho j fun e => ?_), ?_, ?_⟩
            · obtain ⟨c, hc⟩ := ownsRow_typed hrow4.lin.row hj
              rw [e, hblk4] at hc
              exact absurd (cells_ty hc) (by decide)
            · obtain ⟨c, hc⟩ := (hrow4.lin.refs y hy).typed hj
              rw [e, hblk4] at hc
              exact absurd (cells_ty hc) (by decide)
            · unfold MapAt
              rw [ho _ (by rw [HA.out]; omega), hgrow _ (by omega) hnbn, HB3.out.block _ (by omega)]
              exact HC.out.nums
            · rw [HTK.out, List.map_append, HC.out.ps]
              simp [HXP.out])
          have HC4 := Lib.hid hC4
          clear hown4 hgr4 hty hgrow hcbT hcbn hlbT hnbn hC4 hblk4 hrow4 hbl4 hown hrow3 HC HC3 HB3 HIX HNEW HROW3 HI2 hb4
          go_wp2_with fail
          refine ⟨fun _ => HC4.out, wpR_list [9, 10, 11] _ _ (by kernel_rfl) ?_⟩
          simp only [opsAt, List.map_cons, List.map_nil, Array.getD_eq_getD_getElem?, List.getElem?_toArray, List.getElem?_cons_zero, List.getElem?_cons_succ, Option.getD_some]
          go_wp2
          refine NoPanic.normal ?_
          go_wp2
          go_roundw
          case rel => exact ⟨k + 1, _, _, by omega, by go_num, HNX⟩
          case measure => simp [intOf]; omega
        · have hltz : ¬ (k : Int) < (G.ms.length : Int) := by omega
          have hps : ms.map (·.p) = G.ms.map (·.p) := by
            have := HC.out.ps
            rwa [List.take_of_length_le (by omega)] at this
          have HSN := Lib.hid (HST'.out (X.heap.size + 1) X.heap.size v ms wr HC.out.bl hps HC.out.blk HC.out.row.lin HC.out.nums (by omega) (Nat.le_refl _))
          obtain ⟨p1, p2⟩ := HPUT.out (X.heap.size + 1) wr HC.out.bl
          rw [← HA.out] at p2 HSN
          generalize (Obj.map (((gs2.map MG.e) ++ [(⟨G.name, .pointer (some ⟨A + 1, 0, none⟩), mc2⟩ : KE ByteArray)]).map (enE ekS)).toArray (mc2 + 1)) = O at p2 HSN
          clear HC hps HST' HPUT HCP0
          go_wp2
          go_roundw
          case rel => exact ⟨_, _, _, HSN⟩
          case measure =>
            rw [HMU.out, leftR_eq HSN.out.rd.iter]
            exact HLT.out

end Go.Proofs.YtdjaphcelpchaaaGreatDoor

namespace Go.Proofs.YtdjaphcelpchaaaGreatDoor
open Go Go.RowKit Go.Proofs

attribute [local go_sem ↓] ex_load_id ex_store_id ex_load_line ex_store_line ex_load_rline ex_store_rline ex_alloc_line ex_build_line ex_alloc_rline ex_build_rline ex_load_op

attribute [local go_sem] ld_id st_id ld_line st_line ld_rline st_rline guard_id okCells_drew rdCells_drew okCells_drewN rdCells_drewN rowOk_drew rowOk_cells okCells_cells rdCells_cells setRow_drew setRow_new setRow_past ld_op

/-- What Build answers. -/
def BuildPost (w0 : World) (n : Nat) (r : Ending) (w' : World) : Prop := ∃ ib M gs mc v' rs, r = .returned (.tuple #[.pointer (some ⟨ib, 0, none⟩), v', .bool true]) ∧ PlaySt w0 ib M gs mc v' rs n w'

set_option maxRecDepth 100000 in
set_option maxHeartbeats 8000000 in
/-- w0: the world in which the operations were handed over. -/
theorem build_any (v : Value) (os : List MO) (w0 w : World) (hG : Gl w0) (h : OpsAt w0 v os) (hb : Below w0.heap.size w0 w) (hfit : fitsB os = true) :
    Calls Tryz.prog 28 #[v] w fun r w' => BuildPost w0 os.length r w' := by
  obtain ⟨a, c, rfl, hc, hr⟩ := h.row
  have hfew := h.few
  have HX := Lib.hid h
  have HG := Lib.hid hG
  unfold fitsB at hfit
  rw [Bool.and_eq_true, decide_eq_true_eq, List.all_eq_true] at hfit
  obtain ⟨h40, hsm⟩ := hfit
  have HSM := Lib.hid hsm
  have HP0 := Lib.hid (PlaySt.start hb)
  clear h hG hsm hb
  go_enter Tryz.func28, Tryz.ntmps28
  go_wp2_with fail
  refine (new_any w).mono ?_
  rintro r w3 ⟨rfl, hw3⟩
  rw [hw3] at HP0
  obtain ⟨M, hM⟩ : ∃ M, M = w.heap.size := ⟨_, rfl⟩
  rw [← hM] at HP0 ⊢
  clear hw3 hM
  go_wp2
  go_loopw [6, 7, 8] (fun wv ok i wr => ∃ (k : Nat) (gs : List MG) (mc : Nat) (rs : List MR), k ≤ os.length ∧ i = .int .i64 k ∧ ok = .bool true ∧ Hid (PlaySt w0 (M + 1) M gs mc wv rs k wr)) (fun _ _ i _ => os.length - (intOf i).toNat)
  case atStart => exact ⟨0, [], 0, [], by omega, rfl, rfl, HP0⟩
  case round =>
    obtain ⟨k, gs, mc, rs, hk, rfl, rfl, HP⟩ := hrel
    by_cases hlt : k < os.length
    · have hltz : (k : Int) < (os.length : Int) := by omega
      have hne : os ≠ [] := fun e => by rw [e] at hlt; cases hlt
      obtain ⟨b, off, rfl, hbl, hcell⟩ := hr hne
      obtain ⟨o1, d1⟩ := opAt_rd (w := wr) (b := b) (off := off) (os := os) (fun j hj i u hu => (HP.out.bl.cell (p := ⟨b, off + j * 40 + i, none⟩) hbl).trans (hcell j hj i u hu)) hlt
      have hmem : os[k] ∈ os := List.getElem_mem hlt
      have hsm := HSM.out _ hmem
      unfold smallB at hsm
      rw [Bool.and_eq_true, decide_eq_true_eq, decide_eq_true_eq] at hsm
      have hkind := HX.out.kind _ hmem
      have hids := HX.out.ids _ hmem
      have hnm := HX.out.names _ hmem
      have htot := HP.out.tot
      have hlen := HP.out.len
      have HD := Lib.hid (do_any w0.heap.size w0.heap.size (M + 1) M mc gs u6 rs os[k].k os[k].s os[k].m.p os[k].m.v wr hkind (HG.out.later HP.out.bl) HP.out.idx HP.out.refs HP.out.bl.size HP.out.rel HP.out.ord (by omega) ⟨hids.below HP.out.bl, by unfold maxLen; omega, Nat.le_trans hnm.2.1 (Nat.div_le_self _ _), Nat.le_trans hnm.2.2 (Nat.div_le_self _ _)⟩ (by omega) (by omega) (by omega))
      have HID := Lib.hid hids
      generalize os[k] = o at o1 d1 HD HID
      clear hsm hkind hids hnm hmem htot hlen hcell
      go_wp2_with fail
      refine HD.out.mono ?_
      rintro r w4 ⟨gs', mc', v', rs', hd⟩
      have hret := hd.ret
      subst hret
      have HP4 := Lib.hid (HP.out.next HID.out hd)
      clear hd HD HP o1 d1
      go_wp2
      go_roundw
      case rel => exact ⟨k + 1, gs', mc', rs', by omega, by go_num, rfl, HP4⟩
      case measure => simp [intOf]; omega
    · obtain rfl : k = os.length := by omega
      go_wp2
      refine bodyPost_ret (results_tmp3 rfl _ _ _) rfl ?_
      exact ⟨M + 1, M, gs, mc, _, rs, rfl, HP.out⟩

end Go.Proofs.YtdjaphcelpchaaaGreatDoor

namespace Go.Proofs.YtdjaphcelpchaaaGreatDoor
open Go Go.RowKit Go.Proofs

/-- Two lists of blocks that share nothing. -/
def ApartF (F F' : List Nat) : Prop := ∀ k ∈ F, k ∉ F'
theorem ApartF.symm {F F' : List Nat} (h : ApartF F F') : ApartF F' F := fun k hk hk' => h k hk' hk
theorem ApartF.grow {F F' F2 : List Nat} {w : World} (ha : ApartF F F2) (hf : FootOk F F' w) (hlt : ∀ k ∈ F2, k < w.heap.size) : ApartF F' F2 := fun k hk h2 => by
  rcases hf k hk with h | h
  · exact ha k h h2
  · have := hlt k h2; omega
/-- An index stays while another one changes. -/
theorem IdxAt.beside {B B' : Nat} {w w' : World} {ib M mc ib' M' mc' : Nat} {gs gs' : List MG} (h : IdxAt B w ib M gs mc) (h' : IdxAt B' w ib' M' gs' mc') (ha : ApartF (foot ib M gs) (foot ib' M' gs')) (hk : Kept (foot ib' M' gs') w w') : IdxAt B w' ib M gs mc :=
  h.keep (fun k hk' => hk.block k (h.foot_lt k hk').2 (ha k hk')) fun G hG m hm k hk' => by
    have hr := (h.grps G hG).lines.refs m hm
    refine hk.block k (hr.lt hk').2 ?_
    obtain ⟨c, hc⟩ := hr.typed hk'
    exact h'.not_id hc

theorem rel_eqG {B1 B2 ib1 ib2 M1 M2 mc1 mc2 : Nat} {gs1 gs2 : List MG} {w1 w2 : World} (h1 : IdxAt B1 w1 ib1 M1 gs1 mc1) (h2 : IdxAt B2 w2 ib2 M2 gs2 mc2) {rs : List MR} (ho : ordR rs) (r1 : RelR gs1 rs) (r2 : RelR gs2 rs) : eqG gs1 gs2 = true :=
  (eqG_iff h1 h2).2 fun t => (rel_lines h1 r1 ho t).trans (rel_lines h2 r2 ho t).symm
end Go.Proofs.YtdjaphcelpchaaaGreatDoor

namespace Go.Proofs.YtdjaphcelpchaaaGreatDoor
open Go Go.RowKit Go.Proofs

set_option maxRecDepth 100000 in
theorem slots127 (t : Array Value) (h : t.size = 127) : ∃ f : Nat → Value, (∀ k, f k = t.getD k undef) ∧ t = #[f 0, f 1, f 2, f 3, f 4, f 5, f 6, f 7, f 8, f 9, f 10, f 11, f 12, f 13, f 14, f 15, f 16, f 17, f 18, f 19, f 20, f 21, f 22, f 23, f 24, f 25, f 26, f 27, f 28, f 29, f 30, f 31, f 32, f 33, f 34, f 35, f 36, f 37, f 38, f 39, f 40, f 41, f 42, f 43, f 44, f 45, f 46, f 47, f 48, f 49, f 50, f 51, f 52, f 53, f 54, f 55, f 56, f 57, f 58, f 59, f 60, f 61, f 62, f 63, f 64, f 65, f 66, f 67, f 68, f 69, f 70, f 71, f 72, f 73, f 74, f 75, f 76, f 77, f 78, f 79, f 80, f 81, f 82, f 83, f 84, f 85, f 86, f 87, f 88, f 89, f 90, f 91, f 92, f 93, f 94, f 95, f 96, f 97, f 98, f 99, f 100, f 101, f 102, f 103, f 104, f 105, f 106, f 107, f 108, f 109, f 110, f 111, f 112, f 113, f 114, f 115, f 116, f 117, f 118, f 119, f 120, f 121, f 122, f 123, f 124, f 125, f 126] := ⟨fun k => t.getD k undef, fun _ => rfl, (tmps_range t 127 h).trans rfl⟩
/-- What the slots hold at the first loop. -/
structure CSl (t : Array Value) (v0 v1 : Value) (ib : Nat) (wv : Value) (ib2 pb pc i : Nat) : Prop where
  size : t.size = 127
  s0 : t.getD 0 undef = v0
  s1 : t.getD 1 undef = v1
  s5 : t.getD 5 undef = .pointer (some ⟨ib, 0, none⟩)
  s6 : t.getD 6 undef = wv
  s7 : t.getD 7 undef = .bool true
  s8 : t.getD 8 undef = .pointer (some ⟨ib2, 0, none⟩)
  s51 : t.getD 51 undef = .slice (some ⟨pb, 0, none⟩) 3 pc
  s52 : t.getD 52 undef = .int .i64 3
  s53 : t.getD 53 undef = .int .i64 i
set_option maxRecDepth 100000 in
theorem CSl.out {t : Array Value} {v0 v1 : Value} {ib : Nat} {wv : Value} {ib2 pb pc i : Nat} (h : CSl t v0 v1 ib wv ib2 pb pc i) : ∃ f : Nat → Value, (∀ k, f k = t.getD k undef) ∧ t = #[v0, v1, f 2, f 3, f 4, .pointer (some ⟨ib, 0, none⟩), wv, .bool true, .pointer (some ⟨ib2, 0, none⟩), f 9, f 10, f 11, f 12, f 13, f 14, f 15, f 16, f 17, f 18, f 19, f 20, f 21, f 22, f 23, f 24, f 25, f 26, f 27, f 28, f 29, f 30, f 31, f 32, f 33, f 34, f 35, f 36, f 37, f 38, f 39, f 40, f 41, f 42, f 43, f 44, f 45, f 46, f 47, f 48, f 49, f 50, .slice (some ⟨pb, 0, none⟩) 3 pc, .int .i64 3, .int .i64 i, f 54, f 55, f 56, f 57, f 58, f 59, f 60, f 61, f 62, f 63, f 64, f 65, f 66, f 67, f 68, f 69, f 70, f 71, f 72, f 73, f 74, f 75, f 76, f 77, f 78, f 79, f 80, f 81, f 82, f 83, f 84, f 85, f 86, f 87, f 88, f 89, f 90, f 91, f 92, f 93, f 94, f 95, f 96, f 97, f 98, f 99, f 100, f 101, f 102, f 103, f 104, f 105, f 106, f 107, f 108, f 109, f 110, f 111, f 112, f 113, f 114, f 115, f 116, f 117, f 118, f 119, f 120, f 121, f 122, f 123, f 124, f 125, f 126] := by
  obtain ⟨f, hf, hft⟩ := slots127 t h.size
  refine ⟨f, hf, ?_⟩
  have e0 := (hf 0).trans h.s0
  have e1 := (hf 1).trans h.s1
  have e5 := (hf 5).trans h.s5
  have e6 := (hf 6).trans h.s6
  have e7 := (hf 7).trans h.s7
  have e8 := (hf 8).trans h.s8
  have e51 := (hf 51).trans h.s51
  have e52 := (hf 52).trans h.s52
  have e53 := (hf 53).trans h.s53
  rw [← e0, ← e1, ← e5, ← e6, ← e7, ← e8, ← e51, ← e52, ← e53]
  exact hft
/-- What a round's body needs of the slots. -/
structure YSl (t : Array Value) (yb : Nat) : Prop where
  size : t.size = 127
  s11 : t.getD 11 undef = .pointer (some ⟨yb, 0, none⟩)
set_option maxRecDepth 100000 in
theorem YSl.out {t : Array Value} {yb : Nat} (h : YSl t yb) : ∃ f : Nat → Value, (∀ k, f k = t.getD k undef) ∧ t = #[f 0, f 1, f 2, f 3, f 4, f 5, f 6, f 7, f 8, f 9, f 10, .pointer (some ⟨yb, 0, none⟩), f 12, f 13, f 14, f 15, f 16, f 17, f 18, f 19, f 20, f 21, f 22, f 23, f 24, f 25, f 26, f 27, f 28, f 29, f 30, f 31, f 32, f 33, f 34, f 35, f 36, f 37, f 38, f 39, f 40, f 41, f 42, f 43, f 44, f 45, f 46, f 47, f 48, f 49, f 50, f 51, f 52, f 53, f 54, f 55, f 56, f 57, f 58, f 59, f 60, f 61, f 62, f 63, f 64, f 65, f 66, f 67, f 68, f 69, f 70, f 71, f 72, f 73, f 74, f 75, f 76, f 77, f 78, f 79, f 80, f 81, f 82, f 83, f 84, f 85, f 86, f 87, f 88, f 89, f 90, f 91, f 92, f 93, f 94, f 95, f 96, f 97, f 98, f 99, f 100, f 101, f 102, f 103, f 104, f 105, f 106, f 107, f 108, f 109, f 110, f 111, f 112, f 113, f 114, f 115, f 116, f 117, f 118, f 119, f 120, f 121, f 122, f 123, f 124, f 125, f 126] := by
  obtain ⟨f, hf, hft⟩ := slots127 t h.size
  refine ⟨f, hf, ?_⟩
  have e11 := (hf 11).trans h.s11
  rw [← e11]
  exact hft

/-- The text of the reference's list tells whether two indexes are equal. -/
theorem lf_rs {B ib M mc : Nat} {gs : List MG} {w : World} (h : IdxAt B w ib M gs mc) {rs : List MR} (hr : RelR gs rs) (ho : ordR rs) : lfOf gs = fun t => (ofR rs t).map (·.m.p) := funext fun t => rel_lines h hr ho t
theorem names_rs {B ib M mc : Nat} {gs : List MG} {w : World} (h : IdxAt B w ib M gs mc) {rs : List MR} (hr : RelR gs rs) (ho : ordR rs) (t : ByteArray) : t ∈ groupsR rs ↔ ∃ G ∈ gs, G.name = t := by
  rw [lf_names h, lf_rs h hr ho, (groupsR_ok rs ho).2.1 t]
  simp only [Ne, List.map_eq_nil_iff]
  constructor
  · rintro ⟨r, hr, hs⟩ e
    have : r ∈ ofR rs t := ofR_mem.2 ⟨hr, hs⟩
    rw [e] at this
    cases this
  · intro hne
    cases hx : ofR rs t with
    | nil => exact absurd hx hne
    | cons r l =>
      have : r ∈ ofR rs t := by rw [hx]; simp
      exact ⟨r, (ofR_mem.1 this).1, (ofR_mem.1 this).2⟩
theorem eq_texts {B1 B2 ib1 ib2 M1 M2 mc1 mc2 : Nat} {gs1 gs2 : List MG} {w1 w2 : World} (h1 : IdxAt B1 w1 ib1 M1 gs1 mc1) (h2 : IdxAt B2 w2 ib2 M2 gs2 mc2) {rs1 rs2 : List MR} (r1 : RelR gs1 rs1) (r2 : RelR gs2 rs2) (o1 : ordR rs1) (o2 : ordR rs2) : eqG gs1 gs2 = decide (refTxt rs1 rs1.length = refTxt rs2 rs2.length) := by
  have e1 := lf_rs h1 r1 o1
  have e2 := lf_rs h2 r2 o2
  have t1 : refTxt rs1 rs1.length = encTxt (lfOf gs1) (groupsR rs1) := by rw [e1]; exact refTxt_enc o1
  have t2 : refTxt rs2 rs2.length = encTxt (lfOf gs2) (groupsR rs2) := by rw [e2]; exact refTxt_enc o2
  have n1 := (groupsR_ok rs1 o1).1
  have n2 := (groupsR_ok rs2 o2).1
  rw [Bool.eq_iff_iff, eqG_iff h1 h2, decide_eq_true_eq, t1, t2]
  constructor
  · intro h
    have hl : lfOf gs1 = lfOf gs2 := funext h
    have hn : groupsR rs1 = groupsR rs2 := ordN_ext n1 n2 fun t => by rw [names_rs h1 r1 o1, names_rs h2 r2 o2, lf_names h1, lf_names h2, hl]
    rw [hl, hn]
  · intro h
    have := idx_inj h1 h2 n1 (names_rs h1 r1 o1) n2 (names_rs h2 r2 o2) h
    exact fun t => congrFun this t
theorem IdxAt.not_mark {B : Nat} {w : World} {ib M mc : Nat} {gs : List MG} (h : IdxAt B w ib M gs mc) {D : Nat} (hD : w.heap[D]? = some (.deferred (some []))) : D ∉ foot ib M gs := fun hf => by
  unfold foot at hf
  simp only [List.mem_cons, List.mem_flatMap] at hf
  rcases hf with rfl | rfl | ⟨G, hG, hk⟩
  · rw [h.blk] at hD; cases hD
  · have := h.map
    unfold MapAt at this
    rw [this] at hD; cases hD
  · unfold MG.foot at hk
    simp only [List.mem_append, List.mem_cons, List.mem_nil_iff, or_false, Option.mem_toList] at hk
    rcases hk with (rfl | rfl) | hk
    · rw [(h.grps G hG).blk] at hD; cases hD
    · have := (h.grps G hG).nums
      unfold MapAt at this
      rw [this] at hD; cases hD
    · obtain ⟨c, hc⟩ := ownsRow_typed (h.grps G hG).lines.row hk
      rw [hc] at hD; cases hD

/-- The first bytes of identities in a block. -/
structure Bytes0 (w : World) (rb n : Nat) : Prop where
  blk : ∃ cur, w.heap[rb]? = some (.cells cur 23 (0, 0)) ∧ ∀ j, j < n → ∃ z : Int, cur[j * 32]? = some (.int .u8 z)
theorem Bytes0.cell {w : World} {rb n : Nat} (h : Bytes0 w rb n) {j : Nat} (hj : j < n) : ∃ z : Int, w.cell? ⟨rb, j * 32, none⟩ = some (.int .u8 z) := by
  obtain ⟨cur, h1, h2⟩ := h.blk
  obtain ⟨z, hc⟩ := h2 j hj
  exact ⟨z, (cell_of_row w rb (j * 32) _ _ _ h1).trans hc⟩
theorem Bytes0.free {w : World} {rb n : Nat} (h : Bytes0 w rb n) (j : Nat) : w.frozen? ⟨rb, j, none⟩ = false := by
  obtain ⟨cur, h1, _⟩ := h.blk
  exact frozen_of_row w rb j _ _ h1
theorem Bytes0.set {w : World} {rb n : Nat} (h : Bytes0 w rb n) (k : Nat) (z : Int) : Bytes0 (w.setCell ⟨rb, k * 32, none⟩ (.int .u8 z)) rb n := by
  obtain ⟨cur, h1, h2⟩ := h.blk
  refine ⟨_, heap_setCell_same w rb (k * 32) _ _ _ h1, fun j hj => ?_⟩
  obtain ⟨z0, hc⟩ := h2 j hj
  by_cases e : j = k
  · subst e
    refine ⟨z, ?_⟩
    have := (Array.getElem?_eq_some_iff.1 hc).1
    simp [this]
  · refine ⟨z0, ?_⟩
    rw [Array.getElem?_setIfInBounds_ne (by omega)]
    exact hc
theorem Bytes0.of {B : Nat} {w : World} {rb n cap : Nat} {ids : List Id32} (h : IdsOwn B w (.slice (some ⟨rb, 0, none⟩) n cap) ids) : Bytes0 w rb ids.length := by
  obtain ⟨cur, hc⟩ := h.typed (k := rb) rfl
  refine ⟨cur, hc, fun j hj => ?_⟩
  obtain ⟨a, c, e, _, hr⟩ := h.at
  cases e
  obtain ⟨b, off, e2, hrow⟩ := hr (fun e => by rw [e] at hj; cases hj)
  cases e2
  have h0 : ∃ x : UInt8, (encId ids[j]!)[0]? = some (.int .u8 x.toNat) := ⟨_, encId_get _ 0 (by omega)⟩
  obtain ⟨x, hx⟩ := h0
  have := hrow j hj 0 _ hx
  rw [Nat.zero_add, Nat.add_zero, cell_of_row w rb (j * 32) _ _ _ hc] at this
  exact ⟨_, this⟩

/-- Through the first loop: both indexes, the reference's list, the marks that the ranges leave. -/
structure CloSt (w : World) (ib M : Nat) (gs : List MG) (mc : Nat) (v : Value) (rs : List MR) (n : Nat) (B2 ib2 M2 : Nat) (gs2 : List MG) (mc2 pb : Nat) (T : List ByteArray) (ds : List Nat) (W : World) : Prop where
  p : PlaySt w ib M gs mc v rs n W
  c : IdxAt B2 W ib2 M2 gs2 mc2
  row : StrRow W pb 0 T
  pbl : pb < W.heap.size
  ms : ∀ D ∈ ds, W.heap[D]? = some (.deferred (some []))
  md : ds.Nodup
  mb : ∀ D ∈ ds, w.heap.size ≤ D
theorem CloSt.step {w : World} {ib M : Nat} {gs : List MG} {mc : Nat} {v : Value} {rs : List MR} {n B2 ib2 M2 : Nat} {gs2 : List MG} {mc2 pb : Nat} {T : List ByteArray} {ds : List Nat} {W W' : World} (h : CloSt w ib M gs mc v rs n B2 ib2 M2 gs2 mc2 pb T ds W) (hb : Below W.heap.size W W') : CloSt w ib M gs mc v rs n B2 ib2 M2 gs2 mc2 pb T ds W' :=
  ⟨h.p.later hb, h.c.below hb, h.row.below' hb h.pbl, Nat.lt_of_lt_of_le h.pbl hb.size, fun D hD => (hb.block _ (Array.getElem?_eq_some_iff.1 (h.ms D hD)).1).trans (h.ms D hD), h.md, h.mb⟩
structure CloInv (w : World) (v0 v1 : Value) (ib M : Nat) (gs : List MG) (mc : Nat) (v : Value) (rs : List MR) (n B2 ib2 M2 : Nat) (gs2 : List MG) (mc2 pb pc : Nat) (T : List ByteArray) (ds : List Nat) (i : Nat) (a : Act) (W : World) : Prop where
  le : i ≤ 3
  st : CloSt w ib M gs mc v rs n B2 ib2 M2 gs2 mc2 pb T ds W
  sl : CSl a.tmps v0 v1 ib v ib2 pb pc i
  df : a.defers = ds.map markD
def leftC (a : Act) (_ : World) : Nat := match a.tmps.getD 53 undef with
  | .int _ i => 3 - i.toNat
  | _ => 0
theorem CloInv.left {w : World} {v0 v1 : Value} {ib M : Nat} {gs : List MG} {mc : Nat} {v : Value} {rs : List MR} {n B2 ib2 M2 : Nat} {gs2 : List MG} {mc2 pb pc : Nat} {T : List ByteArray} {ds : List Nat} {i : Nat} {a : Act} {W : World} (h : CloInv w v0 v1 ib M gs mc v rs n B2 ib2 M2 gs2 mc2 pb pc T ds i a W) : leftC a W = 3 - i := by
  unfold leftC
  rw [h.sl.s53]
  rfl
/-- In the middle of a round's body: bytes of the line's own identities turn. -/
structure BdSt (x : ML) (yb : Nat) (X W : World) : Prop where
  yv : LineVar W yb x.g
  bt : ∀ rb, x.v.ownBlock = some rb → Bytes0 W rb x.p.ids.length
  kp : Kept x.v.ownBlock.toList X W
/-- Ahead of a round's body. -/
structure CloAx (T : List PLine) (W8 : World) (B : Nat) (pre : List ML) (x : ML) (a : Act) (X : World) : Prop where
  bl : Below W8.heap.size W8 X
  gd : GdL T (W8.heap.size + 2) B pre x X
  df : a.defers = []
  yb : ∃ yb, LineVar X yb x.g ∧ W8.heap.size + 2 ≤ yb ∧ YSl a.tmps yb

/-- Through the second loop: one index and its list go on, the others stay. -/
structure ClgSt (w : World) (ib M : Nat) (gs : List MG) (mc : Nat) (v : Value) (rs : List MR) (n B2 ib2 M2 : Nat) (gs2 : List MG) (mc2 : Nat) (vv : Value) (vs : List MR) (k : Nat) (ds : List Nat) (W : World) : Prop where
  p : PlaySt w ib M gs mc v rs n W
  c : IdxAt B2 W ib2 M2 gs2 mc2
  base : w.heap.size ≤ B2
  apart : ApartF (foot ib M gs) (foot ib2 M2 gs2)
  refs : RefsAt w.heap.size W vv vs
  rel : RelR gs2 vs
  ord : ordR vs
  ids : ∀ r ∈ vs, IdsAt w r.m.v r.m.p.ids
  tot : total gs2 ≤ n + k
  len : vs.length ≤ n + k
  ms : ∀ D ∈ ds, W.heap[D]? = some (.deferred (some []))
theorem ClgSt.later {w : World} {ib M : Nat} {gs : List MG} {mc : Nat} {v : Value} {rs : List MR} {n B2 ib2 M2 : Nat} {gs2 : List MG} {mc2 : Nat} {vv : Value} {vs : List MR} {k : Nat} {ds : List Nat} {W W' : World} (h : ClgSt w ib M gs mc v rs n B2 ib2 M2 gs2 mc2 vv vs k ds W) (hb : Below W.heap.size W W') : ClgSt w ib M gs mc v rs n B2 ib2 M2 gs2 mc2 vv vs k ds W' :=
  ⟨h.p.later hb, h.c.below hb, h.base, h.apart, h.refs.below hb, h.rel, h.ord, h.ids, h.tot, h.len, fun D hD => (hb.block _ (Array.getElem?_eq_some_iff.1 (h.ms D hD)).1).trans (h.ms D hD)⟩
theorem ClgSt.next {w : World} {ib M : Nat} {gs : List MG} {mc : Nat} {v : Value} {rs : List MR} {n B2 ib2 M2 : Nat} {gs2 : List MG} {mc2 : Nat} {vv : Value} {vs : List MR} {k : Nat} {ds : List Nat} {W W' : World} {s : ByteArray} {p : PLine} {v0 : Value} {r : Ending} {gs' : List MG} {mc' : Nat} {v' : Value} {vs' : List MR} (h : ClgSt w ib M gs mc v rs n B2 ib2 M2 gs2 mc2 vv vs k ds W) (hI : IdsAt w v0 p.ids) (hd : DoPost B2 w.heap.size ib2 M2 gs2 vs s p v0 W r W' gs' mc' v' vs') : ClgSt w ib M gs mc v rs n B2 ib2 M2 gs' mc' v' vs' (k + 1) ds W' where
  p := by
    have hbl : Below w.heap.size w W' := h.p.bl.trans (hd.kept.below h.p.bl.size (fun j hj => Nat.le_trans h.base (h.c.foot_lt j hj).1))
    exact ⟨hbl, h.p.idx.beside h.c h.apart hd.kept, h.p.refs.kept h.c hd.kept, h.p.rel, h.p.ord, h.p.ids, h.p.tot, h.p.len⟩
  c := hd.idx
  base := h.base
  apart := (h.apart.symm.grow hd.foot fun j hj => (h.p.idx.foot_lt j hj).2).symm
  refs := hd.refs
  rel := hd.rel
  ord := hd.ord
  ids := fun r hr => by
    rcases hd.mem r hr with h1 | ⟨h1, _⟩
    · exact h.ids r h1
    · rw [h1]; exact hI
  tot := by have := hd.tot; have := h.tot; omega
  len := by have := hd.len; have := h.len; omega
  ms := fun D hD => (hd.kept.block D (Array.getElem?_eq_some_iff.1 (h.ms D hD)).1 (h.c.not_mark (h.ms D hD))).trans (h.ms D hD)

end Go.Proofs.YtdjaphcelpchaaaGreatDoor
