/- The tied card of bulletinlaw28.OverviewEncode, proved: for every list of operations the call returns true; package-level tables of Go's library as the program's text lays them. -/
import Derived.Test.YtdjaphcelpchaaaGreatDoorShelf
import Derived.Test.YtdjaphcelpchaaaGreatDoorK1
import Derived.Test.YtdjaphcelpchaaaGreatDoorK2
import Derived.Test.YtdjaphcelpchaaaGreatDoorShelf2
import Derived.Test.YtdjaphcelpchaaaGreatDoorEncodesL1
import Derived.Test.YtdjaphcelpchaaaGreatDoorEncodesL2
import Derived.Test.YtdjaphcelpchaaaGreatDoorEncodesL3
import Derived.Test.YtdjaphcelpchaaaGreatDoorEncodesL4
import Derived.Test.YtdjaphcelpchaaaGreatDoorEncodesL5
import Derived.Test.YtdjaphcelpchaaaGreatDoorEncodesL6

namespace Go.Proofs.YtdjaphcelpchaaaGreatDoor
open Go Go.RowKit Go.Proofs

attribute [local go_sem ↓] ex_load_id ex_store_id ex_load_line ex_store_line ex_load_rline ex_store_rline ex_alloc_line ex_build_line ex_alloc_rline ex_build_rline

attribute [local go_sem] ld_id st_id ld_line st_line ld_rline st_rline guard_id okCells_drew rdCells_drew okCells_drewN rdCells_drewN rowOk_drew rowOk_cells okCells_cells rdCells_cells setRow_drew setRow_new setRow_past

theorem cut_ten (s : List UInt8) (h : (Lib.cut s [10]).2.2 = true) : (Lib.cut s [10]).2.1.count 10 + 1 ≤ s.count 10 := by
  unfold Lib.cut at h ⊢
  split at h
  · rename_i hi
    rw [if_pos hi]
    rcases Lib.index_spec s [10] with ⟨h1, _⟩ | ⟨i, h1, h2, h3, _⟩
    · omega
    · simp only [h1, Int.toNat_natCast, List.length_singleton]
      have hd : ∃ t, s.drop i = 10 :: t := by
        unfold Lib.occAt at h3
        cases hx : s.drop i with
        | nil => rw [hx] at h3; simp at h3
        | cons a t =>
          rw [hx] at h3
          simp only [List.isPrefixOf, Bool.and_eq_true, beq_iff_eq] at h3
          exact ⟨t, by rw [← h3.1]⟩
      obtain ⟨t, ht⟩ := hd
      have h4 : s.drop (i + 1) = t := by rw [← List.drop_drop, ht]; rfl
      have h5 : s.count 10 = (s.take i).count 10 + (s.drop i).count 10 := by rw [← List.count_append, List.take_append_drop]
      rw [h4, h5, ht]
      simp
  · cases h
theorem cut10_any (l : List UInt8) (w : World) (hG : Gl w) (hl : l.length < 4294967281) :
    Calls Tryz.prog 121 #[.string (str l), .string ⟨#[10]⟩] w fun r w' => r = .returned (.tuple #[.string (str (Lib.cut l [10]).1), .string (str (Lib.cut l [10]).2.1), .bool (Lib.cut l [10]).2.2]) ∧ Below w.heap.size w w' := by
  obtain ⟨m, hm⟩ := hG.len
  refine (Tryz.strings_Cut (str l) ⟨#[10]⟩ m w (by rw [str_size]; exact hl) hm).mono ?_
  rintro e w' ⟨he, n, rfl⟩
  rw [str_data] at he
  exact ⟨he, below_drewN' (Below.refl _ _) n⟩

/-- The lines of an index's groups. -/
def lfOf (gs : List MG) : LF := fun t => (linesIn gs t).map (·.p)
theorem lf_add {B ib M : Nat} {gs gs' : List MG} {s : ByteArray} {p : PLine} {w w' : World} {mc' : Nat} (hd : Added B ib M gs s p w w' gs' mc') : lfOf gs' = setL (lfOf gs) s (addP (lfOf gs s) p) := by
  obtain ⟨v, _, hl⟩ := hd.lines
  funext u
  unfold lfOf setL
  rw [hl u]
  split
  · exact addMs_p _ _ _
  · rfl
theorem lf_err (gs : List MG) (t : ByteArray) (p : PLine) : addErr (linesIn gs t) t p = addErrP (lfOf gs t) t p := addErr_p _ _ _

/-- What decodeGroup answers. -/
def DgPost (B ib M : Nat) (gs : List MG) (l : List UInt8) (w : World) (r : Ending) (w' : World) : Prop :=
  Below B w w' ∧ ((dg (lfOf gs) l = none ∧ r = .returned (.tuple #[.string ⟨#[]⟩, .bool false])) ∨
    ∃ rest gs' mc', dg (lfOf gs) l = some (rest, lfOf gs') ∧ r = .returned (.tuple #[.string (str rest), .bool true]) ∧ IdxAt B w' ib M gs' mc' ∧ total gs' + rest.count 10 ≤ total gs + l.count 10)
/-- In the middle of a group. -/
structure DgSt (B ib M : Nat) (C N : Nat) (t : ByteArray) (wb : Nat) (T : List ByteArray) (E : Option (List UInt8 × LF)) (n : Nat) (last : Int) (rest : List UInt8) (gs : List MG) (mc : Nat) (w W : World) : Prop where
  bl : Below B w W
  idx : IdxAt B W ib M gs mc
  row : W.heap[wb]? = some (.cells (T.map Value.string).toArray 9 (0, 0))
  eq : E = dgLoop t n last (lfOf gs) rest
  ten : total gs + rest.count 10 ≤ C
  len : rest.length ≤ N
theorem DgSt.later {B ib M C N : Nat} {t : ByteArray} {wb : Nat} {T : List ByteArray} {E : Option (List UInt8 × LF)} {n : Nat} {last : Int} {rest : List UInt8} {gs : List MG} {mc : Nat} {w W W' : World} (h : DgSt B ib M C N t wb T E n last rest gs mc w W) (hB : B ≤ W.heap.size) (hb : Below W.heap.size W W') : DgSt B ib M C N t wb T E n last rest gs mc w W' :=
  ⟨h.bl.trans (hb.mono hB), h.idx.below hb, (hb.block _ (Array.getElem?_eq_some_iff.1 h.row).1).trans h.row, h.eq, h.ten, h.len⟩
theorem DgSt.none {B ib M C N : Nat} {t : ByteArray} {wb : Nat} {T : List ByteArray} {E : Option (List UInt8 × LF)} {n : Nat} {last : Int} {rest : List UInt8} {gs : List MG} {mc : Nat} {w W : World} (h : DgSt B ib M C N t wb T E (n + 1) last rest gs mc w W) (hx : ∀ p, parseP (str (Lib.cut rest [10]).1) = some p → ¬ ((Lib.cut rest [10]).2.2 = true ∧ last < p.number ∧ addErrP (lfOf gs t) t p = 0)) : E = none := by
  rw [h.eq]
  unfold dgLoop
  cases hp : parseP (str (Lib.cut rest [10]).1) with
  | none => rfl
  | some p =>
    simp only
    rw [if_neg (hx p hp)]
theorem DgSt.next {B ib M C N : Nat} {t : ByteArray} {wb : Nat} {T : List ByteArray} {E : Option (List UInt8 × LF)} {n : Nat} {last : Int} {rest : List UInt8} {gs : List MG} {mc : Nat} {w W W' : World} (h : DgSt B ib M C N t wb T E (n + 1) last rest gs mc w W) {p : PLine} (hp : parseP (str (Lib.cut rest [10]).1) = some p) (he : (Lib.cut rest [10]).2.2 = true) (hl : last < p.number) (ha : addErrP (lfOf gs t) t p = 0) {gs' : List MG} {mc' : Nat} (hd : Added B ib M gs t p W W' gs' mc') : DgSt B ib M C N t wb T E n p.number (Lib.cut rest [10]).2.1 gs' mc' w W' where
  bl := h.bl.trans (hd.kept.below (by have := (Array.getElem?_eq_some_iff.1 h.idx.blk).1; have := h.idx.ibB; omega) fun k hk => (h.idx.foot_lt k hk).1)
  idx := hd.idx
  row := (hd.kept.block wb (Array.getElem?_eq_some_iff.1 h.row).1 (h.idx.not_op (by decide) h.row)).trans h.row
  eq := by
    rw [h.eq]
    conv => lhs; unfold dgLoop
    rw [hp]
    simp only
    rw [if_pos ⟨he, hl, ha⟩, ← lf_add hd]
  ten := by
    have h1 := cut_ten rest he
    have h2 := hd.tot
    have h3 := h.ten
    omega
  len := Nat.le_trans (cut_le rest).1 h.len

/-- The words of a group's first line: anything but three words, the first of them "group" and the last a number, is none. -/
theorem dg_no {L : LF} {l : List UInt8} (h : ¬ ((Lib.cut l [10]).2.2 = true ∧ (wordsOf l).length = 3 ∧ (wordsOf l)[0]? = some [103, 114, 111, 117, 112] ∧ numOk ((wordsOf l).getD 2 []) = true)) : dg L l = none := by
  unfold dg
  rw [if_neg h]
theorem dg_yes {L : LF} {l : List UInt8} (h : (Lib.cut l [10]).2.2 = true ∧ (wordsOf l).length = 3 ∧ (wordsOf l)[0]? = some [103, 114, 111, 117, 112] ∧ numOk ((wordsOf l).getD 2 []) = true) : dg L l = dgLoop (str ((wordsOf l).getD 1 [])) (numVal ((wordsOf l).getD 2 [])) 0 L (Lib.cut l [10]).2.1 := by
  unfold dg
  rw [if_pos h]

set_option maxRecDepth 100000 in
set_option maxHeartbeats 8000000 in
theorem decGroup_any (B ib M mc : Nat) (gs : List MG) (l : List UInt8) (w0 w : World) (hG : Gl w0) (hB0 : B = w0.heap.size) (hb : Below B w0 w) (h : IdxAt B w ib M gs mc) (hl : l.length < 4294967281) (hten : total gs + l.count 10 ≤ 65536) :
    Calls Tryz.prog 87 #[.pointer (some ⟨ib, 0, none⟩), .string (str l)] w fun r w' => DgPost B ib M gs l w r w' := by
  have HGW : Hid (∀ W, Below B w W → Gl W) := Lib.hid fun W hbW => by rw [hB0] at hb hbW; exact hG.later (hb.trans hbW)
  have hBw : B ≤ w.heap.size := by have := (Array.getElem?_eq_some_iff.1 h.blk).1; have := h.ibB; omega
  have HX := Lib.hid h
  clear h hG hb hB0
  go_enter Tryz.func87, Tryz.ntmps87
  go_wp2_with fail
  refine (cut10_any l w (HGW.out w (Below.refl _ _)) hl).mono ?_
  rintro r w1 ⟨rfl, hb1⟩
  have HNO : Hid _ := Lib.hid (dg_no (L := lfOf gs) (l := l))
  have HYES : Hid _ := Lib.hid (dg_yes (L := lfOf gs) (l := l))
  have hcl := (cut_le l).1
  have HTEN : Hid (_ → _) := Lib.hid (cut_ten l)
  have hhd : (Lib.cut l [10]).1.length ≤ l.length := by
    unfold Lib.cut
    split
    · simp only [List.length_take]; omega
    · exact Nat.le_refl _
  obtain ⟨T, hT⟩ : ∃ T, T = splitS 32 (str (Lib.cut l [10]).1) := ⟨_, rfl⟩
  have HT : Hid (T = (wordsOf l).map str) := Lib.hid (by rw [hT]; unfold splitS wordsOf; rw [str_data])
  generalize hcut : Lib.cut l [10] = x at *
  obtain ⟨hd, r0, en⟩ := x
  simp only at hcl hhd hT
  have HB1 := Lib.hid hb1
  have HCUT := Lib.hid hcut
  have HSP := Lib.hid (split_any 32 (str hd) w1 (HGW.out w1 (hb1.mono hBw)) (by rw [str_size]; omega))
  clear hb1 hcut
  go_wp2_with fail
  refine HSP.out.mono ?_
  rintro r w2 ⟨rfl, hw2⟩
  rw [← hT] at hw2 ⊢
  have hrow : w2.heap[w1.heap.size]? = some (.cells (T.map Value.string).toArray 9 (0, 0)) := by rw [← hw2]; exact heap_alloc_new _ _
  have HROW := Lib.hid hrow
  have HB2 : Hid (Below w.heap.size w w2) := Lib.hid (HB1.out.trans (by rw [← hw2]; exact (Below.refl _ _).alloc HB1.out.size _))
  have HBAD : Hid (∀ W, Below B w2 W → dg (lfOf gs) l = none → DgPost B ib M gs l w (.returned (.tuple #[.string ⟨#[]⟩, .bool false])) W) := Lib.hid fun W hb hn => ⟨(HB2.out.mono hBw).trans hb, .inl ⟨hn, rfl⟩⟩
  clear hw2 HSP HB1 hT
  cases en with
  | false =>
    have HN := Lib.hid (HNO.out (by simp))
    clear HNO HYES
    go_wp2
    go_ret2
    exact HBAD.out _ (Below.refl _ _) HN.out
  | true =>
    by_cases h3 : T.length = 3
    · obtain ⟨x0, x1, x2, hw⟩ : ∃ x0 x1 x2, wordsOf l = [x0, x1, x2] := by
        have h1 : (wordsOf l).length = 3 := by rw [← h3, HT.out, List.length_map]
        match wordsOf l, h1 with
        | [a, b, c], _ => exact ⟨a, b, c, rfl⟩
      have hTT : T = [str x0, str x1, str x2] := by rw [HT.out, hw]; rfl
      rw [hw] at HNO HYES
      have c0 : w2.cell? ⟨w1.heap.size, 0, none⟩ = some (.string (str x0)) := by rw [cell_of_row w2 _ 0 _ _ _ hrow, hTT]; rfl
      have c2 : w2.cell? ⟨w1.heap.size, 2, none⟩ = some (.string (str x2)) := by rw [cell_of_row w2 _ 2 _ _ _ hrow, hTT]; rfl
      have HC1 : Hid ((T.map Value.string).toArray[1]? = some (.string (str x1))) := Lib.hid (by rw [hTT]; rfl)
      have hsz : ∀ x ∈ wordsOf l, x.length ≤ l.length := fun x hx => Nat.le_trans (splitL_part 32 hd x (by unfold wordsOf at hx; rw [HCUT.out] at hx; exact hx)) hhd
      have hx2 : x2.length ≤ l.length := hsz x2 (by rw [hw]; simp)
      have hx1 : x1.length ≤ l.length := hsz x1 (by rw [hw]; simp)
      rw [h3]
      clear hrow hw hTT HT hsz
      obtain ⟨wb, hwb⟩ : ∃ wb, wb = w1.heap.size := ⟨_, rfl⟩
      rw [← hwb] at c0 c2 HROW ⊢
      clear hwb
      by_cases hg : x0 = [103, 114, 111, 117, 112]
      · have hgz : ((str x0).toList == [103, 114, 111, 117, 112]) = true := by rw [ByteArray.toList_eq, str_data, hg]; rfl
        subst hg
        have hs2 : (str x2).size ≤ maxLen := by rw [str_size]; unfold maxLen; omega
        have HPN := Lib.hid (parseNumber_any (str x2) w2 hs2)
        rw [str_data] at HPN
        cases hn : numOk x2 with
        | false =>
          have HN := Lib.hid (HNO.out (by simp [hn]))
          rw [hn] at HPN
          clear HNO HYES
          go_wp2_with fail
          refine HPN.out.mono ?_
          rintro r w3 ⟨rfl, rfl⟩
          clear HPN
          go_wp2
          go_ret2
          exact HBAD.out _ (Below.refl _ _) HN.out
        | true =>
          have HE := Lib.hid (HYES.out (by simp [hn]))
          rw [hn] at HPN
          clear HNO HYES hn
          have hnlt := numVal_lt x2
          go_wp2_with fail
          refine HPN.out.mono ?_
          rintro r w3 ⟨rfl, rfl⟩
          simp only [List.getD_cons_succ, List.getD_cons_zero] at HE
          generalize numVal x2 = n at *
          have HS0 : Hid (DgSt B ib M (total gs + l.count 10) l.length (str x1) wb T (dg (lfOf gs) l) n 0 r0 gs mc w2 w2) := Lib.hid ⟨Below.refl _ _, HX.out.below HB2.out, HROW.out, HE.out, by have := HTEN.out trivial; omega, hcl⟩
          have hB2 : B ≤ w2.heap.size := Nat.le_trans hBw HB2.out.size
          clear HPN HE c0 c2
          go_wp2
          go_loopw [7, 12, 13, 14, 15, 16, 17, 18, 50] (fun rv lv _ _ _ _ _ _ iv wr => ∃ (k : Nat) (rest : List UInt8) (last : Int) (gs' : List MG) (mc' : Nat), k ≤ n ∧ iv = .int .i64 k ∧ rv = .string (str rest) ∧ lv = .int .i64 last ∧ Hid (DgSt B ib M (total gs + l.count 10) l.length (str x1) wb T (dg (lfOf gs) l) (n - k) last rest gs' mc' w2 wr)) (fun _ _ _ _ _ _ _ _ i _ => n - (intOf i).toNat)
          case atStart => exact ⟨0, r0, 0, gs, mc, Nat.zero_le _, rfl, rfl, rfl, HS0⟩
          case round =>
            obtain ⟨k, rest, last, gs', mc', hk, rfl, rfl, rfl, HS⟩ := hrel
            have hBr : B ≤ wr.heap.size := by have := (Array.getElem?_eq_some_iff.1 HS.out.idx.blk).1; have := HS.out.idx.ibB; omega
            by_cases hlt : k < n
            · have hltz : (k : Int) < (n : Int) := by omega
              obtain ⟨d, hd'⟩ : ∃ d, n - k = d + 1 := ⟨n - k - 1, by omega⟩
              have hd2 : n - (k + 1) = d := by omega
              rw [hd'] at HS
              have HD2 := Lib.hid hd2
              have hrl := HS.out.len
              have hrc := (cut_le rest).1
              have HNONE : Hid (_ → _) := Lib.hid HS.out.none
              have hNEXT := @DgSt.next B ib M (total gs + l.count 10) l.length (str x1) wb T (dg (lfOf gs) l) d last rest gs' mc' w2 wr
              have hhd2 : (Lib.cut rest [10]).1.length ≤ rest.length := by
                unfold Lib.cut
                split
                · simp only [List.length_take]; omega
                · exact Nat.le_refl _
              have HCU := Lib.hid (cut10_any rest wr (HGW.out _ ((HB2.out.mono hBw).trans HS.out.bl)) (by omega))
              clear hd' hd2
              generalize hcut2 : Lib.cut rest [10] = y at *
              obtain ⟨tx, af, en⟩ := y
              simp only at hhd2 hrc
              go_wp2_with fail
              refine HCU.out.mono ?_
              rintro r w4 ⟨rfl, hb4⟩
              have HS4 := Lib.hid (HS.out.later hBr hb4)
              have HB4 := Lib.hid hb4
              have hB4 : B ≤ w4.heap.size := Nat.le_trans hBr hb4.size
              clear hb4 HCU
              have HPA := Lib.hid (parse_own (str tx) w4 (HGW.out _ ((HB2.out.mono hBw).trans HS4.out.bl)) (by rw [str_size]; omega))
              go_wp2_with fail
              refine HPA.out.mono ?_
              rintro r w5 ⟨G, ids, rfl, hP, hI, hone, hb5⟩
              have HS5 := Lib.hid (HS4.out.later hB4 hb5)
              have hB5 : B ≤ w5.heap.size := Nat.le_trans hB4 hb5.size
              have hft := fits_line hone
              have hzs : ((lineCells zeroLine).size == 38) = true := by rw [lineCells_size]; rfl
              have HPE : Hid ((parseOut (str tx)).1 ≠ 0 → parseP (str tx) = none) := Lib.hid fun h => by unfold parseP; rw [if_neg h]
              have HPY : Hid ((parseOut (str tx)).1 = 0 → ∃ p, parseP (str tx) = some p ∧ p.ids = ids ∧ G = ML.g ⟨p, G.refs⟩ ∧ pErr p = 0) := Lib.hid fun h => by
                obtain ⟨p, h1, h2, h3⟩ := parsed_p hP h
                refine ⟨p, h1, h2, h3, ?_⟩
                have h4 := (print_parse h hP).1
                rw [h3, ← h2] at h4
                exact h4
              generalize parseOut (str tx) = po at *
              obtain ⟨pe, pat⟩ := po
              simp only at HPE HPY
              have hV : LineVar (w5.alloc (.cells (lineCells G) 34)) w5.heap.size G := heap_alloc_new _ _
              have hbX : Below w5.heap.size w5 (w5.alloc (.cells (lineCells G) 34)) := (Below.refl _ _).alloc (Nat.le_refl _) _
              have hIX := hI.below hbX
              have hsX := HS5.out.later hB5 hbX
              have HFT : Hid (∀ k ∈ foot ib M gs', k < w5.heap.size) := Lib.hid fun k hk => (HS5.out.idx.foot_lt k hk).2
              have HBW : Hid (Below wr.heap.size wr w5) := Lib.hid (HB4.out.trans (hb5.mono HB4.out.size))
              clear hb5 HPA hP hI
              go_upto_region 13 with fail
              generalize w5.alloc (.cells (lineCells G) 34) = X at hV hIX hsX hbX ⊢
              obtain ⟨lb, hlb⟩ : ∃ lb, lb = w5.heap.size := ⟨_, rfl⟩
              rw [← hlb] at hV HFT ⊢
              have HSX := Lib.hid hsX
              have HIX := Lib.hid hIX
              have HV := Lib.hid hV
              have hw1 : X.cell? ⟨wb, 1, none⟩ = some (.string (str x1)) := (cell_of_row X wb 1 _ _ _ hsX.row).trans HC1.out
              have z1 : ∀ z : Later X, z.1.cell? ⟨lb, 0, none⟩ = some (.int .i64 G.number) := fun z => Later.cell ((hV.cell 0).trans (lc0 G)) z
              have z2 : ∀ z : Later X, okCells z.1 ⟨lb, 0, none⟩ 38 = true := fun z => Later.ok hV.rd.1 z
              have z3 : ∀ z : Later X, rdCells z.1 ⟨lb, 0, none⟩ 38 = lineCells G := fun z => (Later.rd hV.rd.1 z).trans hV.rd.2
              have z4 : ∀ z : Later X, z.1.cell? ⟨wb, 1, none⟩ = some (.string (str x1)) := fun z => Later.cell hw1 z
              have hBX : B ≤ X.heap.size := Nat.le_trans hB5 hbX.size
              clear hV hIX hsX hw1 hbX hlb HS5 HS4 HS
              cases en with
              | false =>
                have HN := Lib.hid (HNONE.out fun p _ h => by cases h.1)
                clear HNONE HPE HPY
                refine wp_region_mix0 [0, 1, 2, 3, 4, 5, 6, 7, 8, 9, 10, 11, 12, 13, 14, 15, 16, 17] [18, 19, 20] (fun w' => ∃ z : Later X, w' = z.1) (by kernel_rfl) (by kernel_rfl) (by kernel_rfl) ⟨⟨_, (Below.refl _ _).drew⟩, rfl⟩ ?_
                simp only [opsAt, List.map_cons, List.map_nil, Array.getD_eq_getD_getElem?, List.getElem?_toArray, List.getElem?_cons_zero, List.getElem?_cons_succ, Option.getD_some]
                repeat (go_big_quiet_step (fail))
                refine wpQuiet_nil ?_
                clear z1 z2 z3 z4
                refine wpR_list [18, 19, 20] _ _ (by kernel_rfl) ?_
                simp only [opsAt, List.map_cons, List.map_nil, Array.getD_eq_getD_getElem?, List.getElem?_toArray, List.getElem?_cons_zero, List.getElem?_cons_succ, Option.getD_some]
                go_wp2
                refine NoPanic.normal ?_
                go_wp2
                go_ret2
                exact HBAD.out _ HSX.out.bl.drew HN.out
              | true =>
                by_cases he : pe = 0
                · obtain ⟨p, hp, hids, hGp, hpe⟩ := HPY.out he
                  subst he
                  by_cases hln : last < G.number
                  · have hld : decide (G.number ≤ last) = false := decide_eq_false (by omega)
                    have hnp : G.number = p.number := by rw [hGp]; rfl
                    obtain ⟨_, hsz1, hsz2, hln20⟩ := good_bounds hpe
                    have hs1 : (str x1).size ≤ maxLen := by rw [str_size]; unfold maxLen; omega
                    have htot : total gs' < 65536 := by
                      have h1 := HSX.out.ten
                      have h2 := cut_ten rest (by rw [hcut2])
                      omega
                    rw [← hids] at HIX
                    obtain ⟨v0, hv0⟩ : ∃ v0, v0 = G.refs := ⟨_, rfl⟩
                    rw [← hv0] at HIX hGp
                    have HADD : Hid (Calls Tryz.prog 32 #[.pointer (some ⟨ib, 0, none⟩), .string (str x1), .agg (lineCells G)] X.drew fun r w' => AddPost B ib M gs' (str x1) p X.drew r w') := Lib.hid (by
                      rw [hGp]
                      exact add_any B ib M mc' gs' (str x1) p v0 X.drew (HGW.out _ ((HB2.out.mono hBw).trans HSX.out.bl.drew)) (HSX.out.idx.below (Below.refl _ _).drew) hs1 ⟨(HIX.out.below (Below.refl _ _).drew).at, by unfold maxLen; omega, by show p.name.size ≤ _; unfold maxLen; omega, by show p.subject.size ≤ _; unfold maxLen; omega⟩ (HIX.out.below (Below.refl _ _).drew) htot)
                    have HP := Lib.hid hp
                    have HNP := Lib.hid hnp
                    have HLN := Lib.hid hln
                    clear hids hGp hpe hsz1 hsz2 hln20 hs1 htot hp hnp hln HPE HPY hv0
                    refine wp_region_mix0 [0, 1, 2, 3, 4, 5, 6, 7, 8, 9, 10, 11, 12, 13, 14, 15, 16, 17] [18, 19, 20] (fun w' => ∃ z : Later X, w' = z.1) (by kernel_rfl) (by kernel_rfl) (by kernel_rfl) ⟨⟨_, (Below.refl _ _).drew⟩, rfl⟩ ?_
                    simp only [opsAt, List.map_cons, List.map_nil, Array.getD_eq_getD_getElem?, List.getElem?_toArray, List.getElem?_cons_zero, List.getElem?_cons_succ, Option.getD_some]
                    repeat (go_big_quiet_step (fail))
                    refine wpQuiet_nil ?_
                    clear z1 z2 z3 z4
                    refine wpR_list [18, 19, 20] _ _ (by kernel_rfl) ?_
                    simp only [opsAt, List.map_cons, List.map_nil, Array.getD_eq_getD_getElem?, List.getElem?_toArray, List.getElem?_cons_zero, List.getElem?_cons_succ, Option.getD_some]
                    go_wp2_with fail
                    refine HADD.out.mono ?_
                    rintro r w6 ⟨rfl, hpost⟩
                    clear HADD
                    rcases hpost with ⟨hne0, hb6⟩ | ⟨he0, gs2, mc2, hd⟩
                    · have HN := Lib.hid (HNONE.out fun q hq h => by rw [HP.out] at hq; cases hq; rw [lf_err] at hne0; exact hne0 h.2.2)
                      have HB6 := Lib.hid (HSX.out.bl.trans ((Below.drew (Below.refl X.heap.size X)).trans hb6 |>.mono hBX))
                      clear HNONE hb6
                      generalize addErr (linesIn gs' (str x1)) (str x1) p = e at hne0
                      have hez : (e != 0) = true := by rw [bne_iff_ne]; exact hne0
                      go_wp2
                      refine NoPanic.normal ?_
                      go_wp2
                      go_ret2
                      exact HBAD.out _ HB6.out HN.out
                    · rw [he0]
                      have HS6 : Hid (DgSt B ib M (total gs + l.count 10) l.length (str x1) wb T (dg (lfOf gs) l) (n - (k + 1)) G.number af gs2 mc2 w2 w6) := Lib.hid (by
                        have h1 := (HSX.out.later hBX (Below.refl X.heap.size X).drew).next (p := p) (by rw [hcut2]; exact HP.out) (by rw [hcut2]) (by rw [← HNP.out]; exact HLN.out) (by rw [← lf_err]; exact he0) hd
                        rw [hcut2] at h1
                        rw [HD2.out, HNP.out]
                        exact h1)
                      have hv6 : LineVar w6 lb G := (hd.kept.block lb HV.out.lt (fun hf => Nat.lt_irrefl _ (HFT.out lb hf))).trans HV.out
                      have hc6 := (hv6.cell 0).trans (lc0 G)
                      clear hd he0 HNONE hcut2 hNEXT hv6
                      go_wp2
                      refine NoPanic.normal ?_
                      go_wp2
                      go_roundw
                      case rel => exact ⟨k + 1, af, G.number, gs2, mc2, by omega, by go_num, rfl, rfl, HS6⟩
                      case measure => simp [intOf]; omega
                  · have hld : decide (G.number ≤ last) = true := decide_eq_true (by omega)
                    have hnp : G.number = p.number := by rw [hGp]; rfl
                    have HN := Lib.hid (HNONE.out fun q hq h => by rw [hp] at hq; cases hq; exact hln (by rw [hnp]; exact h.2.1))
                    clear HNONE HPE HPY hnp hGp hids hp
                    refine wp_region_mix0 [0, 1, 2, 3, 4, 5, 6, 7, 8, 9, 10, 11, 12, 13, 14, 15, 16, 17] [18, 19, 20] (fun w' => ∃ z : Later X, w' = z.1) (by kernel_rfl) (by kernel_rfl) (by kernel_rfl) ⟨⟨_, (Below.refl _ _).drew⟩, rfl⟩ ?_
                    simp only [opsAt, List.map_cons, List.map_nil, Array.getD_eq_getD_getElem?, List.getElem?_toArray, List.getElem?_cons_zero, List.getElem?_cons_succ, Option.getD_some]
                    repeat (go_big_quiet_step (fail))
                    refine wpQuiet_nil ?_
                    clear z1 z2 z3 z4
                    refine wpR_list [18, 19, 20] _ _ (by kernel_rfl) ?_
                    simp only [opsAt, List.map_cons, List.map_nil, Array.getD_eq_getD_getElem?, List.getElem?_toArray, List.getElem?_cons_zero, List.getElem?_cons_succ, Option.getD_some]
                    go_wp2
                    refine NoPanic.normal ?_
                    go_wp2
                    go_ret2
                    exact HBAD.out _ HSX.out.bl.drew HN.out
                · have hez : (pe != 0) = true := by rw [bne_iff_ne]; exact he
                  have HN := Lib.hid (HNONE.out fun p hp _ => by rw [HPE.out he] at hp; cases hp)
                  clear HNONE HPE HPY he
                  refine wp_region_mix0 [0, 1, 2, 3, 4, 5, 6, 7, 8, 9, 10, 11, 12, 13, 14, 15, 16, 17] [18, 19, 20] (fun w' => ∃ z : Later X, w' = z.1) (by kernel_rfl) (by kernel_rfl) (by kernel_rfl) ⟨⟨_, (Below.refl _ _).drew⟩, rfl⟩ ?_
                  simp only [opsAt, List.map_cons, List.map_nil, Array.getD_eq_getD_getElem?, List.getElem?_toArray, List.getElem?_cons_zero, List.getElem?_cons_succ, Option.getD_some]
                  repeat (go_big_quiet_step (fail))
                  refine wpQuiet_nil ?_
                  clear z1 z2 z3 z4
                  refine wpR_list [18, 19, 20] _ _ (by kernel_rfl) ?_
                  simp only [opsAt, List.map_cons, List.map_nil, Array.getD_eq_getD_getElem?, List.getElem?_toArray, List.getElem?_cons_zero, List.getElem?_cons_succ, Option.getD_some]
                  go_wp2
                  refine NoPanic.normal ?_
                  go_wp2
                  go_ret2
                  exact HBAD.out _ HSX.out.bl.drew HN.out
            · have hltz : ¬ (k : Int) < (n : Int) := by omega
              have hkk : n - k = 0 := by omega
              rw [hkk] at HS
              have HD := Lib.hid HS.out.eq
              go_wp2
              go_ret2
              exact ⟨(HB2.out.mono hBw).trans HS.out.bl, .inr ⟨rest, gs', mc', HD.out, rfl, HS.out.idx, HS.out.ten⟩⟩
      · have hgz : ((str x0).toList == [103, 114, 111, 117, 112]) = false := by rw [ByteArray.toList_eq, str_data, beq_eq_false_iff_ne]; exact hg
        have HN := Lib.hid (HNO.out (by simp [hg]))
        clear HNO HYES
        go_wp2
        go_ret2
        exact HBAD.out _ (Below.refl _ _) HN.out
    · have hw3 : (wordsOf l).length ≠ 3 := fun e => h3 (by rw [HT.out, List.length_map]; exact e)
      have h3z : ((T.length : Int) != 3) = true := by rw [bne_iff_ne]; omega
      have HN := Lib.hid (HNO.out (fun h => hw3 h.2.1))
      clear HNO HYES hw3
      go_wp2
      go_ret2
      exact HBAD.out _ (Below.refl _ _) HN.out

end Go.Proofs.YtdjaphcelpchaaaGreatDoor

namespace Go.Proofs.YtdjaphcelpchaaaGreatDoor
open Go Go.RowKit Go.Proofs

/-- Good lines of some names. -/
def GoodF (F : LF) (ts : List ByteArray) : Prop := ordN ts ∧ ∀ t ∈ ts, nameErr t = 0 ∧ RowP (F t) ∧ (F t).length < 10000000000 ∧ F t ≠ []
/-- The text of an index. -/
def GoodTxt (l : List UInt8) : Prop := ∃ F ts, GoodF F ts ∧ l = encTxt F ts
abbrev noL : LF := fun _ => []
theorem ordN_nodup {ts : List ByteArray} (h : ordN ts) : ts.Nodup := h.imp fun {a b} hab e => by rw [e, cmpN_refl] at hab; omega
theorem dec_good {F : LF} {ts : List ByteArray} (h : GoodF F ts) {n : Nat} (hn : (encTxt F ts).length < n) : decGo n noL (encTxt F ts) = some (putAll noL F ts) :=
  dec_ok F ts noL n (fun t ht => by
    obtain ⟨h1, h2, h3, _⟩ := h.2 t ht
    exact ⟨h1, h2, h3, rfl⟩) (ordN_nodup h.1) hn
theorem putAll_in {F : LF} {ts : List ByteArray} {t : ByteArray} (h : t ∈ ts) : putAll noL F ts t = F t := by
  unfold putAll
  rw [if_pos (List.any_eq_true.2 ⟨t, h, by simp⟩)]
theorem putAll_out {F : LF} {ts : List ByteArray} {t : ByteArray} (h : t ∉ ts) : putAll noL F ts t = [] := by
  unfold putAll
  rw [if_neg]
  intro hx
  obtain ⟨u, hu, e⟩ := List.any_eq_true.1 hx
  rw [decide_eq_true_eq] at e
  exact h (e ▸ hu)
theorem putAll_ne {F : LF} {ts : List ByteArray} (h : GoodF F ts) (t : ByteArray) : putAll noL F ts t ≠ [] ↔ t ∈ ts := by
  constructor
  · intro hne
    cases Classical.em (t ∈ ts) with
    | inl h1 => exact h1
    | inr h1 => exact absurd (putAll_out h1) hne
  · intro ht
    rw [putAll_in ht]
    exact (h.2 t ht).2.2.2
/-- The lines of a good text determine its names and the text. -/
theorem good_names {F : LF} {ts : List ByteArray} (h : GoodF F ts) {K : LF} (hK : putAll noL F ts = K) {ns : List ByteArray} (hn : ordN ns) (hm : ∀ t, t ∈ ns ↔ K t ≠ []) : ts = ns ∧ encTxt F ts = encTxt K ns := by
  have e : ts = ns := ordN_ext h.1 hn fun t => by rw [hm t, ← hK, putAll_ne h]
  refine ⟨e, ?_⟩
  subst e
  unfold encTxt
  rw [List.flatMap_def, List.flatMap_def]
  refine congrArg List.flatten (List.map_congr_left fun t ht => ?_)
  rw [← hK, putAll_in ht]

theorem lf_names {B ib M mc : Nat} {gs : List MG} {w : World} (h : IdxAt B w ib M gs mc) (t : ByteArray) : (∃ G ∈ gs, G.name = t) ↔ lfOf gs t ≠ [] := by
  unfold lfOf
  rw [Ne, List.map_eq_nil_iff]
  constructor
  · rintro ⟨G, hG, rfl⟩
    rw [linesIn_of h hG]
    exact (h.grps G hG).some'
  · intro hne
    obtain ⟨G, hG, _⟩ := linesIn_ne hne
    exact ⟨G, groupOf_mem hG⟩
theorem row_of_grp {B : Nat} {w : World} {G : MG} (h : GrpAt B w G) : RowP (G.ms.map (·.p)) := by
  refine ⟨fun p hp => ?_, ?_, ?_⟩
  · obtain ⟨m, hm, rfl⟩ := List.mem_map.1 hp
    exact h.good m hm
  · have := h.sorted
    unfold nums at this
    unfold numsP
    rw [List.map_map]
    exact this
  · have := h.ids
    rw [List.map_map]
    exact this
theorem good_of_idx {B ib M mc : Nat} {gs : List MG} {w : World} (h : IdxAt B w ib M gs mc) {ns : List ByteArray} (hn : ordN ns) (hm : ∀ t, t ∈ ns ↔ ∃ G ∈ gs, G.name = t) : GoodF (lfOf gs) ns := by
  refine ⟨hn, fun t ht => ?_⟩
  obtain ⟨G, hG, rfl⟩ := (hm t).1 ht
  have h1 := h.grps G hG
  have e : lfOf gs G.name = G.ms.map (·.p) := by unfold lfOf; rw [linesIn_of h hG]
  rw [e]
  refine ⟨h1.named, row_of_grp h1, ?_, ?_⟩
  · rw [List.length_map]
    have := length_le_total hG
    have := h.few
    omega
  · rw [Ne, List.map_eq_nil_iff]
    exact h1.some'
theorem putAll_idx {B ib M mc : Nat} {gs : List MG} {w : World} (h : IdxAt B w ib M gs mc) {ns : List ByteArray} (hm : ∀ t, t ∈ ns ↔ ∃ G ∈ gs, G.name = t) : putAll noL (lfOf gs) ns = lfOf gs := by
  funext t
  cases Classical.em (t ∈ ns) with
  | inl h1 => exact putAll_in h1
  | inr h1 =>
    rw [putAll_out h1]
    have h2 : ¬ lfOf gs t ≠ [] := fun h3 => h1 ((hm t).2 ((lf_names h t).2 h3))
    exact (Classical.not_not.1 h2).symm
/-- Good texts that are the same have the same lines. -/
theorem good_inj {F F' : LF} {ts ts' : List ByteArray} (h : GoodF F ts) (h' : GoodF F' ts') (he : encTxt F ts = encTxt F' ts') : putAll noL F ts = putAll noL F' ts' := by
  have h1 := dec_good h (Nat.lt_succ_self _)
  have h2 := dec_good h' (Nat.lt_succ_self _)
  rw [he] at h1
  exact Option.some.inj (h1.symm.trans h2)
/-- Two indexes with the same text. -/
theorem idx_inj {B1 B2 ib1 ib2 M1 M2 mc1 mc2 : Nat} {gs1 gs2 : List MG} {w1 w2 : World} (h1 : IdxAt B1 w1 ib1 M1 gs1 mc1) (h2 : IdxAt B2 w2 ib2 M2 gs2 mc2) {ns1 ns2 : List ByteArray} (hn1 : ordN ns1) (hm1 : ∀ t, t ∈ ns1 ↔ ∃ G ∈ gs1, G.name = t) (hn2 : ordN ns2) (hm2 : ∀ t, t ∈ ns2 ↔ ∃ G ∈ gs2, G.name = t) (he : encTxt (lfOf gs1) ns1 = encTxt (lfOf gs2) ns2) : lfOf gs1 = lfOf gs2 := by
  have := good_inj (good_of_idx h1 hn1 hm1) (good_of_idx h2 hn2 hm2) he
  rwa [putAll_idx h1 hm1, putAll_idx h2 hm2] at this
theorem RelR.lf {gs gs' : List MG} {rs : List MR} (h : RelR gs rs) (he : lfOf gs = lfOf gs') : RelR gs' rs := fun t p => by
  rw [← h t p]
  have e : (linesIn gs t).map (·.p) = (linesIn gs' t).map (·.p) := congrFun he t
  have h1 : ∀ (l : List ML), (∃ m ∈ l, m.p = p) ↔ p ∈ l.map (·.p) := fun l => by rw [List.mem_map]
  rw [h1, h1, e]

end Go.Proofs.YtdjaphcelpchaaaGreatDoor

namespace Go.Proofs.YtdjaphcelpchaaaGreatDoor
open Go Go.RowKit Go.Proofs

attribute [local go_sem ↓] ex_load_id ex_store_id ex_load_line ex_store_line ex_load_rline ex_store_rline ex_alloc_line ex_build_line ex_alloc_rline ex_build_rline

attribute [local go_sem] ld_id st_id ld_line st_line ld_rline st_rline guard_id okCells_drew rdCells_drew okCells_drewN rdCells_drewN rowOk_drew rowOk_cells okCells_cells rdCells_cells setRow_drew setRow_new setRow_past

/-- What Decode answers. -/
def DecPost (l : List UInt8) (w : World) (r : Ending) (w' : World) : Prop :=
  Below w.heap.size w w' ∧ ((∃ ib M gs mc ns, r = .returned (.tuple #[.pointer (some ⟨ib, 0, none⟩), .int .i64 0]) ∧ IdxAt w.heap.size w' ib M gs mc ∧ total gs ≤ l.count 10 ∧ ordN ns ∧ (∀ t, t ∈ ns ↔ ∃ G ∈ gs, G.name = t) ∧ l = encTxt (lfOf gs) ns) ∨
    (r = .returned (.tuple #[.pointer none, .int .i64 3]) ∧ ¬ GoodTxt l))
theorem not_good {l : List UInt8} (h : decGo (l.length + 1) noL l = none) : ¬ GoodTxt l := by
  rintro ⟨F, ts, hg, e⟩
  rw [e, dec_good hg (Nat.lt_succ_self _)] at h
  cases h
theorem not_good2 {l : List UInt8} {B ib M mc : Nat} {gs : List MG} {w : World} (hx : IdxAt B w ib M gs mc) (h : decGo (l.length + 1) noL l = some (lfOf gs)) {ns : List ByteArray} (hn : ordN ns) (hm : ∀ t, t ∈ ns ↔ ∃ G ∈ gs, G.name = t) (hne : encTxt (lfOf gs) ns ≠ l) : ¬ GoodTxt l := by
  rintro ⟨F, ts, hg, e⟩
  rw [e, dec_good hg (Nat.lt_succ_self _), Option.some.injEq] at h
  obtain ⟨_, h2⟩ := good_names hg h hn (fun t => (hm t).trans (lf_names hx t))
  exact hne (h2.symm.trans e.symm)
/-- In the middle of Decode. -/
structure DeSt (ib M : Nat) (l : List UInt8) (w : World) (n : Nat) (rest : List UInt8) (gs : List MG) (mc : Nat) (W : World) : Prop where
  bl : Below w.heap.size w W
  idx : IdxAt w.heap.size W ib M gs mc
  eq : decGo (l.length + 1) noL l = decGo n (lfOf gs) rest
  fuel : rest.length < n
  ten : total gs + rest.count 10 ≤ l.count 10
  len : rest.length ≤ l.length

set_option maxRecDepth 100000 in
set_option maxHeartbeats 8000000 in
theorem decode_any (l : List UInt8) (w : World) (hG : Gl w) (hl : l.length ≤ 16777216) (hten : l.count 10 ≤ 65536) :
    Calls Tryz.prog 50 #[.string (str l)] w fun r w' => DecPost l w r w' := by
  have hlz : ¬ (16777216 : Int) < ((str l).size : Int) := by rw [str_size]; omega
  have HG := Lib.hid hG
  clear hG
  go_enter Tryz.func50, Tryz.ntmps50
  go_wp2_with fail
  refine (new_any w).mono ?_
  rintro r w1 ⟨rfl, hw1⟩
  have hb1 : Below w.heap.size w w1 := by rw [← hw1]; exact ((Below.refl _ _).alloc (Nat.le_refl _) _).alloc (by simp) _
  have hx1 : IdxAt w.heap.size w1 (w.heap.size + 1) w.heap.size [] 0 := by rw [← hw1]; exact IdxAt.fresh _ _ (Nat.le_refl _)
  have HS0 : Hid (DeSt (w.heap.size + 1) w.heap.size l w (l.length + 1) l [] 0 w1) := Lib.hid ⟨hb1, hx1, rfl, Nat.lt_succ_self _, by simp [total], Nat.le_refl _⟩
  clear hw1 hb1 hx1
  go_wp2
  go_loopw [5, 6, 14] (fun rv _ _ wr => ∃ (n : Nat) (rest : List UInt8) (gs : List MG) (mc : Nat), rv = .string (str rest) ∧ Hid (DeSt (w.heap.size + 1) w.heap.size l w n rest gs mc wr)) (fun rv _ _ _ => match rv with | .string s => s.size | _ => 0)
  case atStart => exact ⟨_, l, [], 0, rfl, HS0⟩
  case round =>
    obtain ⟨n, rest, gs, mc, rfl, HS⟩ := hrel
    have hrl := HS.out.len
    by_cases hre : rest = []
    · subst hre
      have hez : ((str []).toList.isEmpty) = true := by rw [ByteArray.toList_eq, str_data]; rfl
      have HDG : Hid (decGo (l.length + 1) noL l = some (lfOf gs)) := Lib.hid (by
        rw [HS.out.eq]
        obtain ⟨m, hm⟩ : ∃ m, n = m + 1 := ⟨n - 1, by have := HS.out.fuel; omega⟩
        rw [hm]
        unfold decGo
        rw [if_pos rfl])
      have HEN := Lib.hid (encode_any w.heap.size (w.heap.size + 1) w.heap.size mc gs wr (HG.out.later HS.out.bl) HS.out.idx)
      go_wp2_with fail
      refine HEN.out.mono ?_
      rintro r w2 ⟨ns, rfl, hn, hm, hb2⟩
      have HX2 := Lib.hid (HS.out.idx.below hb2)
      have HB2 := Lib.hid (HS.out.bl.trans (hb2.mono HS.out.bl.size))
      have HT := Lib.hid HS.out.ten
      have HN := Lib.hid hn
      have HM := Lib.hid hm
      clear hb2 HEN HS hn hm
      by_cases he : encTxt (lfOf gs) ns = l
      · have hee : encTxt (fun t => (linesIn gs t).map (·.p)) ns = l := he
        rw [hee]
        have hq : ((str l).toList == (str l).toList) = true := by simp
        clear hee
        go_wp2
        go_ret2
        exact ⟨HB2.out, .inl ⟨_, _, gs, mc, ns, rfl, HX2.out, by have := HT.out; omega, HN.out, HM.out, he.symm⟩⟩
      · have HNG := Lib.hid (not_good2 HX2.out HDG.out HN.out HM.out he)
        have hq : ((str (encTxt (fun t => (linesIn gs t).map (·.p)) ns)).toList == (str l).toList) = false := by
          rw [ByteArray.toList_eq, ByteArray.toList_eq, str_data, str_data, beq_eq_false_iff_ne]
          exact he
        generalize str (encTxt (fun t => (linesIn gs t).map (·.p)) ns) = TX at hq ⊢
        clear he
        go_wp2
        go_ret2
        exact ⟨HB2.out, .inr ⟨rfl, HNG.out⟩⟩
    · have hez : ((str rest).toList.isEmpty) = false := by
        rw [ByteArray.toList_eq, str_data]
        cases rest with
        | nil => exact absurd rfl hre
        | cons a t => rfl
      obtain ⟨m, hm⟩ : ∃ m, n = m + 1 := ⟨n - 1, by have := HS.out.fuel; omega⟩
      subst hm
      have HDG := Lib.hid (decGroup_any w.heap.size (w.heap.size + 1) w.heap.size mc gs rest w wr HG.out rfl HS.out.bl HS.out.idx (by omega) (by have := HS.out.ten; omega))
      have HNO : Hid (dg (lfOf gs) rest = none → ¬ GoodTxt l) := Lib.hid fun h => not_good (by
        rw [HS.out.eq]
        unfold decGo
        rw [if_neg hre, h])
      have HYES : Hid (∀ rest' gs' mc' W, Below w.heap.size wr W → dg (lfOf gs) rest = some (rest', lfOf gs') → IdxAt w.heap.size W (w.heap.size + 1) w.heap.size gs' mc' → total gs' + rest'.count 10 ≤ total gs + rest.count 10 → DeSt (w.heap.size + 1) w.heap.size l w m rest' gs' mc' W ∧ rest'.length < rest.length) := Lib.hid fun rest' gs' mc' W hb h hx ht => by
        have h1 := dg_lt h
        refine ⟨⟨HS.out.bl.trans hb, hx, ?_, by have := HS.out.fuel; omega, by have := HS.out.ten; omega, by omega⟩, h1⟩
        rw [HS.out.eq]
        conv => lhs; unfold decGo
        rw [if_neg hre, h]
      have HBL := Lib.hid HS.out.bl
      clear HS
      go_wp2_with fail
      refine HDG.out.mono ?_
      rintro r w2 ⟨hb2, hp⟩
      have HB2 := Lib.hid (HBL.out.trans hb2)
      clear HDG
      rcases hp with ⟨hn, rfl⟩ | ⟨rest', gs', mc', hd, rfl, hx, ht⟩
      · have HNG := Lib.hid (HNO.out hn)
        clear HNO HYES hb2 hn
        go_wp2
        go_ret2
        exact ⟨HB2.out, .inr ⟨rfl, HNG.out⟩⟩
      · have HY := Lib.hid (HYES.out rest' gs' mc' w2 hb2 hd hx ht)
        clear HNO HYES hb2 hd hx ht
        go_wp2
        go_roundw
        case rel => exact ⟨m, rest', gs', mc', rfl, Lib.hid HY.out.1⟩
        case measure => exact HY.out.2

end Go.Proofs.YtdjaphcelpchaaaGreatDoor

namespace Go.Proofs.YtdjaphcelpchaaaGreatDoor
open Go Go.RowKit Go.Proofs

attribute [local go_sem ↓] ex_load_id ex_store_id ex_load_line ex_store_line ex_load_rline ex_store_rline ex_alloc_line ex_build_line ex_alloc_rline ex_build_rline ex_load_op

attribute [local go_sem] ld_id st_id ld_line st_line ld_rline st_rline guard_id okCells_drew rdCells_drew okCells_drewN rdCells_drewN rowOk_drew rowOk_cells okCells_cells rdCells_cells setRow_drew setRow_new setRow_past ld_op

/-- What Build answers. -/
def BuildPost (w0 : World) (n : Nat) (r : Ending) (w' : World) : Prop := ∃ ib M gs mc v' rs, r = .returned (.tuple #[.pointer (some ⟨ib, 0, none⟩), v', .bool true]) ∧ PlaySt w0 ib M gs mc v' rs n w'

set_option maxRecDepth 100000 in
set_option maxHeartbeats 8000000 in
/-- w0: the world in which the operations were handed over. -/
theorem build_any (v : Value) (os : List MO) (w0 w : World) (hG : Gl w0) (h : OpsAt w0 v os) (hb : Below w0.heap.size w0 w) (hfit : fitsB os = true) :
    Calls Tryz.prog 28 #[v] w fun r w' => BuildPost w0 os.length r w' := by
  obtain ⟨a, c, rfl, hc, hr⟩ := h.row
  have hfew := h.few
  have HX := Lib.hid h
  have HG := Lib.hid hG
  unfold fitsB at hfit
  rw [Bool.and_eq_true, decide_eq_true_eq, List.all_eq_true] at hfit
  obtain ⟨h40, hsm⟩ := hfit
  have HSM := Lib.hid hsm
  have HP0 := Lib.hid (PlaySt.start hb)
  clear h hG hsm hb
  go_enter Tryz.func28, Tryz.ntmps28
  go_wp2_with fail
  refine (new_any w).mono ?_
  rintro r w3 ⟨rfl, hw3⟩
  rw [hw3] at HP0
  obtain ⟨M, hM⟩ : ∃ M, M = w.heap.size := ⟨_, rfl⟩
  rw [← hM] at HP0 ⊢
  clear hw3 hM
  go_wp2
  go_loopw [6, 7, 8] (fun wv ok i wr => ∃ (k : Nat) (gs : List MG) (mc : Nat) (rs : List MR), k ≤ os.length ∧ i = .int .i64 k ∧ ok = .bool true ∧ Hid (PlaySt w0 (M + 1) M gs mc wv rs k wr)) (fun _ _ i _ => os.length - (intOf i).toNat)
  case atStart => exact ⟨0, [], 0, [], by omega, rfl, rfl, HP0⟩
  case round =>
    obtain ⟨k, gs, mc, rs, hk, rfl, rfl, HP⟩ := hrel
    by_cases hlt : k < os.length
    · have hltz : (k : Int) < (os.length : Int) := by omega
      have hne : os ≠ [] := fun e => by rw [e] at hlt; cases hlt
      obtain ⟨b, off, rfl, hbl, hcell⟩ := hr hne
      obtain ⟨o1, d1⟩ := opAt_rd (w := wr) (b := b) (off := off) (os := os) (fun j hj i u hu => (HP.out.bl.cell (p := ⟨b, off + j * 40 + i, none⟩) hbl).trans (hcell j hj i u hu)) hlt
      have hmem : os[k] ∈ os := List.getElem_mem hlt
      have hsm := HSM.out _ hmem
      unfold smallB at hsm
      rw [Bool.and_eq_true, decide_eq_true_eq, decide_eq_true_eq] at hsm
      have hkind := HX.out.kind _ hmem
      have hids := HX.out.ids _ hmem
      have hnm := HX.out.names _ hmem
      have htot := HP.out.tot
      have hlen := HP.out.len
      have HD := Lib.hid (do_any w0.heap.size w0.heap.size (M + 1) M mc gs u6 rs os[k].k os[k].s os[k].m.p os[k].m.v wr hkind (HG.out.later HP.out.bl) HP.out.idx HP.out.refs HP.out.bl.size HP.out.rel HP.out.ord (by omega) ⟨hids.below HP.out.bl, by unfold maxLen; omega, Nat.le_trans hnm.2.1 (Nat.div_le_self _ _), Nat.le_trans hnm.2.2 (Nat.div_le_self _ _)⟩ (by omega) (by omega) (by omega))
      have HID := Lib.hid hids
      generalize os[k] = o at o1 d1 HD HID
      clear hsm hkind hids hnm hmem htot hlen hcell
      go_wp2_with fail
      refine HD.out.mono ?_
      rintro r w4 ⟨gs', mc', v', rs', hd⟩
      have hret := hd.ret
      subst hret
      have HP4 := Lib.hid (HP.out.next HID.out hd)
      clear hd HD HP o1 d1
      go_wp2
      go_roundw
      case rel => exact ⟨k + 1, gs', mc', rs', by omega, by go_num, rfl, HP4⟩
      case measure => simp [intOf]; omega
    · obtain rfl : k = os.length := by omega
      go_wp2
      refine bodyPost_ret (results_tmp3 rfl _ _ _) rfl ?_
      exact ⟨M + 1, M, gs, mc, _, rs, rfl, HP.out⟩

end Go.Proofs.YtdjaphcelpchaaaGreatDoor

namespace Go.Proofs.YtdjaphcelpchaaaGreatDoor
open Go Go.RowKit Go.Proofs

theorem rel_eqG {B1 B2 ib1 ib2 M1 M2 mc1 mc2 : Nat} {gs1 gs2 : List MG} {w1 w2 : World} (h1 : IdxAt B1 w1 ib1 M1 gs1 mc1) (h2 : IdxAt B2 w2 ib2 M2 gs2 mc2) {rs : List MR} (ho : ordR rs) (r1 : RelR gs1 rs) (r2 : RelR gs2 rs) : eqG gs1 gs2 = true :=
  (eqG_iff h1 h2).2 fun t => (rel_lines h1 r1 ho t).trans (rel_lines h2 r2 ho t).symm
/-- The text of an index that holds the reference's lines. -/
theorem rel_enc {B ib M mc : Nat} {gs : List MG} {w : World} (h : IdxAt B w ib M gs mc) {rs : List MR} (ho : ordR rs) (hr : RelR gs rs) {ns : List ByteArray} (hn : ordN ns) (hm : ∀ t, t ∈ ns ↔ ∃ G ∈ gs, G.name = t) : encTxt (fun t => (linesIn gs t).map (·.p)) ns = encTxt (fun t => (ofR rs t).map (·.m.p)) (groupsR rs) := by
  rw [rel_names h hr ho hn hm]
  exact congrArg (fun F => encTxt F (groupsR rs)) (funext fun t => rel_lines h hr ho t)

end Go.Proofs.YtdjaphcelpchaaaGreatDoor

namespace Go.Proofs.YtdjaphcelpchaaaGreatDoor
open Go Go.RowKit Go.Proofs

attribute [local go_sem ↓] ex_load_id ex_store_id ex_load_line ex_store_line ex_load_rline ex_store_rline ex_alloc_line ex_build_line ex_alloc_rline ex_build_rline

attribute [local go_sem] ld_id st_id ld_line st_line ld_rline st_rline guard_id okCells_drew rdCells_drew okCells_drewN rdCells_drewN rowOk_drew rowOk_cells okCells_cells rdCells_cells setRow_drew setRow_new setRow_past

theorem count_flat {α : Type} (f : α → List UInt8) (m : Nat) : ∀ (l : List α), (∀ x ∈ l, (f x).count 10 ≤ m) → (l.flatMap f).count 10 ≤ l.length * m
  | [], _ => by simp
  | a :: l, h => by
    have h1 := h a (by simp)
    have h2 := count_flat f m l fun x hx => h x (by simp [hx])
    rw [List.flatMap_cons, List.count_append, List.length_cons, Nat.succ_mul]
    omega
theorem txtP_ten {p : PLine} (h : pErr p = 0) : (txtP p).count 10 = 1 := by
  unfold txtP
  rw [List.count_append, List.count_eq_zero.2 (no10_line h)]
  rfl
theorem head_ten {t : ByteArray} (ht : nameErr t = 0) (n : Nat) : (grpHead t n).count 10 ≤ 1 := by
  have h10 : (10 : UInt8) ∉ ([103, 114, 111, 117, 112] ++ 32 :: (t.data.toList ++ 32 :: Lib.decDigits n) : List UInt8) := fun hm => by
    simp only [List.mem_append, List.mem_cons] at hm
    rcases hm with hm | hm | hm | hm | hm
    · revert hm; decide
    · revert hm; decide
    · exact name_no ht (by decide) (by decide) hm
    · revert hm; decide
    · exact no_dig 10 (by decide) _ hm
  have h := head_form t n []
  rw [List.append_nil] at h
  rw [h, List.count_append, List.count_eq_zero.2 h10]
  simp
/-- A text of few lines is small. -/
theorem enc_small {F : LF} {ts : List ByteArray} (h : GoodF F ts) (h40 : ts.length ≤ 40) (hn : ∀ t ∈ ts, (F t).length ≤ 40) : (encTxt F ts).length ≤ 16777216 ∧ (encTxt F ts).count 10 ≤ 65536 := by
  constructor
  · have h1 := flat_le (fun t => grpTxt t (F t)) 400240 ts fun t ht => by
      obtain ⟨g1, g2, _, _⟩ := h.2 t ht
      have a1 := grpHead_le (n := (F t).length) (name_size g1) (by have := hn t ht; omega)
      have a2 := flat_le txtP 10001 (F t) fun p hp => txtP_le (g2.good p hp)
      have a3 : (F t).length * 10001 ≤ 40 * 10001 := Nat.mul_le_mul_right _ (hn t ht)
      show (grpTxt t (F t)).length ≤ _
      unfold grpTxt
      rw [List.length_append]
      omega
    have h2 : ts.length * 400240 ≤ 40 * 400240 := Nat.mul_le_mul_right _ h40
    unfold encTxt
    omega
  · have h1 := count_flat (fun t => grpTxt t (F t)) 41 ts fun t ht => by
      obtain ⟨g1, g2, _, _⟩ := h.2 t ht
      have a1 := head_ten g1 (F t).length
      have a2 := count_flat txtP 1 (F t) fun p hp => Nat.le_of_eq (txtP_ten (g2.good p hp))
      have a3 := hn t ht
      show (grpTxt t (F t)).count 10 ≤ _
      unfold grpTxt
      rw [List.count_append]
      omega
    have h2 : ts.length * 41 ≤ 40 * 41 := Nat.mul_le_mul_right _ h40
    unfold encTxt
    omega
theorem linesIn_total {gs : List MG} (t : ByteArray) : (linesIn gs t).length ≤ total gs := by
  unfold linesIn
  cases hg : groupOf gs t with
  | none => simp
  | some G => exact length_le_total (groupOf_mem hg).1

set_option maxRecDepth 100000 in
set_option maxHeartbeats 8000000 in
theorem law_encode (v : Value) (os : List MO) (w : World) (hG : Gl w) (h : OpsAt w v os) :
    Calls Tryz.prog 12 #[v] w fun r w' => r = .returned (.bool true) ∧ Below w.heap.size w w' := by
  obtain ⟨a, n0, c, rfl⟩ : ∃ a n c, v = .slice a n c := by obtain ⟨a, c, e, _⟩ := h.row; exact ⟨a, _, c, e⟩
  have HX := Lib.hid h
  have HG := Lib.hid hG
  clear h hG
  go_enter Tryz.func12, Tryz.ntmps12
  go_wp2_with fail
  refine (knows w HG.out).mono ?_
  rintro r w1 ⟨rfl, hb1⟩
  have HB1 := Lib.hid hb1
  have HF := Lib.hid (fits_any _ os w1 (HX.out.below hb1))
  clear hb1
  go_wp2_with fail
  refine HF.out.mono ?_
  rintro r w2 ⟨rfl, hb2⟩
  have HB2 := Lib.hid (HB1.out.trans (hb2.mono HB1.out.size) : Below w.heap.size w w2)
  clear hb2 HF HB1
  cases hfit : fitsB os with
  | false =>
    clear hfit
    go_wp2_with fail
    refine (knows w2 (HG.out.later HB2.out)).mono ?_
    rintro r w3 ⟨rfl, hb3⟩
    have HB3 := Lib.hid (HB2.out.trans (hb3.mono HB2.out.size) : Below w.heap.size w w3)
    clear hb3
    go_wp2
    go_ret
    exact ⟨rfl, HB3.out⟩
  | true =>
    have h40 : os.length ≤ 40 := by
      have hf2 := hfit
      unfold fitsB at hf2
      rw [Bool.and_eq_true, decide_eq_true_eq] at hf2
      exact hf2.1
    have HBU := Lib.hid (build_any _ os w w2 HG.out HX.out HB2.out hfit)
    clear hfit
    go_wp2_with fail
    refine HBU.out.mono ?_
    rintro r w3 ⟨ib, M, gs, mc, v', rs, rfl, hp⟩
    obtain ⟨va, vn, vc, hve⟩ : ∃ a n c, v' = .slice a n c := own_slice hp.refs.row
    subst hve
    have HP3 := Lib.hid hp
    clear hp HBU
    have HEN := Lib.hid (encode_any w.heap.size ib M mc gs w3 (HG.out.later HP3.out.bl) HP3.out.idx)
    go_wp2_with fail
    refine HEN.out.mono ?_
    rintro r w4 ⟨ns, rfl, hn, hm, hb4⟩
    have HP4 := Lib.hid (HP3.out.later hb4)
    have hnse := rel_names HP3.out.idx HP3.out.rel HP3.out.ord hn hm
    have hgood := good_of_idx HP3.out.idx hn hm
    have hsm := enc_small hgood (by rw [hnse]; have := groups_length rs; have := HP3.out.len; omega) (fun t _ => by unfold lfOf; rw [List.length_map]; have := linesIn_total (gs := gs) t; have := HP3.out.tot; omega)
    have HGT : Hid (GoodTxt (encTxt (lfOf gs) ns)) := Lib.hid ⟨_, _, hgood, rfl⟩
    have HN := Lib.hid hn
    have HM := Lib.hid hm
    have HRE : Hid (encTxt (lfOf gs) ns = refTxt rs rs.length) := Lib.hid ((rel_enc HP3.out.idx HP3.out.ord HP3.out.rel hn hm).trans (refTxt_enc HP3.out.ord).symm)
    have hee : encTxt (fun t => (linesIn gs t).map (·.p)) ns = encTxt (lfOf gs) ns := rfl
    rw [hee]
    clear hb4 HEN HP3 hgood hnse hn hm hee
    obtain ⟨l, hl⟩ : ∃ l, l = encTxt (lfOf gs) ns := ⟨_, rfl⟩
    rw [← hl] at HRE HGT hsm ⊢
    have HL := Lib.hid hl
    clear hl
    have HDE := Lib.hid (decode_any l w4 (HG.out.later HP4.out.bl) hsm.1 hsm.2)
    clear hsm
    go_wp2_with fail
    refine HDE.out.mono ?_
    rintro r w5 ⟨hb5, hp⟩
    have HP5 := Lib.hid (HP4.out.later hb5)
    rcases hp with ⟨ib2, M2, gs2, mc2, ns2, rfl, hx2, ht2, hn2, hm2, hl2⟩ | ⟨_, hno⟩
    · have hlf : lfOf gs = lfOf gs2 := idx_inj HP4.out.idx hx2 HN.out HM.out hn2 hm2 (HL.out.symm.trans hl2)
      have HX2 := Lib.hid hx2
      have HR2 := Lib.hid (HP4.out.rel.lf hlf)
      clear hb5 HDE HP4 hx2 ht2 hn2 hm2 hl2 hlf HGT
      have HRF := Lib.hid (refEncode_any w.heap.size (.slice va vn vc) rs w5 HP5.out.refs (fun r hr => (HP5.out.ids r hr).below HP5.out.bl) (fun r hr => by
        obtain ⟨m, hm, e⟩ := (HP5.out.rel r.s r.m.p).2 ⟨r, hr, rfl, rfl⟩
        rw [← e]
        exact HP5.out.idx.good_in hm))
      go_wp2_with fail
      refine HRF.out.mono ?_
      rintro r w6 ⟨rfl, hb6⟩
      have HP6 := Lib.hid (HP5.out.later hb6)
      have HX6 := Lib.hid (HX2.out.below hb6)
      rw [← HRE.out]
      have hq : ((str l).toList == (str l).toList) = true := by simp
      have HE1 := Lib.hid (equalIdx_any w4.heap.size w.heap.size ib2 ib M2 M mc2 mc gs2 gs w6 HX6.out HP6.out.idx)
      have HQ1 : Hid (eqG gs2 gs = true) := Lib.hid (rel_eqG HX6.out HP6.out.idx HP6.out.ord HR2.out HP6.out.rel)
      rw [HQ1.out] at HE1
      clear hb6 HRF HP5 HX2
      go_wp2_with fail
      refine HE1.out.mono ?_
      rintro r w7 ⟨rfl, hb7⟩
      have HP7 := Lib.hid (HP6.out.later hb7)
      have HX7 := Lib.hid (HX6.out.below hb7)
      have HE2 := Lib.hid (equalIdx_any w.heap.size w4.heap.size ib ib2 M M2 mc mc2 gs gs2 w7 HP7.out.idx HX7.out)
      have HQ2 : Hid (eqG gs gs2 = true) := Lib.hid (rel_eqG HP7.out.idx HX7.out HP7.out.ord HP7.out.rel HR2.out)
      rw [HQ2.out] at HE2
      clear hb7 HE1 HP6 HX6
      go_wp2_with fail
      refine HE2.out.mono ?_
      rintro r w8 ⟨rfl, hb8⟩
      have HP8 := Lib.hid (HP7.out.later hb8)
      have HX8 := Lib.hid (HX7.out.below hb8)
      clear hb8 HE2 HP7 HX7
      have HS := Lib.hid (same_any w4.heap.size w.heap.size ib2 M2 mc2 gs2 (.slice va vn vc) rs w8 (HG.out.later HP8.out.bl) HX8.out HP8.out.refs HR2.out HP8.out.ord (fun r hr => (HP8.out.ids r hr).below HP8.out.bl))
      go_wp2_with fail
      refine HS.out.mono ?_
      rintro r w9 ⟨rfl, hb9⟩
      have HP9 := Lib.hid (HP8.out.later hb9)
      clear hb9 HS HP8 HX8
      go_wp2
      go_ret
      exact ⟨rfl, HP9.out.bl⟩
    · exact absurd HGT.out hno

end Go.Proofs.YtdjaphcelpchaaaGreatDoor

namespace Go.Proofs.YtdjaphcelpchaaaGreatDoor.overviewEncode
open Go Go.RowKit Go.Proofs Go.Proofs.YtdjaphcelpchaaaGreatDoor Go.ChangeShapes Go.WideShapes Go.ChangeAt Go.WideMaps Go.ChangeMaps

set_option maxRecDepth 100000 in
theorem contract (H : Type) (enc : TypeId × Value → H) (W : World) (base : Nat) (args : Array Value) (ds gs : List (DataW H)) (before : List MemPlace)
    (hval : ∀ (j : Nat) t v, Tryz.f12.params[j]? = some t → args[j]? = some v → Value.okWide Tryz.prog W .any base t v)
    (hW : DataW.Whole enc Tryz.prog Tryz.f12.params.toList Rows.overviewEncodeSpec.vars false W args.toList ds gs before)
    (hR : (DataW.weightsEach Tryz.prog (Tryz.f12.params.toList ++ (OpenSpec.ofChange Rows.overviewEncodeSpec).bare.plain.varTypes Tryz.prog) (ds ++ gs)).all (· ≤ reachBytes) = true)
    (hL : laidMetH Tryz.prog Rows.overviewEncodeRow.laid W) (hS : W.ShapedOpen Tryz.prog) :
    Calls Tryz.prog 12 args W fun e W' => ∃ v, e = .returned v ∧ Rows.overviewEncodeSpec.post enc Tryz.prog Tryz.f12 false true false false W args v W' := by
  have hW' := hW
  obtain ⟨p, q, hA0, hV, rfl, hfz, hnd⟩ := hW
  have hA : DataW.TrodAll enc Tryz.prog W 0 (fun _ => true) true Tryz.f12.params.toList args.toList ds p := hA0
  rw [Tryz.params12] at hA hval hR
  obtain ⟨v0, d0, rfl, rfl, h0⟩ := trodAll_one hA
  obtain ⟨fuel0, hf0⟩ := h0
  obtain ⟨v, os0, hcs0, hO0⟩ := open_ops (cs := v0.cells.toList) hf0 (fun n hn => by
    have := List.all_eq_true.1 hR n (DataW.weights_mem_each (j := 0) rfl rfl n hn)
    simpa using this)
  obtain rfl : v0 = v := by
    have ho := ops_cells (hval 0 45 v0 rfl rfl)
    rw [ho] at hcs0
    simpa using hcs0
  clear hA0 hA
  refine (law_encode v0 os0 W (gl_of hL hS) hO0).mono fun e W' ⟨he, hb⟩ => ?_
  subst he
  exact ⟨_, rfl, law_post rfl (by kernel_rfl) hW' (by rw [Tryz.params12]; intro t ht; obtain rfl : t = 45 := (by simpa using ht); exact ⟨by kernel_rfl, of_decide_eq_true (by kernel_rfl)⟩) rfl hb⟩

theorem reads (os : Os) {H : Type} (enc : TypeId × Value → H) : ∃ places, DataW.whole enc Tryz.prog ((World.laidAll Tryz.prog os Rows.overviewEncodeRow.laid).forCall (fun _ _ => 0) ⟨#[], #[.slice none 0 0], []⟩).memory Tryz.f12.params.toList Rows.overviewEncodeSpec.vars false (#[.slice none 0 0] : Array Value).toList 8 = some ([.nil], [], places) :=
  ⟨[], by kernel_rfl⟩

set_option maxRecDepth 100000 in
theorem lifted (os : Os) (started : os.Started) (H : Type) (enc : TypeId × Value → H) (F : Stop.Interp) :
    ReturnsInHanded {} Tryz.checked os 12 .any ((OpenSpec.ofChange Rows.overviewEncodeSpec).preRow enc Tryz.prog Tryz.f12 Rows.overviewEncodeRow.domain false Rows.overviewEncodeRow.laid) (((OpenSpec.ofChange Rows.overviewEncodeSpec).at F).post enc Tryz.prog Tryz.f12 false true false false) := by
  obtain ⟨places, hx⟩ := reads os enc
  refine returnsInHanded_of_row (C := Tryz.checked) (s := OpenSpec.ofChange Rows.overviewEncodeSpec) own started (by kernel_rfl) Tryz.func12
    (witness_row_at (enc := enc) (C := Tryz.checked) false (World.laidAll Tryz.prog os Rows.overviewEncodeRow.laid) #[.slice none 0 0] (World.laidAll_os _ _ _) (by kernel_rfl) (by kernel_rfl) (by kernel_rfl)
      (OpenSpec.preRow_of_cond 8 hx (by kernel_rfl) (fun k hk => by cases hk) (by kernel_rfl) (laidMet_laidAll _ (by kernel_rfl) (by kernel_rfl)))) ?_
  intro W base args ds gs before hval hW _ _ hR hL hS _
  exact contract H enc W base args ds gs before hval hW hR hL hS

theorem said : Rows.OverviewEncodeSaid :=
  OpenClaim.holds_of_cond 12 Tryz.f12 rfl rfl rfl rfl rfl rfl rfl ⟨rfl, rfl, rfl, rfl, rfl⟩ rfl rfl rfl rfl rfl (by kernel_rfl) Tryz.func12 (by kernel_rfl)
    (of_decide_eq_true (by kernel_rfl)) (by unfold Func.isWrapper; first | (rw [if_pos (by decide +kernel)]; kernel_rfl) | (rw [if_neg (by decide +kernel)]; exact ⟨rfl, rfl⟩))
    (fun os started H enc _ F => by rw [OpenClaim.pre_eq_preRow]; exact lifted os started H enc F)

theorem plain (f : FuncId) (fn : Func) (hf : Tryz.pinned.checked.prog.funcNamed "bulletin/bulletinlaw28.OverviewEncode" = some f) (hfn : Tryz.pinned.checked.prog.funcs[f]? = some fn) :
    true = Tryz.pinned.checked.prog.looks [] ∧ ∀ (j : Nat) t, fn.params[j]? = some t → Tryz.pinned.checked.prog.wantsStandIn t = false := by
  obtain rfl : f = 12 := Option.some.inj ((show Tryz.prog.funcNamed "bulletin/bulletinlaw28.OverviewEncode" = some 12 by kernel_rfl).symm.trans hf) |>.symm
  obtain rfl : fn = Tryz.f12 := (Option.some.inj (Tryz.func12.symm.trans hfn)).symm
  refine ⟨by kernel_rfl, fun j t ht => ?_⟩
  rw [Tryz.params12] at ht
  obtain rfl : t = 45 := by simpa using Array.mem_of_getElem? ht
  exact (show Tryz.prog.wantsStandIn 45 = false by kernel_rfl)

end Go.Proofs.YtdjaphcelpchaaaGreatDoor.overviewEncode
namespace Go.Proofs.YtdjaphcelpchaaaGreatDoor
open Go
theorem overviewEncode_card : Rows.OverviewEncodeCardSaid :=
  Claim7.holds_tied_plain_at .later [] _ _ _ _ overviewEncode.said (fun _ h => by cases h) (by kernel_rfl) (fun _ h => by cases h) overviewEncode_row_tie rfl ⟨rfl, rfl⟩ (by kernel_rfl) rfl overviewEncode.plain (by kernel_rfl)
#print axioms overviewEncode_card
end Go.Proofs.YtdjaphcelpchaaaGreatDoor
