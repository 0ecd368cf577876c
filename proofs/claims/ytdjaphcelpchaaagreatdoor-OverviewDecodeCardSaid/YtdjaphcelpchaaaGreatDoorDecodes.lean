/- The tied card of bulletinlaw28.OverviewDecode, proved: for every string the call returns true; package-level tables of Go's library as the program's text lays them. -/
import Derived.Test.YtdjaphcelpchaaaGreatDoorShelf
import Derived.Test.YtdjaphcelpchaaaGreatDoorK1
import Derived.Test.YtdjaphcelpchaaaGreatDoorK2
import Derived.Test.YtdjaphcelpchaaaGreatDoorShelf2
import Derived.Test.YtdjaphcelpchaaaGreatDoorDecodesL1
import Derived.Test.YtdjaphcelpchaaaGreatDoorDecodesL2
import Derived.Test.YtdjaphcelpchaaaGreatDoorDecodesL3
import Derived.Test.YtdjaphcelpchaaaGreatDoorDecodesL4
import Derived.Test.YtdjaphcelpchaaaGreatDoorDecodesL5

namespace Go.Proofs.YtdjaphcelpchaaaGreatDoor
open Go Go.RowKit Go.Proofs

attribute [local go_sem ↓] ex_load_id ex_store_id ex_load_line ex_store_line ex_load_rline ex_store_rline ex_alloc_line ex_build_line ex_alloc_rline ex_build_rline

attribute [local go_sem] ld_id st_id ld_line st_line ld_rline st_rline guard_id okCells_drew rdCells_drew okCells_drewN rdCells_drewN rowOk_drew rowOk_cells okCells_cells rdCells_cells setRow_drew setRow_new setRow_past

theorem cut_ten (s : List UInt8) (h : (Lib.cut s [10]).2.2 = true) : (Lib.cut s [10]).2.1.count 10 + 1 ≤ s.count 10 := by
  unfold Lib.cut at h ⊢
  split at h
  · rename_i hi
    rw [if_pos hi]
    rcases Lib.index_spec s [10] with ⟨h1, _⟩ | ⟨i, h1, h2, h3, _⟩
    · omega
    · simp only [h1, Int.toNat_natCast, List.length_singleton]
      have hd : ∃ t, s.drop i = 10 :: t := by
        unfold Lib.occAt at h3
        cases hx : s.drop i with
        | nil => rw [hx] at h3; simp at h3
        | cons a t =>
          rw [hx] at h3
          simp only [List.isPrefixOf, Bool.and_eq_true, beq_iff_eq] at h3
          exact ⟨t, by rw [← h3.1]⟩
      obtain ⟨t, ht⟩ := hd
      have h4 : s.drop (i + 1) = t := by rw [← List.drop_drop, ht]; rfl
      have h5 : s.count 10 = (s.take i).count 10 + (s.drop i).count 10 := by rw [← List.count_append, List.take_append_drop]
      rw [h4, h5, ht]
      simp
  · cases h
theorem cut10_any (l : List UInt8) (w : World) (hG : Gl w) (hl : l.length < 4294967281) :
    Calls Tryz.prog 121 #[.string (str l), .string ⟨#[10]⟩] w fun r w' => r = .returned (.tuple #[.string (str (Lib.cut l [10]).1), .string (str (Lib.cut l [10]).2.1), .bool (Lib.cut l [10]).2.2]) ∧ Below w.heap.size w w' := by
  obtain ⟨m, hm⟩ := hG.len
  refine (Tryz.strings_Cut (str l) ⟨#[10]⟩ m w (by rw [str_size]; exact hl) hm).mono ?_
  rintro e w' ⟨he, n, rfl⟩
  rw [str_data] at he
  exact ⟨he, below_drewN' (Below.refl _ _) n⟩

/-- The lines of an index's groups. -/
def lfOf (gs : List MG) : LF := fun t => (linesIn gs t).map (·.p)
theorem lf_add {B ib M : Nat} {gs gs' : List MG} {s : ByteArray} {p : PLine} {w w' : World} {mc' : Nat} (hd : Added B ib M gs s p w w' gs' mc') : lfOf gs' = setL (lfOf gs) s (addP (lfOf gs s) p) := by
  obtain ⟨v, _, hl⟩ := hd.lines
  funext u
  unfold lfOf setL
  rw [hl u]
  split
  · exact addMs_p _ _ _
  · rfl
theorem lf_err (gs : List MG) (t : ByteArray) (p : PLine) : addErr (linesIn gs t) t p = addErrP (lfOf gs t) t p := addErr_p _ _ _

/-- What decodeGroup answers. -/
def DgPost (B ib M : Nat) (gs : List MG) (l : List UInt8) (w : World) (r : Ending) (w' : World) : Prop :=
  Below B w w' ∧ ((dg (lfOf gs) l = none ∧ r = .returned (.tuple #[.string ⟨#[]⟩, .bool false])) ∨
    ∃ rest gs' mc', dg (lfOf gs) l = some (rest, lfOf gs') ∧ r = .returned (.tuple #[.string (str rest), .bool true]) ∧ IdxAt B w' ib M gs' mc' ∧ total gs' + rest.count 10 ≤ total gs + l.count 10)
/-- In the middle of a group. -/
structure DgSt (B ib M : Nat) (C N : Nat) (t : ByteArray) (wb : Nat) (T : List ByteArray) (E : Option (List UInt8 × LF)) (n : Nat) (last : Int) (rest : List UInt8) (gs : List MG) (mc : Nat) (w W : World) : Prop where
  bl : Below B w W
  idx : IdxAt B W ib M gs mc
  row : W.heap[wb]? = some (.cells (T.map Value.string).toArray 9 (0, 0))
  eq : E = dgLoop t n last (lfOf gs) rest
  ten : total gs + rest.count 10 ≤ C
  len : rest.length ≤ N
theorem DgSt.later {B ib M C N : Nat} {t : ByteArray} {wb : Nat} {T : List ByteArray} {E : Option (List UInt8 × LF)} {n : Nat} {last : Int} {rest : List UInt8} {gs : List MG} {mc : Nat} {w W W' : World} (h : DgSt B ib M C N t wb T E n last rest gs mc w W) (hB : B ≤ W.heap.size) (hb : Below W.heap.size W W') : DgSt B ib M C N t wb T E n last rest gs mc w W' :=
  ⟨h.bl.trans (hb.mono hB), h.idx.below hb, (hb.block _ (Array.getElem?_eq_some_iff.1 h.row).1).trans h.row, h.eq, h.ten, h.len⟩
theorem DgSt.none {B ib M C N : Nat} {t : ByteArray} {wb : Nat} {T : List ByteArray} {E : Option (List UInt8 × LF)} {n : Nat} {last : Int} {rest : List UInt8} {gs : List MG} {mc : Nat} {w W : World} (h : DgSt B ib M C N t wb T E (n + 1) last rest gs mc w W) (hx : ∀ p, parseP (str (Lib.cut rest [10]).1) = some p → ¬ ((Lib.cut rest [10]).2.2 = true ∧ last < p.number ∧ addErrP (lfOf gs t) t p = 0)) : E = none := by
  rw [h.eq]
  unfold dgLoop
  cases hp : parseP (str (Lib.cut rest [10]).1) with
  | none => rfl
  | some p =>
    simp only
    rw [if_neg (hx p hp)]
theorem DgSt.next {B ib M C N : Nat} {t : ByteArray} {wb : Nat} {T : List ByteArray} {E : Option (List UInt8 × LF)} {n : Nat} {last : Int} {rest : List UInt8} {gs : List MG} {mc : Nat} {w W W' : World} (h : DgSt B ib M C N t wb T E (n + 1) last rest gs mc w W) {p : PLine} (hp : parseP (str (Lib.cut rest [10]).1) = some p) (he : (Lib.cut rest [10]).2.2 = true) (hl : last < p.number) (ha : addErrP (lfOf gs t) t p = 0) {gs' : List MG} {mc' : Nat} (hd : Added B ib M gs t p W W' gs' mc') : DgSt B ib M C N t wb T E n p.number (Lib.cut rest [10]).2.1 gs' mc' w W' where
  bl := h.bl.trans (hd.kept.below (by have := (Array.getElem?_eq_some_iff.1 h.idx.blk).1; have := h.idx.ibB; omega) fun k hk => (h.idx.foot_lt k hk).1)
  idx := hd.idx
  row := (hd.kept.block wb (Array.getElem?_eq_some_iff.1 h.row).1 (h.idx.not_op (by decide) h.row)).trans h.row
  eq := by
    rw [h.eq]
    conv => lhs; unfold dgLoop
    rw [hp]
    simp only
    rw [if_pos ⟨he, hl, ha⟩, ← lf_add hd]
  ten := by
    have h1 := cut_ten rest he
    have h2 := hd.tot
    have h3 := h.ten
    omega
  len := Nat.le_trans (cut_le rest).1 h.len

/-- The words of a group's first line: anything but three words, the first of them "group" and the last a number, is none. -/
theorem dg_no {L : LF} {l : List UInt8} (h : ¬ ((Lib.cut l [10]).2.2 = true ∧ (wordsOf l).length = 3 ∧ (wordsOf l)[0]? = some [103, 114, 111, 117, 112] ∧ numOk ((wordsOf l).getD 2 []) = true)) : dg L l = none := by
  unfold dg
  rw [if_neg h]
theorem dg_yes {L : LF} {l : List UInt8} (h : (Lib.cut l [10]).2.2 = true ∧ (wordsOf l).length = 3 ∧ (wordsOf l)[0]? = some [103, 114, 111, 117, 112] ∧ numOk ((wordsOf l).getD 2 []) = true) : dg L l = dgLoop (str ((wordsOf l).getD 1 [])) (numVal ((wordsOf l).getD 2 [])) 0 L (Lib.cut l [10]).2.1 := by
  unfold dg
  rw [if_pos h]

set_option maxRecDepth 100000 in
set_option maxHeartbeats 8000000 in
theorem decGroup_any (B ib M mc : Nat) (gs : List MG) (l : List UInt8) (w0 w : World) (hG : Gl w0) (hB0 : B = w0.heap.size) (hb : Below B w0 w) (h : IdxAt B w ib M gs mc) (hl : l.length < 4294967281) (hten : total gs + l.count 10 ≤ 65536) :
    Calls Tryz.prog 87 #[.pointer (some ⟨ib, 0, none⟩), .string (str l)] w fun r w' => DgPost B ib M gs l w r w' := by
  have HGW : Hid (∀ W, Below B w W → Gl W) := Lib.hid fun W hbW => by rw [hB0] at hb hbW; exact hG.later (hb.trans hbW)
  have hBw : B ≤ w.heap.size := by have := (Array.getElem?_eq_some_iff.1 h.blk).1; have := h.ibB; omega
  have HX := Lib.hid h
  clear h hG hb hB0
  go_enter Tryz.func87, Tryz.ntmps87
  go_wp2_with fail
  refine (cut10_any l w (HGW.out w (Below.refl _ _)) hl).mono ?_
  rintro r w1 ⟨rfl, hb1⟩
  have HNO : Hid _ := Lib.hid (dg_no (L := lfOf gs) (l := l))
  have HYES : Hid _ := Lib.hid (dg_yes (L := lfOf gs) (l := l))
  have hcl := (cut_le l).1
  have HTEN : Hid (_ → _) := Lib.hid (cut_ten l)
  have hhd : (Lib.cut l [10]).1.length ≤ l.length := by
    unfold Lib.cut
    split
    · simp only [List.length_take]; omega
    · exact Nat.le_refl _
  obtain ⟨T, hT⟩ : ∃ T, T = splitS 32 (str (Lib.cut l [10]).1) := ⟨_, rfl⟩
  have HT : Hid (T = (wordsOf l).map str) := Lib.hid (by rw [hT]; unfold splitS wordsOf; rw [str_data])
  generalize hcut : Lib.cut l [10] = x at *
  obtain ⟨hd, r0, en⟩ := x
  simp only at hcl hhd hT
  have HB1 := Lib.hid hb1
  have HCUT := Lib.hid hcut
  have HSP := Lib.hid (split_any 32 (str hd) w1 (HGW.out w1 (hb1.mono hBw)) (by rw [str_size]; omega))
  clear hb1 hcut
  go_wp2_with fail
  refine HSP.out.mono ?_
  rintro r w2 ⟨rfl, hw2⟩
  rw [← hT] at hw2 ⊢
  have hrow : w2.heap[w1.heap.size]? = some (.cells (T.map Value.string).toArray 9 (0, 0)) := by rw [← hw2]; exact heap_alloc_new _ _
  have HROW := Lib.hid hrow
  have HB2 : Hid (Below w.heap.size w w2) := Lib.hid (HB1.out.trans (by rw [← hw2]; exact (Below.refl _ _).alloc HB1.out.size _))
  have HBAD : Hid (∀ W, Below B w2 W → dg (lfOf gs) l = none → DgPost B ib M gs l w (.returned (.tuple #[.string ⟨#[]⟩, .bool false])) W) := Lib.hid fun W hb hn => ⟨(HB2.out.mono hBw).trans hb, .inl ⟨hn, rfl⟩⟩
  clear hw2 HSP HB1 hT
  cases en with
  | false =>
    have HN := Lib.hid (HNO.out (by simp))
    clear HNO HYES
    go_wp2
    go_ret2
    exact HBAD.out _ (Below.refl _ _) HN.out
  | true =>
    by_cases h3 : T.length = 3
    · obtain ⟨x0, x1, x2, hw⟩ : ∃ x0 x1 x2, wordsOf l = [x0, x1, x2] := by
        have h1 : (wordsOf l).length = 3 := by rw [← h3, HT.out, List.length_map]
        match wordsOf l, h1 with
        | [a, b, c], _ => exact ⟨a, b, c, rfl⟩
      have hTT : T = [str x0, str x1, str x2] := by rw [HT.out, hw]; rfl
      rw [hw] at HNO HYES
      have c0 : w2.cell? ⟨w1.heap.size, 0, none⟩ = some (.string (str x0)) := by rw [cell_of_row w2 _ 0 _ _ _ hrow, hTT]; rfl
      have c2 : w2.cell? ⟨w1.heap.size, 2, none⟩ = some (.string (str x2)) := by rw [cell_of_row w2 _ 2 _ _ _ hrow, hTT]; rfl
      have HC1 : Hid ((T.map Value.string).toArray[1]? = some (.string (str x1))) := Lib.hid (by rw [hTT]; rfl)
      have hsz : ∀ x ∈ wordsOf l, x.length ≤ l.length := fun x hx => Nat.le_trans (splitL_part 32 hd x (by unfold wordsOf at hx; rw [HCUT.out] at hx; exact hx)) hhd
      have hx2 : x2.length ≤ l.length := hsz x2 (by rw [hw]; simp)
      have hx1 : x1.length ≤ l.length := hsz x1 (by rw [hw]; simp)
      rw [h3]
      clear hrow hw hTT HT hsz
      obtain ⟨wb, hwb⟩ : ∃ wb, wb = w1.heap.size := ⟨_, rfl⟩
      rw [← hwb] at c0 c2 HROW ⊢
      clear hwb
      by_cases hg : x0 = [103, 114, 111, 117, 112]
      · have hgz : ((str x0).toList == [103, 114, 111, 117, 112]) = true := by rw [ByteArray.toList_eq, str_data, hg]; rfl
        subst hg
        have hs2 : (str x2).size ≤ maxLen := by rw [str_size]; unfold maxLen; omega
        have HPN := Lib.hid (parseNumber_any (str x2) w2 hs2)
        rw [str_data] at HPN
        cases hn : numOk x2 with
        | false =>
          have HN := Lib.hid (HNO.out (by simp [hn]))
          rw [hn] at HPN
          clear HNO HYES
          go_wp2_with fail
          refine HPN.out.mono ?_
          rintro r w3 ⟨rfl, rfl⟩
          clear HPN
          go_wp2
          go_ret2
          exact HBAD.out _ (Below.refl _ _) HN.out
        | true =>
          have HE := Lib.hid (HYES.out (by simp [hn]))
          rw [hn] at HPN
          clear HNO HYES hn
          have hnlt := numVal_lt x2
          go_wp2_with fail
          refine HPN.out.mono ?_
          rintro r w3 ⟨rfl, rfl⟩
          simp only [List.getD_cons_succ, List.getD_cons_zero] at HE
          generalize numVal x2 = n at *
          have HS0 : Hid (DgSt B ib M (total gs + l.count 10) l.length (str x1) wb T (dg (lfOf gs) l) n 0 r0 gs mc w2 w2) := Lib.hid ⟨Below.refl _ _, HX.out.below HB2.out, HROW.out, HE.out, by have := HTEN.out trivial; omega, hcl⟩
          have hB2 : B ≤ w2.heap.size := Nat.le_trans hBw HB2.out.size
          clear HPN HE c0 c2
          go_wp2
          go_loopw [7, 12, 13, 14, 15, 16, 17, 18, 50] (fun rv lv _ _ _ _ _ _ iv wr => ∃ (k : Nat) (rest : List UInt8) (last : Int) (gs' : List MG) (mc' : Nat), k ≤ n ∧ iv = .int .i64 k ∧ rv = .string (str rest) ∧ lv = .int .i64 last ∧ Hid (DgSt B ib M (total gs + l.count 10) l.length (str x1) wb T (dg (lfOf gs) l) (n - k) last rest gs' mc' w2 wr)) (fun _ _ _ _ _ _ _ _ i _ => n - (intOf i).toNat)
          case atStart => exact ⟨0, r0, 0, gs, mc, Nat.zero_le _, rfl, rfl, rfl, HS0⟩
          case round =>
            obtain ⟨k, rest, last, gs', mc', hk, rfl, rfl, rfl, HS⟩ := hrel
            have hBr : B ≤ wr.heap.size := by have := (Array.getElem?_eq_some_iff.1 HS.out.idx.blk).1; have := HS.out.idx.ibB; omega
            by_cases hlt : k < n
            · have hltz : (k : Int) < (n : Int) := by omega
              obtain ⟨d, hd'⟩ : ∃ d, n - k = d + 1 := ⟨n - k - 1, by omega⟩
              have hd2 : n - (k + 1) = d := by omega
              rw [hd'] at HS
              have HD2 := Lib.hid hd2
              have hrl := HS.out.len
              have hrc := (cut_le rest).1
              have HNONE : Hid (_ → _) := Lib.hid HS.out.none
              have hNEXT := @DgSt.next B ib M (total gs + l.count 10) l.length (str x1) wb T (dg (lfOf gs) l) d last rest gs' mc' w2 wr
              have hhd2 : (Lib.cut rest [10]).1.length ≤ rest.length := by
                unfold Lib.cut
                split
                · simp only [List.length_take]; omega
                · exact Nat.le_refl _
              have HCU := Lib.hid (cut10_any rest wr (HGW.out _ ((HB2.out.mono hBw).trans HS.out.bl)) (by omega))
              clear hd' hd2
              generalize hcut2 : Lib.cut rest [10] = y at *
              obtain ⟨tx, af, en⟩ := y
              simp only at hhd2 hrc
              go_wp2_with fail
              refine HCU.out.mono ?_
              rintro r w4 ⟨rfl, hb4⟩
              have HS4 := Lib.hid (HS.out.later hBr hb4)
              have HB4 := Lib.hid hb4
              have hB4 : B ≤ w4.heap.size := Nat.le_trans hBr hb4.size
              clear hb4 HCU
              have HPA := Lib.hid (parse_own (str tx) w4 (HGW.out _ ((HB2.out.mono hBw).trans HS4.out.bl)) (by rw [str_size]; omega))
              go_wp2_with fail
              refine HPA.out.mono ?_
              rintro r w5 ⟨G, ids, rfl, hP, hI, hone, hb5⟩
              have HS5 := Lib.hid (HS4.out.later hB4 hb5)
              have hB5 : B ≤ w5.heap.size := Nat.le_trans hB4 hb5.size
              have hft := fits_line hone
              have hzs : ((lineCells zeroLine).size == 38) = true := by rw [lineCells_size]; rfl
              have HPE : Hid ((parseOut (str tx)).1 ≠ 0 → parseP (str tx) = none) := Lib.hid fun h => by unfold parseP; rw [if_neg h]
              have HPY : Hid ((parseOut (str tx)).1 = 0 → ∃ p, parseP (str tx) = some p ∧ p.ids = ids ∧ G = ML.g ⟨p, G.refs⟩ ∧ pErr p = 0) := Lib.hid fun h => by
                obtain ⟨p, h1, h2, h3⟩ := parsed_p hP h
                refine ⟨p, h1, h2, h3, ?_⟩
                have h4 := (print_parse h hP).1
                rw [h3, ← h2] at h4
                exact h4
              generalize parseOut (str tx) = po at *
              obtain ⟨pe, pat⟩ := po
              simp only at HPE HPY
              have hV : LineVar (w5.alloc (.cells (lineCells G) 34)) w5.heap.size G := heap_alloc_new _ _
              have hbX : Below w5.heap.size w5 (w5.alloc (.cells (lineCells G) 34)) := (Below.refl _ _).alloc (Nat.le_refl _) _
              have hIX := hI.below hbX
              have hsX := HS5.out.later hB5 hbX
              have HFT : Hid (∀ k ∈ foot ib M gs', k < w5.heap.size) := Lib.hid fun k hk => (HS5.out.idx.foot_lt k hk).2
              have HBW : Hid (Below wr.heap.size wr w5) := Lib.hid (HB4.out.trans (hb5.mono HB4.out.size))
              clear hb5 HPA hP hI
              go_upto_region 13 with fail
              generalize w5.alloc (.cells (lineCells G) 34) = X at hV hIX hsX hbX ⊢
              obtain ⟨lb, hlb⟩ : ∃ lb, lb = w5.heap.size := ⟨_, rfl⟩
              rw [← hlb] at hV HFT ⊢
              have HSX := Lib.hid hsX
              have HIX := Lib.hid hIX
              have HV := Lib.hid hV
              have hw1 : X.cell? ⟨wb, 1, none⟩ = some (.string (str x1)) := (cell_of_row X wb 1 _ _ _ hsX.row).trans HC1.out
              have z1 : ∀ z : Later X, z.1.cell? ⟨lb, 0, none⟩ = some (.int .i64 G.number) := fun z => Later.cell ((hV.cell 0).trans (lc0 G)) z
              have z2 : ∀ z : Later X, okCells z.1 ⟨lb, 0, none⟩ 38 = true := fun z => Later.ok hV.rd.1 z
              have z3 : ∀ z : Later X, rdCells z.1 ⟨lb, 0, none⟩ 38 = lineCells G := fun z => (Later.rd hV.rd.1 z).trans hV.rd.2
              have z4 : ∀ z : Later X, z.1.cell? ⟨wb, 1, none⟩ = some (.string (str x1)) := fun z => Later.cell hw1 z
              have hBX : B ≤ X.heap.size := Nat.le_trans hB5 hbX.size
              clear hV hIX hsX hw1 hbX hlb HS5 HS4 HS
              cases en with
              | false =>
                have HN := Lib.hid (HNONE.out fun p _ h => by cases h.1)
                clear HNONE HPE HPY
                refine wp_region_mix0 [0, 1, 2, 3, 4, 5, 6, 7, 8, 9, 10, 11, 12, 13, 14, 15, 16, 17] [18, 19, 20] (fun w' => ∃ z : Later X, w' = z.1) (by kernel_rfl) (by kernel_rfl) (by kernel_rfl) ⟨⟨_, (Below.refl _ _).drew⟩, rfl⟩ ?_
                simp only [opsAt, List.map_cons, List.map_nil, Array.getD_eq_getD_getElem?, List.getElem?_toArray, List.getElem?_cons_zero, List.getElem?_cons_succ, Option.getD_some]
                repeat (go_big_quiet_step (fail))
                refine wpQuiet_nil ?_
                clear z1 z2 z3 z4
                refine wpR_list [18, 19, 20] _ _ (by kernel_rfl) ?_
                simp only [opsAt, List.map_cons, List.map_nil, Array.getD_eq_getD_getElem?, List.getElem?_toArray, List.getElem?_cons_zero, List.getElem?_cons_succ, Option.getD_some]
                go_wp2
                refine NoPanic.normal ?_
                go_wp2
                go_ret2
                exact HBAD.out _ HSX.out.bl.drew HN.out
              | true =>
                by_cases he : pe = 0
                · obtain ⟨p, hp, hids, hGp, hpe⟩ := HPY.out he
                  subst he
                  by_cases hln : last < G.number
                  · have hld : decide (G.number ≤ last) = false := decide_eq_false (by omega)
                    have hnp : G.number = p.number := by rw [hGp]; rfl
                    obtain ⟨_, hsz1, hsz2, hln20⟩ := good_bounds hpe
                    have hs1 : (str x1).size ≤ maxLen := by rw [str_size]; unfold maxLen; omega
                    have htot : total gs' < 65536 := by
                      have h1 := HSX.out.ten
                      have h2 := cut_ten rest (by rw [hcut2])
                      omega
                    rw [← hids] at HIX
                    obtain ⟨v0, hv0⟩ : ∃ v0, v0 = G.refs := ⟨_, rfl⟩
                    rw [← hv0] at HIX hGp
                    have HADD : Hid (Calls Tryz.prog 32 #[.pointer (some ⟨ib, 0, none⟩), .string (str x1), .agg (lineCells G)] X.drew fun r w' => AddPost B ib M gs' (str x1) p X.drew r w') := Lib.hid (by
                      rw [hGp]
                      exact add_any B ib M mc' gs' (str x1) p v0 X.drew (HGW.out _ ((HB2.out.mono hBw).trans HSX.out.bl.drew)) (HSX.out.idx.below (Below.refl _ _).drew) hs1 ⟨(HIX.out.below (Below.refl _ _).drew).at, by unfold maxLen; omega, by show p.name.size ≤ _; unfold maxLen; omega, by show p.subject.size ≤ _; unfold maxLen; omega⟩ (HIX.out.below (Below.refl _ _).drew) htot)
                    have HP := Lib.hid hp
                    have HNP := Lib.hid hnp
                    have HLN := Lib.hid hln
                    clear hids hGp hpe hsz1 hsz2 hln20 hs1 htot hp hnp hln HPE HPY hv0
                    refine wp_region_mix0 [0, 1, 2, 3, 4, 5, 6, 7, 8, 9, 10, 11, 12, 13, 14, 15, 16, 17] [18, 19, 20] (fun w' => ∃ z : Later X, w' = z.1) (by kernel_rfl) (by kernel_rfl) (by kernel_rfl) ⟨⟨_, (Below.refl _ _).drew⟩, rfl⟩ ?_
                    simp only [opsAt, List.map_cons, List.map_nil, Array.getD_eq_getD_getElem?, List.getElem?_toArray, List.getElem?_cons_zero, List.getElem?_cons_succ, Option.getD_some]
                    repeat (go_big_quiet_step (fail))
                    refine wpQuiet_nil ?_
                    clear z1 z2 z3 z4
                    refine wpR_list [18, 19, 20] _ _ (by kernel_rfl) ?_
                    simp only [opsAt, List.map_cons, List.map_nil, Array.getD_eq_getD_getElem?, List.getElem?_toArray, List.getElem?_cons_zero, List.getElem?_cons_succ, Option.getD_some]
                    go_wp2_with fail
                    refine HADD.out.mono ?_
                    rintro r w6 ⟨rfl, hpost⟩
                    clear HADD
                    rcases hpost with ⟨hne0, hb6⟩ | ⟨he0, gs2, mc2, hd⟩
                    · have HN := Lib.hid (HNONE.out fun q hq h => by rw [HP.out] at hq; cases hq; rw [lf_err] at hne0; exact hne0 h.2.2)
                      have HB6 := Lib.hid (HSX.out.bl.trans ((Below.drew (Below.refl X.heap.size X)).trans hb6 |>.mono hBX))
                      clear HNONE hb6
                      generalize addErr (linesIn gs' (str x1)) (str x1) p = e at hne0
                      have hez : (e != 0) = true := by rw [bne_iff_ne]; exact hne0
                      go_wp2
                      refine NoPanic.normal ?_
                      go_wp2
                      go_ret2
                      exact HBAD.out _ HB6.out HN.out
                    · rw [he0]
                      have HS6 : Hid (DgSt B ib M (total gs + l.count 10) l.length (str x1) wb T (dg (lfOf gs) l) (n - (k + 1)) G.number af gs2 mc2 w2 w6) := Lib.hid (by
                        have h1 := (HSX.out.later hBX (Below.refl X.heap.size X).drew).next (p := p) (by rw [hcut2]; exact HP.out) (by rw [hcut2]) (by rw [← HNP.out]; exact HLN.out) (by rw [← lf_err]; exact he0) hd
                        rw [hcut2] at h1
                        rw [HD2.out, HNP.out]
                        exact h1)
                      have hv6 : LineVar w6 lb G := (hd.kept.block lb HV.out.lt (fun hf => Nat.lt_irrefl _ (HFT.out lb hf))).trans HV.out
                      have hc6 := (hv6.cell 0).trans (lc0 G)
                      clear hd he0 HNONE hcut2 hNEXT hv6
                      go_wp2
                      refine NoPanic.normal ?_
                      go_wp2
                      go_roundw
                      case rel => exact ⟨k + 1, af, G.number, gs2, mc2, by omega, by go_num, rfl, rfl, HS6⟩
                      case measure => simp [intOf]; omega
                  · have hld : decide (G.number ≤ last) = true := decide_eq_true (by omega)
                    have hnp : G.number = p.number := by rw [hGp]; rfl
                    have HN := Lib.hid (HNONE.out fun q hq h => by rw [hp] at hq; cases hq; exact hln (by rw [hnp]; exact h.2.1))
                    clear HNONE HPE HPY hnp hGp hids hp
                    refine wp_region_mix0 [0, 1, 2, 3, 4, 5, 6, 7, 8, 9, 10, 11, 12, 13, 14, 15, 16, 17] [18, 19, 20] (fun w' => ∃ z : Later X, w' = z.1) (by kernel_rfl) (by kernel_rfl) (by kernel_rfl) ⟨⟨_, (Below.refl _ _).drew⟩, rfl⟩ ?_
                    simp only [opsAt, List.map_cons, List.map_nil, Array.getD_eq_getD_getElem?, List.getElem?_toArray, List.getElem?_cons_zero, List.getElem?_cons_succ, Option.getD_some]
                    repeat (go_big_quiet_step (fail))
                    refine wpQuiet_nil ?_
                    clear z1 z2 z3 z4
                    refine wpR_list [18, 19, 20] _ _ (by kernel_rfl) ?_
                    simp only [opsAt, List.map_cons, List.map_nil, Array.getD_eq_getD_getElem?, List.getElem?_toArray, List.getElem?_cons_zero, List.getElem?_cons_succ, Option.getD_some]
                    go_wp2
                    refine NoPanic.normal ?_
                    go_wp2
                    go_ret2
                    exact HBAD.out _ HSX.out.bl.drew HN.out
                · have hez : (pe != 0) = true := by rw [bne_iff_ne]; exact he
                  have HN := Lib.hid (HNONE.out fun p hp _ => by rw [HPE.out he] at hp; cases hp)
                  clear HNONE HPE HPY he
                  refine wp_region_mix0 [0, 1, 2, 3, 4, 5, 6, 7, 8, 9, 10, 11, 12, 13, 14, 15, 16, 17] [18, 19, 20] (fun w' => ∃ z : Later X, w' = z.1) (by kernel_rfl) (by kernel_rfl) (by kernel_rfl) ⟨⟨_, (Below.refl _ _).drew⟩, rfl⟩ ?_
                  simp only [opsAt, List.map_cons, List.map_nil, Array.getD_eq_getD_getElem?, List.getElem?_toArray, List.getElem?_cons_zero, List.getElem?_cons_succ, Option.getD_some]
                  repeat (go_big_quiet_step (fail))
                  refine wpQuiet_nil ?_
                  clear z1 z2 z3 z4
                  refine wpR_list [18, 19, 20] _ _ (by kernel_rfl) ?_
                  simp only [opsAt, List.map_cons, List.map_nil, Array.getD_eq_getD_getElem?, List.getElem?_toArray, List.getElem?_cons_zero, List.getElem?_cons_succ, Option.getD_some]
                  go_wp2
                  refine NoPanic.normal ?_
                  go_wp2
                  go_ret2
                  exact HBAD.out _ HSX.out.bl.drew HN.out
            · have hltz : ¬ (k : Int) < (n : Int) := by omega
              have hkk : n - k = 0 := by omega
              rw [hkk] at HS
              have HD := Lib.hid HS.out.eq
              go_wp2
              go_ret2
              exact ⟨(HB2.out.mono hBw).trans HS.out.bl, .inr ⟨rest, gs', mc', HD.out, rfl, HS.out.idx, HS.out.ten⟩⟩
      · have hgz : ((str x0).toList == [103, 114, 111, 117, 112]) = false := by rw [ByteArray.toList_eq, str_data, beq_eq_false_iff_ne]; exact hg
        have HN := Lib.hid (HNO.out (by simp [hg]))
        clear HNO HYES
        go_wp2
        go_ret2
        exact HBAD.out _ (Below.refl _ _) HN.out
    · have hw3 : (wordsOf l).length ≠ 3 := fun e => h3 (by rw [HT.out, List.length_map]; exact e)
      have h3z : ((T.length : Int) != 3) = true := by rw [bne_iff_ne]; omega
      have HN := Lib.hid (HNO.out (fun h => hw3 h.2.1))
      clear HNO HYES hw3
      go_wp2
      go_ret2
      exact HBAD.out _ (Below.refl _ _) HN.out

end Go.Proofs.YtdjaphcelpchaaaGreatDoor

namespace Go.Proofs.YtdjaphcelpchaaaGreatDoor
open Go Go.RowKit Go.Proofs

/-- Good lines of some names. -/
def GoodF (F : LF) (ts : List ByteArray) : Prop := ordN ts ∧ ∀ t ∈ ts, nameErr t = 0 ∧ RowP (F t) ∧ (F t).length < 10000000000 ∧ F t ≠ []
/-- The text of an index. -/
def GoodTxt (l : List UInt8) : Prop := ∃ F ts, GoodF F ts ∧ l = encTxt F ts
abbrev noL : LF := fun _ => []
theorem ordN_nodup {ts : List ByteArray} (h : ordN ts) : ts.Nodup := h.imp fun {a b} hab e => by rw [e, cmpN_refl] at hab; omega
theorem dec_good {F : LF} {ts : List ByteArray} (h : GoodF F ts) {n : Nat} (hn : (encTxt F ts).length < n) : decGo n noL (encTxt F ts) = some (putAll noL F ts) :=
  dec_ok F ts noL n (fun t ht => by
    obtain ⟨h1, h2, h3, _⟩ := h.2 t ht
    exact ⟨h1, h2, h3, rfl⟩) (ordN_nodup h.1) hn
theorem putAll_in {F : LF} {ts : List ByteArray} {t : ByteArray} (h : t ∈ ts) : putAll noL F ts t = F t := by
  unfold putAll
  rw [if_pos (List.any_eq_true.2 ⟨t, h, by simp⟩)]
theorem putAll_out {F : LF} {ts : List ByteArray} {t : ByteArray} (h : t ∉ ts) : putAll noL F ts t = [] := by
  unfold putAll
  rw [if_neg]
  intro hx
  obtain ⟨u, hu, e⟩ := List.any_eq_true.1 hx
  rw [decide_eq_true_eq] at e
  exact h (e ▸ hu)
theorem putAll_ne {F : LF} {ts : List ByteArray} (h : GoodF F ts) (t : ByteArray) : putAll noL F ts t ≠ [] ↔ t ∈ ts := by
  constructor
  · intro hne
    cases Classical.em (t ∈ ts) with
    | inl h1 => exact h1
    | inr h1 => exact absurd (putAll_out h1) hne
  · intro ht
    rw [putAll_in ht]
    exact (h.2 t ht).2.2.2
/-- The lines of a good text determine its names and the text. -/
theorem good_names {F : LF} {ts : List ByteArray} (h : GoodF F ts) {K : LF} (hK : putAll noL F ts = K) {ns : List ByteArray} (hn : ordN ns) (hm : ∀ t, t ∈ ns ↔ K t ≠ []) : ts = ns ∧ encTxt F ts = encTxt K ns := by
  have e : ts = ns := ordN_ext h.1 hn fun t => by rw [hm t, ← hK, putAll_ne h]
  refine ⟨e, ?_⟩
  subst e
  unfold encTxt
  rw [List.flatMap_def, List.flatMap_def]
  refine congrArg List.flatten (List.map_congr_left fun t ht => ?_)
  rw [← hK, putAll_in ht]

theorem lf_names {B ib M mc : Nat} {gs : List MG} {w : World} (h : IdxAt B w ib M gs mc) (t : ByteArray) : (∃ G ∈ gs, G.name = t) ↔ lfOf gs t ≠ [] := by
  unfold lfOf
  rw [Ne, List.map_eq_nil_iff]
  constructor
  · rintro ⟨G, hG, rfl⟩
    rw [linesIn_of h hG]
    exact (h.grps G hG).some'
  · intro hne
    obtain ⟨G, hG, _⟩ := linesIn_ne hne
    exact ⟨G, groupOf_mem hG⟩
theorem row_of_grp {B : Nat} {w : World} {G : MG} (h : GrpAt B w G) : RowP (G.ms.map (·.p)) := by
  refine ⟨fun p hp => ?_, ?_, ?_⟩
  · obtain ⟨m, hm, rfl⟩ := List.mem_map.1 hp
    exact h.good m hm
  · have := h.sorted
    unfold nums at this
    unfold numsP
    rw [List.map_map]
    exact this
  · have := h.ids
    rw [List.map_map]
    exact this
theorem good_of_idx {B ib M mc : Nat} {gs : List MG} {w : World} (h : IdxAt B w ib M gs mc) {ns : List ByteArray} (hn : ordN ns) (hm : ∀ t, t ∈ ns ↔ ∃ G ∈ gs, G.name = t) : GoodF (lfOf gs) ns := by
  refine ⟨hn, fun t ht => ?_⟩
  obtain ⟨G, hG, rfl⟩ := (hm t).1 ht
  have h1 := h.grps G hG
  have e : lfOf gs G.name = G.ms.map (·.p) := by unfold lfOf; rw [linesIn_of h hG]
  rw [e]
  refine ⟨h1.named, row_of_grp h1, ?_, ?_⟩
  · rw [List.length_map]
    have := length_le_total hG
    have := h.few
    omega
  · rw [Ne, List.map_eq_nil_iff]
    exact h1.some'
theorem putAll_idx {B ib M mc : Nat} {gs : List MG} {w : World} (h : IdxAt B w ib M gs mc) {ns : List ByteArray} (hm : ∀ t, t ∈ ns ↔ ∃ G ∈ gs, G.name = t) : putAll noL (lfOf gs) ns = lfOf gs := by
  funext t
  cases Classical.em (t ∈ ns) with
  | inl h1 => exact putAll_in h1
  | inr h1 =>
    rw [putAll_out h1]
    have h2 : ¬ lfOf gs t ≠ [] := fun h3 => h1 ((hm t).2 ((lf_names h t).2 h3))
    exact (Classical.not_not.1 h2).symm
/-- Good texts that are the same have the same lines. -/
theorem good_inj {F F' : LF} {ts ts' : List ByteArray} (h : GoodF F ts) (h' : GoodF F' ts') (he : encTxt F ts = encTxt F' ts') : putAll noL F ts = putAll noL F' ts' := by
  have h1 := dec_good h (Nat.lt_succ_self _)
  have h2 := dec_good h' (Nat.lt_succ_self _)
  rw [he] at h1
  exact Option.some.inj (h1.symm.trans h2)
end Go.Proofs.YtdjaphcelpchaaaGreatDoor

namespace Go.Proofs.YtdjaphcelpchaaaGreatDoor
open Go Go.RowKit Go.Proofs

theorem ex_load_op (ρ : Operand → Value) (d : Option Tmp) (x : Operand) (ty : TypeId) (pos : String) (af : Array Edge) (g : Option (Nat × Bool)) (w : World) :
    Sem.run Tryz.prog (execOp ρ ⟨d, .load 53 x, ty, pos, af, g⟩) w = ldRes Tryz.prog 53 w (ρ x) := rfl
theorem ld_op (w : World) (a : Addr) (h : okCells w a 40 = true) : ldRes Tryz.prog 53 w (.pointer (some a)) = .ok (.value (.agg (rdCells w a 40))) w := ldRes_agg Tryz.isAgg53 Tryz.sizeOf53 w a h

attribute [local go_sem ↓] ex_load_id ex_store_id ex_load_line ex_store_line ex_load_rline ex_store_rline ex_alloc_line ex_build_line ex_alloc_rline ex_build_rline ex_load_op

attribute [local go_sem] ld_id st_id ld_line st_line ld_rline st_rline guard_id okCells_drew rdCells_drew okCells_drewN rdCells_drewN rowOk_drew rowOk_cells okCells_cells rdCells_cells setRow_drew setRow_new setRow_past ld_op

/-- An index without lines. -/
theorem IdxAt.fresh (B : Nat) (w : World) (hB : B ≤ w.heap.size) : IdxAt B ((w.alloc (.map #[] 0)).alloc (.cells #[.map (some w.heap.size), .int .i64 0] 104)) (w.heap.size + 1) w.heap.size [] 0 where
  blk := by
    have := heap_alloc_new (w.alloc (.map #[] 0)) (.cells #[.map (some w.heap.size), .int .i64 0] 104)
    simpa [total] using this
  map := by
    unfold MapAt
    rw [heap_alloc_old _ _ (by simp), heap_alloc_new]
    rfl
  names := List.nodup_nil
  grps := fun _ h => by cases h
  apart := by simp [foot]
  born := List.nodup_nil
  young := fun _ h => by cases h
  few := by simp [total]
  ibB := by omega
  MB := hB

end Go.Proofs.YtdjaphcelpchaaaGreatDoor

namespace Go.Proofs.YtdjaphcelpchaaaGreatDoor
open Go Go.RowKit Go.Proofs

/-- Two lines that do not go together. -/
def clash2 (a b : MR) : Prop := a.s = b.s ∧ (a.m.p.number = b.m.p.number ∨ a.m.p.id = b.m.p.id)
theorem clash2_symm {a b : MR} (h : clash2 a b) : clash2 b a := ⟨h.1.symm, h.2.imp Eq.symm Eq.symm⟩
theorem clashR_iff (rs : List MR) (r : MR) : clashR rs r.s r.m.p = true ↔ ∃ a ∈ rs, clash2 a r := by
  unfold clashR clash2
  rw [List.any_eq_true]
  simp only [Bool.and_eq_true, Bool.or_eq_true, decide_eq_true_eq]
theorem addErrR_zero {rs : List MR} {r : MR} : addErrR rs r.s r.m.p = 0 ↔ nameErr r.s = 0 ∧ pErr r.m.p = 0 ∧ ∀ a ∈ rs, ¬ clash2 a r := by
  unfold addErrR
  by_cases h1 : nameErr r.s = 0
  · by_cases h2 : pErr r.m.p = 0
    · rw [if_neg (by simp [h1]), if_neg (by simp [h2])]
      by_cases h3 : clashR rs r.s r.m.p = true
      · rw [if_pos h3]
        obtain ⟨a, ha, hc⟩ := (clashR_iff rs r).1 h3
        constructor
        · intro h; cases h
        · rintro ⟨_, _, h⟩; exact absurd hc (h a ha)
      · rw [if_neg h3]
        refine ⟨fun _ => ⟨h1, h2, fun a ha hc => h3 ((clashR_iff rs r).2 ⟨a, ha, hc⟩)⟩, fun _ => rfl⟩
    · rw [if_neg (by simp [h1]), if_pos h2]
      exact ⟨fun h => absurd h h2, fun h => absurd h.2.1 h2⟩
  · rw [if_pos h1]
    exact ⟨fun h => absurd h h1, fun h => absurd h.1 h1⟩
end Go.Proofs.YtdjaphcelpchaaaGreatDoor

namespace Go.Proofs.YtdjaphcelpchaaaGreatDoor
open Go Go.RowKit Go.Proofs

/-- A line of the reference without its memory. -/
def mkR (t : ByteArray) (p : PLine) : MR := ⟨t, ⟨p, .slice none 0 0⟩⟩
def erR (r : MR) : MR := mkR r.s r.m.p
theorem err_er (rs : List MR) (s : ByteArray) (p : PLine) : addErrR (rs.map erR) s p = addErrR rs s p := by
  unfold addErrR clashR
  rw [List.any_map]
  rfl
theorem at_er (s : ByteArray) (p : PLine) (v : Value) : ∀ (rs : List MR) (i k : Nat), atR (rs.map erR) (mkR s p) i k = atR rs ⟨s, ⟨p, v⟩⟩ i k
  | [], _, _ => rfl
  | a :: rs, i, k => by
    rw [List.map_cons]
    unfold atR
    exact at_er s p v rs (i + 1) _
theorem add_er (rs : List MR) (s : ByteArray) (p : PLine) (v : Value) : addR (rs.map erR) (mkR s p) = (addR rs ⟨s, ⟨p, v⟩⟩).map erR := by
  unfold addR
  rw [at_er s p v, List.map_append, List.map_cons, List.map_take, List.map_drop]
  rfl
theorem of_er (rs : List MR) (t : ByteArray) : (ofR (rs.map erR) t).length = (ofR rs t).length := by
  unfold ofR
  rw [List.filter_map, List.length_map]
  rfl
theorem txt_er (cnt : ByteArray → Nat) : ∀ (rs : List MR) (o : Option ByteArray), txtGo cnt o (rs.map erR) = txtGo cnt o rs
  | [], _ => rfl
  | a :: rs, o => by
    rw [List.map_cons]
    unfold txtGo
    rw [txt_er cnt rs]
    rfl
theorem refTxt_er (rs : List MR) : refTxt (rs.map erR) (rs.map erR).length = refTxt rs rs.length := by
  rw [refTxt_go _ _ (Nat.le_refl _), refTxt_go _ _ (Nat.le_refl _), List.take_length, List.take_length, txt_er]
  congr 1
  funext t
  exact of_er rs t

/-- Whether a line of a text begins a group. -/
def isHead (x : List UInt8) : Bool := decide (6 < x.length) && decide (x.take 6 = [103, 114, 111, 117, 112, 32])
/-- The lines of a text, one after the other. -/
def rdGo : List (List UInt8) → ByteArray → List MR → Option (List MR)
  | [], _, xs => some xs
  | x :: rest, g, xs => if isHead x = true then rdGo rest (str ((splitL 32 x).getD 1 [])) xs else if x = [] ∧ rest = [] then some xs else match parseP (str x) with
    | none => none
    | some p => if addErrR xs g p = 0 then rdGo rest g (addR xs (mkR g p)) else none

def lineL (p : PLine) : List UInt8 := lineTxt p.number.toNat p.id p.name p.date.toNat p.subject p.ids p.bytes.toNat
def headL (t : ByteArray) (n : Nat) : List UInt8 := [103, 114, 111, 117, 112] ++ 32 :: (t.data.toList ++ 32 :: Lib.decDigits n)
def linesL (F : LF) (ts : List ByteArray) : List (List UInt8) := ts.flatMap fun t => headL t (F t).length :: (F t).map lineL
theorem enc_lines (F : LF) : ∀ ts : List ByteArray, encTxt F ts = (linesL F ts).flatMap fun x => x ++ [10]
  | [] => rfl
  | t :: ts => by
    have ih := enc_lines F ts
    unfold encTxt linesL at *
    rw [List.flatMap_cons, List.flatMap_cons, List.flatMap_append, ih, List.flatMap_cons]
    congr 1
    unfold grpTxt
    congr 1
    · have := head_form t (F t).length []
      rw [List.append_nil] at this
      rw [this]
      rfl
    · rw [List.flatMap_map]
      rfl
theorem split_lines : ∀ xs : List (List UInt8), (∀ x ∈ xs, (10 : UInt8) ∉ x) → splitL 10 (xs.flatMap fun x => x ++ [10]) = xs ++ [[]]
  | [], _ => rfl
  | x :: xs, h => by
    rw [List.flatMap_cons, List.append_assoc, List.singleton_append, splitL_pre 10 x _ (h x (by simp)), split_lines xs fun y hy => h y (by simp [hy])]
    rfl
theorem headL_ten {t : ByteArray} (ht : nameErr t = 0) (n : Nat) : (10 : UInt8) ∉ headL t n := fun hm => by
  unfold headL at hm
  simp only [List.mem_append, List.mem_cons] at hm
  rcases hm with hm | hm | hm | hm | hm
  · revert hm; decide
  · revert hm; decide
  · exact name_no ht (by decide) (by decide) hm
  · revert hm; decide
  · exact no_dig 10 (by decide) _ hm
theorem split_enc {F : LF} {ts : List ByteArray} (h : GoodF F ts) : splitL 10 (encTxt F ts) = linesL F ts ++ [[]] := by
  rw [enc_lines]
  refine split_lines _ fun x hx => ?_
  unfold linesL at hx
  rw [List.mem_flatMap] at hx
  obtain ⟨t, ht, hx⟩ := hx
  obtain ⟨g1, g2, _⟩ := h.2 t ht
  rcases List.mem_cons.1 hx with rfl | hx
  · exact headL_ten g1 _
  · obtain ⟨p, hp, rfl⟩ := List.mem_map.1 hx
    exact no10_line (g2.good p hp)

theorem dec_ne (n : Nat) (h : n < 10000000000) : Lib.decDigits n ≠ [] := fun e => by
  have := (num_dec n h).1
  rw [e] at this
  cases this
theorem line_head {p : PLine} (h : pErr p = 0) : ∃ c r, lineL p = c :: r ∧ isDig c = true := by
  obtain ⟨⟨n, d, b, e1, _, _, _⟩, _⟩ := good_bounds h
  have hr := (lineErr_zero (show lineErr (ML.g ⟨p, .slice none 0 0⟩) p.ids = 0 from h)).1
  have hr' : 1 ≤ p.number ∧ p.number ≤ 2147483646 := hr
  have hn := dec_ne p.number.toNat (by omega)
  have hall := (dec_back p.number.toNat).2.1
  obtain ⟨c, r, hc⟩ : ∃ c r, Lib.decDigits p.number.toNat = c :: r := by
    cases hx : Lib.decDigits p.number.toNat with
    | nil => exact absurd hx hn
    | cons c r => exact ⟨c, r, rfl⟩
  have hd : isDig c = true := List.all_eq_true.1 hall c (by rw [hc]; simp)
  obtain ⟨q, hq⟩ : ∃ q, lineL p = Lib.decDigits p.number.toNat ++ q := by
    unfold lineL lineTxt joinS lineParts
    simp only [List.map_cons]
    rw [join_two]
    exact ⟨_, by rw [str_data, List.append_assoc]⟩
  exact ⟨c, r ++ q, by rw [hq, hc]; rfl, hd⟩
theorem line_not {p : PLine} (h : pErr p = 0) : isHead (lineL p) = false ∧ lineL p ≠ [] := by
  obtain ⟨c, r, e, hd⟩ := line_head h
  rw [e]
  refine ⟨?_, by simp⟩
  unfold isHead
  have : ¬ (c :: r).take 6 = [103, 114, 111, 117, 112, 32] := fun hx => by
    rw [List.take_succ_cons] at hx
    rw [(List.cons.inj hx).1] at hd
    revert hd; decide
  rw [decide_eq_false this, Bool.and_false]
theorem head_is (t : ByteArray) (n : Nat) : isHead (headL t n) = true := by
  unfold isHead headL
  simp only [Bool.and_eq_true, decide_eq_true_eq]
  exact ⟨by simp; omega, rfl⟩
theorem head_name {t : ByteArray} (ht : nameErr t = 0) (n : Nat) : str ((splitL 32 (headL t n)).getD 1 []) = t := by
  unfold headL
  rw [splitL_pre 32 [103, 114, 111, 117, 112] _ (by decide), splitL_pre 32 _ _ (name_no ht (by decide) (by decide))]
  exact str_of t
theorem addR_end {xs : List MR} {r : MR} (h : ∀ a ∈ xs, ltR a r) : addR xs r = xs ++ [r] := by
  have ha : ∀ (l : List MR) (i k : Nat), (∀ a ∈ l, ltR a r) → atR l r i k = if l = [] then k else i + l.length := by
    intro l
    induction l with
    | nil => intro i k _; rfl
    | cons a l ih =>
      intro i k hl
      unfold atR
      rw [(beforeB_iff a r).2 (hl a (by simp)), ih _ _ fun b hb => hl b (by simp [hb])]
      by_cases he : l = []
      · subst he; simp
      · simp [he]; omega
  have h0 : atR xs r 0 0 = xs.length := by
    rw [ha xs 0 0 h]
    split
    · rename_i e; rw [e]; rfl
    · omega
  unfold addR
  rw [h0, List.take_length, List.drop_length]
theorem rd_lines {t : ByteArray} (ht : nameErr t = 0) (K : List (List UInt8)) : ∀ (ps : List PLine) (xs : List MR), (∀ p ∈ ps, pErr p = 0) → (numsP ps).Pairwise (· < ·) → (ps.map (·.id)).Nodup → (∀ a ∈ xs, ∀ p ∈ ps, ltR a (mkR t p) ∧ ¬ clash2 a (mkR t p)) →
    rdGo (ps.map lineL ++ K) t xs = rdGo K t (xs ++ ps.map (mkR t))
  | [], xs, _, _, _, _ => by simp
  | p :: ps, xs, hg, hs, hi, hx => by
    have hp := hg p (by simp)
    obtain ⟨n1, n2⟩ := line_not hp
    unfold numsP at hs
    rw [List.map_cons, List.pairwise_cons] at hs
    rw [List.map_cons, List.nodup_cons] at hi
    have he : addErrR xs t p = 0 := (addErrR_zero (r := mkR t p)).2 ⟨ht, hp, fun a ha => (hx a ha p (by simp)).2⟩
    rw [List.map_cons, List.cons_append]
    conv => lhs; unfold rdGo
    rw [if_neg (by rw [n1]; simp), if_neg (fun h => n2 h.1)]
    have hpt : parseP (str (lineL p)) = some p := parse_txt hp
    rw [hpt]
    simp only
    rw [if_pos he, addR_end fun a ha => (hx a ha p (by simp)).1, rd_lines ht K ps (xs ++ [mkR t p]) (fun q hq => hg q (by simp [hq])) hs.2 hi.2 (fun a ha q hq => ?_)]
    · rw [List.append_assoc]; rfl
    · rcases List.mem_append.1 ha with ha | ha
      · exact hx a ha q (by simp [hq])
      · obtain rfl := List.mem_singleton.1 ha
        have h1 : p.number < q.number := hs.1 _ (List.mem_map.2 ⟨q, hq, rfl⟩)
        refine ⟨.inr ⟨rfl, h1⟩, fun hc => ?_⟩
        rcases hc.2 with h2 | h2
        · have h3 : p.number = q.number := h2
          omega
        · exact hi.1 (List.mem_map.2 ⟨q, hq, (h2 : p.id = q.id).symm⟩)
theorem rd_groups {F : LF} : ∀ (ts : List ByteArray) (g : ByteArray) (xs : List MR), GoodF F ts → (∀ a ∈ xs, ∀ t ∈ ts, cmpN a.s t < 0) → rdGo (linesL F ts ++ [[]]) g xs = some (xs ++ ts.flatMap fun t => (F t).map (mkR t))
  | [], g, xs, _, _ => by
    show rdGo [[]] g xs = _
    unfold rdGo
    rw [if_neg (by decide), if_pos ⟨rfl, rfl⟩]
    simp
  | t :: ts, g, xs, h, hx => by
    obtain ⟨g1, g2, _, _⟩ := h.2 t (by simp)
    have ho := h.1
    unfold ordN at ho
    rw [List.pairwise_cons] at ho
    have e : linesL F (t :: ts) ++ [[]] = headL t (F t).length :: ((F t).map lineL ++ (linesL F ts ++ [[]])) := by
      unfold linesL
      rw [List.flatMap_cons]
      simp
    rw [e]
    conv => lhs; unfold rdGo
    rw [if_pos (head_is t _), head_name g1, rd_lines g1 _ (F t) xs g2.good g2.sorted g2.ids (fun a ha p hp => ?_), rd_groups ts t _ ⟨ho.2, fun u hu => h.2 u (by simp [hu])⟩ (fun a ha u hu => ?_), List.flatMap_cons, List.append_assoc]
    · rcases List.mem_append.1 ha with ha | ha
      · exact hx a ha u (by simp [hu])
      · obtain ⟨p, _, rfl⟩ := List.mem_map.1 ha
        exact ho.1 u hu
    · have h1 := hx a ha t (by simp)
      refine ⟨.inl h1, fun hc => ?_⟩
      have h2 : a.s = t := hc.1
      rw [h2, cmpN_refl] at h1
      omega
/-- A good text: the reference reads its lines. -/
theorem rd_good {F : LF} {ts : List ByteArray} (h : GoodF F ts) : rdGo (splitL 10 (encTxt F ts)) ⟨#[]⟩ [] = some (ts.flatMap fun t => (F t).map (mkR t)) := by
  rw [split_enc h, rd_groups ts ⟨#[]⟩ [] h (fun a ha => by cases ha)]
  rfl
theorem of_flat {F : LF} : ∀ (ts : List ByteArray) (u : ByteArray), ts.Nodup → u ∈ ts → ofR (ts.flatMap fun t => (F t).map (mkR t)) u = (F u).map (mkR u)
  | [], u, _, hu => by cases hu
  | t :: ts, u, hn, hu => by
    rw [List.nodup_cons] at hn
    have h0 : ∀ (l : List ByteArray), u ∉ l → ofR (l.flatMap fun t => (F t).map (mkR t)) u = [] := fun l hl => by
      unfold ofR
      rw [List.filter_eq_nil_iff]
      intro r hr
      obtain ⟨t, ht, hr⟩ := List.mem_flatMap.1 hr
      obtain ⟨p, _, rfl⟩ := List.mem_map.1 hr
      have : t ≠ u := fun e => hl (e ▸ ht)
      show ¬ decide (t = u) = true
      simpa using this
    rw [List.flatMap_cons]
    unfold ofR
    rw [List.filter_append]
    by_cases e : t = u
    · subst e
      have h1 := h0 ts hn.1
      unfold ofR at h1
      rw [h1, List.append_nil, List.filter_eq_self]
      intro r hr
      obtain ⟨p, _, rfl⟩ := List.mem_map.1 hr
      simp [mkR]
    · have hu' : u ∈ ts := by
        rcases List.mem_cons.1 hu with h | h
        · exact absurd h.symm e
        · exact h
      have h1 := of_flat (F := F) ts u hn.2 hu'
      unfold ofR at h1
      rw [h1, List.filter_eq_nil_iff.2, List.nil_append]
      intro r hr
      obtain ⟨p, _, rfl⟩ := List.mem_map.1 hr
      show ¬ decide (t = u) = true
      simpa using e
theorem refTxt_flat {F : LF} {ts : List ByteArray} (h : GoodF F ts) : refTxt (ts.flatMap fun t => (F t).map (mkR t)) (ts.flatMap fun t => (F t).map (mkR t)).length = encTxt F ts := by
  have hnd := ordN_nodup h.1
  rw [refTxt_go _ _ (Nat.le_refl _), List.take_length, txtGo_groups _ (fun t => (F t).map (mkR t)) ts none (fun t ht => ⟨fun e => ?_, fun r hr => ?_⟩) hnd (fun _ _ e => by cases e)]
  · unfold encTxt grpTxt
    rw [List.flatMap_def, List.flatMap_def]
    refine congrArg List.flatten (List.map_congr_left fun t ht => ?_)
    have hof := of_flat (F := F) ts t hnd ht
    rw [List.flatMap_def] at hof
    rw [hof, List.length_map, List.flatMap_map]
    rfl
  · exact (h.2 t ht).2.2.2 (List.map_eq_nil_iff.1 e)
  · obtain ⟨p, _, rfl⟩ := List.mem_map.1 hr
    rfl
/-- What the reference rejects is no good text. -/
theorem rd_none {l : List UInt8} (h : rdGo (splitL 10 l) ⟨#[]⟩ [] = none) : ¬ GoodTxt l := by
  rintro ⟨F, ts, hg, e⟩
  rw [e, rd_good hg] at h
  cases h
theorem rd_ne {l : List UInt8} {rs : List MR} (h : rdGo (splitL 10 l) ⟨#[]⟩ [] = some (rs.map erR)) (hne : refTxt rs rs.length ≠ l) : ¬ GoodTxt l := by
  rintro ⟨F, ts, hg, e⟩
  rw [e, rd_good hg, Option.some.injEq] at h
  refine hne ?_
  rw [← refTxt_er, ← h, refTxt_flat hg, e]
/-- Lines that go together. -/
def apartR (rs : List MR) : Prop := rs.Pairwise fun a b => ¬ clash2 a b
theorem apart_add {rs : List MR} {r : MR} (h : apartR rs) (hn : ∀ a ∈ rs, ¬ clash2 a r) : apartR (addR rs r) := by
  have hp : (addR rs r).Perm (r :: rs) := by
    unfold addR
    exact List.perm_middle.trans (by rw [List.take_append_drop])
  unfold apartR
  rw [hp.pairwise_iff (fun {a b} hab hc => hab (clash2_symm hc)), List.pairwise_cons]
  exact ⟨fun a ha hc => hn a ha (clash2_symm hc), h⟩
theorem good_of_rs {rs : List MR} (ho : ordR rs) (ha : apartR rs) (hg : ∀ r ∈ rs, nameErr r.s = 0 ∧ pErr r.m.p = 0) (hl : rs.length < 10000000000) : GoodF (fun t => (ofR rs t).map (·.m.p)) (groupsR rs) := by
  obtain ⟨h1, h2, _⟩ := groupsR_ok rs ho
  refine ⟨h1, fun t ht => ?_⟩
  obtain ⟨r, hr, rfl⟩ := (h2 t).1 ht
  refine ⟨(hg r hr).1, ⟨fun p hp => ?_, ?_, ?_⟩, ?_, fun e => ?_⟩
  · obtain ⟨q, hq, rfl⟩ := List.mem_map.1 hp
    exact (hg q (ofR_mem.1 hq).1).2
  · have := ofR_ord ho r.s
    unfold numsP
    rw [List.map_map, List.pairwise_map]
    exact this
  · have hs : (ofR rs r.s).Pairwise fun a b => ¬ clash2 a b := ha.sublist List.filter_sublist
    rw [List.map_map]
    unfold List.Nodup
    rw [List.pairwise_map]
    refine hs.imp_of_mem fun {a b} ha hb hab e => hab ⟨?_, .inr e⟩
    rw [(ofR_mem.1 ha).2, (ofR_mem.1 hb).2]
  · rw [List.length_map]
    have : (ofR rs r.s).length ≤ rs.length := by unfold ofR; exact List.length_filter_le _ _
    omega
  · have : r ∈ ofR rs r.s := ofR_mem.2 ⟨hr, rfl⟩
    rw [List.map_eq_nil_iff.1 e] at this
    cases this
theorem putAll_rs {rs : List MR} (ho : ordR rs) : putAll noL (fun t => (ofR rs t).map (·.m.p)) (groupsR rs) = fun t => (ofR rs t).map (·.m.p) := by
  obtain ⟨_, h2, _⟩ := groupsR_ok rs ho
  funext t
  cases Classical.em (t ∈ groupsR rs) with
  | inl h => exact putAll_in h
  | inr h =>
    rw [putAll_out h]
    have : ofR rs t = [] := by
      unfold ofR
      rw [List.filter_eq_nil_iff]
      intro r hr
      have : ¬ r.s = t := fun e => h ((h2 t).2 ⟨r, hr, e⟩)
      simpa using this
    rw [this]
    rfl
theorem rel_of_lf {gs : List MG} {rs : List MR} (h : lfOf gs = fun t => (ofR rs t).map (·.m.p)) : RelR gs rs := fun t p => by
  have e : (linesIn gs t).map (·.p) = (ofR rs t).map (·.m.p) := congrFun h t
  constructor
  · rintro ⟨m, hm, rfl⟩
    have : m.p ∈ (ofR rs t).map (·.m.p) := by rw [← e]; exact List.mem_map.2 ⟨m, hm, rfl⟩
    obtain ⟨r, hr, he⟩ := List.mem_map.1 this
    exact ⟨r, (ofR_mem.1 hr).1, (ofR_mem.1 hr).2, he⟩
  · rintro ⟨r, hr, rfl, rfl⟩
    have : r.m.p ∈ (linesIn gs r.s).map (·.p) := by rw [e]; exact List.mem_map.2 ⟨r, ofR_mem.2 ⟨hr, rfl⟩, rfl⟩
    obtain ⟨m, hm, he⟩ := List.mem_map.1 this
    exact ⟨m, hm, he⟩

end Go.Proofs.YtdjaphcelpchaaaGreatDoor

namespace Go.Proofs.YtdjaphcelpchaaaGreatDoor
open Go Go.RowKit Go.Proofs

attribute [local go_sem ↓] ex_load_id ex_store_id ex_load_line ex_store_line ex_load_rline ex_store_rline ex_alloc_line ex_build_line ex_alloc_rline ex_build_rline

attribute [local go_sem] ld_id st_id ld_line st_line ld_rline st_rline guard_id okCells_drew rdCells_drew okCells_drewN rdCells_drewN rowOk_drew rowOk_cells okCells_cells rdCells_cells setRow_drew setRow_new setRow_past

/-- What the reference's Decode answers. -/
def RdPost (l : List UInt8) (w : World) (r : Ending) (w' : World) : Prop :=
  Below w.heap.size w w' ∧ ((∃ v rs, r = .returned (.tuple #[v, .bool true]) ∧ RefsAt w.heap.size w' v rs ∧ ordR rs ∧ apartR rs ∧ (∀ r ∈ rs, nameErr r.s = 0 ∧ pErr r.m.p = 0) ∧ (∀ r ∈ rs, IdsAt w' r.m.v r.m.p.ids) ∧ l = refTxt rs rs.length) ∨
    (∃ v, r = .returned (.tuple #[v, .bool false]) ∧ ¬ GoodTxt l))
/-- In the middle of the reference's Decode. -/
structure RdcSt (l : List UInt8) (w : World) (k : Nat) (g : ByteArray) (v : Value) (rs : List MR) (W : World) : Prop where
  bl : Below w.heap.size w W
  refs : RefsAt w.heap.size W v rs
  ord : ordR rs
  apart : apartR rs
  good : ∀ r ∈ rs, nameErr r.s = 0 ∧ pErr r.m.p = 0
  ids : ∀ r ∈ rs, IdsAt W r.m.v r.m.p.ids
  len : rs.length ≤ k
  eq : rdGo (splitL 10 l) ⟨#[]⟩ [] = rdGo ((splitL 10 l).drop k) g (rs.map erR)
  gsz : g.size ≤ l.length
theorem RdcSt.later {l : List UInt8} {w : World} {k : Nat} {g : ByteArray} {v : Value} {rs : List MR} {W W' : World} (h : RdcSt l w k g v rs W) (hb : Below W.heap.size W W') : RdcSt l w k g v rs W' :=
  ⟨h.bl.trans (hb.mono h.bl.size), h.refs.below hb, h.ord, h.apart, h.good, fun r hr => (h.ids r hr).below hb, h.len, h.eq, h.gsz⟩
theorem RdcSt.head {l : List UInt8} {w : World} {k : Nat} {g : ByteArray} {v : Value} {rs : List MR} {W : World} (h : RdcSt l w k g v rs W) (hk : k < (splitL 10 l).length) (hh : isHead (splitL 10 l)[k] = true) (hsz : (str ((splitL 32 (splitL 10 l)[k]).getD 1 [])).size ≤ l.length) : RdcSt l w (k + 1) (str ((splitL 32 (splitL 10 l)[k]).getD 1 [])) v rs W :=
  ⟨h.bl, h.refs, h.ord, h.apart, h.good, h.ids, Nat.le_succ_of_le h.len, by
    rw [h.eq, List.drop_eq_getElem_cons hk]
    conv => lhs; unfold rdGo
    rw [if_pos hh], hsz⟩
theorem RdcSt.next {l : List UInt8} {w : World} {k : Nat} {g : ByteArray} {v v' : Value} {rs : List MR} {W W' : World} (h : RdcSt l w k g v rs W) (hk : k < (splitL 10 l).length) (hh : isHead (splitL 10 l)[k] = false) (hne : ¬ ((splitL 10 l)[k] = [] ∧ (splitL 10 l).drop (k + 1) = [])) {p : PLine} (hp : parseP (str (splitL 10 l)[k]) = some p) {v0 : Value} (hI : IdsAt W' v0 p.ids) (he : addErrR rs g p = 0) (hb : Below W.heap.size W W') (hv : RefsAt W.heap.size W' v' (addR rs ⟨g, ⟨p, v0⟩⟩)) : RdcSt l w (k + 1) g v' (addR rs ⟨g, ⟨p, v0⟩⟩) W' where
  bl := h.bl.trans (hb.mono h.bl.size)
  refs := hv.mono h.bl.size
  ord := addR_ord h.ord fun a ha hn => (addErrR_zero (r := ⟨g, ⟨p, v0⟩⟩).1 he).2.2 a ha ⟨hn.1, .inl hn.2⟩
  apart := apart_add h.apart fun a ha => (addErrR_zero (r := ⟨g, ⟨p, v0⟩⟩).1 he).2.2 a ha
  good := fun r hr => by
    rcases addR_mem.1 hr with rfl | hr
    · exact ⟨(addErrR_zero (r := ⟨g, ⟨p, v0⟩⟩).1 he).1, (addErrR_zero (r := ⟨g, ⟨p, v0⟩⟩).1 he).2.1⟩
    · exact h.good r hr
  ids := fun r hr => by
    rcases addR_mem.1 hr with rfl | hr
    · exact hI
    · exact (h.ids r hr).below hb
  len := by rw [addR_length]; exact Nat.succ_le_succ h.len
  eq := by
    rw [h.eq, List.drop_eq_getElem_cons hk]
    conv => lhs; unfold rdGo
    rw [if_neg (by rw [hh]; simp), if_neg hne, hp]
    simp only
    rw [err_er, if_pos he, add_er]
  gsz := h.gsz
theorem RdcSt.none {l : List UInt8} {w : World} {k : Nat} {g : ByteArray} {v : Value} {rs : List MR} {W : World} (h : RdcSt l w k g v rs W) (hk : k < (splitL 10 l).length) (hh : isHead (splitL 10 l)[k] = false) (hne : ¬ ((splitL 10 l)[k] = [] ∧ (splitL 10 l).drop (k + 1) = [])) (hx : ∀ p, parseP (str (splitL 10 l)[k]) = some p → addErrR rs g p ≠ 0) : ¬ GoodTxt l := by
  refine rd_none ?_
  rw [h.eq, List.drop_eq_getElem_cons hk]
  unfold rdGo
  rw [if_neg (by rw [hh]; simp), if_neg hne]
  cases hp : parseP (str (splitL 10 l)[k]) with
  | none => rfl
  | some p =>
    simp only
    rw [err_er, if_neg (hx p hp)]
theorem RdcSt.done {l : List UInt8} {w : World} {k : Nat} {g : ByteArray} {v : Value} {rs : List MR} {W : World} (h : RdcSt l w k g v rs W) (hd : (splitL 10 l).drop k = [] ∨ (splitL 10 l).drop k = [[]]) : rdGo (splitL 10 l) ⟨#[]⟩ [] = some (rs.map erR) := by
  rw [h.eq]
  rcases hd with e | e
  · rw [e]; rfl
  · rw [e]
    unfold rdGo
    rw [if_neg (by decide), if_pos ⟨rfl, rfl⟩]

theorem ext_six (x : List UInt8) : ((str x).extract 0 6).toList = x.take 6 := by
  rw [ByteArray.toList_eq, ByteArray.data_extract, Array.toList_extract]
  simp [str]
theorem head_split {x : List UInt8} (h : isHead x = true) : ∃ y, x = [103, 114, 111, 117, 112] ++ 32 :: y := by
  unfold isHead at h
  rw [Bool.and_eq_true, decide_eq_true_eq, decide_eq_true_eq] at h
  refine ⟨x.drop 6, ?_⟩
  have := List.take_append_drop 6 x
  rw [h.2] at this
  exact this.symm
theorem head_two {x : List UInt8} (h : isHead x = true) : 2 ≤ (splitL 32 x).length := by
  obtain ⟨y, rfl⟩ := head_split h
  rw [splitL_pre 32 [103, 114, 111, 117, 112] _ (by decide), List.length_cons]
  have := splitL_ne 32 y
  cases hy : splitL 32 y with
  | nil => exact absurd hy this
  | cons a b => simp
theorem part_le (c : UInt8) (x : List UInt8) (j : Nat) : ((splitL c x).getD j []).length ≤ x.length := by
  by_cases h : j < (splitL c x).length
  · have : (splitL c x).getD j [] = (splitL c x)[j] := by simp [h]
    rw [this]
    exact splitL_part c x _ (List.getElem_mem h)
  · have : (splitL c x).getD j [] = [] := by simp at h ⊢; simp [h]
    rw [this]
    exact Nat.zero_le _

set_option maxRecDepth 100000 in
set_option maxHeartbeats 8000000 in
theorem refDecode_any (l : List UInt8) (w : World) (hG : Gl w) (hl : l.length ≤ 60000) :
    Calls Tryz.prog 49 #[.string (str l)] w fun r w' => RdPost l w r w' := by
  have HG := Lib.hid hG
  clear hG
  obtain ⟨L, hL⟩ : ∃ L, L = splitL 10 l := ⟨_, rfl⟩
  have HPA := Lib.hid (parts_any (str l) 10 w (by rw [str_size]; omega))
  have hLL := (splitS_len 10 (str l)).2
  rw [str_size] at hLL
  have hLS : splitS 10 (str l) = L.map str := by unfold splitS; rw [str_data, hL]
  have hlen : (splitS 10 (str l)).length = L.length := by rw [hLS, List.length_map]
  rw [hlen] at hLL HPA
  go_enter Tryz.func49, Tryz.ntmps49
  go_wp2_with fail
  refine HPA.out.mono ?_
  rintro r w1 ⟨v1, rfl, hown, hb1⟩
  have hne : splitS 10 (str l) ≠ [] := by
    intro e
    have := (splitS_len 10 (str l)).1
    rw [e] at this
    cases this
  obtain ⟨b, c, rfl, hrow, hbB, hbl⟩ := row_strs (by rw [hlen]; exact hown) hne
  rw [hLS] at hrow
  have HROW := Lib.hid hrow
  have HLL := Lib.hid hL
  have hpart : ∀ x ∈ L, x.length ≤ l.length := fun x hx => splitL_part 10 l x (hL ▸ hx)
  have HPART := Lib.hid hpart
  have HS0 : Hid (RdcSt l w 0 ⟨#[]⟩ (.slice none 0 0) [] w1) := Lib.hid ⟨hb1, RefsAt.nil _ _, .nil, .nil, fun _ h => (by cases h), fun _ h => (by cases h), Nat.le_refl _, rfl, Nat.zero_le _⟩
  have HBB := Lib.hid hbB
  rw [hlen]
  clear hown hb1 hne hrow hL hpart HPA hLS hlen hbB
  go_wp2
  go_loopw [5, 6, 7, 8, 9, 10] (fun xv gv i _ _ _ wr => ∃ (k : Nat) (g : ByteArray) (rs : List MR), k ≤ L.length ∧ i = .int .i64 k ∧ gv = .string g ∧ Hid (RdcSt l w k g xv rs wr) ∧ Hid (Below w1.heap.size w1 wr)) (fun _ _ i _ _ _ _ => L.length - (intOf i).toNat)
  case atStart => exact ⟨0, ⟨#[]⟩, [], Nat.zero_le _, rfl, rfl, HS0, Lib.hid (Below.refl _ _)⟩
  case round =>
    obtain ⟨k, g, rs, hk, rfl, rfl, HS, HBR⟩ := hrel
    by_cases hlt : k < L.length
    · have hltz : (k : Int) < (L.length : Int) := by omega
      have htext : wr.cell? ⟨b, k, none⟩ = some (.string (str L[k])) := by
        have h1 := HROW.out k (str L[k]) (by simp [hlt])
        rw [Nat.zero_add] at h1
        exact (HBR.out.cell (p := ⟨b, k, none⟩) hbl).trans h1
      have hxl := HPART.out _ (List.getElem_mem hlt)
      have hks : k < (splitL 10 l).length := by rw [← HLL.out]; exact hlt
      have hLk : (splitL 10 l)[k] = L[k] := by simp only [HLL.out]
      have hLd : (splitL 10 l).drop (k + 1) = [] ↔ k + 1 = L.length := by
        rw [List.drop_eq_nil_iff, ← HLL.out]
        omega
      cases hh : isHead L[k] with
      | true =>
        have HHD := Lib.hid (HS.out.head hks (by rw [hLk]; exact hh) (by rw [str_size, hLk]; exact Nat.le_trans (part_le 32 _ 1) hxl))
        rw [hLk] at HHD
        have htwo := head_two hh
        clear hLk hLd hks
        generalize L[k] = x at *
        have h6 : 6 < x.length := by unfold isHead at hh; rw [Bool.and_eq_true, decide_eq_true_eq] at hh; exact hh.1
        have h6s : 6 < (str x).size := by rw [str_size]; exact h6
        have h6z : (6 : Int) < ((str x).size : Int) := by omega
        have hq : (((str x).extract 0 6).toList == [103, 114, 111, 117, 112, 32]) = true := by
          rw [ext_six, beq_iff_eq]
          unfold isHead at hh
          rw [Bool.and_eq_true, decide_eq_true_eq, decide_eq_true_eq] at hh
          exact hh.2
        have HPX := Lib.hid (parts_any (str x) 32 wr (by rw [str_size]; omega))
        have hxs : splitS 32 (str x) = (splitL 32 x).map str := by unfold splitS; rw [str_data]
        rw [hxs, List.length_map] at HPX
        clear hh
        go_wp2_with fail
        refine HPX.out.mono ?_
        rintro r w2 ⟨v2, rfl, hown2, hb2⟩
        obtain ⟨b2, c2, rfl, hrow2, _, _⟩ := row_strs (xs := (splitL 32 x).map str) (by rw [List.length_map]; exact hown2) (by intro e; rw [List.map_eq_nil_iff] at e; exact splitL_ne 32 x e)
        have ht2 : w2.cell? ⟨b2, 1, none⟩ = some (.string (str ((splitL 32 x).getD 1 []))) := by
          have h1 := hrow2 1 (str ((splitL 32 x).getD 1 [])) (by
            rw [List.getElem?_map]
            have : (splitL 32 x)[1]? = some ((splitL 32 x).getD 1 []) := by
              rw [List.getD_eq_getElem?_getD, List.getElem?_eq_getElem (by omega)]
              rfl
            rw [this]; rfl)
          rwa [Nat.zero_add] at h1
        have HS2 := Lib.hid (HHD.out.later hb2)
        have HB2 := Lib.hid (HBR.out.trans (hb2.mono HBR.out.size))
        rw [List.length_map]
        have h2z : (1 : Int) < ((splitL 32 x).length : Int) := by omega
        clear hown2 hrow2 hb2 HPX HHD HS hxs
        generalize str ((splitL 32 x).getD 1 []) = g2 at *
        generalize (splitL 32 x).length = n2 at *
        go_wp2
        go_roundw
        case rel => exact ⟨k + 1, g2, rs, by omega, by go_num, rfl, HS2, HB2⟩
        case measure => simp [intOf]; omega
      | false =>
        have HNONE : Hid ((∀ p, ¬ (L[k] = [] ∧ k + 1 = L.length) → parseP (str L[k]) = some p → addErrR rs g p ≠ 0) → ¬ (L[k] = [] ∧ k + 1 = L.length) → ¬ GoodTxt l) := Lib.hid fun hx hn => HS.out.none hks (by rw [hLk]; exact hh) (by rw [hLk, hLd]; exact hn) (fun p hp => hx p hn (by rw [← hLk]; exact hp))
        have HNEXT : Hid (¬ (L[k] = [] ∧ k + 1 = L.length) → ∀ (p : PLine) (W W' : World) (v' v0 : Value), Below wr.heap.size wr W → parseP (str L[k]) = some p → IdsAt W' v0 p.ids → addErrR rs g p = 0 → Below W.heap.size W W' → RefsAt W.heap.size W' v' (addR rs ⟨g, ⟨p, v0⟩⟩) → RdcSt l w (k + 1) g v' (addR rs ⟨g, ⟨p, v0⟩⟩) W') := Lib.hid fun hn p W W' v' v0 hb0 hp hI he hb hv => (HS.out.later hb0).next hks (by rw [hLk]; exact hh) (by rw [hLk, hLd]; exact hn) (by rw [hLk]; exact hp) hI he hb hv
        have HLAST : Hid (L[k] = [] ∧ k + 1 = L.length → rdGo (splitL 10 l) ⟨#[]⟩ [] = some (rs.map erR)) := Lib.hid fun h => HS.out.done (.inr (by rw [List.drop_eq_getElem_cons hks, hLk, h.1, hLd.2 h.2]))
        clear hLk hLd hks
        generalize L[k] = x at *
        have hxs : (str x).size = x.length := str_size x
        go_upto_region 7 with fail
        go_cut [32] from 13 to 72 (fun c wx => c = .bool false ∧ wr = wx)
        case first =>
          by_cases h6 : 6 < x.length
          · have h6s : 6 < (str x).size := by omega
            have h6z : (6 : Int) < ((str x).size : Int) := by omega
            have hq : (((str x).extract 0 6).toList == [103, 114, 111, 117, 112, 32]) = false := by
              rw [ext_six, beq_eq_false_iff_ne]
              intro e
              unfold isHead at hh
              rw [decide_eq_true h6, e] at hh
              cases hh
            go_wp2
            go_meet
            exact ⟨rfl, rfl⟩
          · have h6z : ¬ (6 : Int) < ((str x).size : Int) := by omega
            go_wp2
            go_meet
            exact ⟨rfl, rfl⟩
        case rest =>
        obtain ⟨rfl, rfl⟩ := hcut
        clear hh
        go_upto_region 9 with fail
        go_cut [51] from 13 to 72 (fun c wx => (∃ c0 : Bool, c = .bool c0 ∧ Hid (c0 = true ↔ x = [] ∧ k + 1 = L.length)) ∧ wr = wx)
        case first =>
          by_cases hx0 : x = []
          · subst hx0
            have hez : ((str []).toList.isEmpty) = true := by rw [ByteArray.toList_eq, str_data]; rfl
            by_cases hkl : k + 1 = L.length
            · have hkz : ((k : Int) == (L.length : Int) - 1) = true := by rw [beq_iff_eq]; omega
              go_wp2
              go_meet
              exact ⟨⟨_, rfl, Lib.hid (by simp [hkl])⟩, rfl⟩
            · have hkz : ((k : Int) == (L.length : Int) - 1) = false := by rw [beq_eq_false_iff_ne]; omega
              go_wp2
              go_meet
              exact ⟨⟨_, rfl, Lib.hid (by simp [hkl])⟩, rfl⟩
          · have hez : ((str x).toList.isEmpty) = false := by
              rw [ByteArray.toList_eq, str_data]
              cases x with
              | nil => exact absurd rfl hx0
              | cons a t => rfl
            go_wp2
            go_meet
            exact ⟨⟨_, rfl, Lib.hid (by simp [hx0])⟩, rfl⟩
        case rest =>
        obtain ⟨⟨c0, rfl, HC0⟩, rfl⟩ := hcut
        cases hc0 : c0 with
        | true =>
          have HD := Lib.hid (HLAST.out (HC0.out.1 hc0))
          clear HNONE HNEXT HLAST HC0
          obtain ⟨xa, xn, xc, hxe⟩ : ∃ a n c, u5 = .slice a n c := own_slice HS.out.refs.row
          subst hxe
          have HEN := Lib.hid (refEncode_any w.heap.size (.slice xa xn xc) rs wr HS.out.refs HS.out.ids (fun r hr => (HS.out.good r hr).2))
          go_wp2_with fail
          refine HEN.out.mono ?_
          rintro r w2 ⟨rfl, hb2⟩
          have HS2 := Lib.hid (HS.out.later hb2)
          clear hb2 HEN HS
          by_cases he : refTxt rs rs.length = l
          · rw [he]
            have hq : ((str l).toList == (str l).toList) = true := by simp
            go_wp2
            go_ret2
            exact ⟨HS2.out.bl, .inl ⟨_, rs, rfl, HS2.out.refs, HS2.out.ord, HS2.out.apart, HS2.out.good, HS2.out.ids, he.symm⟩⟩
          · have HNG := Lib.hid (rd_ne HD.out he)
            have hq : ((str (refTxt rs rs.length)).toList == (str l).toList) = false := by
              rw [ByteArray.toList_eq, ByteArray.toList_eq, str_data, str_data, beq_eq_false_iff_ne]
              exact he
            generalize str (refTxt rs rs.length) = TX at hq ⊢
            clear he
            go_wp2
            go_ret2
            exact ⟨HS2.out.bl, .inr ⟨_, rfl, HNG.out⟩⟩
        | false =>
          have HNN : Hid (¬ (x = [] ∧ k + 1 = L.length)) := Lib.hid fun h => by rw [HC0.out.2 h] at hc0; cases hc0
          clear HLAST HC0
          have HPR := Lib.hid (rparse_any (str x) wr (by omega))
          clear hc0
          go_wp2_with fail
          refine HPR.out.mono ?_
          rintro r w2 ⟨G, ids, rfl, hP, hI, hone, hb2⟩
          have HPE : Hid ((parseOut (str x)).1 ≠ 0 → parseP (str x) = none) := Lib.hid fun h => by unfold parseP; rw [if_neg h]
          have HPY : Hid ((parseOut (str x)).1 = 0 → ∃ p, parseP (str x) = some p ∧ p.ids = ids ∧ G = ML.g ⟨p, G.refs⟩ ∧ pErr p = 0) := Lib.hid fun h => by
            obtain ⟨p, h1, h2, h3⟩ := parsed_p hP h
            refine ⟨p, h1, h2, h3, ?_⟩
            have h4 := (print_parse h hP).1
            rw [h3, ← h2] at h4
            exact h4
          generalize parseOut (str x) = po at *
          obtain ⟨pe, pat⟩ := po
          simp only at HPE HPY
          have hft := fits_rline (s := ⟨#[]⟩) hone
          have hrsz : ((rlineCells ⟨#[]⟩ zeroLine).size == 39) = true := by rw [rlineCells_size]; rfl
          have hV : RVar (w2.alloc (.cells (rlineCells ⟨#[]⟩ G) 26)) w2.heap.size ⟨#[]⟩ G := heap_alloc_new _ _
          have hbX : Below w2.heap.size w2 (w2.alloc (.cells ((rlineCells ⟨#[]⟩ G).setIfInBounds 0 (.string g)) 26)) := (Below.refl _ _).alloc (Nat.le_refl _) _
          have hVX : RVar (w2.alloc (.cells ((rlineCells ⟨#[]⟩ G).setIfInBounds 0 (.string g)) 26)) w2.heap.size g G := (heap_alloc_new _ _).trans rfl
          have hcf := hV.free 0
          have hcc := hV.cell 0
          have HBX := Lib.hid (hb2.trans (hbX.mono hb2.size))
          have HIX := Lib.hid (hI.below hbX)
          obtain ⟨xa, xn, xc, hxe⟩ : ∃ a n c, u5 = .slice a n c := own_slice HS.out.refs.row
          subst hxe
          have hgsz := HS.out.gsz
          have hrsl := HS.out.len
          clear hb2 HPR hP hI hV hbX
          go_upto_region 12 with fail
          generalize w2.alloc (.cells ((rlineCells ⟨#[]⟩ G).setIfInBounds 0 (.string g)) 26) = X at hVX HBX HIX ⊢
          clear hcf hcc
          obtain ⟨v1, v2⟩ := hVX.rd
          clear hVX
          by_cases he : pe = 0
          · subst he
            obtain ⟨p, hp, hids, hGp, hpe⟩ := HPY.out rfl
            obtain ⟨_, hsz1, hsz2, hln20⟩ := good_bounds hpe
            rw [← hids] at HIX
            obtain ⟨v0, hv0⟩ : ∃ v0, v0 = G.refs := ⟨_, rfl⟩
            rw [← hv0] at HIX hGp
            have HADD : Hid (Calls Tryz.prog 33 #[.slice xa xn xc, .agg (rlineCells g G)] X fun r w' => AddRPost (.slice xa xn xc) rs g p v0 X r w') := Lib.hid (by
              rw [hGp]
              exact addRef_any w.heap.size (.slice xa xn xc) rs g p v0 X (HS.out.refs.below HBX.out) HS.out.ord (by omega) ⟨HIX.out, by unfold maxLen; omega, by show p.name.size ≤ _; unfold maxLen; omega, by show p.subject.size ≤ _; unfold maxLen; omega⟩ (by omega))
            have HP := Lib.hid hp
            clear hids hGp hpe hsz1 hsz2 hln20 hp HPE HPY hv0
            go_wp2_with fail
            refine HADD.out.mono ?_
            rintro r w3 ⟨hb3, hcs⟩
            clear HADD
            have HB3 := Lib.hid (HBX.out.trans (hb3.mono HBX.out.size))
            rcases hcs with ⟨hne0, rfl⟩ | ⟨he0, v', rfl, hv'⟩
            · have HNG : Hid (¬ GoodTxt l) := Lib.hid (HNONE.out (fun q _ hq => by rw [HP.out] at hq; cases hq; exact hne0) HNN.out)
              have HB := Lib.hid (HS.out.later HB3.out).bl
              clear HNONE HNEXT hb3
              generalize addErrR rs g p = e at hne0
              have hez : ((e : Int) != 0) = true := by rw [bne_iff_ne]; exact hne0
              go_wp2
              go_ret2
              exact ⟨HB.out, .inr ⟨_, rfl, HNG.out⟩⟩
            · have HN5 := Lib.hid (HNEXT.out HNN.out p X w3 v' v0 HBX.out HP.out (HIX.out.below hb3) he0 hb3 hv')
              obtain ⟨va', vn', vc', hve⟩ : ∃ a n c, v' = .slice a n c := own_slice HN5.out.refs.row
              subst hve
              have HBR3 := Lib.hid (HBR.out.trans (HB3.out.mono HBR.out.size))
              clear hb3 HNONE HNEXT he0 hv' HS
              go_wp2
              go_roundw
              case rel => exact ⟨k + 1, g, _, by omega, by go_num, rfl, HN5, HBR3⟩
              case measure => simp [intOf]; omega
          · have hez : (pe != 0) = true := by rw [bne_iff_ne]; exact he
            have HNG : Hid (¬ GoodTxt l) := Lib.hid (HNONE.out (fun q _ hq => by rw [HPE.out he] at hq; cases hq) HNN.out)
            have HB := Lib.hid (HS.out.later HBX.out).bl
            clear HNONE HNEXT HPE HPY he
            go_wp2
            go_ret2
            exact ⟨HB.out, .inr ⟨_, rfl, HNG.out⟩⟩
    · have HD : Hid (rdGo (splitL 10 l) ⟨#[]⟩ [] = some (rs.map erR)) := Lib.hid (HS.out.done (.inl (by rw [List.drop_eq_nil_iff, ← HLL.out]; omega)))
      have hltz : ¬ (k : Int) < (L.length : Int) := by omega
      obtain ⟨xa, xn, xc, hxe⟩ : ∃ a n c, u5 = .slice a n c := own_slice HS.out.refs.row
      subst hxe
      have HEN := Lib.hid (refEncode_any w.heap.size (.slice xa xn xc) rs wr HS.out.refs HS.out.ids (fun r hr => (HS.out.good r hr).2))
      go_wp2_with fail
      refine HEN.out.mono ?_
      rintro r w2 ⟨rfl, hb2⟩
      have HS2 := Lib.hid (HS.out.later hb2)
      clear hb2 HEN HS
      by_cases he : refTxt rs rs.length = l
      · rw [he]
        have hq : ((str l).toList == (str l).toList) = true := by simp
        go_wp2
        go_ret2
        exact ⟨HS2.out.bl, .inl ⟨_, rs, rfl, HS2.out.refs, HS2.out.ord, HS2.out.apart, HS2.out.good, HS2.out.ids, he.symm⟩⟩
      · have HNG := Lib.hid (rd_ne HD.out he)
        have hq : ((str (refTxt rs rs.length)).toList == (str l).toList) = false := by
          rw [ByteArray.toList_eq, ByteArray.toList_eq, str_data, str_data, beq_eq_false_iff_ne]
          exact he
        generalize str (refTxt rs rs.length) = TX at hq ⊢
        clear he
        go_wp2
        go_ret2
        exact ⟨HS2.out.bl, .inr ⟨_, rfl, HNG.out⟩⟩

end Go.Proofs.YtdjaphcelpchaaaGreatDoor

namespace Go.Proofs.YtdjaphcelpchaaaGreatDoor
open Go Go.RowKit Go.Proofs

attribute [local go_sem ↓] ex_load_id ex_store_id ex_load_line ex_store_line ex_load_rline ex_store_rline ex_alloc_line ex_build_line ex_alloc_rline ex_build_rline

attribute [local go_sem] ld_id st_id ld_line st_line ld_rline st_rline guard_id okCells_drew rdCells_drew okCells_drewN rdCells_drewN rowOk_drew rowOk_cells okCells_cells rdCells_cells setRow_drew setRow_new setRow_past

/-- What Decode answers. -/
def DecPost (l : List UInt8) (w : World) (r : Ending) (w' : World) : Prop :=
  Below w.heap.size w w' ∧ ((∃ ib M gs mc ns, r = .returned (.tuple #[.pointer (some ⟨ib, 0, none⟩), .int .i64 0]) ∧ IdxAt w.heap.size w' ib M gs mc ∧ total gs ≤ l.count 10 ∧ ordN ns ∧ (∀ t, t ∈ ns ↔ ∃ G ∈ gs, G.name = t) ∧ l = encTxt (lfOf gs) ns) ∨
    (r = .returned (.tuple #[.pointer none, .int .i64 3]) ∧ ¬ GoodTxt l))
theorem not_good {l : List UInt8} (h : decGo (l.length + 1) noL l = none) : ¬ GoodTxt l := by
  rintro ⟨F, ts, hg, e⟩
  rw [e, dec_good hg (Nat.lt_succ_self _)] at h
  cases h
theorem not_good2 {l : List UInt8} {B ib M mc : Nat} {gs : List MG} {w : World} (hx : IdxAt B w ib M gs mc) (h : decGo (l.length + 1) noL l = some (lfOf gs)) {ns : List ByteArray} (hn : ordN ns) (hm : ∀ t, t ∈ ns ↔ ∃ G ∈ gs, G.name = t) (hne : encTxt (lfOf gs) ns ≠ l) : ¬ GoodTxt l := by
  rintro ⟨F, ts, hg, e⟩
  rw [e, dec_good hg (Nat.lt_succ_self _), Option.some.injEq] at h
  obtain ⟨_, h2⟩ := good_names hg h hn (fun t => (hm t).trans (lf_names hx t))
  exact hne (h2.symm.trans e.symm)
/-- In the middle of Decode. -/
structure DeSt (ib M : Nat) (l : List UInt8) (w : World) (n : Nat) (rest : List UInt8) (gs : List MG) (mc : Nat) (W : World) : Prop where
  bl : Below w.heap.size w W
  idx : IdxAt w.heap.size W ib M gs mc
  eq : decGo (l.length + 1) noL l = decGo n (lfOf gs) rest
  fuel : rest.length < n
  ten : total gs + rest.count 10 ≤ l.count 10
  len : rest.length ≤ l.length

set_option maxRecDepth 100000 in
set_option maxHeartbeats 8000000 in
theorem decode_any (l : List UInt8) (w : World) (hG : Gl w) (hl : l.length ≤ 16777216) (hten : l.count 10 ≤ 65536) :
    Calls Tryz.prog 50 #[.string (str l)] w fun r w' => DecPost l w r w' := by
  have hlz : ¬ (16777216 : Int) < ((str l).size : Int) := by rw [str_size]; omega
  have HG := Lib.hid hG
  clear hG
  go_enter Tryz.func50, Tryz.ntmps50
  go_wp2_with fail
  refine (new_any w).mono ?_
  rintro r w1 ⟨rfl, hw1⟩
  have hb1 : Below w.heap.size w w1 := by rw [← hw1]; exact ((Below.refl _ _).alloc (Nat.le_refl _) _).alloc (by simp) _
  have hx1 : IdxAt w.heap.size w1 (w.heap.size + 1) w.heap.size [] 0 := by rw [← hw1]; exact IdxAt.fresh _ _ (Nat.le_refl _)
  have HS0 : Hid (DeSt (w.heap.size + 1) w.heap.size l w (l.length + 1) l [] 0 w1) := Lib.hid ⟨hb1, hx1, rfl, Nat.lt_succ_self _, by simp [total], Nat.le_refl _⟩
  clear hw1 hb1 hx1
  go_wp2
  go_loopw [5, 6, 14] (fun rv _ _ wr => ∃ (n : Nat) (rest : List UInt8) (gs : List MG) (mc : Nat), rv = .string (str rest) ∧ Hid (DeSt (w.heap.size + 1) w.heap.size l w n rest gs mc wr)) (fun rv _ _ _ => match rv with | .string s => s.size | _ => 0)
  case atStart => exact ⟨_, l, [], 0, rfl, HS0⟩
  case round =>
    obtain ⟨n, rest, gs, mc, rfl, HS⟩ := hrel
    have hrl := HS.out.len
    by_cases hre : rest = []
    · subst hre
      have hez : ((str []).toList.isEmpty) = true := by rw [ByteArray.toList_eq, str_data]; rfl
      have HDG : Hid (decGo (l.length + 1) noL l = some (lfOf gs)) := Lib.hid (by
        rw [HS.out.eq]
        obtain ⟨m, hm⟩ : ∃ m, n = m + 1 := ⟨n - 1, by have := HS.out.fuel; omega⟩
        rw [hm]
        unfold decGo
        rw [if_pos rfl])
      have HEN := Lib.hid (encode_any w.heap.size (w.heap.size + 1) w.heap.size mc gs wr (HG.out.later HS.out.bl) HS.out.idx)
      go_wp2_with fail
      refine HEN.out.mono ?_
      rintro r w2 ⟨ns, rfl, hn, hm, hb2⟩
      have HX2 := Lib.hid (HS.out.idx.below hb2)
      have HB2 := Lib.hid (HS.out.bl.trans (hb2.mono HS.out.bl.size))
      have HT := Lib.hid HS.out.ten
      have HN := Lib.hid hn
      have HM := Lib.hid hm
      clear hb2 HEN HS hn hm
      by_cases he : encTxt (lfOf gs) ns = l
      · have hee : encTxt (fun t => (linesIn gs t).map (·.p)) ns = l := he
        rw [hee]
        have hq : ((str l).toList == (str l).toList) = true := by simp
        clear hee
        go_wp2
        go_ret2
        exact ⟨HB2.out, .inl ⟨_, _, gs, mc, ns, rfl, HX2.out, by have := HT.out; omega, HN.out, HM.out, he.symm⟩⟩
      · have HNG := Lib.hid (not_good2 HX2.out HDG.out HN.out HM.out he)
        have hq : ((str (encTxt (fun t => (linesIn gs t).map (·.p)) ns)).toList == (str l).toList) = false := by
          rw [ByteArray.toList_eq, ByteArray.toList_eq, str_data, str_data, beq_eq_false_iff_ne]
          exact he
        generalize str (encTxt (fun t => (linesIn gs t).map (·.p)) ns) = TX at hq ⊢
        clear he
        go_wp2
        go_ret2
        exact ⟨HB2.out, .inr ⟨rfl, HNG.out⟩⟩
    · have hez : ((str rest).toList.isEmpty) = false := by
        rw [ByteArray.toList_eq, str_data]
        cases rest with
        | nil => exact absurd rfl hre
        | cons a t => rfl
      obtain ⟨m, hm⟩ : ∃ m, n = m + 1 := ⟨n - 1, by have := HS.out.fuel; omega⟩
      subst hm
      have HDG := Lib.hid (decGroup_any w.heap.size (w.heap.size + 1) w.heap.size mc gs rest w wr HG.out rfl HS.out.bl HS.out.idx (by omega) (by have := HS.out.ten; omega))
      have HNO : Hid (dg (lfOf gs) rest = none → ¬ GoodTxt l) := Lib.hid fun h => not_good (by
        rw [HS.out.eq]
        unfold decGo
        rw [if_neg hre, h])
      have HYES : Hid (∀ rest' gs' mc' W, Below w.heap.size wr W → dg (lfOf gs) rest = some (rest', lfOf gs') → IdxAt w.heap.size W (w.heap.size + 1) w.heap.size gs' mc' → total gs' + rest'.count 10 ≤ total gs + rest.count 10 → DeSt (w.heap.size + 1) w.heap.size l w m rest' gs' mc' W ∧ rest'.length < rest.length) := Lib.hid fun rest' gs' mc' W hb h hx ht => by
        have h1 := dg_lt h
        refine ⟨⟨HS.out.bl.trans hb, hx, ?_, by have := HS.out.fuel; omega, by have := HS.out.ten; omega, by omega⟩, h1⟩
        rw [HS.out.eq]
        conv => lhs; unfold decGo
        rw [if_neg hre, h]
      have HBL := Lib.hid HS.out.bl
      clear HS
      go_wp2_with fail
      refine HDG.out.mono ?_
      rintro r w2 ⟨hb2, hp⟩
      have HB2 := Lib.hid (HBL.out.trans hb2)
      clear HDG
      rcases hp with ⟨hn, rfl⟩ | ⟨rest', gs', mc', hd, rfl, hx, ht⟩
      · have HNG := Lib.hid (HNO.out hn)
        clear HNO HYES hb2 hn
        go_wp2
        go_ret2
        exact ⟨HB2.out, .inr ⟨rfl, HNG.out⟩⟩
      · have HY := Lib.hid (HYES.out rest' gs' mc' w2 hb2 hd hx ht)
        clear HNO HYES hb2 hd hx ht
        go_wp2
        go_roundw
        case rel => exact ⟨m, rest', gs', mc', rfl, Lib.hid HY.out.1⟩
        case measure => exact HY.out.2

end Go.Proofs.YtdjaphcelpchaaaGreatDoor

namespace Go.Proofs.YtdjaphcelpchaaaGreatDoor
open Go Go.RowKit Go.Proofs

attribute [local go_sem ↓] ex_load_id ex_store_id ex_load_line ex_store_line ex_load_rline ex_store_rline ex_alloc_line ex_build_line ex_alloc_rline ex_build_rline

attribute [local go_sem] ld_id st_id ld_line st_line ld_rline st_rline guard_id okCells_drew rdCells_drew okCells_drewN rdCells_drewN rowOk_drew rowOk_cells okCells_cells rdCells_cells setRow_drew setRow_new setRow_past

set_option maxRecDepth 100000 in
set_option maxHeartbeats 8000000 in
theorem law_decode_l (l : List UInt8) (w : World) (hG : Gl w) (hs : (str l).size ≤ maxLen) :
    Calls Tryz.prog 11 #[.string (str l)] w fun r w' => r = .returned (.bool true) ∧ Below w.heap.size w w' := by
  have HG := Lib.hid hG
  have hsz : (str l).size = l.length := str_size l
  unfold maxLen at hs
  clear hG
  go_enter Tryz.func11, Tryz.ntmps11
  go_wp2_with fail
  refine (knows w HG.out).mono ?_
  rintro r w1 ⟨rfl, hb1⟩
  have HB1 := Lib.hid hb1
  clear hb1
  by_cases h4 : l.length ≤ 4000
  · have h4z : ¬ (4000 : Int) < ((str l).size : Int) := by omega
    have hct : l.count 10 ≤ 4000 := Nat.le_trans List.count_le_length h4
    have HRD := Lib.hid (refDecode_any l w1 (HG.out.later HB1.out) (by omega))
    go_wp2_with fail
    refine HRD.out.mono ?_
    rintro r w2 ⟨hb2, hp2⟩
    have HB2 := Lib.hid (HB1.out.trans (hb2.mono HB1.out.size) : Below w.heap.size w w2)
    have HDE := Lib.hid (decode_any l w2 (HG.out.later HB2.out) (by omega) (by omega))
    clear hb2 HRD HB1
    rcases hp2 with ⟨v, rs, rfl, hv, ho, ha, hg, hI, hl⟩ | ⟨v, rfl, hng⟩
    · obtain ⟨va, vn, vc, hve⟩ : ∃ a n c, v = .slice a n c := own_slice hv.row
      subst hve
      have HV := Lib.hid hv
      have HO := Lib.hid ho
      have HI := Lib.hid hI
      have hgood := good_of_rs ho ha hg (by have := hv.few; omega)
      have hle : l = encTxt (fun t => (ofR rs t).map (·.m.p)) (groupsR rs) := hl.trans (refTxt_enc ho)
      have HGR := Lib.hid hgood
      have HLE := Lib.hid hle
      have HGT : Hid (GoodTxt l) := Lib.hid ⟨_, _, hgood, hle⟩
      clear hv ho ha hg hI hl hgood hle
      go_wp2_with fail
      refine HDE.out.mono ?_
      rintro r w3 ⟨hb3, hp3⟩
      have HB3 := Lib.hid (HB2.out.trans (hb3.mono HB2.out.size) : Below w.heap.size w w3)
      rcases hp3 with ⟨ib, M, gs, mc, ns, rfl, hx, _, hn, hm, hl2⟩ | ⟨_, hno⟩
      · have hlf : lfOf gs = fun t => (ofR rs t).map (·.m.p) := by
          have h1 := good_inj (good_of_idx hx hn hm) HGR.out (hl2.symm.trans HLE.out)
          rw [putAll_idx hx hm, putAll_rs HO.out] at h1
          exact h1
        have HR := Lib.hid (rel_of_lf hlf)
        have HX3 := Lib.hid hx
        have HV3 := Lib.hid (HV.out.below hb3)
        have HI3 : Hid (∀ r ∈ rs, IdsAt w3 r.m.v r.m.p.ids) := Lib.hid fun r hr => (HI.out r hr).below hb3
        have HN := Lib.hid hn
        have HM := Lib.hid hm
        have HL2 := Lib.hid hl2
        have HEN := Lib.hid (encode_any w2.heap.size ib M mc gs w3 (HG.out.later HB3.out) hx)
        clear hb3 hx hn hm hl2 hlf HDE HV HI HGT HB2 HGR
        go_wp2_with fail
        refine HEN.out.mono ?_
        rintro r w4 ⟨ns4, rfl, hn4, hm4, hb4⟩
        have HB4 := Lib.hid (HB3.out.trans (hb4.mono HB3.out.size) : Below w.heap.size w w4)
        have hns : ns4 = ns := ordN_ext hn4 HN.out fun t => (hm4 t).trans (HM.out t).symm
        subst hns
        have hee : encTxt (fun t => (linesIn gs t).map (·.p)) ns4 = l := HL2.out.symm
        rw [hee]
        have hq : ((str l).toList == (str l).toList) = true := by simp
        have HS := Lib.hid (same_any w2.heap.size w1.heap.size ib M mc gs (.slice va vn vc) rs w4 (HG.out.later HB4.out) (HX3.out.below hb4) (HV3.out.below hb4) HR.out HO.out (fun r hr => (HI3.out r hr).below hb4))
        clear hb4 HEN HX3 HV3 HI3 hn4 hm4 hee HB3
        go_wp2_with fail
        refine HS.out.mono ?_
        rintro r w5 ⟨rfl, hb5⟩
        have HB5 := Lib.hid (HB4.out.trans (hb5.mono HB4.out.size) : Below w.heap.size w w5)
        clear hb5 HS HB4
        go_wp2
        go_ret
        exact ⟨rfl, HB5.out⟩
      · exact absurd HGT.out hno
    · have HNG := Lib.hid hng
      clear hng
      go_wp2_with fail
      refine HDE.out.mono ?_
      rintro r w3 ⟨hb3, hp3⟩
      have HB3 := Lib.hid (HB2.out.trans (hb3.mono HB2.out.size) : Below w.heap.size w w3)
      rcases hp3 with ⟨ib, M, gs, mc, ns, rfl, hx, _, hn, hm, hl2⟩ | ⟨rfl, _⟩
      · exact absurd ⟨_, _, good_of_idx hx hn hm, hl2⟩ HNG.out
      · clear hb3 HDE HB2
        go_wp2
        go_ret
        exact ⟨rfl, HB3.out⟩
  · have h4z : (4000 : Int) < ((str l).size : Int) := by omega
    go_wp2_with fail
    refine (knows w1 (HG.out.later HB1.out)).mono ?_
    rintro r w3 ⟨rfl, hb3⟩
    have HB3 := Lib.hid (HB1.out.trans (hb3.mono HB1.out.size) : Below w.heap.size w w3)
    clear hb3
    go_wp2
    go_ret
    exact ⟨rfl, HB3.out⟩
theorem law_decode (s : ByteArray) (w : World) (hG : Gl w) (hs : s.size ≤ maxLen) :
    Calls Tryz.prog 11 #[.string s] w fun r w' => r = .returned (.bool true) ∧ Below w.heap.size w w' := by
  have h := law_decode_l s.data.toList w hG (by rw [str_of]; exact hs)
  rwa [str_of] at h

end Go.Proofs.YtdjaphcelpchaaaGreatDoor

namespace Go.Proofs.YtdjaphcelpchaaaGreatDoor.overviewDecode
open Go Go.RowKit Go.Proofs Go.Proofs.YtdjaphcelpchaaaGreatDoor Go.ChangeShapes Go.WideShapes Go.ChangeAt Go.WideMaps Go.ChangeMaps

set_option maxRecDepth 100000 in
theorem contract (H : Type) (enc : TypeId × Value → H) (W : World) (base : Nat) (args : Array Value) (ds gs : List (DataW H)) (before : List MemPlace)
    (hval : ∀ (j : Nat) t v, Tryz.f11.params[j]? = some t → args[j]? = some v → Value.okWide Tryz.prog W .any base t v)
    (hW : DataW.Whole enc Tryz.prog Tryz.f11.params.toList Rows.overviewDecodeSpec.vars false W args.toList ds gs before)
    (hR : (DataW.weightsEach Tryz.prog (Tryz.f11.params.toList ++ (OpenSpec.ofChange Rows.overviewDecodeSpec).bare.plain.varTypes Tryz.prog) (ds ++ gs)).all (· ≤ reachBytes) = true)
    (hL : laidMetH Tryz.prog Rows.overviewDecodeRow.laid W) (hS : W.ShapedOpen Tryz.prog) :
    Calls Tryz.prog 11 args W fun e W' => ∃ v, e = .returned v ∧ Rows.overviewDecodeSpec.post enc Tryz.prog Tryz.f11 false true false false W args v W' := by
  have hW' := hW
  obtain ⟨p, q, hA0, hV, rfl, hfz, hnd⟩ := hW
  have hA : DataW.TrodAll enc Tryz.prog W 0 (fun _ => true) true Tryz.f11.params.toList args.toList ds p := hA0
  rw [Tryz.params11] at hA hval hR
  obtain ⟨v0, d0, rfl, rfl, h0⟩ := trodAll_one hA
  obtain ⟨s, rfl, rfl, rfl, hs⟩ := open_string Tryz.underlying9 (hval 0 9 v0 rfl rfl) h0
  clear hA0 hA
  refine (law_decode s W (gl_of hL hS) hs).mono fun e W' ⟨he, hb⟩ => ?_
  subst he
  exact ⟨_, rfl, law_post rfl (by kernel_rfl) hW' (by rw [Tryz.params11]; intro t ht; obtain rfl : t = 9 := (by simpa using ht); exact ⟨by kernel_rfl, of_decide_eq_true (by kernel_rfl)⟩) rfl hb⟩

theorem reads (os : Os) {H : Type} (enc : TypeId × Value → H) : ∃ places, DataW.whole enc Tryz.prog ((World.laidAll Tryz.prog os Rows.overviewDecodeRow.laid).forCall (fun _ _ => 0) ⟨#[], #[.string ⟨#[]⟩], []⟩).memory Tryz.f11.params.toList Rows.overviewDecodeSpec.vars false (#[.string ⟨#[]⟩] : Array Value).toList 8 = some ([.lit (.string [])], [], places) :=
  ⟨[], by kernel_rfl⟩

set_option maxRecDepth 100000 in
theorem lifted (os : Os) (started : os.Started) (H : Type) (enc : TypeId × Value → H) (F : Stop.Interp) :
    ReturnsInHanded {} Tryz.checked os 11 .any ((OpenSpec.ofChange Rows.overviewDecodeSpec).preRow enc Tryz.prog Tryz.f11 Rows.overviewDecodeRow.domain false Rows.overviewDecodeRow.laid) (((OpenSpec.ofChange Rows.overviewDecodeSpec).at F).post enc Tryz.prog Tryz.f11 false true false false) := by
  obtain ⟨places, hx⟩ := reads os enc
  refine returnsInHanded_of_row (C := Tryz.checked) (s := OpenSpec.ofChange Rows.overviewDecodeSpec) own started (by kernel_rfl) Tryz.func11
    (witness_row_at (enc := enc) (C := Tryz.checked) false (World.laidAll Tryz.prog os Rows.overviewDecodeRow.laid) #[.string ⟨#[]⟩] (World.laidAll_os _ _ _) (by kernel_rfl) (by kernel_rfl) (by kernel_rfl)
      (OpenSpec.preRow_of_cond 8 hx (by kernel_rfl) (fun k hk => by cases hk) (by kernel_rfl) (laidMet_laidAll _ (by kernel_rfl) (by kernel_rfl)))) ?_
  intro W base args ds gs before hval hW _ _ hR hL hS _
  exact contract H enc W base args ds gs before hval hW hR hL hS

theorem said : Rows.OverviewDecodeSaid :=
  OpenClaim.holds_of_cond 11 Tryz.f11 rfl rfl rfl rfl rfl rfl rfl ⟨rfl, rfl, rfl, rfl, rfl⟩ rfl rfl rfl rfl rfl (by kernel_rfl) Tryz.func11 (by kernel_rfl)
    (of_decide_eq_true (by kernel_rfl)) (by unfold Func.isWrapper; first | (rw [if_pos (by decide +kernel)]; kernel_rfl) | (rw [if_neg (by decide +kernel)]; exact ⟨rfl, rfl⟩))
    (fun os started H enc _ F => by rw [OpenClaim.pre_eq_preRow]; exact lifted os started H enc F)

theorem plain (f : FuncId) (fn : Func) (hf : Tryz.pinned.checked.prog.funcNamed "bulletin/bulletinlaw28.OverviewDecode" = some f) (hfn : Tryz.pinned.checked.prog.funcs[f]? = some fn) :
    true = Tryz.pinned.checked.prog.looks [] ∧ ∀ (j : Nat) t, fn.params[j]? = some t → Tryz.pinned.checked.prog.wantsStandIn t = false := by
  obtain rfl : f = 11 := Option.some.inj ((show Tryz.prog.funcNamed "bulletin/bulletinlaw28.OverviewDecode" = some 11 by kernel_rfl).symm.trans hf) |>.symm
  obtain rfl : fn = Tryz.f11 := (Option.some.inj (Tryz.func11.symm.trans hfn)).symm
  refine ⟨by kernel_rfl, fun j t ht => ?_⟩
  rw [Tryz.params11] at ht
  obtain rfl : t = 9 := by simpa using Array.mem_of_getElem? ht
  exact (show Tryz.prog.wantsStandIn 9 = false by kernel_rfl)

end Go.Proofs.YtdjaphcelpchaaaGreatDoor.overviewDecode
namespace Go.Proofs.YtdjaphcelpchaaaGreatDoor
open Go
theorem overviewDecode_card : Rows.OverviewDecodeCardSaid :=
  Claim7.holds_tied_plain_at .later [] _ _ _ _ overviewDecode.said (fun _ h => by cases h) (by kernel_rfl) (fun _ h => by cases h) overviewDecode_row_tie rfl ⟨rfl, rfl⟩ (by kernel_rfl) rfl overviewDecode.plain (by kernel_rfl)
#print axioms overviewDecode_card
end Go.Proofs.YtdjaphcelpchaaaGreatDoor
