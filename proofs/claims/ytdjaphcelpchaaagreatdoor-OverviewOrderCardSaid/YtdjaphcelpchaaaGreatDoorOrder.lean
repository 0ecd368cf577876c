/- The tied card of bulletinlaw28.OverviewOrder, proved: for every list of lines and every turn the call returns true; package-level tables of Go's library as the program's text lays them. -/
import Derived.Test.YtdjaphcelpchaaaGreatDoorShelf
import Derived.Test.YtdjaphcelpchaaaGreatDoorK1
import Derived.Test.YtdjaphcelpchaaaGreatDoorK2
import Derived.Test.YtdjaphcelpchaaaGreatDoorK3
import Derived.Test.YtdjaphcelpchaaaGreatDoorK4
import Derived.Test.YtdjaphcelpchaaaGreatDoorK5
import Derived.Test.YtdjaphcelpchaaaGreatDoorK6
import Derived.Test.YtdjaphcelpchaaaGreatDoorShelf2
import Derived.Test.YtdjaphcelpchaaaGreatDoorK7
import Derived.Test.YtdjaphcelpchaaaGreatDoorK8
import Derived.Test.YtdjaphcelpchaaaGreatDoorOrderL1
import Derived.Deep.CutRange

namespace Go.Proofs.YtdjaphcelpchaaaGreatDoor
open Go Go.RowKit Go.Proofs Go.Shelf

attribute [local go_sem ↓] ex_load_id ex_store_id ex_load_line ex_store_line ex_load_rline ex_store_rline ex_alloc_line ex_build_line ex_alloc_rline ex_build_rline

attribute [local go_sem] ld_id st_id ld_line st_line ld_rline st_rline guard_id okCells_drew rdCells_drew okCells_drewN rdCells_drewN rowOk_drew rowOk_cells okCells_cells rdCells_cells setRow_drew setRow_new setRow_past

/-- The text of a line with its end; of a group; of groups. -/
def txtP (p : PLine) : List UInt8 := lineTxt p.number.toNat p.id p.name p.date.toNat p.subject p.ids p.bytes.toNat ++ [10]
def grpHead (t : ByteArray) (n : Nat) : List UInt8 := [103, 114, 111, 117, 112, 32] ++ t.data.toList ++ [32] ++ Lib.decDigits n ++ [10]
def grpTxt (t : ByteArray) (ps : List PLine) : List UInt8 := grpHead t ps.length ++ ps.flatMap txtP
def encTxt (f : ByteArray → List PLine) (ts : List ByteArray) : List UInt8 := ts.flatMap fun t => grpTxt t (f t)

theorem good_bounds {p : PLine} (h : pErr p = 0) : (∃ n d b : Nat, p.number = (n : Int) ∧ p.date = (d : Int) ∧ p.bytes = (b : Int) ∧ n ≤ 9223372036854775807 ∧ d ≤ 9223372036854775807 ∧ b ≤ 9223372036854775807) ∧ p.name.size ≤ 1300 ∧ p.subject.size ≤ 1300 ∧ p.ids.length ≤ 20 := by
  obtain ⟨h1, h2, h3, h4, h5, h6⟩ := lineErr_zero h
  have h1' : 1 ≤ p.number ∧ p.number ≤ 2147483646 := h1
  have h2' : p.name.size ≤ 60 := h2
  have h3' : 0 ≤ p.date ∧ p.date ≤ 105190559 := h3
  have h4' : p.subject.size ≤ 200 := h4
  have h6' : 0 ≤ p.bytes ∧ p.bytes ≤ 65536 := h6
  exact ⟨⟨p.number.toNat, p.date.toNat, p.bytes.toNat, by omega, by omega, by omega, by omega, by omega, by omega⟩, by omega, by omega, h5⟩
theorem txtP_le {p : PLine} (h : pErr p = 0) : (txtP p).length ≤ 10001 := by
  obtain ⟨⟨n, d, b, h1, h2, h3, h4, h5, h6⟩, h7, h8, h9⟩ := good_bounds h
  have := lineTxt_le n p.id p.name d p.subject p.ids b h4 h5 h6 h7 h8 h9
  unfold txtP
  rw [h1, h2, h3]
  simp only [Int.toNat_natCast, List.length_append, List.length_singleton]
  omega
theorem flat_le {α : Type} (f : α → List UInt8) (m : Nat) : ∀ (l : List α), (∀ x ∈ l, (f x).length ≤ m) → (l.flatMap f).length ≤ l.length * m
  | [], _ => by simp
  | a :: l, h => by
    have h1 := h a (by simp)
    have h2 := flat_le f m l fun x hx => h x (by simp [hx])
    rw [List.flatMap_cons, List.length_append, List.length_cons, Nat.succ_mul]
    omega
theorem grpHead_le {t : ByteArray} {n : Nat} (ht : t.size ≤ 80) (hn : n ≤ 9223372036854775807) : (grpHead t n).length ≤ 200 := by
  have h1 := decDigits_len n hn
  have h2 : t.data.toList.length = t.size := Array.length_toList
  unfold grpHead
  simp only [List.length_append, List.length_cons, List.length_nil]
  omega
theorem grpTxt_le {t : ByteArray} {ps : List PLine} (ht : t.size ≤ 80) (hp : ∀ p ∈ ps, pErr p = 0) (hn : ps.length ≤ 65536) : (grpTxt t ps).length ≤ 700000000 := by
  have h1 := grpHead_le (n := ps.length) ht (by omega)
  have h2 := flat_le txtP 10001 ps fun p h => txtP_le (hp p h)
  have h3 : ps.length * 10001 ≤ 65536 * 10001 := Nat.mul_le_mul_right _ hn
  unfold grpTxt
  rw [List.length_append]
  omega

set_option maxHeartbeats 1000000 in
theorem lineText_p (m : ML) (w : World) (hG : Gl w) (hg : pErr m.p = 0) (h : IdsAt w m.v m.p.ids) :
    Calls Tryz.prog 54 #[.agg (lineCells m.g)] w fun r w' => r = .returned (.string (str (lineTxt m.p.number.toNat m.p.id m.p.name m.p.date.toNat m.p.subject m.p.ids m.p.bytes.toNat))) ∧ Below w.heap.size w w' := by
  obtain ⟨⟨n, d, b, e1, e2, e3, h4, h5, h6⟩, h7, h8, h9⟩ := good_bounds hg
  rw [e1, e2, e3]
  simp only [Int.toNat_natCast]
  exact lineText_any m.g m.p.ids n d b w hG ⟨h, by unfold maxLen; omega, by show m.p.name.size ≤ _; unfold maxLen; omega, by show m.p.subject.size ≤ _; unfold maxLen; omega⟩ e1 e2 e3 h4 h5 h6 h7 h8 h9

theorem lays166 : Go.Proofs.Lays.n166 Tryz.prog Tryz.lays156_ren := { Tryz.lays156 with }
theorem bytes_length (l : List UInt8) : (Lib.byteCells l).length = l.length := by simp [Lib.byteCells]
/-- A write behind a builder. -/
theorem wr_any (B b : Nat) (l : List UInt8) (s : ByteArray) (w : World) (h : Lib.IsBuilderF 126 5 B b (Lib.byteCells l) w) (hlen : l.length + s.size ≤ 140737488355328) (hBw : B ≤ w.heap.size) :
    Calls Tryz.prog 80 #[.pointer (some ⟨b, 0, none⟩), .string s] w fun e w' => e = .returned (.tuple #[.int .i64 s.size, .nilIface]) ∧ Lib.IsBuilderF 126 5 B b (Lib.byteCells (l ++ s.data.toList)) w' ∧ Below B w w' ∧ Lib.OthersKept 5 (some b) w w' := by
  refine (Any.Builder_WriteString_k lays166 Tryz.Builder_Extra_156 B b (Lib.byteCells l) s w h (by rw [bytes_length]; exact hlen) hBw).mono ?_
  rintro e w' ⟨he, h1, h2, h3⟩
  refine ⟨he, .inr ?_, h2, h3⟩
  have e1 : Lib.byteCells (l ++ s.data.toList) = Lib.byteCells l ++ Lib.strCells s := by unfold Lib.byteCells Lib.strCells; rw [List.map_append]
  rw [e1]
  exact h1
theorem builderF_below {B b : Nat} {bs : List Value} {w w' : World} (h : Lib.IsBuilderF 126 5 B b bs w) (hb : Below w.heap.size w w') : Lib.IsBuilderF 126 5 B b bs w' := by
  have one : ∀ {p : Value}, Lib.BuilderAtF 126 5 B b p bs w → Lib.BuilderAtF 126 5 B b p bs w' := fun {p} h => by
    have hlt := h.lt
    obtain ⟨hB, v, hbk, hown, hne⟩ := h
    exact ⟨hB, v, (hb.block b hlt).trans hbk, hown.kept (row := none) ⟨hb.os, hb.tape, hb.output, hb.size, fun k hk _ => hb.block k hk⟩ (by cases hv : v.ownBlock <;> simp), hne⟩
  exact h.elim (fun x => .inl (one x)) (fun x => .inr (one x))
theorem builderF_fresh (w : World) : Lib.IsBuilderF 126 5 w.heap.size w.heap.size (Lib.byteCells []) (w.alloc (.cells #[.pointer none, .slice none 0 0] 126)) := Lib.IsBuilderF.of (Lib.fresh_isBuilder 126 5 w)

/-- In the middle of Encode. -/
structure EncSt (w w1 : World) (bs : List UInt8) (W : World) : Prop where
  bu : Lib.IsBuilderF 126 5 w.heap.size w.heap.size (Lib.byteCells bs) W
  bl : Below w.heap.size w W
  ok : Lib.OthersKept 5 (some w.heap.size) w1 W
theorem EncSt.step {w w1 : World} {bs : List UInt8} {W W' : World} (h : EncSt w w1 bs W) (hb : Below W.heap.size W W') : EncSt w w1 bs W' :=
  ⟨builderF_below h.bu hb, h.bl.trans (hb.mono h.bl.size), fun k o hk h1 h2 => (hb.block k (Array.getElem?_eq_some_iff.1 (h.ok k o hk h1 h2)).1).trans (h.ok k o hk h1 h2)⟩
theorem EncSt.write {w w1 : World} {bs : List UInt8} {W W' : World} (h : EncSt w w1 bs W) {l : List UInt8} (h1 : Lib.IsBuilderF 126 5 w.heap.size w.heap.size (Lib.byteCells l) W') (h2 : Below w.heap.size W W') (h3 : Lib.OthersKept 5 (some w.heap.size) W W') : EncSt w w1 l W' :=
  ⟨h1, h.bl.trans h2, h.ok.trans h3⟩
/-- What Encode answers. -/
def EncPost (gs : List MG) (w : World) (r : Ending) (w' : World) : Prop := ∃ ns, r = .returned (.string (str (encTxt (fun t => (linesIn gs t).map (·.p)) ns))) ∧ ordN ns ∧ (∀ t, t ∈ ns ↔ ∃ G ∈ gs, G.name = t) ∧ Below w.heap.size w w'

theorem head_str (t : ByteArray) (n : Nat) : ((⟨#[103, 114, 111, 117, 112, 32]⟩ : ByteArray) ++ t ++ ⟨#[32]⟩ ++ str (Lib.decDigits n) ++ ⟨#[10]⟩) = str (grpHead t n) := by
  have e1 : (⟨#[103, 114, 111, 117, 112, 32]⟩ : ByteArray) = str [103, 114, 111, 117, 112, 32] := rfl
  have e2 : (⟨#[32]⟩ : ByteArray) = str [32] := rfl
  have e3 : (⟨#[10]⟩ : ByteArray) = str [10] := rfl
  rw [e1, e2, e3, str_append', str_append, str_append, str_append]
  rfl
theorem line_str (l : List UInt8) : (str l ++ (⟨#[10]⟩ : ByteArray)) = str (l ++ [10]) := by
  have e3 : (⟨#[10]⟩ : ByteArray) = str [10] := rfl
  rw [e3, str_append]

set_option maxRecDepth 100000 in
set_option maxHeartbeats 8000000 in
theorem encode_any (B ib M mc : Nat) (gs : List MG) (w : World) (hG : Gl w) (h : IdxAt B w ib M gs mc) :
    Calls Tryz.prog 35 #[.pointer (some ⟨ib, 0, none⟩)] w fun r w' => EncPost gs w r w' := by
  obtain ⟨W0, hW0⟩ : ∃ W0, W0 = w.alloc (.cells #[.pointer none, .slice none 0 0] 126) := ⟨_, rfl⟩
  have hb0 : Below w.heap.size w W0 := by rw [hW0]; exact (Below.refl _ _).alloc (Nat.le_refl _) _
  have hs0 : W0.heap.size = w.heap.size + 1 := by rw [hW0]; simp
  have hbu : Lib.IsBuilderF 126 5 w.heap.size w.heap.size (Lib.byteCells []) W0 := by rw [hW0]; exact builderF_fresh w
  have HGR := Lib.hid (groups_typed B ib M mc gs W0 (hG.later hb0) (h.below hb0))
  have HX := Lib.hid h
  have HG := Lib.hid hG
  have HB0 := Lib.hid hb0
  have HBU := Lib.hid hbu
  have hzs : ((lineCells zeroLine).size == 38) = true := by rw [lineCells_size]; rfl
  clear h hG hb0 hbu
  go_enter Tryz.func35, Tryz.ntmps35
  go_wp2_with fail
  rw [← hW0]
  clear hW0
  refine HGR.out.mono ?_
  rintro r w1 ⟨v, ns, rfl, hns, hord, hmem, hb1, htyp⟩
  have HST : Hid (EncSt w w1 [] w1) := Lib.hid ⟨builderF_below HBU.out hb1, HB0.out.trans (hb1.mono HB0.out.size), Lib.OthersKept.refl _ _ _⟩
  have HO := Lib.hid hord
  have HM := Lib.hid hmem
  have hnl : ns.length ≤ 65536 := by
    have h1 : ns.Nodup := hord.imp fun {a b} hab e => by rw [e, cmpN_refl] at hab; omega
    have h2 : ns.length ≤ (gs.map fun G => G.name).length := h1.length_le_of_subset fun t ht => by
      obtain ⟨G, hG, e⟩ := (hmem t).1 ht
      exact List.mem_map.2 ⟨G, hG, e⟩
    rw [List.length_map] at h2
    exact Nat.le_trans h2 HX.out.groups
  clear HGR hord hmem HBU
  obtain ⟨F, hF⟩ : ∃ F : ByteArray → List PLine, F = fun t => (linesIn gs t).map (·.p) := ⟨_, rfl⟩
  have HF := Lib.hid hF
  have HFL : Hid (∀ t, (F t).length = (linesIn gs t).length) := Lib.hid fun t => by rw [hF]; simp
  have HBND : Hid (∀ k, (encTxt F (ns.take k)).length ≤ 45875200000000) := Lib.hid fun k => by
    have h1 := flat_le (fun t => grpTxt t (F t)) 700000000 (ns.take k) fun t ht => by
      obtain ⟨G, hG, e⟩ := (HM.out t).1 (List.mem_of_mem_take ht)
      refine grpTxt_le (by rw [← e]; exact name_size (HX.out.grps G hG).named) (fun p hp => ?_) (by rw [HFL.out]; exact HX.out.len t)
      rw [hF] at hp
      obtain ⟨m, hm, rfl⟩ := List.mem_map.1 hp
      exact HX.out.good_in hm
    have h2 : (ns.take k).length * 700000000 ≤ 65536 * 700000000 := Nat.mul_le_mul_right _ (by rw [List.length_take]; omega)
    unfold encTxt
    omega
  clear hF
  obtain ⟨ga, gc, rfl, hgr⟩ : ∃ ga gc, v = .slice ga ns.length gc ∧ (ns ≠ [] → ∃ b, ga = some ⟨b, 0, none⟩ ∧ b ≠ w.heap.size ∧ StrRow w1 b 0 ns ∧ ∃ cs fz, w1.heap[b]? = some (.cells cs 9 fz)) := by
    rcases hns with ⟨e1, rfl⟩ | ⟨b, c, rfl, _, hrow, hbB, hbl⟩
    · exact ⟨none, 0, by rw [e1]; rfl, fun h => absurd e1 h⟩
    · exact ⟨_, c, rfl, fun _ => ⟨b, rfl, by omega, hrow, htyp b rfl⟩⟩
  have HGRR := Lib.hid hgr
  clear hns htyp hgr
  go_wp2
  go_loopw [5, 6, 8, 12] (fun _ _ _ i wr => ∃ k : Nat, k ≤ ns.length ∧ i = .int .i64 k ∧ Hid (EncSt w w1 (encTxt F (ns.take k)) wr)) (fun _ _ _ i _ => ns.length - (intOf i).toNat)
  case atStart => exact ⟨0, Nat.zero_le _, rfl, HST⟩
  case round =>
    obtain ⟨k, hk, rfl, HS⟩ := hrel
    by_cases hlt : k < ns.length
    · have hltz : (k : Int) < (ns.length : Int) := by omega
      obtain ⟨b, rfl, hbb, hrow, cs, fz, hcs⟩ := HGRR.out (by intro e; rw [e] at hlt; exact absurd hlt (by simp))
      have hwb : wr.heap[b]? = some (.cells cs 9 fz) := HS.out.ok b _ hcs (by intro e; cases e; exact hbb rfl) (fun c fz' e => by cases e)
      have hcell : wr.cell? ⟨b, k, none⟩ = some (.string ns[k]) := by
        have := hrow k ns[k] (List.getElem?_eq_getElem hlt)
        rw [Nat.zero_add] at this
        rw [← this]
        unfold World.cell?
        rw [hwb, hcs]
      have HLN := Lib.hid (linesOf_any B ib M mc gs ns[k] wr (HX.out.below HS.out.bl))
      have HTK : Hid (encTxt F (ns.take (k + 1)) = encTxt F (ns.take k) ++ grpTxt ns[k] (F ns[k])) := Lib.hid (by unfold encTxt; rw [List.take_succ_eq_append_getElem hlt, List.flatMap_append]; simp)
      have HLS := Lib.hid ((HX.out.below HS.out.bl).lines ns[k])
      have HKB := Lib.hid (HBND.out (k + 1))
      have hvl : ∃ la lc, valueOf gs ns[k] = .slice la (linesIn gs ns[k]).length lc := by
        rcases HLS.out.head with ⟨e, e2⟩ | ⟨g, cap, e, _⟩
        · exact ⟨none, 0, by rw [e, e2]; rfl⟩
        · exact ⟨_, _, e⟩
      obtain ⟨la, lc, hvl⟩ := hvl
      have HLEN := Lib.hid (HX.out.len ns[k])
      have HGT : Hid (∀ p ∈ F ns[k], pErr p = 0) := Lib.hid (by
        rw [HF.out]
        intro p hp
        obtain ⟨m, hm, rfl⟩ := List.mem_map.1 hp
        exact HX.out.good_in hm)
      have HFE : Hid (∀ j (h : j < (linesIn gs ns[k]).length), (F ns[k]).take (j + 1) = (F ns[k]).take j ++ [(linesIn gs ns[k])[j].p]) := Lib.hid (by
        rw [HF.out]
        intro j h
        rw [List.take_succ_eq_append_getElem (by simpa using h)]
        simp)
      have HLA : Hid (∀ W, EncSt w w1 (encTxt F (ns.take k)) W ∨ Below w.heap.size w W → LinesAt B W (valueOf gs ns[k]) (linesIn gs ns[k])) := Lib.hid (by
        rintro W (h | h)
        · exact (HX.out.below h.bl).lines ns[k]
        · exact (HX.out.below h).lines ns[k])
      have HFT := HFL.out ns[k]
      clear hrow hcs hwb
      have htz : ns[k].size ≤ 80 := by
        obtain ⟨G, hG, e⟩ := (HM.out ns[k]).1 (List.getElem_mem hlt)
        rw [← e]; exact name_size (HX.out.grps G hG).named
      generalize ns[k] = t at *
      rw [hvl] at HLN HLS HLA
      go_wp2_with fail
      refine HLN.out.mono ?_
      rintro r w2 ⟨rfl, rfl⟩
      have h20 : ¬ 9223372036854775807 < 6 + t.size := by omega
      have h21 : ¬ 9223372036854775807 < 6 + t.size + 1 := by omega
      have HGr := Lib.hid (HG.out.later HS.out.bl)
      have hnn : (linesIn gs t).length ≤ 9223372036854775807 := by have := HLEN.out; omega
      go_wp2_with fail
      refine (itoa_any _ _ hnn HGr.out).mono ?_
      rintro r wz ⟨rfl, hbz⟩
      have HSZ := Lib.hid (HS.out.step hbz)
      clear hbz
      have hdl := decDigits_len _ hnn
      have hds : (str (Lib.decDigits (linesIn gs t).length)).size ≤ 20 := by show (Lib.decDigits (linesIn gs t).length).toArray.size ≤ _; rw [List.size_toArray]; omega
      have h22 : ¬ 9223372036854775807 < 6 + t.size + 1 + (str (Lib.decDigits (linesIn gs t).length)).size := by omega
      have h23 : ¬ 9223372036854775807 < 6 + t.size + 1 + (str (Lib.decDigits (linesIn gs t).length)).size + 1 := by omega
      go_wp2_with fail
      rw [head_str]
      have hwl : (encTxt F (List.take k ns)).length + (grpHead t (linesIn gs t).length).length ≤ 45875200000000 := by
        have h1 := HKB.out
        rw [HTK.out] at h1
        unfold grpTxt at h1
        rw [List.length_append, List.length_append, HFT] at h1
        omega
      refine (wr_any w.heap.size w.heap.size _ _ wz HSZ.out.bu (by show _ + (grpHead t (linesIn gs t).length).toArray.size ≤ _; rw [List.size_toArray]; omega) HSZ.out.bl.size).mono ?_
      rintro r w2 ⟨rfl, h1, h2, h3⟩
      have HS2 : Hid (EncSt w w1 (encTxt F (ns.take k) ++ grpHead t (linesIn gs t).length) w2) := Lib.hid (HSZ.out.write h1 h2 h3)
      clear h1 h2 h3 HSZ HLN
      go_wp2
      go_loopw [8, 30] (fun _ i wr => ∃ j : Nat, j ≤ (linesIn gs t).length ∧ i = .int .i64 j ∧ Hid (EncSt w w1 (encTxt F (ns.take k) ++ grpHead t (linesIn gs t).length ++ ((F t).take j).flatMap txtP) wr)) (fun _ i _ => (linesIn gs t).length - (intOf i).toNat)
      case atStart => exact ⟨0, Nat.zero_le _, rfl, Lib.hid (by have := HS2.out; simpa using this)⟩
      case round =>
        obtain ⟨j, hj, rfl, HJ⟩ := hrel
        by_cases hlt2 : j < (linesIn gs t).length
        · have hltz2 : (j : Int) < ((linesIn gs t).length : Int) := by omega
          have HLJ := Lib.hid (HLA.out _ (.inr HJ.out.bl))
          rcases HLJ.out.head with ⟨_, e⟩ | ⟨g1, cap1, hv1, _, hgl1, _, _, hcell1⟩
          · rw [e] at hlt2; cases hlt2
          cases hv1
          have hmem := List.getElem_mem hlt2
          have hone1 := (HLJ.out.refs (linesIn gs t)[j] hmem).one
          have hft1 := fits_line (g := (linesIn gs t)[j].g) hone1
          have HGM : Hid (pErr (linesIn gs t)[j].p = 0) := Lib.hid (HGT.out _ (by
            have h1 := HFE.out j hlt2
            have h2 : (linesIn gs t)[j].p ∈ (F t).take (j + 1) := by rw [h1]; simp
            exact List.mem_of_mem_take h2))
          obtain ⟨o1, d1⟩ := lineAt_rd (w := wr) (g := g1) (off := j * 38) (l := (linesIn gs t)[j].g) (fun i u hu => hcell1 j hlt2 i u hu)
          have o2 := ok_new_line wr (linesIn gs t)[j].g 34
          have d2 := rd_new_line wr (linesIn gs t)[j].g 34
          have hba : Below wr.heap.size wr (wr.alloc (.cells (lineCells (linesIn gs t)[j].g) 34)) := (Below.refl _ _).alloc (Nat.le_refl _) _
          have HJ2 := Lib.hid (HJ.out.step hba)
          have HTX := Lib.hid (lineText_p (linesIn gs t)[j] _ (HG.out.later HJ2.out.bl) HGM.out (((HLJ.out.refs _ hmem).at).below hba))
          have HFJ := Lib.hid (HFE.out j hlt2)
          have HTL : Hid ((txtP (linesIn gs t)[j].p).length ≤ 10001) := Lib.hid (txtP_le HGM.out)
          have HFLT : Hid ((((F t).take j).flatMap txtP).length ≤ 655425536) := Lib.hid (by
            have h1 := flat_le txtP 10001 ((F t).take j) fun p hp => txtP_le (HGT.out p (List.mem_of_mem_take hp))
            have h2 : ((F t).take j).length * 10001 ≤ 65536 * 10001 := Nat.mul_le_mul_right _ (by rw [List.length_take]; have := HLEN.out; omega)
            omega)
          clear hcell1 hone1 hba HLJ hmem
          generalize (linesIn gs t)[j] = m at *
          obtain ⟨L, hL⟩ : ∃ L, L = lineTxt m.p.number.toNat m.p.id m.p.name m.p.date.toNat m.p.subject m.p.ids m.p.bytes.toNat := ⟨_, rfl⟩
          have hLp : txtP m.p = L ++ [10] := by rw [hL]; rfl
          have hLl : L.length ≤ 10000 := by
            have := HTL.out
            rw [hLp, List.length_append, List.length_singleton] at this
            omega
          rw [← hL] at HTX
          have hls : (str L).size ≤ 10000 := by show L.toArray.size ≤ _; rw [List.size_toArray]; exact hLl
          have h30 : ¬ 9223372036854775807 < (str L).size + 1 := by omega
          have HLP := Lib.hid hLp
          clear hL hLp
          go_wp2_with fail
          refine HTX.out.mono ?_
          rintro r w3 ⟨rfl, hb3⟩
          have HJ3 := Lib.hid (HJ2.out.step hb3)
          clear hb3 HTX HJ2 HJ o1 d1 o2 d2
          go_wp2_with fail
          rw [line_str, ← HLP.out]
          refine (wr_any w.heap.size w.heap.size _ _ w3 HJ3.out.bu (by
            have h1 := HBND.out k
            have h2 := grpHead_le htz hnn
            have h3 := HFLT.out
            have h4 := HTL.out
            show _ + (txtP m.p).toArray.size ≤ _
            rw [List.size_toArray]
            simp only [List.length_append]
            omega) HJ3.out.bl.size).mono ?_
          rintro r w4 ⟨rfl, h1, h2, h3⟩
          have HJ4 : Hid (EncSt w w1 (encTxt F (ns.take k) ++ grpHead t (linesIn gs t).length ++ ((F t).take (j + 1)).flatMap txtP) w4) := Lib.hid (by
            have := HJ3.out.write h1 h2 h3
            have e : [m.p].flatMap txtP = txtP m.p := by simp
            rw [HFJ.out, List.flatMap_append, ← List.append_assoc, e]
            exact this)
          clear h1 h2 h3 HJ3
          go_wp2
          go_roundw
          case rel => exact ⟨j + 1, by omega, by go_num, HJ4⟩
          case measure => simp [intOf]; omega
        · have hltz2 : ¬ (j : Int) < ((linesIn gs t).length : Int) := by omega
          have hjj : j = (linesIn gs t).length := by omega
          have HSN : Hid (EncSt w w1 (encTxt F (ns.take (k + 1))) _) := Lib.hid (by
            have h1 := HJ.out
            rw [hjj, ← HFT, List.take_length] at h1
            rw [HTK.out]
            unfold grpTxt
            rw [← List.append_assoc]
            exact h1)
          clear HJ
          go_wp2
          go_roundw
          case rel => exact ⟨k + 1, by omega, by go_num, HSN⟩
          case measure => simp [intOf]; omega
    · have hltz : ¬ (k : Int) < (ns.length : Int) := by omega
      have hkk : k = ns.length := by omega
      subst hkk
      rw [List.take_length] at HS
      have HSTR : Hid (Calls Tryz.prog 82 #[.pointer (some ⟨w.heap.size, 0, none⟩)] wr fun e w' => e = .returned (.string (str (encTxt F ns))) ∧ Below w.heap.size wr w') := Lib.hid (by
        by_cases he : encTxt F ns = []
        · have := HS.out.bu
          rw [he] at this ⊢
          refine (Tryz.Builder_String_empty_f w.heap.size w.heap.size wr this HS.out.bl.size).mono ?_
          rintro e w' ⟨h1, _, h3⟩
          exact ⟨h1, h3⟩
        · refine (Tryz.Builder_String_f w.heap.size w.heap.size (encTxt F ns) wr HS.out.bu he).mono ?_
          rintro e w' ⟨h1, _, h3⟩
          exact ⟨h1, h3⟩)
      go_wp2_with fail
      refine HSTR.out.mono ?_
      rintro r w2 ⟨rfl, hb2⟩
      have HB2 := Lib.hid (HS.out.bl.trans hb2)
      clear hb2
      go_wp2
      go_ret
      exact ⟨ns, by rw [← HF.out]; first | done | rfl, HO.out, HM.out, HB2.out⟩

end Go.Proofs.YtdjaphcelpchaaaGreatDoor

namespace Go.Proofs.YtdjaphcelpchaaaGreatDoor
open Go Go.RowKit Go.Proofs

/-- A slice of the reference's lines in memory, anywhere. -/
structure LsAt (w : World) (v : Value) (ls : List MR) : Prop where
  row : ∃ a c, v = .slice a ls.length c ∧ ls.length ≤ c ∧ (ls ≠ [] → ∃ b off, a = some ⟨b, off, none⟩ ∧ b < w.heap.size ∧ ∀ j (hj : j < ls.length) i u, (rList ls[j])[i]? = some u → w.cell? ⟨b, off + j * 39 + i, none⟩ = some u)
  few : ls.length ≤ 140737488351232
  ids : ∀ r ∈ ls, IdsAt w r.m.v r.m.p.ids
  len : ∀ r ∈ ls, r.m.p.ids.length ≤ maxLen
  names : ∀ r ∈ ls, r.s.size ≤ maxLen / 4 ∧ r.m.p.name.size ≤ maxLen / 4 ∧ r.m.p.subject.size ≤ maxLen / 4
theorem lsAt_rd {w : World} {b off : Nat} {ls : List MR} (h : ∀ j (hj : j < ls.length) i u, (rList ls[j])[i]? = some u → w.cell? ⟨b, off + j * 39 + i, none⟩ = some u) {j : Nat} (hj : j < ls.length) : okCells w ⟨b, off + j * 39, none⟩ 39 = true ∧ rdCells w ⟨b, off + j * 39, none⟩ 39 = rlineCells ls[j].s ls[j].m.g := by
  have := rd_of_cells (w := w) (a := ⟨b, off + j * 39, none⟩) (cs := rList ls[j]) (fun i v hi => by rw [Addr.add_lit]; exact h j hj i v hi)
  rwa [rList_length] at this
/-- Two lines that do not go together. -/
def clash2 (a b : MR) : Prop := a.s = b.s ∧ (a.m.p.number = b.m.p.number ∨ a.m.p.id = b.m.p.id)
theorem clash2_symm {a b : MR} (h : clash2 a b) : clash2 b a := ⟨h.1.symm, h.2.imp Eq.symm Eq.symm⟩
theorem clashR_iff (rs : List MR) (r : MR) : clashR rs r.s r.m.p = true ↔ ∃ a ∈ rs, clash2 a r := by
  unfold clashR clash2
  rw [List.any_eq_true]
  simp only [Bool.and_eq_true, Bool.or_eq_true, decide_eq_true_eq]
theorem addErrR_zero {rs : List MR} {r : MR} : addErrR rs r.s r.m.p = 0 ↔ nameErr r.s = 0 ∧ pErr r.m.p = 0 ∧ ∀ a ∈ rs, ¬ clash2 a r := by
  unfold addErrR
  by_cases h1 : nameErr r.s = 0
  · by_cases h2 : pErr r.m.p = 0
    · rw [if_neg (by simp [h1]), if_neg (by simp [h2])]
      by_cases h3 : clashR rs r.s r.m.p = true
      · rw [if_pos h3]
        obtain ⟨a, ha, hc⟩ := (clashR_iff rs r).1 h3
        constructor
        · intro h; cases h
        · rintro ⟨_, _, h⟩; exact absurd hc (h a ha)
      · rw [if_neg h3]
        refine ⟨fun _ => ⟨h1, h2, fun a ha hc => h3 ((clashR_iff rs r).2 ⟨a, ha, hc⟩)⟩, fun _ => rfl⟩
    · rw [if_neg (by simp [h1]), if_pos h2]
      exact ⟨fun h => absurd h h2, fun h => absurd h.2.1 h2⟩
  · rw [if_pos h1]
    exact ⟨fun h => absurd h h1, fun h => absurd h.1 h1⟩
/-- The same lines. -/
def SameR (a b : List MR) : Prop := ∀ r, r ∈ a ↔ r ∈ b
theorem RelR.same {gs : List MG} {a b : List MR} (h : RelR gs a) (hs : SameR a b) : RelR gs b := fun t p => by
  rw [h t p]
  constructor
  · rintro ⟨r, h1, h2⟩; exact ⟨r, (hs r).1 h1, h2⟩
  · rintro ⟨r, h1, h2⟩; exact ⟨r, (hs r).2 h1, h2⟩
theorem sameR_add {a b : List MR} {r : MR} (h : SameR a b) : SameR (addR a r) (b ++ [r]) := fun x => by
  rw [addR_mem, List.mem_append, List.mem_singleton, h x, or_comm]
/-- What is known of lines that could all be added. -/
structure GoodL (l : List MR) (k : Nat) : Prop where
  ok : ∀ i (h : i < l.length), i < k → nameErr l[i].s = 0 ∧ pErr l[i].m.p = 0
  apart : ∀ i j (hi : i < l.length) (hj : j < l.length), i < k → j < k → i ≠ j → ¬ clash2 l[i] l[j]
theorem GoodL.zero (l : List MR) : GoodL l 0 := ⟨fun _ _ h => by omega, fun _ _ _ _ h => by omega⟩
theorem GoodL.next {l : List MR} {k : Nat} (h : GoodL l k) (hk : k < l.length) {rs : List MR} (hs : SameR rs (l.take k)) (he : addErrR rs l[k].s l[k].m.p = 0) : GoodL l (k + 1) := by
  obtain ⟨h1, h2, h3⟩ := addErrR_zero.1 he
  have hno : ∀ i (hi : i < l.length), i < k → ¬ clash2 l[i] l[k] := fun i hi hik => h3 _ ((hs _).2 (by
    rw [List.mem_take_iff_getElem]
    exact ⟨i, by omega, rfl⟩))
  refine ⟨fun i hi hik => ?_, fun i j hi hj hik hjk hne => ?_⟩
  · by_cases e : i = k
    · subst e; exact ⟨h1, h2⟩
    · exact h.ok i hi (by omega)
  · by_cases e : i = k
    · subst e
      exact fun hc => hno j hj (by omega) (clash2_symm hc)
    · by_cases e2 : j = k
      · subst e2; exact hno i hi (by omega)
      · exact h.apart i j hi hj (by omega) (by omega) hne

/-- The turned order. -/
def turnI (n t i : Nat) : Nat := (n - 1 + t - i) % n
theorem turn_lt {n t i : Nat} (h : 0 < n) : turnI n t i < n := Nat.mod_lt _ h
theorem turn_inj {n t i j : Nat} (hi : i < n) (hj : j < n) (h : turnI n t i = turnI n t j) : i = j := by
  have key : ∀ {a b : Nat}, a < b → b < n → turnI n t a = turnI n t b → False := fun {a b} hab hbn he => by
    unfold turnI at he
    have h1 := Nat.sub_mod_eq_zero_of_mod_eq he
    have h2 : n - 1 + t - a - (n - 1 + t - b) = b - a := by omega
    rw [h2, Nat.mod_eq_of_lt (by omega)] at h1
    omega
  rcases Nat.lt_trichotomy i j with h1 | h1 | h1
  · exact (key h1 hj h).elim
  · exact h1
  · exact (key h1 hi h.symm).elim
theorem turn_sur {n t k : Nat} (hk : k < n) : ∃ i, i < n ∧ turnI n t i = k := by
  refine ⟨(n - 1 + t - k) % n, Nat.mod_lt _ (by omega), ?_⟩
  have h1 := Nat.div_add_mod (n - 1 + t - k) n
  have h2 : (n - 1 + t - k) % n < n := Nat.mod_lt _ (by omega)
  unfold turnI
  have h3 : n - 1 + t - (n - 1 + t - k) % n = k + n * ((n - 1 + t - k) / n) := by omega
  rw [h3, Nat.add_mul_mod_self_left, Nat.mod_eq_of_lt hk]
theorem turn_int {n t i : Nat} (hi : i < n) : (((n : Int) - 1 - (i : Int) + (t : Int)).tmod (n : Int)) = ((turnI n t i : Nat) : Int) := by
  have h1 : (n : Int) - 1 - (i : Int) + (t : Int) = ((n - 1 + t - i : Nat) : Int) := by omega
  rw [h1]
  unfold turnI
  rw [Int.tmod_eq_emod_of_nonneg (by omega)]
  omega
/-- The first k lines in the turned order. -/
def turnL (l : List MR) (t k : Nat) : List MR := (List.range k).filterMap fun i => l[turnI l.length t i]?
theorem turnL_succ {l : List MR} {t k : Nat} (hl : 0 < l.length) : turnL l t (k + 1) = turnL l t k ++ [l[turnI l.length t k]'(turn_lt hl)] := by
  unfold turnL
  rw [List.range_succ, List.filterMap_append]
  simp [List.getElem?_eq_getElem (turn_lt (t := t) (i := k) hl)]
theorem turnL_mem {l : List MR} {t k : Nat} {r : MR} : r ∈ turnL l t k ↔ ∃ i, i < k ∧ l[turnI l.length t i]? = some r := by
  unfold turnL
  rw [List.mem_filterMap]
  simp only [List.mem_range]
theorem turnL_all (l : List MR) (t : Nat) : SameR (turnL l t l.length) l := fun r => by
  rw [turnL_mem]
  constructor
  · rintro ⟨i, _, h⟩; exact List.mem_of_getElem? h
  · intro h
    obtain ⟨k, hk, rfl⟩ := List.getElem_of_mem h
    obtain ⟨i, hi, e⟩ := turn_sur (t := t) hk
    exact ⟨i, hi, by rw [e, List.getElem?_eq_getElem hk]⟩
theorem turn_err {l : List MR} {t k : Nat} (h : GoodL l l.length) (hk : k < l.length) : addErrR (turnL l t k) (l[turnI l.length t k]'(turn_lt (by omega))).s (l[turnI l.length t k]'(turn_lt (by omega))).m.p = 0 := by
  have hlt : turnI l.length t k < l.length := turn_lt (by omega)
  rw [addErrR_zero]
  obtain ⟨h1, h2⟩ := h.ok _ hlt hlt
  refine ⟨h1, h2, fun a ha hc => ?_⟩
  obtain ⟨i, hi, e⟩ := turnL_mem.1 ha
  have hit : turnI l.length t i < l.length := turn_lt (by omega)
  rw [List.getElem?_eq_getElem hit, Option.some.injEq] at e
  subst e
  exact h.apart _ _ hit hlt hit hlt (fun e => by have := turn_inj (t := t) (show i < l.length by omega) hk e; omega) hc
theorem take_err {l : List MR} {k : Nat} (h : GoodL l l.length) (hk : k < l.length) : addErrR (l.take k) l[k].s l[k].m.p = 0 := by
  rw [addErrR_zero]
  obtain ⟨h1, h2⟩ := h.ok _ hk hk
  refine ⟨h1, h2, fun a ha hc => ?_⟩
  obtain ⟨i, hi, rfl⟩ := List.mem_take_iff_getElem.1 ha
  exact h.apart i k (by omega) hk (by omega) hk (by omega) hc

end Go.Proofs.YtdjaphcelpchaaaGreatDoor

namespace Go.Proofs.YtdjaphcelpchaaaGreatDoor
open Go Go.RowKit Go.Proofs Go.ChangeShapes Go.WideShapes Go.ChangeAt

section
variable {H : Type} {enc : TypeId × Value → H} {W : World} {base fuel : Nat} {sp : Nat → Bool} {held : Bool}

theorem bytes_rl : 0 < Tryz.prog.bytesOf 26 := of_decide_eq_true (by kernel_rfl)

set_option maxRecDepth 100000 in
theorem lines_cells {base : Nat} {v0 : Value} (h : Value.okWide Tryz.prog W .any base 49 v0) : v0.cells = #[v0] := by
  unfold Value.okWide at h
  rw [Tryz.underlying49] at h
  simp only at h
  cases v0 with
  | agg cs => simp [Cell.okWide, Cell.ok, Tryz.underlying49] at h
  | _ => rfl
/-- The argument. -/
theorem open_lines {cs : List Value} {d : DataW H} {ps : List MemPlace} (h : DataW.trod enc Tryz.prog W base sp held fuel 49 cs = some (d, ps)) (hw : ∀ n ∈ d.weights Tryz.prog 49, n ≤ reachBytes) :
    ∃ v os, cs = [v] ∧ LsAt W v os := by
  rcases DataW.trod_slice Tryz.underlying49 h with ⟨rfl, _⟩ | ⟨a, len, cap, elems, rest, m, _, rfl, hx, hb, hl, hm, hlen, hel, _, _⟩
  · exact ⟨_, [], rfl, ⟨⟨none, 0, rfl, Nat.le_refl _, fun h => absurd rfl h⟩, by simp, fun _ h => (by cases h), fun _ h => (by cases h), fun _ h => (by cases h)⟩⟩
  · have hd : d = .slice (elems.map (·.1)) (rest.map (·.1)) := (Prod.mk.inj hx).1
    have hwt : (elems.length + rest.length) * Tryz.prog.bytesOf 26 ≤ reachBytes := by
      refine hw _ ?_
      rw [hd]
      unfold DataW.weights
      rw [Tryz.underlying49]
      simp
    have hwe : ∀ x ∈ elems, ∀ n ∈ x.1.weights Tryz.prog 26, n ≤ reachBytes := fun x hx n hn => by
      refine hw n ?_
      rw [hd]
      unfold DataW.weights
      rw [Tryz.underlying49]
      have := weights_all_mem (P := Tryz.prog) (e := 26) (l := elems.map (·.1)) (List.mem_map.2 ⟨x, hx, rfl⟩) n hn
      simp [this]
    have each : ∀ i, i < len → ∃ o : MR, (∀ j u, (rList o)[j]? = some u → W.cell? ((a.add (i * 39)).add j) = some u) ∧ IdsAt W o.m.v o.m.p.ids ∧ o.m.p.ids.length * 32 ≤ reachBytes ∧ o.s.size ≤ reachBytes ∧ o.m.p.name.size ≤ reachBytes ∧ o.m.p.subject.size ≤ reachBytes := fun i hi => by
      have hE := hel i hi
      rw [cells_rline, List.getElem?_eq_getElem (by omega)] at hE
      obtain ⟨cs', hcs, ht⟩ := Option.bind_eq_some_iff.1 hE
      obtain ⟨s, g, ids, e1, hI, w1, w2, w3, w4⟩ := open_rlinecells (d := (elems[i]'(by omega)).1) (ps := (elems[i]'(by omega)).2) ht (hwe _ (List.getElem_mem _))
      obtain ⟨_, hll, hcell⟩ := World.cells?_some hcs
      have e2 : cs' = rList ⟨s, mkML g ids⟩ := by rw [e1]; rfl
      subst e2
      exact ⟨⟨s, mkML g ids⟩, fun j u hj => (hcell j (by have := (List.getElem?_eq_some_iff.1 hj).1; rw [rList_length] at this; exact this)).trans hj, hI, w1, w2, w3, w4⟩
    have hall : ∃ f : Nat → MR, ∀ i, i < len → (∀ j u, (rList (f i))[j]? = some u → W.cell? ((a.add (i * 39)).add j) = some u) ∧ IdsAt W (f i).m.v (f i).m.p.ids ∧ (f i).m.p.ids.length * 32 ≤ reachBytes ∧ (f i).s.size ≤ reachBytes ∧ (f i).m.p.name.size ≤ reachBytes ∧ (f i).m.p.subject.size ≤ reachBytes := by
      refine ⟨fun i => if hi : i < len then Classical.choose (each i hi) else ⟨⟨#[]⟩, default⟩, fun i hi => ?_⟩
      simp only [hi, dif_pos]
      exact Classical.choose_spec (each i hi)
    obtain ⟨f, hf⟩ := hall
    have hmem : ∀ o ∈ (List.range len).map f, ∃ i, i < len ∧ o = f i := fun o ho => by
      obtain ⟨i, hi, rfl⟩ := List.mem_map.1 ho
      exact ⟨i, List.mem_range.1 hi, rfl⟩
    have hlen2 : len ≤ 140737488351232 := by
      have h1 := bytes_rl
      unfold reachBytes at hwt
      have : elems.length * 1 ≤ (elems.length + rest.length) * Tryz.prog.bytesOf 26 := Nat.mul_le_mul (by omega) h1
      omega
    refine ⟨_, (List.range len).map f, rfl, ⟨⟨some a, cap, by simp, by simpa using hl, fun hne => ?_⟩, by simpa using hlen2, fun o ho => ?_, fun o ho => ?_, fun o ho => ?_⟩⟩
    · have h0 : 0 < len := by
        cases len with
        | zero => simp at hne
        | succ n => omega
      have h00 := (hf 0 h0).1 0 _ (by unfold rList; rfl)
      have hspot : a.spot = none := by simpa [Addr.add] using World.cell?_spot h00
      obtain ⟨b, off, spot⟩ := a
      simp only at hspot
      subst hspot
      refine ⟨b, off, rfl, by have := block_lt_of_cell h00; simpa [Addr.add] using this, fun j hj i u hu => ?_⟩
      have hj' : j < len := by simpa using hj
      rw [List.getElem_map, List.getElem_range] at hu
      have := (hf j hj').1 i u hu
      rwa [Addr.add_lit, Addr.add_lit] at this
    · obtain ⟨i, hi, rfl⟩ := hmem o ho; exact (hf i hi).2.1
    · obtain ⟨i, hi, rfl⟩ := hmem o ho
      have := (hf i hi).2.2.1
      unfold reachBytes at this
      unfold maxLen
      omega
    · obtain ⟨i, hi, rfl⟩ := hmem o ho
      obtain ⟨_, _, _, w2, w3, w4⟩ := hf i hi
      unfold reachBytes at w2 w3 w4
      unfold maxLen
      exact ⟨by omega, by omega, by omega⟩
end

end Go.Proofs.YtdjaphcelpchaaaGreatDoor

namespace Go.Proofs.YtdjaphcelpchaaaGreatDoor
open Go Go.RowKit Go.Proofs

/-- Two lists of blocks that share nothing. -/
def ApartF (F F' : List Nat) : Prop := ∀ k ∈ F, k ∉ F'
theorem ApartF.symm {F F' : List Nat} (h : ApartF F F') : ApartF F' F := fun k hk hk' => h k hk' hk
theorem ApartF.grow {F F' F2 : List Nat} {w : World} (ha : ApartF F F2) (hf : FootOk F F' w) (hlt : ∀ k ∈ F2, k < w.heap.size) : ApartF F' F2 := fun k hk h2 => by
  rcases hf k hk with h | h
  · exact ha k h h2
  · have := hlt k h2; omega
/-- An index stays while another one changes. -/
theorem IdxAt.beside {B B' : Nat} {w w' : World} {ib M mc ib' M' mc' : Nat} {gs gs' : List MG} (h : IdxAt B w ib M gs mc) (h' : IdxAt B' w ib' M' gs' mc') (ha : ApartF (foot ib M gs) (foot ib' M' gs')) (hk : Kept (foot ib' M' gs') w w') : IdxAt B w' ib M gs mc :=
  h.keep (fun k hk' => hk.block k (h.foot_lt k hk').2 (ha k hk')) fun G hG m hm k hk' => by
    have hr := (h.grps G hG).lines.refs m hm
    refine hk.block k (hr.lt hk').2 ?_
    obtain ⟨c, hc⟩ := hr.typed hk'
    exact h'.not_id hc

/-- Ahead of the two indexes' lines: the reference takes them all. -/
structure OrdA (w : World) (ls rs : List MR) (ib1 M1 ib2 M2 k : Nat) (v : Value) (W : World) : Prop where
  bl : Below w.heap.size w W
  x : IdxAt w.heap.size W ib1 M1 [] 0
  y : IdxAt w.heap.size W ib2 M2 [] 0
  refs : RefsAt w.heap.size W v rs
  ord : ordR rs
  same : SameR rs (ls.take k)
  good : GoodL ls k
  len : rs.length = k
  ids : ∀ r ∈ rs, IdsAt w r.m.v r.m.p.ids
theorem OrdA.later {w : World} {ls rs : List MR} {ib1 M1 ib2 M2 k : Nat} {v : Value} {W W' : World} (h : OrdA w ls rs ib1 M1 ib2 M2 k v W) (hb : Below W.heap.size W W') : OrdA w ls rs ib1 M1 ib2 M2 k v W' :=
  ⟨h.bl.trans (hb.mono h.bl.size), h.x.below hb, h.y.below hb, h.refs.below hb, h.ord, h.same, h.good, h.len, h.ids⟩
theorem OrdA.start {w W : World} (hb : Below w.heap.size w W) (ls : List MR) {W1 W2 : World} (h1 : (W.alloc (.map #[] 0)).alloc (.cells #[.map (some W.heap.size), .int .i64 0] 104) = W1) (h2 : (W1.alloc (.map #[] 0)).alloc (.cells #[.map (some W1.heap.size), .int .i64 0] 104) = W2) :
    OrdA w ls [] (W.heap.size + 1) W.heap.size (W1.heap.size + 1) W1.heap.size 0 (.slice none 0 0) W2 := by
  have hb1 : Below W.heap.size W W1 := by rw [← h1]; exact ((Below.refl _ _).alloc (Nat.le_refl _) _).alloc (by simp) _
  have hb2 : Below W1.heap.size W1 W2 := by rw [← h2]; exact ((Below.refl _ _).alloc (Nat.le_refl _) _).alloc (by simp) _
  have hx : IdxAt w.heap.size W1 (W.heap.size + 1) W.heap.size [] 0 := by rw [← h1]; exact IdxAt.fresh _ _ hb.size
  have hy : IdxAt w.heap.size W2 (W1.heap.size + 1) W1.heap.size [] 0 := by rw [← h2]; exact IdxAt.fresh _ _ (Nat.le_trans hb.size hb1.size)
  exact ⟨hb.trans ((hb1.mono hb.size).trans (hb2.mono (Nat.le_trans hb.size hb1.size))), hx.below hb2, hy, RefsAt.nil _ _, .nil, fun r => by simp, GoodL.zero _, rfl, fun _ h => by cases h⟩
theorem OrdA.next {w : World} {ls rs : List MR} {ib1 M1 ib2 M2 k : Nat} {v v' : Value} {W W' : World} (h : OrdA w ls rs ib1 M1 ib2 M2 k v W) (hk : k < ls.length) (hI : IdsAt w ls[k].m.v ls[k].m.p.ids) (hb : Below W.heap.size W W') (he : addErrR rs ls[k].s ls[k].m.p = 0) (hv : RefsAt W.heap.size W' v' (addR rs ls[k])) : OrdA w ls (addR rs ls[k]) ib1 M1 ib2 M2 (k + 1) v' W' where
  bl := h.bl.trans (hb.mono h.bl.size)
  x := h.x.below hb
  y := h.y.below hb
  refs := hv.mono h.bl.size
  ord := addR_ord h.ord fun a ha hn => (addErrR_zero.1 he).2.2 a ha ⟨hn.1, .inl hn.2⟩
  same := by
    rw [List.take_succ_eq_append_getElem hk]
    exact sameR_add h.same
  good := h.good.next hk h.same he
  len := by rw [addR_length, h.len]
  ids := fun r hr => by
    rcases addR_mem.1 hr with rfl | hr
    · exact hI
    · exact h.ids r hr

/-- The two indexes, i and j lines in them. -/
structure OrdB (w : World) (ls rs : List MR) (tu ib1 M1 ib2 M2 : Nat) (gs1 : List MG) (mc1 : Nat) (gs2 : List MG) (mc2 i j : Nat) (v : Value) (W : World) : Prop where
  bl : Below w.heap.size w W
  x : IdxAt w.heap.size W ib1 M1 gs1 mc1
  y : IdxAt w.heap.size W ib2 M2 gs2 mc2
  apart : ApartF (foot ib1 M1 gs1) (foot ib2 M2 gs2)
  refs : RefsAt w.heap.size W v rs
  relx : RelR gs1 (ls.take i)
  rely : RelR gs2 (turnL ls tu j)
  totx : total gs1 ≤ i
  toty : total gs2 ≤ j
theorem OrdB.later {w : World} {ls rs : List MR} {tu ib1 M1 ib2 M2 : Nat} {gs1 : List MG} {mc1 : Nat} {gs2 : List MG} {mc2 i j : Nat} {v : Value} {W W' : World} (h : OrdB w ls rs tu ib1 M1 ib2 M2 gs1 mc1 gs2 mc2 i j v W) (hb : Below W.heap.size W W') : OrdB w ls rs tu ib1 M1 ib2 M2 gs1 mc1 gs2 mc2 i j v W' :=
  ⟨h.bl.trans (hb.mono h.bl.size), h.x.below hb, h.y.below hb, h.apart, h.refs.below hb, h.relx, h.rely, h.totx, h.toty⟩
theorem OrdA.two {w : World} {ls rs : List MR} {ib1 M1 ib2 M2 k : Nat} {v : Value} {W : World} (h : OrdA w ls rs ib1 M1 ib2 M2 k v W) (tu : Nat) (hf : ib1 < M2 ∧ M1 < M2 ∧ ib1 < ib2 ∧ M1 < ib2) : OrdB w ls rs tu ib1 M1 ib2 M2 [] 0 [] 0 0 0 v W :=
  ⟨h.bl, h.x, h.y, fun k hk hk' => by
    simp only [foot, List.flatMap_nil, List.mem_cons, List.mem_nil_iff, or_false] at hk hk'
    omega, h.refs, by rw [List.take_zero]; exact RelR.nil, by
    have : turnL ls tu 0 = [] := rfl
    rw [this]; exact RelR.nil, by simp [total], by simp [total]⟩
theorem OrdB.addX {w : World} {ls rs : List MR} {tu ib1 M1 ib2 M2 : Nat} {gs1 : List MG} {mc1 : Nat} {gs2 : List MG} {mc2 i j : Nat} {v : Value} {W W' : World} (h : OrdB w ls rs tu ib1 M1 ib2 M2 gs1 mc1 gs2 mc2 i j v W) (hi : i < ls.length) {gs' : List MG} {mc' : Nat} (hd : Added w.heap.size ib1 M1 gs1 ls[i].s ls[i].m.p W W' gs' mc') : OrdB w ls rs tu ib1 M1 ib2 M2 gs' mc' gs2 mc2 (i + 1) j v W' where
  bl := h.bl.trans (hd.kept.below h.bl.size h.x.foot_base)
  x := hd.idx
  y := h.y.beside h.x h.apart.symm hd.kept
  apart := h.apart.grow hd.foot fun k hk => (h.y.foot_lt k hk).2
  refs := h.refs.kept h.x hd.kept
  relx := by
    obtain ⟨v1, _, hl⟩ := hd.lines
    have h1 := rel_add (v' := ls[i].m.v) h.relx hl
    rw [List.take_succ_eq_append_getElem hi]
    exact h1.same (sameR_add fun _ => Iff.rfl)
  rely := h.rely
  totx := by have := hd.tot; have := h.totx; omega
  toty := h.toty
theorem OrdB.addY {w : World} {ls rs : List MR} {tu ib1 M1 ib2 M2 : Nat} {gs1 : List MG} {mc1 : Nat} {gs2 : List MG} {mc2 i j : Nat} {v : Value} {W W' : World} (h : OrdB w ls rs tu ib1 M1 ib2 M2 gs1 mc1 gs2 mc2 i j v W) (hi : 0 < ls.length) {gs' : List MG} {mc' : Nat} (hd : Added w.heap.size ib2 M2 gs2 (ls[turnI ls.length tu j]'(turn_lt hi)).s (ls[turnI ls.length tu j]'(turn_lt hi)).m.p W W' gs' mc') : OrdB w ls rs tu ib1 M1 ib2 M2 gs1 mc1 gs' mc' i (j + 1) v W' where
  bl := h.bl.trans (hd.kept.below h.bl.size h.y.foot_base)
  x := h.x.beside h.y h.apart hd.kept
  y := hd.idx
  apart := (h.apart.symm.grow hd.foot fun k hk => (h.x.foot_lt k hk).2).symm
  refs := h.refs.kept h.y hd.kept
  relx := h.relx
  rely := by
    obtain ⟨v1, _, hl⟩ := hd.lines
    have h1 := rel_add (v' := (ls[turnI ls.length tu j]'(turn_lt hi)).m.v) h.rely hl
    rw [turnL_succ hi]
    exact h1.same (sameR_add fun _ => Iff.rfl)
  totx := h.totx
  toty := by have := hd.tot; have := h.toty; omega

/-- The two calls of Add in a round. -/
theorem ord_addX {w : World} {ls rs : List MR} {tu ib1 M1 ib2 M2 : Nat} {gs1 : List MG} {mc1 : Nat} {gs2 : List MG} {mc2 i j : Nat} {v : Value} {W : World} (h : OrdB w ls rs tu ib1 M1 ib2 M2 gs1 mc1 gs2 mc2 i j v W) (hG : Gl w) (hgood : GoodL ls ls.length) (h40 : ls.length ≤ 40) (hi : i < ls.length) (v0 : Value) (hI : IdsOwn 0 W v0 ls[i].m.p.ids) (hs : ls[i].s.size ≤ maxLen) (hn : ls[i].m.p.ids.length ≤ maxLen) (h1 : ls[i].m.p.name.size ≤ maxLen) (h2 : ls[i].m.p.subject.size ≤ maxLen) :
    Calls Tryz.prog 32 #[.pointer (some ⟨ib1, 0, none⟩), .string ls[i].s, .agg (lineCells (ML.g ⟨ls[i].m.p, v0⟩))] W fun r W' => r = .returned (.int .i64 0) ∧ (∃ gs' mc', OrdB w ls rs tu ib1 M1 ib2 M2 gs' mc' gs2 mc2 (i + 1) j v W') ∧ ∀ lb s g, RVar W lb s g → RVar W' lb s g := by
  refine (add_any w.heap.size ib1 M1 mc1 gs1 ls[i].s ls[i].m.p v0 W (hG.later h.bl) h.x hs ⟨hI.at, hn, h1, h2⟩ hI (by have := h.totx; omega)).mono ?_
  rintro r W' ⟨e, hp⟩
  have h0 : addErr (linesIn gs1 ls[i].s) ls[i].s ls[i].m.p = 0 := (rel_err h.relx _ _).trans (take_err hgood hi)
  rw [h0] at e hp
  rcases hp with ⟨hne, _⟩ | ⟨_, gs', mc', hd⟩
  · exact absurd rfl hne
  · exact ⟨e, ⟨gs', mc', h.addX hi hd⟩, fun lb s g hv => (hd.kept.block lb hv.lt (h.x.not_op (by decide) hv)).trans hv⟩
theorem ord_addY {w : World} {ls rs : List MR} {tu ib1 M1 ib2 M2 : Nat} {gs1 : List MG} {mc1 : Nat} {gs2 : List MG} {mc2 i j : Nat} {v : Value} {W : World} (h : OrdB w ls rs tu ib1 M1 ib2 M2 gs1 mc1 gs2 mc2 i j v W) (hG : Gl w) (hgood : GoodL ls ls.length) (h40 : ls.length ≤ 40) (hi : j < ls.length) (v0 : Value) (hI : IdsOwn 0 W v0 (ls[turnI ls.length tu j]'(turn_lt (by omega))).m.p.ids) (hs : (ls[turnI ls.length tu j]'(turn_lt (by omega))).s.size ≤ maxLen) (hn : (ls[turnI ls.length tu j]'(turn_lt (by omega))).m.p.ids.length ≤ maxLen) (h1 : (ls[turnI ls.length tu j]'(turn_lt (by omega))).m.p.name.size ≤ maxLen) (h2 : (ls[turnI ls.length tu j]'(turn_lt (by omega))).m.p.subject.size ≤ maxLen) :
    Calls Tryz.prog 32 #[.pointer (some ⟨ib2, 0, none⟩), .string (ls[turnI ls.length tu j]'(turn_lt (by omega))).s, .agg (lineCells (ML.g ⟨(ls[turnI ls.length tu j]'(turn_lt (by omega))).m.p, v0⟩))] W fun r W' => r = .returned (.int .i64 0) ∧ (∃ gs' mc', OrdB w ls rs tu ib1 M1 ib2 M2 gs1 mc1 gs' mc' i (j + 1) v W') ∧ ∀ lb s g, RVar W lb s g → RVar W' lb s g := by
  refine (add_any w.heap.size ib2 M2 mc2 gs2 _ _ v0 W (hG.later h.bl) h.y hs ⟨hI.at, hn, h1, h2⟩ hI (by have := h.toty; omega)).mono ?_
  rintro r W' ⟨e, hp⟩
  have h0 := (rel_err h.rely _ _).trans (turn_err (t := tu) hgood hi)
  rw [h0] at e hp
  rcases hp with ⟨hne, _⟩ | ⟨_, gs', mc', hd⟩
  · exact absurd rfl hne
  · exact ⟨e, ⟨gs', mc', h.addY (by omega) hd⟩, fun lb s g hv => (hd.kept.block lb hv.lt (h.y.not_op (by decide) hv)).trans hv⟩
/-- At the end both indexes hold the reference's lines. -/
theorem OrdB.done {w : World} {ls rs : List MR} {tu ib1 M1 ib2 M2 : Nat} {gs1 : List MG} {mc1 : Nat} {gs2 : List MG} {mc2 : Nat} {v : Value} {W : World} (h : OrdB w ls rs tu ib1 M1 ib2 M2 gs1 mc1 gs2 mc2 ls.length ls.length v W) (hs : SameR rs (ls.take ls.length)) : RelR gs1 rs ∧ RelR gs2 rs := by
  rw [List.take_length] at hs
  have h1 := h.relx
  rw [List.take_length] at h1
  exact ⟨h1.same fun r => (hs r).symm, (h.rely.same (turnL_all ls tu)).same fun r => (hs r).symm⟩
theorem rel_eqG {B1 B2 ib1 ib2 M1 M2 mc1 mc2 : Nat} {gs1 gs2 : List MG} {w1 w2 : World} (h1 : IdxAt B1 w1 ib1 M1 gs1 mc1) (h2 : IdxAt B2 w2 ib2 M2 gs2 mc2) {rs : List MR} (ho : ordR rs) (r1 : RelR gs1 rs) (r2 : RelR gs2 rs) : eqG gs1 gs2 = true :=
  (eqG_iff h1 h2).2 fun t => (rel_lines h1 r1 ho t).trans (rel_lines h2 r2 ho t).symm
/-- The text of an index that holds the reference's lines. -/
theorem rel_enc {B ib M mc : Nat} {gs : List MG} {w : World} (h : IdxAt B w ib M gs mc) {rs : List MR} (ho : ordR rs) (hr : RelR gs rs) {ns : List ByteArray} (hn : ordN ns) (hm : ∀ t, t ∈ ns ↔ ∃ G ∈ gs, G.name = t) : encTxt (fun t => (linesIn gs t).map (·.p)) ns = encTxt (fun t => (ofR rs t).map (·.m.p)) (groupsR rs) := by
  rw [rel_names h hr ho hn hm]
  exact congrArg (fun F => encTxt F (groupsR rs)) (funext fun t => rel_lines h hr ho t)

end Go.Proofs.YtdjaphcelpchaaaGreatDoor

namespace Go.Proofs.YtdjaphcelpchaaaGreatDoor
open Go Go.RowKit Go.Proofs

attribute [local go_sem ↓] ex_load_id ex_store_id ex_load_line ex_store_line ex_load_rline ex_store_rline ex_alloc_line ex_build_line ex_alloc_rline ex_build_rline

attribute [local go_sem] ld_id st_id ld_line st_line ld_rline st_rline guard_id okCells_drew rdCells_drew okCells_drewN rdCells_drewN rowOk_drew rowOk_cells okCells_cells rdCells_cells setRow_drew setRow_new setRow_past

theorem wpN_at {P : Program} {ops : Array Oper} {Q : Exit → Act → World → Prop} {C : World → Prop} {D E rest : List Nat} {r : Nat} {a : Act} {w : World} (b : Bool) (hlt : decide (r < ops.size) = true) (hb : needD ops D E r = b) (h : wpList P ops (QnD P ops Q C D E rest b) (opsAt ops [r]) a w) : wpN P ops Q C D E (r :: rest) a w := by
  have hlt' := of_decide_eq_true hlt
  refine wpN_cons b (Array.getElem?_eq_getElem hlt') hb ?_
  have : opsAt ops [r] = [ops[r]] := by unfold opsAt; rw [List.map_singleton, opsAt_get (Array.getElem?_eq_getElem hlt')]
  rwa [this] at h
end Go.Proofs.YtdjaphcelpchaaaGreatDoor

namespace Go.Proofs.YtdjaphcelpchaaaGreatDoor
open Go Go.RowKit Go.Proofs

section
variable {P : Program} {ops : Array Oper} {Q : Exit → Act → World → Prop} {C : World → Prop}

/-- Whether an operation may enter a function of the program. -/
def isCall2 (o : Oper) : Bool := match o.op with
  | .call c => (match c.callee with | .builtin .len => false | _ => true)
  | .convert .. => false
  | _ => isCall o
theorem enter_is_call2 {o : Oper} {ρ : Operand → Value} {w w' : World} {f : FuncId} {args : Array Value} (hc : isCall2 o = false) (h : (execOp ρ o).run P w = .ok (.enter f args) w') : False := by
  obtain ⟨d, op, ty, pos, af, g⟩ := o
  cases op
  case call c =>
    obtain ⟨callee, xs, ats⟩ := c
    cases callee with
    | builtin b =>
      cases b <;> simp only [isCall2, Bool.true_eq_false] at hc
      exact value_not_enter (s := Builtin.len_ ats ty (xs.map ρ)) h
    | invoke r n => simp [isCall2] at hc
    | value x => simp [isCall2] at hc
  case convert s t x => exact value_not_enter h
  all_goals exact enter_is_call (by simpa only [isCall2] using hc) h
theorem still_of_quiet2 {e : Nat} {o : Oper} {K : Act → Prop} {K' : Act → World → Prop} {a : Act} {w : World} (he : ops[e]? = some o) (hcall : isCall2 o = false) (hC : C w) (hk : ∀ a', K a' → K' a' w) (h : qOp P ops C e K a) :
    wpOp P ops (NoPanic Q) e K' a w := by
  unfold qOp at h
  unfold wpOp
  simp only [he] at h ⊢
  split
  · rename_i hw
    rw [if_pos hw] at h
    refine .inl ?_
    obtain ⟨v, hv, hn⟩ := h
    have h1 := hv w hC
    unfold Oper.quietAt at h1
    unfold Oper.wp
    generalize hr : (execOp a.eval o).run P w = r at *
    cases r with
    | ok n w' =>
      cases n <;> simp only [Oper.quietUpon] at h1 <;> simp only [Oper.upon]
      case value u => obtain ⟨rfl, rfl⟩ := h1; exact hk _ hn
      case skip => obtain ⟨rfl, rfl⟩ := h1; exact hk _ hn
      case enter f args =>
        exfalso
        exact enter_is_call2 hcall hr
    | halt x w' => exact h1.elim
  · rename_i hw
    rw [if_neg hw] at h
    exact hk _ h

/-- The closed checks. -/
def forkB2 (ops : Array Oper) (E R : List Nat) : Bool :=
  Region.noSelect ops && decide ((E ++ R).Nodup) && decide (E.length + R.length = ops.size) && ((List.range ops.size).all fun i => E.contains i || R.contains i)
  && E.all (predsB ops E) && pairB (fun y e => !Region.waitsFor .any ops y e && apartB ops y e) E
  && R.all (predsB ops (E ++ R)) && pairB (fun r s => !Region.waitsFor .any ops r s) R
  && (R.all fun r => E.all fun y => apartB ops y r)
  && (E.all fun e => match ops[e]? with | some o => !isCall2 o | none => false)

theorem fork_main2 {E R : List Nat} (hB : forkB2 ops E R = true) : ∀ (n : Nat) (L : Array Bool) (a : Act) (w : World), L.size = ops.size → Closed ops L →
    (E.filter (unl L)).length + (R.filter (unl L)).length = n → (E.filter (unl L) ≠ [] → C w) →
    wpQuiet P ops C (fun a' => wpF P ops Q C E (R.filter (unl L)).length (R.filter (unl L)) a' w) (opsAt ops (E.filter (unl L))) a → wpAny P .any ops (NoPanic Q) n L a w := by
  simp only [forkB2, Bool.and_eq_true, decide_eq_true_eq, List.all_eq_true] at hB
  obtain ⟨⟨⟨⟨⟨⟨⟨⟨⟨hns, hnd⟩, hlen⟩, hcov⟩, hpE⟩, hpair⟩, hpR⟩, hpairR⟩, hapR⟩, hcalls⟩ := hB
  have hsel := Region.noSelect_spec hns
  have hpair' := pairB_spec hpair
  have hpairR' := pairB_spec hpairR
  have hndE : E.Nodup := (List.nodup_append.1 hnd).1
  have hndR : R.Nodup := (List.nodup_append.1 hnd).2.1
  have hdis : ∀ x, x ∈ E → x ∈ R → False := fun x h1 h2 => (List.nodup_append.1 hnd).2.2 x h1 x h2 rfl
  have hget : ∀ (l : List Nat) (e : Nat), predsB ops l e = true → ∃ o, ops[e]? = some o ∧ ∀ x ∈ o.after, Region.binds .any x = true → x.on ∈ l ∧ x.on ≠ e := by
    intro l e h
    unfold predsB at h
    split at h
    · rename_i o ho
      refine ⟨o, ho, fun x hx hb => ?_⟩
      have h1 := (Array.all_eq_true_iff_forall_mem.1 h) x hx
      simp only [hb, Bool.not_true, Bool.false_or, Bool.and_eq_true, List.contains_iff_mem, bne_iff_ne] at h1
      exact h1
    · cases h
  have hapart : ∀ y e, apartB ops y e = true → Region.waitsFor .any ops e y = false → ∃ oy oe, ops[y]? = some oy ∧ ops[e]? = some oe ∧ oy.apart ops oe = true := by
    intro y e h hw
    unfold apartB at h
    rw [hw, Bool.false_or] at h
    split at h
    · rename_i oy oe h1 h2
      exact ⟨oy, oe, h1, h2, h⟩
    · cases h
  have hinE : ∀ x, x ∈ E → x < ops.size := fun x hx => by
    obtain ⟨ox, hox, _⟩ := hget E x (hpE _ hx)
    exact (Array.getElem?_eq_some_iff.1 hox).1
  have hinR : ∀ x, x ∈ R → x < ops.size := fun x hx => by
    obtain ⟨ox, hox, _⟩ := hget (E ++ R) x (hpR _ hx)
    exact (Array.getElem?_eq_some_iff.1 hox).1
  have hun : ∀ (L : Array Bool) (l : List Nat) (x : Nat), x ∈ l.filter (unl L) ↔ x ∈ l ∧ L.getD x true = false := fun L l x => by
    rw [List.mem_filter]; simp only [unl, Bool.not_eq_true']
  intro n
  induction n with
  | zero =>
    intro L a w hsz hcl hn _ h
    have hE0 : E.filter (unl L) = [] := List.eq_nil_of_length_eq_zero (by omega)
    have hR0 : R.filter (unl L) = [] := List.eq_nil_of_length_eq_zero (by omega)
    rw [hE0, hR0] at h
    refine ⟨?_, ?_⟩
    · rw [List.eq_nil_iff_forall_not_mem]
      intro i hi
      obtain ⟨h1, o, ho, _⟩ := mem_ready.1 hi
      have hlt := (Array.getElem?_eq_some_iff.1 ho).1
      have hc := hcov i (List.mem_range.2 hlt)
      simp only [Bool.or_eq_true, List.contains_iff_mem] at hc
      rcases hc with hc | hc
      · have : i ∈ E.filter (unl L) := (hun L E i).2 ⟨hc, h1⟩
        rw [hE0] at this; cases this
      · have : i ∈ R.filter (unl L) := (hun L R i).2 ⟨hc, h1⟩
        rw [hR0] at this; cases this
    · exact h
  | succ n ih =>
    intro L a w hsz hcl hn hCw h
    -- something may come up
    have hsome : Region.ready .any ops L ≠ [] := by
      cases hE' : E.filter (unl L) with
      | cons e T =>
        have he := (hun L E e).1 (by rw [hE']; simp)
        obtain ⟨o, ho, hpre⟩ := hget E e (hpE e he.1)
        have hpw := hpair'.filter (p := unl L)
        rw [hE'] at hpw
        have : e ∈ Region.ready .any ops L := mem_ready.2 ⟨he.2, o, ho, fun x hx hb => by
          obtain ⟨hxE, hxe⟩ := hpre x hx hb
          cases hlx : L.getD x.on false with
          | true => rfl
          | false =>
            exfalso
            have hxm : x.on ∈ E.filter (unl L) := (hun L E _).2 ⟨hxE, getD_in (by rw [hsz]; exact hinE _ hxE) hlx⟩
            rw [hE'] at hxm
            rcases List.mem_cons.1 hxm with h1 | h1
            · exact hxe h1
            · have h2 := (List.pairwise_cons.1 hpw).1 _ h1
              simp only [Bool.and_eq_true, Bool.not_eq_true'] at h2
              rw [waitsFor_of ho hx hb rfl] at h2
              cases h2.1⟩
        intro h0; rw [h0] at this; cases this
      | nil =>
        cases hR' : R.filter (unl L) with
        | nil => rw [hE', hR'] at hn; simp at hn
        | cons r rest =>
          have hr := (hun L R r).1 (by rw [hR']; simp)
          obtain ⟨o, ho, hpre⟩ := hget (E ++ R) r (hpR r hr.1)
          have hpw := hpairR'.filter (p := unl L)
          rw [hR'] at hpw
          have : r ∈ Region.ready .any ops L := mem_ready.2 ⟨hr.2, o, ho, fun x hx hb => by
            obtain ⟨hxE, hxe⟩ := hpre x hx hb
            cases hlx : L.getD x.on false with
            | true => rfl
            | false =>
              exfalso
              rcases List.mem_append.1 hxE with h1 | h1
              · have : x.on ∈ E.filter (unl L) := (hun L E _).2 ⟨h1, getD_in (by rw [hsz]; exact hinE _ h1) hlx⟩
                rw [hE'] at this; cases this
              · have hxm : x.on ∈ R.filter (unl L) := (hun L R _).2 ⟨h1, getD_in (by rw [hsz]; exact hinR _ h1) hlx⟩
                rw [hR'] at hxm
                rcases List.mem_cons.1 hxm with h3 | h3
                · exact hxe h3
                · have h4 := (List.pairwise_cons.1 hpw).1 _ h3
                  simp only [Bool.not_eq_true'] at h4
                  rw [waitsFor_of ho hx hb rfl] at h4
                  cases h4⟩
          intro h0; rw [h0] at this; cases this
    refine ⟨fun h0 => absurd h0 hsome, fun i hi => ?_⟩
    obtain ⟨hiu, oi, hoi, hall⟩ := mem_ready.1 hi
    have hilt := (Array.getElem?_eq_some_iff.1 hoi).1
    have hcl' : Closed ops (L.setIfInBounds i true) := fun j oj hj hl e he hb => by
      by_cases hij : i = j
      · subst hij
        have : oj = oi := Option.some.inj (hj.symm.trans hoi)
        subst this
        exact getD_set_true (hall e he hb)
      · rw [getD_set_ne false hij] at hl
        exact getD_set_true (hcl j oj hj hl e he hb)
    have hc := hcov i (List.mem_range.2 hilt)
    simp only [Bool.or_eq_true, List.contains_iff_mem] at hc
    rcases hc with hc | hc
    · -- a quiet one
      have himem : i ∈ E.filter (unl L) := (hun L E i).2 ⟨hc, hiu⟩
      obtain ⟨E1, E2, hsplit⟩ := List.append_of_mem himem
      have hiR : i ∉ R := fun h' => hdis i hc h'
      have hpw := hpair'.filter (p := unl L)
      rw [hsplit] at hpw h
      have hap : ∀ x ∈ E1, ∃ ox, ops[x]? = some ox ∧ ox.apart ops oi = true := by
        intro x hx
        have h2 := (List.pairwise_append.1 hpw).2.2 x hx i (by simp)
        simp only [Bool.and_eq_true, Bool.not_eq_true'] at h2
        have hxu : L.getD x true = false := ((hun L E x).1 (by rw [hsplit]; simp [hx])).2
        obtain ⟨oy, oe, h3, h4, h5⟩ := hapart x i h2.2 (not_waits_of_ready hi hxu)
        have : oe = oi := Option.some.inj (h4.symm.trans hoi)
        subst this
        exact ⟨oy, h3, h5⟩
      have hq := quiet_front hoi hsel E1 E2 a hap h
      have hfs := filter_set (by rw [hsz]; exact hilt) hndE hsplit
      have hfR := filter_set_not (L := L) hiR
      have hCw' : C w := hCw (by rw [hsplit]; simp)
      have hcall : isCall2 oi = false := by
        have := hcalls i hc
        rw [hoi] at this
        simpa using this
      refine still_of_quiet2 hoi hcall hCw' (fun a' h' => ?_) hq
      refine ih (L.setIfInBounds i true) a' w (by simpa using hsz) hcl' ?_ (fun _ => hCw') ?_
      · rw [hfs, hfR]; rw [hsplit] at hn; simp only [List.length_append, List.length_cons] at hn ⊢; omega
      · rw [hfs, hfR]; exact h'
    · -- an acting one
      have hiE : i ∉ E := fun h' => hdis i h' hc
      have himem : i ∈ R.filter (unl L) := (hun L R i).2 ⟨hc, hiu⟩
      obtain ⟨R1, R2, hsplit⟩ := List.append_of_mem himem
      have hap : ∀ x ∈ E.filter (unl L), ∃ ox, ops[x]? = some ox ∧ ox.apart ops oi = true := by
        intro x hx
        have hx' := (hun L E x).1 hx
        have h2 := hapR i hc x hx'.1
        obtain ⟨oy, oe, h3, h4, h5⟩ := hapart x i h2 (not_waits_of_ready hi hx'.2)
        have : oe = oi := Option.some.inj (h4.symm.trans hoi)
        subst this
        exact ⟨oy, h3, h5⟩
      have hrf : i ∈ readyF ops (R.filter (unl L)) := by
        unfold readyF
        rw [List.mem_filter, List.all_eq_true]
        refine ⟨himem, fun s hs => ?_⟩
        rw [not_waits_of_ready hi ((hun L R s).1 hs).2]
        rfl
      have hln : (R.filter (unl L)).length = (R1 ++ R2).length + 1 := by rw [hsplit]; simp; omega
      have her : (R.filter (unl L)).erase i = R1 ++ R2 := by
        rw [hsplit]
        exact erase_split (by rw [← hsplit]; exact hndR.filter _)
      have h1 : wpQuiet P ops C (fun a' => wpOp P ops (NoPanic Q) i (fun a' w' => (needB ops E i = true → C w') ∧ wpF P ops Q C E (R1 ++ R2).length (R1 ++ R2) a' w') a' w) (opsAt ops (E.filter (unl L))) a := by
        refine wpQuiet_mono (fun a'' h'' => ?_) _ _ h
        rw [hln] at h''
        have := h'' i hrf
        rw [her] at this
        exact this
      have h2 := act_front hoi hsel (E.filter (unl L)) a hap h1
      have hfs := filter_set_not (L := L) hiE
      have hfR := filter_set (by rw [hsz]; exact hilt) hndR hsplit
      have hneed : E.filter (unl L) ≠ [] → needB ops E i = true := by
        intro hne
        cases hq : needB ops E i with
        | true => rfl
        | false =>
          exfalso
          unfold needB at hq
          simp only [Bool.not_eq_false', List.all_eq_true] at hq
          obtain ⟨e, he⟩ := List.exists_mem_of_ne_nil _ hne
          have he' := (hun L E e).1 he
          have h4 := anc_listed hcl ops.size i e (fun o ho => by
            have : o = oi := Option.some.inj (ho.symm.trans hoi)
            subst this; exact hall) (hq e he'.1)
          rw [getD_both he'.2] at h4
          cases h4
      refine wpOp_mono (fun a' w' h3 => ?_) h2
      refine ih (L.setIfInBounds i true) a' w' (by simpa using hsz) hcl' ?_ (fun hne => ?_) ?_
      · rw [hfs, hfR]; rw [hln] at hn; omega
      · rw [hfs] at hne
        exact (quiet_const _ _ h3) (hneed hne)
      · rw [hfs, hfR]
        exact wpQuiet_mono (fun a'' h'' => h''.2) _ _ h3

/-- The walk over a region: first the quiet ones, then the acting ones in every order. -/
theorem wp_region_fork2 {id : Nat} {a : Act} {w : World} (E R : List Nat) (n : Nat) (C : World → Prop) (hm : P.follows .mixedOrders = true) (hB : forkB2 ops E R = true) (hn : R.length = n) (hC : C w.drew)
    (h : wpQuiet P ops C (fun a' => wpF P ops Q C E n R a' w.drew) (opsAt ops E) a) : (Code.region id ops true).wp P Q a w := by
  refine wp_region_noPanic (wp_region_any hm ?_)
  have hB0 := hB
  simp only [forkB2, Bool.and_eq_true, decide_eq_true_eq, List.all_eq_true] at hB
  obtain ⟨⟨⟨⟨⟨⟨⟨⟨⟨hns, hnd⟩, hlen⟩, hcov⟩, hpE⟩, hpair⟩, hpR⟩, hpairR⟩, hapR⟩, hcalls⟩ := hB
  have hlt : ∀ l i, predsB ops l i = true → i < ops.size := by
    intro l i hcov
    unfold predsB at hcov
    split at hcov
    · rename_i o ho; exact (Array.getElem?_eq_some_iff.1 ho).1
    · cases hcov
  have hall : E.filter (unl (Array.replicate ops.size false)) = E := by
    rw [List.filter_eq_self]
    intro i hi
    simp [unl, hlt E i (hpE i hi)]
  have hallR : R.filter (unl (Array.replicate ops.size false)) = R := by
    rw [List.filter_eq_self]
    intro i hi
    simp [unl, hlt _ i (hpR i hi)]
  refine fork_main2 hB0 ops.size (Array.replicate ops.size false) a w.drew (by simp) (fun j oj _ hl => by rw [getD_replicate_false] at hl; cases hl) (by rw [hall, hallR]; exact hlen) (fun _ => hC) ?_
  rw [hall, hallR, hn]
  exact h

end
end Go.Proofs.YtdjaphcelpchaaaGreatDoor

namespace Go.Proofs.YtdjaphcelpchaaaGreatDoor
open Go Go.RowKit Go.Proofs

attribute [local go_sem ↓] ex_load_id ex_store_id ex_load_line ex_store_line ex_load_rline ex_store_rline ex_alloc_line ex_build_line ex_alloc_rline ex_build_rline

attribute [local go_sem] ld_id st_id ld_line st_line ld_rline st_rline guard_id okCells_drew rdCells_drew okCells_drewN rdCells_drewN rowOk_drew rowOk_cells okCells_cells rdCells_cells setRow_drew setRow_new setRow_past

/-- Two lines' blocks, one filled behind the other. -/
theorem two_rows {w0 W : World} {a b : Nat} (hb : Below w0.heap.size w0 W) (ha : RBlk W a) (hbb : RBlk W b) (hne : a ≠ b) (h1 : w0.heap.size ≤ a) (h2 : w0.heap.size ≤ b) (s1 s2 : ByteArray) (g1 g2 : GLine) :
    rowOk W a 39 = true ∧ rowOk (W.setRow a (rlineCells s1 g1)) b 39 = true ∧ Below w0.heap.size w0 (W.setRow a (rlineCells s1 g1)) ∧ RVar ((W.setRow a (rlineCells s1 g1)).setRow b (rlineCells s2 g2)) a s1 g1 ∧ RVar ((W.setRow a (rlineCells s1 g1)).setRow b (rlineCells s2 g2)) b s2 g2 ∧ Below w0.heap.size w0 ((W.setRow a (rlineCells s1 g1)).setRow b (rlineCells s2 g2)) := by
  have hb3 := hbb.grown (grown_row W a (rlineCells s1 g1)) (by simp; omega)
  have hv := ha.setRow (s := s1) (g' := g1)
  refine ⟨ha.row, hb3.row, below_grown hb (grown_row _ _ _) hb.size h1, hv.grown (grown_row _ _ _) (by simp; omega), hb3.setRow, ?_⟩
  exact below_grown (below_grown hb (grown_row _ _ _) hb.size h1) (grown_row _ _ _) (by have := hb.size; simpa [World.setRow] using this) h2
theorem RBlk.new (W : World) : RBlk (W.alloc (.cells (rlineCells ⟨#[]⟩ zeroLine) 26)) W.heap.size := ⟨_, heap_alloc_new _ _, rlineCells_size _ _⟩
theorem RBlk.below {w w' : World} {lb B : Nat} (h : RBlk w lb) (hb : Below B w w') (hlt : lb < B) : RBlk w' lb := by
  obtain ⟨cs, h1, h2⟩ := h
  exact ⟨cs, (hb.block lb hlt).trans h1, h2⟩

set_option maxRecDepth 100000 in
set_option maxHeartbeats 8000000 in
theorem law_order (v : Value) (ls : List MR) (tu : Nat) (w : World) (hG : Gl w) (h : LsAt w v ls) (ht : tu < 256) :
    Calls Tryz.prog 7 #[v, .int .u8 tu] w fun r w' => r = .returned (.bool true) ∧ Below w.heap.size w w' := by
  obtain ⟨a, c, rfl, hc, hr⟩ := h.row
  have hfew := h.few
  have HX := Lib.hid h
  have HG := Lib.hid hG
  clear h hG
  go_enter Tryz.func7, Tryz.ntmps7
  go_wp2_with fail
  refine (knows w HG.out).mono ?_
  rintro r w1 ⟨rfl, hb1⟩
  have HB1 := Lib.hid hb1
  clear hb1
  by_cases h40 : ls.length ≤ 40
  · have h40z : ¬ (40 : Int) < (ls.length : Int) := by omega
    go_wp2_with fail
    refine (new_any w1).mono ?_
    rintro r w2 ⟨rfl, hw2⟩
    go_wp2_with fail
    refine (new_any w2).mono ?_
    rintro r w3 ⟨rfl, hw3⟩
    have hp0 := OrdA.start HB1.out ls hw2 hw3
    have hM : w1.heap.size + 1 < w2.heap.size := by rw [← hw2]; simp
    obtain ⟨M1, hM1⟩ : ∃ M, M = w1.heap.size := ⟨_, rfl⟩
    obtain ⟨M2, hM2⟩ : ∃ M, M = w2.heap.size := ⟨_, rfl⟩
    rw [← hM1, ← hM2] at hp0 hM
    rw [← hM1, ← hM2]
    have HP0 := Lib.hid hp0
    have HMM : Hid (M1 + 1 < M2) := Lib.hid hM
    clear hw2 hw3 hp0 hM HB1 hM1 hM2
    go_wp2
    go_loopw [7, 8, 9, 10] (fun wv i _ _ wr => ∃ (k : Nat) (rs : List MR), k ≤ ls.length ∧ i = .int .i64 k ∧ Hid (OrdA w ls rs (M1 + 1) M1 (M2 + 1) M2 k wv wr)) (fun _ i _ _ _ => ls.length - (intOf i).toNat)
    case atStart => exact ⟨0, [], by omega, rfl, HP0⟩
    case round =>
      obtain ⟨k, rs, hk, rfl, HP⟩ := hrel
      by_cases hlt : k < ls.length
      · have hltz : (k : Int) < (ls.length : Int) := by omega
        have hne : ls ≠ [] := fun e => by rw [e] at hlt; cases hlt
        obtain ⟨b, off, rfl, hbl, hcell⟩ := hr hne
        obtain ⟨o1, d1⟩ := lsAt_rd (w := wr) (b := b) (off := off) (ls := ls) (fun j hj i u hu => (HP.out.bl.cell (p := ⟨b, off + j * 39 + i, none⟩) hbl).trans (hcell j hj i u hu)) hlt
        have hmem : ls[k] ∈ ls := List.getElem_mem hlt
        have hids := HX.out.ids _ hmem
        have hnm := HX.out.names _ hmem
        have hln := HX.out.len _ hmem
        obtain ⟨ra, rc, hrefs, _, _⟩ := id hids
        have HSM := Lib.hid (small_any ls[k].s ls[k].m.g wr ra _ rc hrefs hln hnm.1 hnm.2.1 hnm.2.2)
        obtain ⟨wa, wn, wc, hwe⟩ : ∃ a n c, u7 = .slice a n c := own_slice HP.out.refs.row
        subst hwe
        have HAR : Hid (∀ wz, Below wr.heap.size wr wz → ls[k].s.size + ls[k].m.p.name.size + ls[k].m.p.subject.size ≤ 600 → Calls Tryz.prog 33 #[.slice wa wn wc, .agg (rlineCells ls[k].s ls[k].m.g)] wz fun r w' => AddRPost (.slice wa wn wc) rs ls[k].s ls[k].m.p ls[k].m.v wz r w') := Lib.hid fun wz hbz h6 =>
          addRef_any w.heap.size (.slice wa wn wc) rs ls[k].s ls[k].m.p ls[k].m.v wz (HP.out.refs.below hbz) HP.out.ord (by omega) ⟨(hids.below (HP.out.bl.trans (hbz.mono HP.out.bl.size))), hln, Nat.le_trans hnm.2.1 (Nat.div_le_self _ _), Nat.le_trans hnm.2.2 (Nat.div_le_self _ _)⟩ (by have := HP.out.len; omega)
        have HNX : Hid (∀ (wz w' : World) (v' : Value), Below wr.heap.size wr wz → Below wz.heap.size wz w' → addErrR rs ls[k].s ls[k].m.p = 0 → RefsAt wz.heap.size w' v' (addR rs ⟨ls[k].s, ⟨ls[k].m.p, ls[k].m.v⟩⟩) → OrdA w ls (addR rs ls[k]) (M1 + 1) M1 (M2 + 1) M2 (k + 1) v' w') := Lib.hid fun wz w' v' hbz hb' he hv => (HP.out.later hbz).next hlt hids hb' he hv
        have HBL := Lib.hid HP.out.bl
        generalize ls[k] = o at o1 d1 HSM HAR HNX
        clear hids hnm hln hrefs hmem hcell
        go_wp2_with fail
        refine HSM.out.mono ?_
        rintro r w4 ⟨rfl, hb4⟩
        have HB4 := Lib.hid hb4
        clear hb4 HSM
        by_cases hq : o.m.p.ids.length ≤ 30
        · by_cases hp : o.s.size + o.m.g.name.size + o.m.g.subject.size ≤ 600
          · have HA4 := Lib.hid (HAR.out w4 HB4.out hp)
            have HN4 : Hid _ := Lib.hid (HNX.out w4 · · HB4.out)
            rw [decide_eq_true hq, decide_eq_true hp]
            have o2 : okCells w4 ⟨b, off + k * 39, none⟩ 39 = true := Later.ok o1 ⟨w4, HB4.out⟩
            have d2 : rdCells w4 ⟨b, off + k * 39, none⟩ 39 = rlineCells o.s o.m.g := (Later.rd o1 ⟨w4, HB4.out⟩).trans d1
            clear hp hq HAR HNX o1 d1
            go_wp2_with fail
            refine HA4.out.mono ?_
            rintro r w5 ⟨hb5, hcs⟩
            have HB5 := Lib.hid hb5
            rcases hcs with ⟨hne0, rfl⟩ | ⟨he0, v', rfl, hv'⟩
            · have HB := Lib.hid (HBL.out.trans ((HB4.out.trans (HB5.out.mono HB4.out.size)).mono HBL.out.size))
              generalize addErrR rs o.s o.m.p = e at hne0
              have hez : ((e : Int) != 0) = true := by rw [bne_iff_ne]; exact hne0
              clear hb5 HA4 HN4 hne0
              go_wp2
              go_ret
              exact ⟨rfl, HB.out⟩
            · have HN5 := Lib.hid (HN4.out w5 v' hb5 he0 hv')
              obtain ⟨va', vn', vc', hve⟩ : ∃ a n c, v' = .slice a n c := own_slice HN5.out.refs.row
              subst hve
              clear hb5 HA4 HN4 he0 hv'
              go_wp2
              go_roundw
              case rel => exact ⟨k + 1, _, by omega, by go_num, HN5⟩
              case measure => simp [intOf]; omega
          · have HB := Lib.hid (HBL.out.trans (HB4.out.mono HBL.out.size))
            rw [decide_eq_false hp, Bool.and_false]
            clear hp hq HAR HNX
            go_wp2
            go_ret
            exact ⟨rfl, HB.out⟩
        · have HB := Lib.hid (HBL.out.trans (HB4.out.mono HBL.out.size))
          rw [decide_eq_false hq, Bool.false_and]
          clear hq HAR HNX
          go_wp2
          go_ret
          exact ⟨rfl, HB.out⟩
      · have hkk : k = ls.length := by omega
        subst hkk
        obtain ⟨wa, wn, wc', hwe⟩ : ∃ a n c, u7 = .slice a n c := own_slice HP.out.refs.row
        subst hwe
        have HGD := Lib.hid HP.out.good
        have HSM := Lib.hid HP.out.same
        have HOR := Lib.hid HP.out.ord
        have HIR : Hid (∀ r ∈ rs, IdsAt w r.m.v r.m.p.ids) := Lib.hid HP.out.ids
        have HB0 := Lib.hid (HP.out.two tu (by have := HMM.out; omega))
        clear HP
        go_wp2
        go_loopw [11, 12, 13] (fun i _ _ wr => ∃ (k : Nat) (gs1 : List MG) (mc1 : Nat) (gs2 : List MG) (mc2 : Nat), k ≤ ls.length ∧ i = .int .i64 k ∧ Hid (OrdB w ls rs tu (M1 + 1) M1 (M2 + 1) M2 gs1 mc1 gs2 mc2 k k (.slice wa wn wc') wr)) (fun i _ _ _ => ls.length - (intOf i).toNat)
        case atStart => exact ⟨0, [], 0, [], 0, by omega, rfl, HB0⟩
        case round =>
          obtain ⟨k, gs1, mc1, gs2, mc2, hk, rfl, HP⟩ := hrel
          by_cases hlt : k < ls.length
          · have hltz : (k : Int) < (ls.length : Int) := by omega
            have hne : ls ≠ [] := fun e => by rw [e] at hlt; cases hlt
            have h0 : 0 < ls.length := by omega
            obtain ⟨b, off, rfl, hbl, hcell⟩ := hr hne
            have hj : turnI ls.length tu k < ls.length := turn_lt h0
            have hrd := fun (j : Nat) (hj : j < ls.length) => lsAt_rd (w := wr) (b := b) (off := off) (ls := ls) (fun j hj i u hu => (HP.out.bl.cell (p := ⟨b, off + j * 39 + i, none⟩) hbl).trans (hcell j hj i u hu)) hj
            obtain ⟨o1, d1⟩ := hrd k hlt
            obtain ⟨o2, d2⟩ := hrd _ hj
            have htm := turn_int (t := tu) hlt
            generalize hJ : turnI ls.length tu k = J at *
            have z1 : ∀ z : Later wr, okCells z.1 ⟨b, off + k * 39, none⟩ 39 = true := fun z => Later.ok o1 z
            have z2 : ∀ z : Later wr, rdCells z.1 ⟨b, off + k * 39, none⟩ 39 = rlineCells ls[k].s ls[k].m.g := fun z => (Later.rd o1 z).trans d1
            have z3 : ∀ z : Later wr, okCells z.1 ⟨b, off + J * 39, none⟩ 39 = true := fun z => Later.ok o2 z
            have z4 : ∀ z : Later wr, rdCells z.1 ⟨b, off + J * 39, none⟩ 39 = rlineCells ls[J].s ls[J].m.g := fun z => (Later.rd o2 z).trans d2
            clear hrd o1 d1 o2 d2 hcell
            go_upto_region 17 with fail
            go_cut [12, 13] from 48 to 87 (fun va vb wx => ∃ ab bb : Nat, va = .pointer (some ⟨ab, 0, none⟩) ∧ vb = .pointer (some ⟨bb, 0, none⟩) ∧ Hid (RVar wx ab ls[k].s ls[k].m.g) ∧ Hid (RVar wx bb ls[J].s ls[J].m.g) ∧ Hid (Below wr.heap.size wr wx))
            case first =>
              refine wp_region_fork2 [0, 1, 2, 3, 4, 5, 6, 7, 8, 9, 10, 11, 12, 13, 14, 15, 16, 17] [18, 19, 20, 21] 4 (fun w' => ∃ z : Later wr, w' = z.1) (by kernel_rfl) (by kernel_rfl) rfl ⟨⟨_, (Below.refl _ _).drew⟩, rfl⟩ ?_
              simp only [opsAt, List.map_cons, List.map_nil, Array.getD_eq_getD_getElem?, List.getElem?_toArray, List.getElem?_cons_zero, List.getElem?_cons_succ, Option.getD_some]
              repeat (go_big_quiet_step (fail))
              refine wpQuiet_nil ?_
              clear z1 z2 z3 z4
              have hf1 := fits_rline (s := ls[k].s) (g := ls[k].m.g) (HX.out.ids _ (List.getElem_mem hlt)).one
              have hf2 := fits_rline (s := ls[J].s) (g := ls[J].m.g) (HX.out.ids _ (List.getElem_mem hj)).one
              generalize hWd : wr.drew = Wd
              have HBWd : Hid (Below wr.heap.size wr Wd) := Lib.hid (by rw [← hWd]; exact (Below.refl _ _).drew)
              clear hWd
              refine wpF_two (r := 18) (s := 19) (by kernel_rfl) ?_ ?_
              · refine wpF_at true (by kernel_rfl) (by kernel_rfl) (rest := [19, 20, 21]) rfl ?_
                simp only [opsAt, List.map_cons, List.map_nil, Array.getD_eq_getD_getElem?, List.getElem?_toArray, List.getElem?_cons_zero, List.getElem?_cons_succ, Option.getD_some]
                go_wp2_with fail
                have hr1 := RBlk.new Wd
                have hb1 : Below wr.heap.size wr (Wd.alloc (.cells (rlineCells ⟨#[]⟩ zeroLine) 26)) := HBWd.out.alloc HBWd.out.size _
                have hs1 : (Wd.alloc (.cells (rlineCells ⟨#[]⟩ zeroLine) 26)).heap.size = Wd.heap.size + 1 := by simp
                generalize Wd.alloc (.cells (rlineCells ⟨#[]⟩ zeroLine) 26) = W1 at hr1 hb1 hs1 ⊢
                have HB1 := Lib.hid hb1
                have HS1 := Lib.hid hs1
                have HR1 := Lib.hid hr1
                clear hb1 hs1 hr1
                refine ⟨fun _ => ⟨⟨_, HB1.out⟩, rfl⟩, ?_⟩
                refine wpF_end [19, 20, 21] rfl rfl (by kernel_rfl) (by kernel_rfl) ?_
                refine wpR_at true (by kernel_rfl) (by kernel_rfl) ?_
                simp only [opsAt, List.map_cons, List.map_nil, Array.getD_eq_getD_getElem?, List.getElem?_toArray, List.getElem?_cons_zero, List.getElem?_cons_succ, Option.getD_some]
                go_wp2_with fail
                have hb2 : Below wr.heap.size wr (W1.alloc (.cells (rlineCells ⟨#[]⟩ zeroLine) 26)) := HB1.out.alloc HB1.out.size _
                have hr2 := RBlk.new W1
                have hr1 : RBlk (W1.alloc (.cells (rlineCells ⟨#[]⟩ zeroLine) 26)) Wd.heap.size := HR1.out.below (B := W1.heap.size) ((Below.refl _ _).alloc (Nat.le_refl _) _) (by rw [HS1.out]; omega)
                generalize W1.alloc (.cells (rlineCells ⟨#[]⟩ zeroLine) 26) = W2 at hr1 hr2 hb2 ⊢
                have hwd := HBWd.out.size
                have hw1 := HS1.out
                obtain ⟨t1, t2, t3, t4, t5, t6⟩ := two_rows hb2 hr1 hr2 (by omega) (by omega) (by omega) ls[k].s ls[J].s ls[k].m.g ls[J].m.g
                have HB2 := Lib.hid hb2
                have HB3 := Lib.hid t3
                have HT := Lib.hid (And.intro t4 (And.intro t5 t6))
                clear hr1 hr2 hb2 t3 t4 t5 t6 hw1 hwd
                refine ⟨fun _ => ⟨⟨_, HB2.out⟩, rfl⟩, ?_⟩
                refine wpR_at true (by kernel_rfl) (by kernel_rfl) ?_
                simp only [opsAt, List.map_cons, List.map_nil, Array.getD_eq_getD_getElem?, List.getElem?_toArray, List.getElem?_cons_zero, List.getElem?_cons_succ, Option.getD_some]
                go_wp2_with fail
                refine ⟨fun _ => ⟨⟨_, HB3.out⟩, rfl⟩, wpR_list [21] _ _ (by kernel_rfl) ?_⟩
                simp only [opsAt, List.map_cons, List.map_nil, Array.getD_eq_getD_getElem?, List.getElem?_toArray, List.getElem?_cons_zero, List.getElem?_cons_succ, Option.getD_some]
                go_wp2
                refine NoPanic.normal ?_
                go_wp2
                go_meet
                exact ⟨Wd.heap.size, W1.heap.size, rfl, rfl, Lib.hid HT.out.1, Lib.hid HT.out.2.1, Lib.hid HT.out.2.2⟩
              · refine wpF_at true (by kernel_rfl) (by kernel_rfl) (rest := [18, 20, 21]) rfl ?_
                simp only [opsAt, List.map_cons, List.map_nil, Array.getD_eq_getD_getElem?, List.getElem?_toArray, List.getElem?_cons_zero, List.getElem?_cons_succ, Option.getD_some]
                go_wp2_with fail
                have hr1 := RBlk.new Wd
                have hb1 : Below wr.heap.size wr (Wd.alloc (.cells (rlineCells ⟨#[]⟩ zeroLine) 26)) := HBWd.out.alloc HBWd.out.size _
                have hs1 : (Wd.alloc (.cells (rlineCells ⟨#[]⟩ zeroLine) 26)).heap.size = Wd.heap.size + 1 := by simp
                generalize Wd.alloc (.cells (rlineCells ⟨#[]⟩ zeroLine) 26) = W1 at hr1 hb1 hs1 ⊢
                have HB1 := Lib.hid hb1
                have HS1 := Lib.hid hs1
                have HR1 := Lib.hid hr1
                clear hb1 hs1 hr1
                refine ⟨fun _ => ⟨⟨_, HB1.out⟩, rfl⟩, ?_⟩
                refine wpF_end [18, 20, 21] rfl rfl (by kernel_rfl) (by kernel_rfl) ?_
                refine wpR_at true (by kernel_rfl) (by kernel_rfl) ?_
                simp only [opsAt, List.map_cons, List.map_nil, Array.getD_eq_getD_getElem?, List.getElem?_toArray, List.getElem?_cons_zero, List.getElem?_cons_succ, Option.getD_some]
                go_wp2_with fail
                have hb2 : Below wr.heap.size wr (W1.alloc (.cells (rlineCells ⟨#[]⟩ zeroLine) 26)) := HB1.out.alloc HB1.out.size _
                have hr2 := RBlk.new W1
                have hr1 : RBlk (W1.alloc (.cells (rlineCells ⟨#[]⟩ zeroLine) 26)) Wd.heap.size := HR1.out.below (B := W1.heap.size) ((Below.refl _ _).alloc (Nat.le_refl _) _) (by rw [HS1.out]; omega)
                generalize W1.alloc (.cells (rlineCells ⟨#[]⟩ zeroLine) 26) = W2 at hr1 hr2 hb2 ⊢
                have hwd := HBWd.out.size
                have hw1 := HS1.out
                obtain ⟨t1, t2, t3, t4, t5, t6⟩ := two_rows hb2 hr2 hr1 (by omega) (by omega) (by omega) ls[k].s ls[J].s ls[k].m.g ls[J].m.g
                have HB2 := Lib.hid hb2
                have HB3 := Lib.hid t3
                have HT := Lib.hid (And.intro t4 (And.intro t5 t6))
                clear hr1 hr2 hb2 t3 t4 t5 t6 hw1 hwd
                refine ⟨fun _ => ⟨⟨_, HB2.out⟩, rfl⟩, ?_⟩
                refine wpR_at true (by kernel_rfl) (by kernel_rfl) ?_
                simp only [opsAt, List.map_cons, List.map_nil, Array.getD_eq_getD_getElem?, List.getElem?_toArray, List.getElem?_cons_zero, List.getElem?_cons_succ, Option.getD_some]
                go_wp2_with fail
                refine ⟨fun _ => ⟨⟨_, HB3.out⟩, rfl⟩, wpR_list [21] _ _ (by kernel_rfl) ?_⟩
                simp only [opsAt, List.map_cons, List.map_nil, Array.getD_eq_getD_getElem?, List.getElem?_toArray, List.getElem?_cons_zero, List.getElem?_cons_succ, Option.getD_some]
                go_wp2
                refine NoPanic.normal ?_
                go_wp2
                go_meet
                exact ⟨W1.heap.size, Wd.heap.size, rfl, rfl, Lib.hid HT.out.1, Lib.hid HT.out.2.1, Lib.hid HT.out.2.2⟩
            case rest =>
              obtain ⟨ab, bb, rfl, rfl, HA, HBv, HBx⟩ := hcut
              have hids1 := HX.out.ids _ (List.getElem_mem hlt)
              have hids2 := HX.out.ids _ (List.getElem_mem hj)
              have hnm1 := HX.out.names _ (List.getElem_mem hlt)
              have hnm2 := HX.out.names _ (List.getElem_mem hj)
              have hln1 := HX.out.len _ (List.getElem_mem hlt)
              have hln2 := HX.out.len _ (List.getElem_mem hj)
              have HBL := Lib.hid (HP.out.later HBx.out).bl
              go_wp2_with fail
              refine wp_region_stages (by kernel_rfl) ?_
              have hbd : Below wc.heap.size wc wc.drew := (Below.refl _ _).drew
              have hPd := (HP.out.later HBx.out).later hbd
              have hAd : RVar wc.drew ab ls[k].s ls[k].m.g := HA.out
              have hBd : RVar wc.drew bb ls[J].s ls[J].m.g := HBv.out
              generalize wc.drew = Xd at hPd hAd hBd ⊢
              have z1 : ∀ z : Later Xd, okCells z.1 ⟨ab, 0, none⟩ 39 = true := fun z => Later.ok hAd.rd.1 z
              have z2 : ∀ z : Later Xd, rdCells z.1 ⟨ab, 0, none⟩ 39 = rlineCells ls[k].s ls[k].m.g := fun z => (Later.rd hAd.rd.1 z).trans hAd.rd.2
              have z3 : ∀ z : Later Xd, z.1.cell? ⟨ab, 0, none⟩ = some (.string ls[k].s) := fun z => Later.cell ((hAd.cell 0).trans (rc0 _ _)) z
              have HPd := Lib.hid hPd
              have HBd := Lib.hid hBd
              clear hbd hPd hBd hAd HA HBv HBx HBL
              refine wp_stage [0, 1, 2, 3] [4, 5, 6, 7] 8 (fun w' => ∃ z : Later Xd, w' = z.1) (by kernel_rfl) (by kernel_rfl) (by kernel_rfl) rfl rfl ⟨⟨_, Below.refl _ _⟩, rfl⟩ ?_
              simp only [opsAt, List.map_cons, List.map_nil, Array.getD_eq_getD_getElem?, List.getElem?_toArray, List.getElem?_cons_zero, List.getElem?_cons_succ, Option.getD_some]
              repeat (go_big_quiet_step (fail))
              refine wpQuiet_nil ?_
              clear z1 z2 z3
              refine wpN_at true (by kernel_rfl) (by kernel_rfl) ?_
              simp only [opsAt, List.map_cons, List.map_nil, Array.getD_eq_getD_getElem?, List.getElem?_toArray, List.getElem?_cons_zero, List.getElem?_cons_succ, Option.getD_some]
              go_wp2_with fail
              refine (own_own ls[k].s ls[k].m.g ls[k].m.p.ids Xd (hids1.below HPd.out.bl) (by have := refs_len (HGD.out.ok k hlt hlt).2; omega)).mono ?_
              rintro r X2 ⟨v2, rfl, hI2, hb2⟩
              have HADD := Lib.hid (ord_addX (HPd.out.later hb2) HG.out HGD.out h40 hlt v2 (hI2.mono (Nat.zero_le _)) (Nat.le_trans hnm1.1 (Nat.div_le_self _ _)) hln1 (Nat.le_trans hnm1.2.1 (Nat.div_le_self _ _)) (Nat.le_trans hnm1.2.2 (Nat.div_le_self _ _)))
              have HB2 := Lib.hid hb2
              have HBd2 := Lib.hid (HBd.out.below hb2 HBd.out.lt)
              clear hb2 hI2
              go_wp2_with fail
              refine ⟨fun _ => ⟨⟨_, HB2.out⟩, rfl⟩, wpN_list [5, 6, 7] _ _ (by kernel_rfl) ?_⟩
              simp only [opsAt, List.map_cons, List.map_nil, Array.getD_eq_getD_getElem?, List.getElem?_toArray, List.getElem?_cons_zero, List.getElem?_cons_succ, Option.getD_some]
              go_wp2_with fail
              refine HADD.out.mono ?_
              rintro r X3 ⟨rfl, ⟨gs1', mc1', hP3⟩, hkeep⟩
              have hB3 := hkeep _ _ _ HBd2.out
              have HP3 := Lib.hid hP3
              clear HADD hP3 hkeep HB2 HBd2 HBd HPd
              go_wp2
              refine NoPanic.normal ?_
              rw [QS_normal]
              have z1 : ∀ z : Later X3, okCells z.1 ⟨bb, 0, none⟩ 39 = true := fun z => Later.ok hB3.rd.1 z
              have z2 : ∀ z : Later X3, rdCells z.1 ⟨bb, 0, none⟩ 39 = rlineCells ls[J].s ls[J].m.g := fun z => (Later.rd hB3.rd.1 z).trans hB3.rd.2
              have z3 : ∀ z : Later X3, z.1.cell? ⟨bb, 0, none⟩ = some (.string ls[J].s) := fun z => Later.cell ((hB3.cell 0).trans (rc0 _ _)) z
              clear hB3
              refine wp_stage [8, 9, 10, 11] [12, 13, 14, 15] 0 (fun w' => ∃ z : Later X3, w' = z.1) (by kernel_rfl) (by kernel_rfl) (by kernel_rfl) rfl rfl ⟨⟨_, Below.refl _ _⟩, rfl⟩ ?_
              simp only [opsAt, List.map_cons, List.map_nil, Array.getD_eq_getD_getElem?, List.getElem?_toArray, List.getElem?_cons_zero, List.getElem?_cons_succ, Option.getD_some]
              repeat (go_big_quiet_step (fail))
              refine wpQuiet_nil ?_
              clear z1 z2 z3
              refine wpN_at true (by kernel_rfl) (by kernel_rfl) ?_
              simp only [opsAt, List.map_cons, List.map_nil, Array.getD_eq_getD_getElem?, List.getElem?_toArray, List.getElem?_cons_zero, List.getElem?_cons_succ, Option.getD_some]
              go_wp2_with fail
              refine (own_own ls[J].s ls[J].m.g ls[J].m.p.ids X3 (hids2.below HP3.out.bl) (by have := refs_len (HGD.out.ok J hj hj).2; omega)).mono ?_
              rintro r X4 ⟨v4, rfl, hI4, hb4⟩
              have HADD : Hid (Calls Tryz.prog 32 #[.pointer (some ⟨M2 + 1, 0, none⟩), .string ls[J].s, .agg (lineCells (ML.g ⟨ls[J].m.p, v4⟩))] X4 fun r W' => r = .returned (.int .i64 0) ∧ (∃ gs' mc', OrdB w ls rs tu (M1 + 1) M1 (M2 + 1) M2 gs1' mc1' gs' mc' (k + 1) (k + 1) (.slice wa wn wc') W') ∧ ∀ lb s g, RVar X4 lb s g → RVar W' lb s g) := Lib.hid (by
                subst hJ
                exact ord_addY (HP3.out.later hb4) HG.out HGD.out h40 hlt v4 (hI4.mono (Nat.zero_le _)) (Nat.le_trans hnm2.1 (Nat.div_le_self _ _)) hln2 (Nat.le_trans hnm2.2.1 (Nat.div_le_self _ _)) (Nat.le_trans hnm2.2.2 (Nat.div_le_self _ _)))
              have HB4 := Lib.hid hb4
              clear hb4 hI4
              go_wp2_with fail
              refine ⟨fun _ => ⟨⟨_, HB4.out⟩, rfl⟩, wpN_list [13, 14, 15] _ _ (by kernel_rfl) ?_⟩
              simp only [opsAt, List.map_cons, List.map_nil, Array.getD_eq_getD_getElem?, List.getElem?_toArray, List.getElem?_cons_zero, List.getElem?_cons_succ, Option.getD_some]
              go_wp2_with fail
              refine HADD.out.mono ?_
              rintro r X5 ⟨rfl, ⟨gs2', mc2', hP5⟩, _⟩
              have HP5 := Lib.hid hP5
              clear HADD hP5 HB4 HP3
              go_wp2
              refine NoPanic.normal ?_
              rw [QS_normal]
              refine wpSt_end (by kernel_rfl) ?_
              go_wp2
              go_roundw
              case rel => exact ⟨k + 1, gs1', mc1', gs2', mc2', by omega, by go_num, HP5⟩
              case measure => simp [intOf]; omega
          · have hkk : k = ls.length := by omega
            subst hkk
            obtain ⟨r1, r2⟩ := HP.out.done HSM.out
            have HR2 := Lib.hid r2
            have HEQ : Hid (eqG gs1 gs2 = true) := Lib.hid (rel_eqG HP.out.x HP.out.y HOR.out r1 r2)
            have HE1 : Hid (∀ W ns, OrdB w ls rs tu (M1 + 1) M1 (M2 + 1) M2 gs1 mc1 gs2 mc2 ls.length ls.length (.slice wa wn wc') W → ordN ns → (∀ t, t ∈ ns ↔ ∃ G ∈ gs1, G.name = t) → encTxt (fun t => (linesIn gs1 t).map (·.p)) ns = encTxt (fun t => (ofR rs t).map (·.m.p)) (groupsR rs)) := Lib.hid fun W ns h hn hm => rel_enc h.x HOR.out r1 hn hm
            have HE2 : Hid (∀ W ns, OrdB w ls rs tu (M1 + 1) M1 (M2 + 1) M2 gs1 mc1 gs2 mc2 ls.length ls.length (.slice wa wn wc') W → ordN ns → (∀ t, t ∈ ns ↔ ∃ G ∈ gs2, G.name = t) → encTxt (fun t => (linesIn gs2 t).map (·.p)) ns = encTxt (fun t => (ofR rs t).map (·.m.p)) (groupsR rs)) := Lib.hid fun W ns h hn hm => rel_enc h.y HOR.out HR2.out hn hm
            have HQ := Lib.hid (equalIdx_any w.heap.size w.heap.size (M1 + 1) (M2 + 1) M1 M2 mc1 mc2 gs1 gs2 wr HP.out.x HP.out.y)
            clear r1 r2
            go_wp2_with fail
            refine HQ.out.mono ?_
            rintro r w4 ⟨rfl, hb4⟩
            have HP4 := Lib.hid (HP.out.later hb4)
            rw [HEQ.out]
            clear hb4 HQ HP HEQ
            have HN1 := Lib.hid (encode_any w.heap.size (M1 + 1) M1 mc1 gs1 w4 (HG.out.later HP4.out.bl) HP4.out.x)
            go_wp2_with fail
            refine HN1.out.mono ?_
            rintro r w5 ⟨ns1, rfl, hn1, hm1, hb5⟩
            have HP5 := Lib.hid (HP4.out.later hb5)
            have he1 := HE1.out _ _ HP4.out hn1 hm1
            rw [he1]
            clear hb5 HN1 HP4 hn1 hm1 he1
            have HN2 := Lib.hid (encode_any w.heap.size (M2 + 1) M2 mc2 gs2 w5 (HG.out.later HP5.out.bl) HP5.out.y)
            go_wp2_with fail
            refine HN2.out.mono ?_
            rintro r w6 ⟨ns2, rfl, hn2, hm2, hb6⟩
            have HP6 := Lib.hid (HP5.out.later hb6)
            have he2 := HE2.out _ _ HP5.out hn2 hm2
            rw [he2]
            clear hb6 HN2 HP5 hn2 hm2 he2 HE1 HE2
            generalize hTX : str (encTxt (fun t => (ofR rs t).map (·.m.p)) (groupsR rs)) = TX
            have hteq : (TX.toList == TX.toList) = true := by simp
            clear hTX
            have HS := Lib.hid (same_any w.heap.size w.heap.size (M2 + 1) M2 mc2 gs2 (.slice wa wn wc') rs w6 (HG.out.later HP6.out.bl) HP6.out.y HP6.out.refs HR2.out HOR.out (fun r hr => (HIR.out r hr).below HP6.out.bl))
            go_wp2_with fail
            refine HS.out.mono ?_
            rintro r w7 ⟨rfl, hb7⟩
            have HB7 := Lib.hid (HP6.out.later hb7).bl
            clear hb7 HS HP6
            go_wp2
            go_ret
            exact ⟨rfl, HB7.out⟩
  · have h40z : (40 : Int) < (ls.length : Int) := by omega
    go_wp2_with fail
    refine (knows w1 (HG.out.later HB1.out)).mono ?_
    rintro r w3 ⟨rfl, hb3⟩
    have HB3 := Lib.hid (HB1.out.trans (hb3.mono HB1.out.size) : Below w.heap.size w w3)
    clear hb3
    go_wp2
    go_ret
    exact ⟨rfl, HB3.out⟩

end Go.Proofs.YtdjaphcelpchaaaGreatDoor

namespace Go.Proofs.YtdjaphcelpchaaaGreatDoor.overviewOrder
open Go Go.RowKit Go.Proofs Go.Proofs.YtdjaphcelpchaaaGreatDoor Go.ChangeShapes Go.WideShapes Go.ChangeAt Go.WideMaps Go.ChangeMaps

set_option maxRecDepth 100000 in
theorem contract (H : Type) (enc : TypeId × Value → H) (W : World) (base : Nat) (args : Array Value) (ds gs : List (DataW H)) (before : List MemPlace)
    (hval : ∀ (j : Nat) t v, Tryz.f7.params[j]? = some t → args[j]? = some v → Value.okWide Tryz.prog W .any base t v)
    (hW : DataW.Whole enc Tryz.prog Tryz.f7.params.toList Rows.overviewOrderSpec.vars false W args.toList ds gs before)
    (hR : (DataW.weightsEach Tryz.prog (Tryz.f7.params.toList ++ (OpenSpec.ofChange Rows.overviewOrderSpec).bare.plain.varTypes Tryz.prog) (ds ++ gs)).all (· ≤ reachBytes) = true)
    (hL : laidMetH Tryz.prog Rows.overviewOrderRow.laid W) (hS : W.ShapedOpen Tryz.prog) :
    Calls Tryz.prog 7 args W fun e W' => ∃ v, e = .returned v ∧ Rows.overviewOrderSpec.post enc Tryz.prog Tryz.f7 false true false false W args v W' := by
  have hW' := hW
  obtain ⟨p, q, hA0, hV, rfl, hfz, hnd⟩ := hW
  have hA : DataW.TrodAll enc Tryz.prog W 0 (fun _ => true) true Tryz.f7.params.toList args.toList ds p := hA0
  rw [Tryz.params7] at hA hval hR
  obtain ⟨v0, v1, d0, d1, p0, p1, rfl, rfl, rfl, h0, h1⟩ := trodAll_two hA
  obtain ⟨z, rfl, rfl, rfl, hz⟩ := open_int Tryz.underlying5 (hval 1 5 v1 rfl rfl) h1
  have hz' : 0 ≤ z ∧ z ≤ 255 := by simpa [Lit.wf, IntKind.min, IntKind.max, IntKind.signed, IntKind.bits] using hz
  obtain ⟨n, rfl⟩ : ∃ n : Nat, z = n := ⟨z.toNat, by omega⟩
  obtain ⟨fuel0, hf0⟩ := h0
  obtain ⟨v, os0, hcs0, hO0⟩ := open_lines (cs := v0.cells.toList) hf0 (fun n hn => by
    have := List.all_eq_true.1 hR n (DataW.weights_mem_each (j := 0) rfl rfl n hn)
    simpa using this)
  obtain rfl : v0 = v := by
    have ho := lines_cells (hval 0 49 v0 rfl rfl)
    rw [ho] at hcs0
    simpa using hcs0
  clear hA0 hA
  refine (law_order v0 os0 n W (gl_of hL hS) hO0 (by omega)).mono fun e W' ⟨he, hb⟩ => ?_
  subst he
  exact ⟨_, rfl, law_post rfl (by kernel_rfl) hW' (by rw [Tryz.params7]; intro t ht; rcases (by simpa using ht : t = 49 ∨ t = 5) with rfl | rfl <;> exact ⟨by kernel_rfl, of_decide_eq_true (by kernel_rfl)⟩) rfl hb⟩

theorem reads (os : Os) {H : Type} (enc : TypeId × Value → H) : ∃ places, DataW.whole enc Tryz.prog ((World.laidAll Tryz.prog os Rows.overviewOrderRow.laid).forCall (fun _ _ => 0) ⟨#[], #[.slice none 0 0, .int .u8 0], []⟩).memory Tryz.f7.params.toList Rows.overviewOrderSpec.vars false (#[.slice none 0 0, .int .u8 0] : Array Value).toList 8 = some ([.nil, .lit (.int .u8 0)], [], places) :=
  ⟨[], by kernel_rfl⟩

set_option maxRecDepth 100000 in
theorem lifted (os : Os) (started : os.Started) (H : Type) (enc : TypeId × Value → H) (F : Stop.Interp) :
    ReturnsInHanded {} Tryz.checked os 7 .any ((OpenSpec.ofChange Rows.overviewOrderSpec).preRow enc Tryz.prog Tryz.f7 Rows.overviewOrderRow.domain false Rows.overviewOrderRow.laid) (((OpenSpec.ofChange Rows.overviewOrderSpec).at F).post enc Tryz.prog Tryz.f7 false true false false) := by
  obtain ⟨places, hx⟩ := reads os enc
  refine returnsInHanded_of_row (C := Tryz.checked) (s := OpenSpec.ofChange Rows.overviewOrderSpec) own started (by kernel_rfl) Tryz.func7
    (witness_row_at (enc := enc) (C := Tryz.checked) false (World.laidAll Tryz.prog os Rows.overviewOrderRow.laid) #[.slice none 0 0, .int .u8 0] (World.laidAll_os _ _ _) (by kernel_rfl) (by kernel_rfl) (by kernel_rfl)
      (OpenSpec.preRow_of_cond 8 hx (by kernel_rfl) (fun k hk => by cases hk) (by kernel_rfl) (laidMet_laidAll _ (by kernel_rfl) (by kernel_rfl)))) ?_
  intro W base args ds gs before hval hW _ _ hR hL hS _
  exact contract H enc W base args ds gs before hval hW hR hL hS

theorem said : Rows.OverviewOrderSaid :=
  OpenClaim.holds_of_cond 7 Tryz.f7 rfl rfl rfl rfl rfl rfl rfl ⟨rfl, rfl, rfl, rfl, rfl⟩ rfl rfl rfl rfl rfl (by kernel_rfl) Tryz.func7 (by kernel_rfl)
    (of_decide_eq_true (by kernel_rfl)) (by unfold Func.isWrapper; first | (rw [if_pos (by decide +kernel)]; kernel_rfl) | (rw [if_neg (by decide +kernel)]; exact ⟨rfl, rfl⟩))
    (fun os started H enc _ F => by rw [OpenClaim.pre_eq_preRow]; exact lifted os started H enc F)

theorem plain (f : FuncId) (fn : Func) (hf : Tryz.pinned.checked.prog.funcNamed "bulletin/bulletinlaw28.OverviewOrder" = some f) (hfn : Tryz.pinned.checked.prog.funcs[f]? = some fn) :
    true = Tryz.pinned.checked.prog.looks [] ∧ ∀ (j : Nat) t, fn.params[j]? = some t → Tryz.pinned.checked.prog.wantsStandIn t = false := by
  obtain rfl : f = 7 := Option.some.inj ((show Tryz.prog.funcNamed "bulletin/bulletinlaw28.OverviewOrder" = some 7 by kernel_rfl).symm.trans hf) |>.symm
  obtain rfl : fn = Tryz.f7 := (Option.some.inj (Tryz.func7.symm.trans hfn)).symm
  refine ⟨by kernel_rfl, fun j t ht => ?_⟩
  rw [Tryz.params7] at ht
  rcases (by simpa using Array.mem_of_getElem? ht : t = 49 ∨ t = 5) with rfl | rfl
  · exact (show Tryz.prog.wantsStandIn 49 = false by kernel_rfl)
  · exact (show Tryz.prog.wantsStandIn 5 = false by kernel_rfl)

end Go.Proofs.YtdjaphcelpchaaaGreatDoor.overviewOrder
namespace Go.Proofs.YtdjaphcelpchaaaGreatDoor
open Go
theorem overviewOrder_card : Rows.OverviewOrderCardSaid :=
  Claim7.holds_tied_plain_at .later [] _ _ _ _ overviewOrder.said (fun _ h => by cases h) (by kernel_rfl) (fun _ h => by cases h) overviewOrder_row_tie rfl ⟨rfl, rfl⟩ (by kernel_rfl) rfl overviewOrder.plain (by kernel_rfl)
#print axioms overviewOrder_card
end Go.Proofs.YtdjaphcelpchaaaGreatDoor
