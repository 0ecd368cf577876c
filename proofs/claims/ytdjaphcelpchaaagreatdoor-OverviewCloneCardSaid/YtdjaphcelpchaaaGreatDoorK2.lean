/- Parts of the proofs about bulletinlaw28: Print, ScanNum, ScanId, Split, Set, SetRefs, RefsSet, Part, Parse, ParseWalk. -/
import Derived.Test.YtdjaphcelpchaaaGreatDoorShelf
import Derived.Test.YtdjaphcelpchaaaGreatDoorK1
import Derived.Lib.SplitLaws
import Derived.Great.BuildSlice

/- The text of a line: overview.lineText, overview.Print and bulletinref28.Print. -/
namespace Go.Proofs.YtdjaphcelpchaaaGreatDoor
open Go Go.RowKit Go.Proofs

attribute [local go_sem ↓] ex_load_id ex_store_id ex_load_line ex_store_line ex_load_rline ex_store_rline
attribute [local go_sem] ld_id st_id ld_line st_line ld_rline st_rline guard_id okCells_drew rdCells_drew okCells_drewN rdCells_drewN ok_alloc rd_alloc rowOk_drew rowOk_new rowOk_alloc setRow_drew setRow_new setRow_past fits_id ok_new_id rd_new_id
attribute [local go_sem] lc0 lc33 lc34 lc35 lc36 lc37 rc0 rc1 rc34 rc35 rc36 rc37 rc38 ok_new_line rd_new_line ok_new_rline rd_new_rline ok_line_id rd_line_id ok_rline_id rd_rline_id

/-- The references in hexadecimal, and their text. -/
def hexS (x : Id32) : ByteArray := str (hexOf x)
def refsTxt (ids : List Id32) : List UInt8 := joinS (ids.map hexS) [44]
/-- The seven parts of a line's text, and the text. -/
def lineParts (n : Nat) (id : Id32) (name : ByteArray) (d : Nat) (subject : ByteArray) (ids : List Id32) (b : Nat) : List ByteArray :=
  [str (Lib.decDigits n), hexS id, name, str (Lib.decDigits d), subject, str (refsTxt ids), str (Lib.decDigits b)]
def lineTxt (n : Nat) (id : Id32) (name : ByteArray) (d : Nat) (subject : ByteArray) (ids : List Id32) (b : Nat) : List UInt8 := joinS (lineParts n id name d subject ids b) [9]

theorem joinS_length_le : ∀ (xs : List ByteArray) (sep : List UInt8) (m : Nat), (∀ x ∈ xs, x.size ≤ m) → (joinS xs sep).length ≤ xs.length * (m + sep.length) := by
  intro xs sep m h
  have all : ∀ k, (joinS (xs.take k) sep).length ≤ k * (m + sep.length) := by
    intro k
    induction k with
    | zero => simp [joinS, Lib.join_nil]
    | succ k ih =>
      by_cases hlt : k < xs.length
      · rw [joinS_snoc _ _ _ hlt]
        have hx := h xs[k] (List.getElem_mem hlt)
        rw [Nat.succ_mul]
        split
        · rw [size_list]; omega
        · rw [List.length_append, List.length_append, size_list]; omega
      · rw [List.take_of_length_le (by omega)] at ih ⊢
        rw [Nat.succ_mul]; omega
  have := all xs.length
  rwa [List.take_length] at this

theorem hexS_size (x : Id32) : (hexS x).size = 64 := by unfold hexS; rw [str_size, hexOf_length]
theorem refsTxt_le (ids : List Id32) (h : ids.length ≤ 20) : (refsTxt ids).length ≤ 1300 := by
  have := joinS_length_le (ids.map hexS) [44] 64 (fun x hx => by
    simp only [List.mem_map] at hx
    obtain ⟨y, _, rfl⟩ := hx
    rw [hexS_size]; omega)
  unfold refsTxt
  rw [List.length_map] at this
  simp at this
  omega
theorem lineTxt_le (n : Nat) (id : Id32) (name : ByteArray) (d : Nat) (subject : ByteArray) (ids : List Id32) (b : Nat) (hn : n ≤ 9223372036854775807) (hd : d ≤ 9223372036854775807) (hb : b ≤ 9223372036854775807)
    (h1 : name.size ≤ 1300) (h2 : subject.size ≤ 1300) (h3 : ids.length ≤ 20) : (lineTxt n id name d subject ids b).length ≤ 10000 := by
  have := joinS_length_le (lineParts n id name d subject ids b) [9] 1300 (fun x hx => by
    simp only [lineParts, List.mem_cons, List.mem_nil_iff, or_false] at hx
    have e1 := decDigits_len n hn
    have e2 := decDigits_len d hd
    have e3 := decDigits_len b hb
    rcases hx with rfl | rfl | rfl | rfl | rfl | rfl | rfl
    · rw [str_size]; omega
    · rw [hexS_size]; omega
    · exact h1
    · rw [str_size]; omega
    · exact h2
    · rw [str_size]; exact refsTxt_le ids h3
    · rw [str_size]; omega)
  unfold lineTxt
  simp [lineParts] at this ⊢
  omega

def hexVals (ids : List Id32) (k : Nat) : List Value := (ids.take k).map fun x => Value.string (hexS x)
theorem Tryz.info_str : (Tryz.prog.info? 9).map (fun i => (i.zero, i.size, i.bytes)) = some (some (.string ⟨#[]⟩), 1, 16) := by kernel_rfl

theorem parts_row (w : World) (t : Nat) (s1 s2 s3 s4 s5 s6 s7 : ByteArray) : StrRow (w.alloc (.cells #[.string s1, .string s2, .string s3, .string s4, .string s5, .string s6, .string s7] t)) w.heap.size 0 [s1, s2, s3, s4, s5, s6, s7] := by
  intro j x hx
  rw [Nat.zero_add, cells_new]
  have hj := (List.getElem?_eq_some_iff.1 hx).1
  have : j = 0 ∨ j = 1 ∨ j = 2 ∨ j = 3 ∨ j = 4 ∨ j = 5 ∨ j = 6 := by simp at hj; omega
  rcases this with rfl | rfl | rfl | rfl | rfl | rfl | rfl <;> (simp at hx; subst hx; rfl)

theorem rangeErr_zero {n lo hi e : Int} (he : e ≠ 0) (h : rangeErr n lo hi e = 0) : lo ≤ n ∧ n ≤ hi := by
  unfold rangeErr at h
  split at h
  · exact absurd h he
  · omega
theorem textErr_zero {s : List UInt8} {m : Int} (h : textErr s m = 0) : (s.length : Int) ≤ m ∧ s.any badByte = false := by
  unfold textErr at h
  split at h
  · cases h
  · split at h
    · cases h
    · rename_i h1 h2
      exact ⟨by omega, by simpa using h2⟩
theorem refsErr_zero {ids : List Id32} (h : refsErr ids = 0) : ids.length ≤ 20 ∧ dupUpto ids ids.length = false := by
  unfold refsErr at h
  split at h
  · cases h
  · split at h
    · cases h
    · rename_i h1 h2
      exact ⟨by omega, by simpa using h2⟩
theorem orErr_zero : ∀ {l : List Int}, orErr l = 0 → ∀ e ∈ l, e = 0
  | [], _, e, he => by cases he
  | x :: l, h, e, he => by
    unfold orErr at h
    split at h
    · rename_i hx
      rcases List.mem_cons.1 he with rfl | he
      · exact hx
      · exact orErr_zero h e he
    · rename_i hx; exact absurd h hx
/-- What a line without errors is. -/
theorem lineErr_zero {g : GLine} {ids : List Id32} (h : lineErr g ids = 0) : (1 ≤ g.number ∧ g.number ≤ 2147483646) ∧ g.name.size ≤ 60 ∧ (0 ≤ g.date ∧ g.date ≤ 105190559) ∧ g.subject.size ≤ 200 ∧ ids.length ≤ 20 ∧ (0 ≤ g.bytes ∧ g.bytes ≤ 65536) := by
  have hz := orErr_zero h
  have h1 := rangeErr_zero (by decide) (hz (rangeErr g.number 1 2147483646 2) (by simp))
  have h2 := textErr_zero (hz (textErr g.name.data.toList 60) (by simp))
  have h3 := rangeErr_zero (by decide) (hz (rangeErr g.date 0 105190559 13) (by simp))
  have h4 := textErr_zero (hz (textErr g.subject.data.toList 200) (by simp))
  have h5 := refsErr_zero (hz (refsErr ids) (by simp))
  have h6 := rangeErr_zero (by decide) (hz (rangeErr g.bytes 0 65536 2) (by simp))
  have e2 := h2.1
  have e4 := h4.1
  rw [size_list] at e2 e4
  exact ⟨h1, by omega, h3, by omega, h5.1, h6⟩

theorem join_later {w : World} {v : Value} {xs : List ByteArray} (h : (∃ a c, v = .slice a 0 c ∧ xs = []) ∨ ∃ b off c, v = .slice (some ⟨b, off, none⟩) xs.length c ∧ xs.length ≤ c ∧ b < w.heap.size ∧ StrRow w b off xs) (z : Later w) :
    (∃ a c, v = .slice a 0 c ∧ xs = []) ∨ ∃ b off c, v = .slice (some ⟨b, off, none⟩) xs.length c ∧ xs.length ≤ c ∧ b < z.1.heap.size ∧ StrRow z.1 b off xs :=
  h.imp id fun ⟨b, off, c, h1, h2, h3, h4⟩ => ⟨b, off, c, h1, h2, Nat.lt_of_lt_of_le h3 z.2.size, fun j x hx => z.cell (h4 j x hx)⟩

set_option maxRecDepth 100000 in
set_option maxHeartbeats 2000000 in
theorem lineText_any (g : GLine) (ids : List Id32) (n d b : Nat) (w : World) (hG : Gl w) (h : LineOk w g ids) (hn : g.number = (n : Int)) (hd : g.date = (d : Int)) (hby : g.bytes = (b : Int))
    (bn : n ≤ 9223372036854775807) (bd : d ≤ 9223372036854775807) (bb : b ≤ 9223372036854775807) (h1 : g.name.size ≤ 1300) (h2 : g.subject.size ≤ 1300) (h3 : ids.length ≤ 20) :
    Calls Tryz.prog 54 #[.agg (lineCells g)] w fun r w' => r = .returned (.string (str (lineTxt n g.id g.name d g.subject ids b))) ∧ Below w.heap.size w w' := by
  obtain ⟨i0, hi, hz0, hz1, hz2⟩ := info_parts Tryz.info_str
  have hbw : Below w.heap.size w (w.alloc (.cells (lineCells g) 34)) := (Below.refl _ _).alloc (Nat.le_refl _) _
  obtain ⟨a, c, hrefs, hc, hr⟩ := (h.below hbw).refs
  have HR := Lib.hid hr
  have HBW := Lib.hid hbw
  have HREFS := Lib.hid hrefs
  clear hr hbw
  go_enter Tryz.func54, Tryz.ntmps54
  go_wp2
  obtain ⟨W, hW⟩ : ∃ W, w.alloc (.cells (lineCells g) 34) = W := ⟨_, rfl⟩
  have hWs : W.heap.size = w.heap.size + 1 := by rw [← hW]; simp
  have HW := Lib.hid hW
  have HWS := Lib.hid hWs
  rw [hW] at HR HBW ⊢
  clear hW hWs
  go_loopw [3, 5, 9] (fun t _ i wr => ∃ k : Nat, k ≤ ids.length ∧ i = .int .i64 k ∧ wr.ownsRow W.heap.size 9 1 t k (hexVals ids k) ∧ Below W.heap.size W wr) (fun _ _ i _ => ids.length - (intOf i).toNat)
  case atStart => exact ⟨0, by omega, rfl, World.ownsRow_nil _ _ _ _, Below.refl _ _⟩
  case round =>
    obtain ⟨k, hk, rfl, hown, hb⟩ := hrel
    by_cases hlt : k < ids.length
    · have hne : ids ≠ [] := by intro e; rw [e] at hlt; simp at hlt
      obtain ⟨bk, off, rfl, hrow⟩ := HR.out hne
      have hltz : (k : Int) < (ids.length : Int) := by omega
      obtain ⟨o1, d1⟩ := (hrow.below hb (hrow.lt hne)).rd hlt
      have hxk : hexVals ids (k + 1) = hexVals ids k ++ [Value.string (hexS ids[k]!)] := by
        unfold hexVals
        rw [List.take_succ_eq_append_getElem hlt, List.map_append, List.map_cons, List.map_nil, show ids[k]! = ids[k] by simp [hlt]]
      generalize hx : ids[k]! = x at d1 hxk
      have HXK := Lib.hid hxk
      have HROW := Lib.hid hrow
      clear hx hrow hxk hne
      go_wp2_with fail
      refine (idText_any x _).mono ?_
      rintro e w1 ⟨rfl, hb1⟩
      clear o1 d1
      have hbx : Below wr.heap.size wr w1 := ((Below.refl _ _).alloc (Nat.le_refl _) _).trans (hb1.mono (by simp))
      have hbW : Below W.heap.size W w1 := hb.trans (hbx.mono hb.size)
      have hown1 := (ownsRow_below hown hbx).alloc (.cells #[.string (hexS x)] 9)
      have hlt2 := fun j hj => (hown.lt j hj).1
      have HLT2 := Lib.hid hlt2
      clear hb1 hbx hb hown hlt2
      go_wp2_with (at_builtin; refine wpList_append_own _ rfl (.tmp 13) (.tmp 16) 78 rfl W.heap.size 9 i0 (.string ⟨#[]⟩) 1 16 Tryz.underlying78 hi hz0 hz1 hz2 rfl (by decide) _ _ _ rfl hown1 ⟨w1.heap.size, 0, none⟩ 1 1 [.string (hexS x)] rfl rfl ?c1 ?c2 ?c3 ?c4 ?c5 ?_)
      case c1 =>
        intro j u hj
        rw [Addr.add_lit, Nat.zero_add]
        show (w1.alloc (.cells #[.string (hexS x)] 9)).cell? ⟨w1.heap.size, j, none⟩ = some u
        rw [cells_new]
        match j, hj with
        | 0, hj => simpa using hj
      case c2 => intro u hu; simp at hu; subst hu; rfl
      case c3 => unfold maxLen; omega
      case c4 => omega
      case c5 => have := hbW.size; simp; omega
      intro v' w2 hown' hgrow _
      have hb2 : Below W.heap.size W w2 := (hbW.alloc hbW.size _).grown hgrow (by have := hbW.size; simp; omega) (fun j hj => HLT2.out j hj)
      clear hown1 hgrow
      go_wp2
      go_roundw
      case rel => exact ⟨k + 1, by omega, by go_num, by rw [HXK.out]; exact hown', hb2⟩
      case measure => simp [intOf]; omega
    · obtain rfl : k = ids.length := by omega
      have hGr : Gl wr := (hG.later HBW.out).later hb
      have c0 : ∀ z : Later wr, z.1.cell? ⟨w.heap.size, 0, none⟩ = some (.int .i64 n) := fun z => z.cell ((hb.cell (p := ⟨w.heap.size, 0, none⟩) (by rw [HWS.out]; simp)).trans (by rw [← HW.out, cells_new, lc0, hn]))
      have c33 : ∀ z : Later wr, z.1.cell? ⟨w.heap.size, 33, none⟩ = some (.string g.name) := fun z => z.cell ((hb.cell (p := ⟨w.heap.size, 33, none⟩) (by rw [HWS.out]; simp)).trans (by rw [← HW.out, cells_new, lc33]))
      have c34 : ∀ z : Later wr, z.1.cell? ⟨w.heap.size, 34, none⟩ = some (.int .i64 d) := fun z => z.cell ((hb.cell (p := ⟨w.heap.size, 34, none⟩) (by rw [HWS.out]; simp)).trans (by rw [← HW.out, cells_new, lc34, hd]))
      have c35 : ∀ z : Later wr, z.1.cell? ⟨w.heap.size, 35, none⟩ = some (.string g.subject) := fun z => z.cell ((hb.cell (p := ⟨w.heap.size, 35, none⟩) (by rw [HWS.out]; simp)).trans (by rw [← HW.out, cells_new, lc35]))
      have c37 : ∀ z : Later wr, z.1.cell? ⟨w.heap.size, 37, none⟩ = some (.int .i64 b) := fun z => z.cell ((hb.cell (p := ⟨w.heap.size, 37, none⟩) (by rw [HWS.out]; simp)).trans (by rw [← HW.out, cells_new, lc37, hby]))
      have oid : okCells wr ⟨w.heap.size, 1, none⟩ 32 = true := (rd_same (w := W) (w' := wr) (a := ⟨w.heap.size, 1, none⟩) (n := 32) (fun j _ => by rw [Addr.add_lit]; exact hb.cell (p := ⟨w.heap.size, 1 + j, none⟩) (by rw [HWS.out]; exact Nat.lt_succ_self _))).1.trans (by rw [← HW.out]; exact ok_line_id _ _ _)
      have rid : rdCells wr ⟨w.heap.size, 1, none⟩ 32 = (encId g.id).toArray := (rd_same (w := W) (w' := wr) (a := ⟨w.heap.size, 1, none⟩) (n := 32) (fun j _ => by rw [Addr.add_lit]; exact hb.cell (p := ⟨w.heap.size, 1 + j, none⟩) (by rw [HWS.out]; exact Nat.lt_succ_self _))).2.trans (by rw [← HW.out]; exact rd_line_id _ _ _)
      have oz : ∀ z : Later wr, okCells z.1 ⟨w.heap.size, 1, none⟩ 32 = true := fun z => z.ok oid
      have dz : ∀ z : Later wr, rdCells z.1 ⟨w.heap.size, 1, none⟩ 32 = (encId g.id).toArray := fun z => (z.rd oid).trans rid
      clear oid rid
      have hjv : (∃ a' c', u3 = .slice a' 0 c' ∧ ids.map hexS = []) ∨ ∃ b' off' c', u3 = .slice (some ⟨b', off', none⟩) (ids.map hexS).length c' ∧ (ids.map hexS).length ≤ c' ∧ b' < wr.heap.size ∧ StrRow wr b' off' (ids.map hexS) := by
        rcases hown.2 with ⟨e1, e2⟩ | ⟨g', cap, cur, e1, hg', hcur, hle, hmx, hcs, htk⟩
        · exact .inl ⟨none, 0, e1, by rw [List.eq_nil_of_length_eq_zero e2]; rfl⟩
        · refine .inr ⟨g', 0, cap, by rw [List.length_map]; exact e1, by rw [List.length_map]; exact hle, (Array.getElem?_eq_some_iff.1 hcur).1, fun j y hy => ?_⟩
          rw [e1] at hown
          have hj : j < ids.length := by have := (List.getElem?_eq_some_iff.1 hy).1; simpa using this
          rw [Nat.zero_add, hown.cellAt j (by omega)]
          unfold hexVals
          rw [List.take_length]
          rw [List.getElem?_map] at hy ⊢
          cases hq : ids[j]? with
          | none => rw [hq] at hy; cases hy
          | some q => rw [hq] at hy; simp only [Option.map_some, Option.some.injEq] at hy ⊢; rw [hy]
      have hjl : (joinS (ids.map hexS) [44]).length ≤ 140737488355328 := by have := refsTxt_le ids h3; unfold refsTxt at this; omega
      have HJV := Lib.hid hjv
      clear hjv hown
      have hge : ¬ ((ids.length : Int) < (ids.length : Int)) := by omega
      go_wp2
      refine wp_region_ht 18 (fun w' => ∃ z : Later wr, w' = z.1) (by kernel_rfl) (by kernel_rfl) ⟨⟨_, (Below.refl _ _).drew⟩, rfl⟩ ?_
      simp only [List.take_succ_cons, List.take_zero, List.drop_succ_cons, List.drop_zero]
      repeat (go_big_quiet_step (first | (go_at_call 81; exact Later.call (itoa_any _ _ (by assumption) (hGr.later (Subtype.property _)))) | (go_at_call 92; exact Later.call (idText_any _ _)) | (go_at_call 93; exact Later.call (join_any _ (ids.map hexS) _ _ (join_later HJV.out _) hjl (by rw [List.length_map]; omega)))))
      refine wpQuiet_nil ?_
      rintro _ ⟨z, rfl⟩
      have hz := z.2
      generalize z.1 = wz at hz ⊢
      clear c0 c33 c34 c35 c37 oz dz
      go_wp2_with fail
      have hJ := join_any (.slice (some ⟨wz.heap.size, 0, none⟩) 7 7) (lineParts n g.id g.name d g.subject ids b) ⟨#[9]⟩ (wz.alloc (.cells #[.string (str (Lib.decDigits n)), .string (str (hexOf g.id)), .string g.name, .string (str (Lib.decDigits d)), .string g.subject, .string (str (joinS (ids.map hexS) [44])), .string (str (Lib.decDigits b))] 9))
        (.inr ⟨wz.heap.size, 0, 7, rfl, by simp [lineParts], by simp, parts_row _ _ _ _ _ _ _ _ _⟩) (by have := lineTxt_le n g.id g.name d g.subject ids b bn bd bb h1 h2 h3; unfold lineTxt at this; exact Nat.le_trans this (by omega)) (by simp [lineParts])
      refine hJ.mono ?_
      rintro e w3 ⟨rfl, hb3⟩
      clear hJ
      go_wp2
      go_ret
      refine ⟨rfl, ?_⟩
      have k1 : Below w.heap.size w wz := HBW.out.trans ((hb.trans (hz.mono hb.size)).mono HBW.out.size)
      exact (k1.alloc k1.size _).trans (hb3.mono (by have := k1.size; simp; omega))

set_option maxHeartbeats 1000000 in
theorem print_any (g : GLine) (ids : List Id32) (w : World) (hG : Gl w) (h : LineOk w g ids) :
    Calls Tryz.prog 16 #[.agg (lineCells g)] w fun r w' => r = .returned (.tuple #[.string (if lineErr g ids = 0 then str (lineTxt g.number.toNat g.id g.name g.date.toNat g.subject ids g.bytes.toNat) else ⟨#[]⟩), .int .i64 (lineErr g ids)]) ∧ Below w.heap.size w w' := by
  have hbw : Below w.heap.size w (w.alloc (.cells (lineCells g) 34)) := (Below.refl _ _).alloc (Nat.le_refl _) _
  have hok := h.below hbw
  have HOK := Lib.hid hok
  have HBW := Lib.hid hbw
  clear hok hbw
  by_cases he : lineErr g ids = 0
  · obtain ⟨e1, e2, e3, e4, e5, e6⟩ := lineErr_zero he
    have HE := Lib.hid he
    clear he
    have z0 : ((0 : Int) != 0) = false := rfl
    go_enter Tryz.func16, Tryz.ntmps16
    go_wp2_with fail
    refine (lineCheck_any g ids _ HOK.out).mono ?_
    rintro e w1 ⟨rfl, hb1⟩
    rw [HE.out]
    have hb1' : Below (w.heap.size + 1) (w.alloc (.cells (lineCells g) 34)) w1 := by simpa using hb1
    have o1 : okCells w1 ⟨w.heap.size, 0, none⟩ 38 = true := (rd_same (fun j _ => by rw [Addr.add_lit]; exact hb1'.cell (p := ⟨w.heap.size, 0 + j, none⟩) (Nat.lt_succ_self _))).1.trans (ok_new_line w g 34)
    have d1 : rdCells w1 ⟨w.heap.size, 0, none⟩ 38 = lineCells g := (rd_same (fun j _ => by rw [Addr.add_lit]; exact hb1'.cell (p := ⟨w.heap.size, 0 + j, none⟩) (Nat.lt_succ_self _))).2.trans (rd_new_line w g 34)
    clear hb1'
    go_wp2_with fail
    refine (lineText_any g ids g.number.toNat g.date.toNat g.bytes.toNat w1 ((hG.later HBW.out).later hb1) (HOK.out.below hb1) (by omega) (by omega) (by omega) (by omega) (by omega) (by omega) (by omega) (by omega) (by omega)).mono ?_
    rintro e w2 ⟨rfl, hb2⟩
    go_wp2
    go_ret2
    refine ⟨by first | rfl | rw [if_pos HE.out, HE.out]; rfl, ?_⟩
    have k1 := HBW.out.trans (hb1.mono HBW.out.size)
    exact k1.trans (hb2.mono k1.size)
  · have HE := Lib.hid he
    have z0 : (lineErr g ids != 0) = true := by simp [he]
    clear he
    go_enter Tryz.func16, Tryz.ntmps16
    go_wp2_with fail
    refine (lineCheck_any g ids _ HOK.out).mono ?_
    rintro e w1 ⟨rfl, hb1⟩
    go_wp2
    go_ret2
    refine ⟨by first | rfl | rw [if_neg HE.out]; rfl, ?_⟩
    exact HBW.out.trans (hb1.mono HBW.out.size)


theorem refsTxt_snoc (ids : List Id32) (k : Nat) (h : k < ids.length) : refsTxt (ids.take (k + 1)) = if k = 0 then hexOf ids[k] else refsTxt (ids.take k) ++ [44] ++ hexOf ids[k] := by
  unfold refsTxt
  have hk : k < (ids.map hexS).length := by simpa using h
  have := joinS_snoc (ids.map hexS) [44] k hk
  rw [← List.map_take, ← List.map_take] at this
  rw [this]
  simp [hexS, str_list]

set_option maxRecDepth 100000 in
set_option maxHeartbeats 2000000 in
theorem refPrint_any (s : ByteArray) (g : GLine) (ids : List Id32) (n d b : Nat) (w : World) (h : LineOk w g ids) (hn : g.number = (n : Int)) (hd : g.date = (d : Int)) (hby : g.bytes = (b : Int))
    (bn : n ≤ 9223372036854775807) (bd : d ≤ 9223372036854775807) (bb : b ≤ 9223372036854775807) (h1 : g.name.size ≤ 1300) (h2 : g.subject.size ≤ 1300) (h3 : ids.length ≤ 20) :
    Calls Tryz.prog 20 #[.agg (rlineCells s g)] w fun r w' => r = .returned (.string (str (lineTxt n g.id g.name d g.subject ids b))) ∧ Below w.heap.size w w' := by
  have hbw : Below w.heap.size w (w.alloc (.cells (rlineCells s g) 26)) := (Below.refl _ _).alloc (Nat.le_refl _) _
  obtain ⟨a, c, hrefs, hc, hr⟩ := (h.below hbw).refs
  have HR := Lib.hid hr
  have HBW := Lib.hid hbw
  clear hr hbw
  go_enter Tryz.func20, Tryz.ntmps20
  go_wp2
  obtain ⟨W, hW⟩ : ∃ W, w.alloc (.cells (rlineCells s g) 26) = W := ⟨_, rfl⟩
  have hWs : W.heap.size = w.heap.size + 1 := by rw [← hW]; simp
  have HW := Lib.hid hW
  have HWS := Lib.hid hWs
  rw [hW] at HR HBW ⊢
  clear hW hWs
  go_loopw [3, 4] (fun t i wr => ∃ k : Nat, k ≤ ids.length ∧ i = .int .i64 k ∧ t = .string (str (refsTxt (ids.take k))) ∧ Below W.heap.size W wr) (fun _ i _ => ids.length - (intOf i).toNat)
  case atStart => exact ⟨0, by omega, rfl, rfl, Below.refl _ _⟩
  case round =>
    obtain ⟨k, hk, rfl, rfl, hb⟩ := hrel
    have c37 : wr.cell? ⟨w.heap.size, 37, none⟩ = some (.slice a ids.length c) := (hb.cell (p := ⟨w.heap.size, 37, none⟩) (by rw [HWS.out]; simp)).trans (by rw [← HW.out, cells_new, rc37, hrefs])
    by_cases hlt : k < ids.length
    · have hne : ids ≠ [] := by intro e; rw [e] at hlt; simp at hlt
      obtain ⟨bk, off, rfl, hrow⟩ := HR.out hne
      have hltz : (k : Int) < (ids.length : Int) := by omega
      obtain ⟨o1, d1⟩ := (hrow.below hb (hrow.lt hne)).rd hlt
      have hxk := refsTxt_snoc ids k hlt
      have hxe : ids[k] = ids[k]! := by simp [hlt]
      rw [hxe] at hxk
      generalize hx : ids[k]! = x at d1 hxk
      have hl1 : (str (refsTxt (ids.take k))).size ≤ 1300 := by rw [str_size]; exact refsTxt_le _ (by simp; omega)
      have hl2 : (str (hexOf x)).size ≤ 64 := by rw [str_size, hexOf_length]; exact Nat.le_refl _
      clear hx hrow hne hxe
      by_cases hk0 : k = 0
      · subst hk0
        rw [if_pos rfl] at hxk
        have HXK := Lib.hid hxk
        have E0 := Lib.hid (show str (refsTxt (List.take 0 ids)) = ⟨#[]⟩ from rfl)
        clear hxk hl1
        rw [E0.out, show ((0 : Nat) : Int) = 0 from rfl]
        rw [Nat.zero_mul, Nat.add_zero] at o1 d1
        go_wp2_with fail
        refine (hex_any x _).mono ?_
        rintro e w1 ⟨rfl, hb1⟩
        go_wp2
        go_roundw
        case rel => exact ⟨1, by omega, rfl, by rw [HXK.out]; exact congrArg Value.string (str_append' [] _), hb.trans (hb1.mono hb.size)⟩
        case measure => simp [intOf]; omega
      · rw [if_neg hk0] at hxk
        have HXK := Lib.hid hxk
        have hkz : (0 : Int) < (k : Int) := by omega
        clear hxk
        go_wp2_with fail
        refine (hex_any x _).mono ?_
        rintro e w1 ⟨rfl, hb1⟩
        go_wp2
        go_roundw
        case rel => exact ⟨k + 1, by omega, by go_num, by rw [HXK.out, ← str_append, ← str_append]; rfl, hb.trans (hb1.mono hb.size)⟩
        case measure => simp [intOf]; omega
    · obtain rfl : k = ids.length := by omega
      rw [List.take_length]
      have c1 : ∀ z : Later wr, z.1.cell? ⟨w.heap.size, 1, none⟩ = some (.int .i64 n) := fun z => z.cell ((hb.cell (p := ⟨w.heap.size, 1, none⟩) (by rw [HWS.out]; simp)).trans (by rw [← HW.out, cells_new, rc1, hn]))
      have c34 : ∀ z : Later wr, z.1.cell? ⟨w.heap.size, 34, none⟩ = some (.string g.name) := fun z => z.cell ((hb.cell (p := ⟨w.heap.size, 34, none⟩) (by rw [HWS.out]; simp)).trans (by rw [← HW.out, cells_new, rc34]))
      have c35 : ∀ z : Later wr, z.1.cell? ⟨w.heap.size, 35, none⟩ = some (.int .i64 d) := fun z => z.cell ((hb.cell (p := ⟨w.heap.size, 35, none⟩) (by rw [HWS.out]; simp)).trans (by rw [← HW.out, cells_new, rc35, hd]))
      have c36 : ∀ z : Later wr, z.1.cell? ⟨w.heap.size, 36, none⟩ = some (.string g.subject) := fun z => z.cell ((hb.cell (p := ⟨w.heap.size, 36, none⟩) (by rw [HWS.out]; simp)).trans (by rw [← HW.out, cells_new, rc36]))
      have c38 : ∀ z : Later wr, z.1.cell? ⟨w.heap.size, 38, none⟩ = some (.int .i64 b) := fun z => z.cell ((hb.cell (p := ⟨w.heap.size, 38, none⟩) (by rw [HWS.out]; simp)).trans (by rw [← HW.out, cells_new, rc38, hby]))
      have oid : okCells wr ⟨w.heap.size, 2, none⟩ 32 = true := (rd_same (w := W) (w' := wr) (a := ⟨w.heap.size, 2, none⟩) (n := 32) (fun j _ => by rw [Addr.add_lit]; exact hb.cell (p := ⟨w.heap.size, 2 + j, none⟩) (by rw [HWS.out]; exact Nat.lt_succ_self _))).1.trans (by rw [← HW.out]; exact ok_rline_id _ _ _ _)
      have rid : rdCells wr ⟨w.heap.size, 2, none⟩ 32 = (encId g.id).toArray := (rd_same (w := W) (w' := wr) (a := ⟨w.heap.size, 2, none⟩) (n := 32) (fun j _ => by rw [Addr.add_lit]; exact hb.cell (p := ⟨w.heap.size, 2 + j, none⟩) (by rw [HWS.out]; exact Nat.lt_succ_self _))).2.trans (by rw [← HW.out]; exact rd_rline_id _ _ _ _)
      have oz : ∀ z : Later wr, okCells z.1 ⟨w.heap.size, 2, none⟩ 32 = true := fun z => z.ok oid
      have dz : ∀ z : Later wr, rdCells z.1 ⟨w.heap.size, 2, none⟩ 32 = (encId g.id).toArray := fun z => (z.rd oid).trans rid
      clear oid rid
      have hge : ¬ ((ids.length : Int) < (ids.length : Int)) := by omega
      go_wp2
      refine wp_region_ht 17 (fun w' => ∃ z : Later wr, w' = z.1) (by kernel_rfl) (by kernel_rfl) ⟨⟨_, (Below.refl _ _).drew⟩, rfl⟩ ?_
      simp only [List.take_succ_cons, List.take_zero, List.drop_succ_cons, List.drop_zero]
      repeat (go_big_quiet_step (first | (go_at_call 63; exact Later.call (decimal_any _ _ (by assumption))) | (go_at_call 61; exact Later.call (hex_any _ _))))
      refine wpQuiet_nil ?_
      rintro _ ⟨z, rfl⟩
      have hz := z.2
      generalize z.1 = wz at hz ⊢
      clear c1 c34 c35 c36 c38 oz dz c37
      go_wp2_with fail
      have hJ := text12_any wz.heap.size 0 7 (lineParts n g.id g.name d g.subject ids b) ⟨#[9]⟩ (wz.alloc (.cells #[.string (str (Lib.decDigits n)), .string (str (hexOf g.id)), .string g.name, .string (str (Lib.decDigits d)), .string g.subject, .string (str (refsTxt ids)), .string (str (Lib.decDigits b))] 9))
        (parts_row _ _ _ _ _ _ _ _ _) (by have := lineTxt_le n g.id g.name d g.subject ids b bn bd bb h1 h2 h3; unfold lineTxt at this; exact Nat.le_trans this (by omega)) (by simp [lineParts])
      refine hJ.mono ?_
      rintro e w3 ⟨rfl, rfl⟩
      clear hJ
      go_wp2
      go_ret
      refine ⟨rfl, ?_⟩
      have k1 : Below w.heap.size w wz := HBW.out.trans ((hb.trans (hz.mono hb.size)).mono HBW.out.size)
      exact k1.alloc k1.size _

end Go.Proofs.YtdjaphcelpchaaaGreatDoor

/- Reading numbers: overview.parseNumber and bulletinref28.number return what numOk and numVal tell. -/
namespace Go.Proofs.YtdjaphcelpchaaaGreatDoor
open Go Go.RowKit Go.Proofs

def isDig (c : UInt8) : Bool := decide (48 ≤ (c.toNat : Int)) && decide ((c.toNat : Int) ≤ 57)
def decVal (l : List UInt8) : Nat := l.foldl (fun n c => 10 * n + (c.toNat - 48)) 0
def numOk (l : List UInt8) : Bool := decide (1 ≤ l.length ∧ l.length ≤ 10) && !(decide (1 < l.length) && l.head? == some 48) && l.all isDig
def numVal (l : List UInt8) : Nat := if numOk l then decVal l else 0

theorem decVal_snoc (l : List UInt8) (c : UInt8) : decVal (l ++ [c]) = 10 * decVal l + (c.toNat - 48) := by simp [decVal]
theorem decVal_lt : ∀ (k : Nat) (l : List UInt8), l.length ≤ k → l.all isDig = true → decVal l < 10 ^ l.length := by
  intro k
  induction k with
  | zero => intro l h _; rw [List.eq_nil_of_length_eq_zero (l := l) (by omega)]; simp [decVal]
  | succ k ih =>
    intro l h hd
    by_cases hl : l = []
    · subst hl; simp [decVal]
    · have e := List.dropLast_concat_getLast hl
      have hlen : l.length = l.dropLast.length + 1 := by
        have := congrArg List.length e
        rw [List.length_append] at this
        simpa using this.symm
      rw [← e, List.all_append, Bool.and_eq_true] at hd
      have h1 := ih l.dropLast (by omega) hd.1
      have h2 : isDig (l.getLast hl) = true := by simpa using hd.2
      simp only [isDig, Bool.and_eq_true, decide_eq_true_eq] at h2
      have h3 : decVal l = 10 * decVal l.dropLast + ((l.getLast hl).toNat - 48) := by
        conv => lhs; rw [← e]
        exact decVal_snoc _ _
      rw [h3, hlen, Nat.pow_succ]
      omega

theorem isDig_iff (c : UInt8) : isDig c = true ↔ 48 ≤ (c.toNat : Int) ∧ (c.toNat : Int) ≤ 57 := by simp [isDig]
theorem numOk_long {s : ByteArray} (h : s.size = 0 ∨ 10 < s.size) : numOk s.data.toList = false := by
  unfold numOk
  rw [size_list]
  rw [show decide (1 ≤ s.size ∧ s.size ≤ 10) = false by simp; omega]
  rfl
theorem numOk_zero {s : ByteArray} (h : 1 < s.size) (h0 : s[0]'(by omega) = 48) : numOk s.data.toList = false := by
  unfold numOk
  have e : s.data.toList.head? = some 48 := by
    rw [List.head?_eq_getElem?, List.getElem?_eq_getElem (show 0 < s.data.toList.length by rw [size_list]; omega)]
    exact congrArg some h0
  rw [e, size_list, show decide (1 < s.size) = true by simpa using h]
  simp
theorem numOk_bad {s : ByteArray} {k : Nat} (h : k < s.size) (hb : isDig s[k] = false) : numOk s.data.toList = false := by
  unfold numOk
  rw [show s.data.toList.all isDig = false from List.all_eq_false.2 ⟨s[k], mem_byte s k h, by simp [hb]⟩]
  simp
theorem numOk_yes {s : ByteArray} (h1 : 1 ≤ s.size) (h2 : s.size ≤ 10) (h3 : ¬ (1 < s.size ∧ s[0]'(by omega) = 48)) (h4 : s.data.toList.all isDig = true) : numOk s.data.toList = true := by
  unfold numOk
  rw [h4, size_list, show decide (1 ≤ s.size ∧ s.size ≤ 10) = true by simp; omega]
  by_cases hl : 1 < s.size
  · have h0 : s[0]'(by omega) ≠ 48 := fun e => h3 ⟨hl, e⟩
    have e : s.data.toList.head? = some (s[0]'(by omega)) := by
      rw [List.head?_eq_getElem?, List.getElem?_eq_getElem (show 0 < s.data.toList.length by rw [size_list]; omega)]
      rfl
    rw [e]
    simp [h0]
  · simp [hl]
theorem numVal_no {l : List UInt8} (h : numOk l = false) : numVal l = 0 := by unfold numVal; rw [h]; rfl
theorem numVal_yes {l : List UInt8} (h : numOk l = true) : numVal l = decVal l := by unfold numVal; rw [h]; rfl
theorem numVal_lt (l : List UInt8) : numVal l < 10000000000 := by
  unfold numVal
  split
  · rename_i h
    simp only [numOk, Bool.and_eq_true, decide_eq_true_eq] at h
    have h1 := decVal_lt l.length l (Nat.le_refl _) h.2
    have h2 : 10 ^ l.length ≤ 10 ^ 10 := Nat.pow_le_pow_right (by omega) h.1.1.2
    omega
  · omega
theorem ret_num {a b : Int} {x y : Bool} (h1 : a = b) (h2 : x = y) : Ending.returned (.tuple #[.int .i64 a, .bool x]) = .returned (.tuple #[.int .i64 b, .bool y]) := by rw [h1, h2]

theorem dig_snoc {s : ByteArray} {k : Nat} (h : k < s.size) (ha : (s.data.toList.take k).all isDig = true) (hd : isDig s[k] = true) : (s.data.toList.take (k + 1)).all isDig = true := by
  rw [take_snoc s k h, List.all_append, ha]; simp [hd]
theorem dec_step {s : ByteArray} {k : Nat} (h : k < s.size) : decVal (s.data.toList.take (k + 1)) = 10 * decVal (s.data.toList.take k) + (s[k].toNat - 48) := by
  rw [take_snoc s k h, decVal_snoc]
theorem dec_small {s : ByteArray} {k : Nat} (hs : s.size ≤ 10) (ha : (s.data.toList.take k).all isDig = true) : decVal (s.data.toList.take k) < 10000000000 := by
  have h1 := decVal_lt _ _ (Nat.le_refl _) ha
  have h2 : (s.data.toList.take k).length ≤ 10 := by rw [List.length_take, size_list]; omega
  have h3 : 10 ^ (s.data.toList.take k).length ≤ 10 ^ 10 := Nat.pow_le_pow_right (by omega) h2
  omega

set_option maxRecDepth 100000 in
set_option maxHeartbeats 1000000 in
theorem parseNumber_any (s : ByteArray) (w : World) (hs : s.size ≤ maxLen) :
    Calls Tryz.prog 122 #[.string s] w fun r w' => r = .returned (.tuple #[.int .i64 (numVal s.data.toList), .bool (numOk s.data.toList)]) ∧ w = w' := by
  unfold maxLen at hs
  by_cases h0 : s.size = 0
  · have hno := numOk_long (s := s) (.inl h0)
    have hf := Lib.hid (And.intro (numVal_no hno) hno)
    have he : s.toList = [] := by rw [ByteArray.toList_eq]; exact List.eq_nil_of_length_eq_zero (by rw [size_list]; exact h0)
    have he2 : s.toList.isEmpty = true := by rw [he]; rfl
    clear hno he
    go_enter Tryz.func122, Tryz.ntmps122
    go_wp2
    go_ret2
    exact ⟨ret_num (by rw [hf.out.1]; rfl) hf.out.2.symm, rfl⟩
  have he2 : s.toList.isEmpty = false := by
    rw [ByteArray.toList_eq]
    cases hq : s.data.toList with
    | nil => exact absurd (by rw [← size_list, hq]; rfl) h0
    | cons a l => rfl
  by_cases h1 : 10 < s.size
  · have hno := numOk_long (s := s) (.inr h1)
    have hf := Lib.hid (And.intro (numVal_no hno) hno)
    have h1z : (10 : Int) < (s.size : Int) := by omega
    clear hno
    go_enter Tryz.func122, Tryz.ntmps122
    go_wp2
    go_ret2
    exact ⟨ret_num (by rw [hf.out.1]; rfl) hf.out.2.symm, rfl⟩
  have h1z : ¬ (10 : Int) < (s.size : Int) := by omega
  by_cases hl : 1 < s.size
  · have hlz : (1 : Int) < (s.size : Int) := by omega
    have h0z : (0 : Int) < (s.size : Int) := by omega
    have h0n : 0 < s.size := by omega
    by_cases hc0 : s[0] = 48
    · have hno := numOk_zero hl hc0
      have hf := Lib.hid (And.intro (numVal_no hno) hno)
      have hb0 : ((s[0].toNat : Int) == 48) = true := by rw [hc0]; rfl
      clear hno hc0
      go_enter Tryz.func122, Tryz.ntmps122
      go_wp2
      go_ret2
      exact ⟨ret_num (by rw [hf.out.1]; rfl) hf.out.2.symm, rfl⟩
    · have hb0 : ((s[0].toNat : Int) == 48) = false := by
        rw [beq_eq_false_iff_ne]
        intro e
        exact hc0 (UInt8.toNat_inj.1 (by have : s[0].toNat = 48 := by exact_mod_cast e
                                         rw [this]; rfl))
      have HNZ := Lib.hid (show ¬ (1 < s.size ∧ s[0] = 48) from fun h => hc0 h.2)
      clear hc0
      go_enter Tryz.func122, Tryz.ntmps122
      go_wp2
      go_loop [4, 5, 25] (fun n _ i => ∃ k : Nat, k ≤ s.size ∧ i = .int .i64 k ∧ n = .int .i64 (decVal (s.data.toList.take k)) ∧ (s.data.toList.take k).all isDig = true) (fun _ _ i => s.size - (intOf i).toNat)
      case atStart => exact ⟨0, by omega, rfl, rfl, rfl⟩
      case round =>
        obtain ⟨k, hk, rfl, rfl, ha⟩ := hrel
        have hsm := dec_small (s := s) (k := k) (by omega) ha
        have HA := Lib.hid ha
        clear ha
        by_cases hlt : k < s.size
        · have hst := Lib.hid (dec_step hlt)
          have hltz : (k : Int) < (s.size : Int) := by omega
          generalize decVal (s.data.toList.take k) = v at hsm hst ⊢
          by_cases hd1 : (s[k].toNat : Int) < 48
          · have hno := numOk_bad hlt (show isDig s[k] = false by simp only [isDig, Bool.and_eq_false_iff, decide_eq_false_iff_not]; omega)
            have hf := Lib.hid (And.intro (numVal_no hno) hno)
            clear hno
            go_wp2
            go_ret2
            exact ⟨ret_num (by rw [hf.out.1]; rfl) hf.out.2.symm, rfl⟩
          · by_cases hd2 : (57 : Int) < (s[k].toNat : Int)
            · have hno := numOk_bad hlt (show isDig s[k] = false by simp only [isDig, Bool.and_eq_false_iff, decide_eq_false_iff_not]; omega)
              have hf := Lib.hid (And.intro (numVal_no hno) hno)
              clear hno
              go_wp2
              go_ret2
              exact ⟨ret_num (by rw [hf.out.1]; rfl) hf.out.2.symm, rfl⟩
            · have hn := Lib.hid (dig_snoc hlt HA.out ((isDig_iff _).2 ⟨by omega, by omega⟩))
              go_wp2
              go_round
              case rel => exact ⟨k + 1, by omega, by go_num, by rw [hst.out]; go_num, hn.out⟩
              case measure => simp [intOf]; omega
        · have hall : s.data.toList.take k = s.data.toList := List.take_of_length_le (by rw [size_list]; omega)
          have hyes := numOk_yes (s := s) (by omega) (by omega) HNZ.out (by rw [← hall]; exact HA.out)
          have hf := Lib.hid (show (decVal (s.data.toList.take k) : Int) = numVal s.data.toList ∧ true = numOk s.data.toList from ⟨by rw [numVal_yes hyes, hall], hyes.symm⟩)
          clear hall hyes
          go_wp2
          go_ret2
          exact ⟨ret_num hf.out.1 hf.out.2, rfl⟩
  · have hlz : ¬ (1 : Int) < (s.size : Int) := by omega
    have h0n : 0 < s.size := by omega
    have HNZ := Lib.hid (show ¬ (1 < s.size ∧ s[0] = 48) from fun h => hl h.1)
    go_enter Tryz.func122, Tryz.ntmps122
    go_wp2
    go_loop [4, 5, 25] (fun n _ i => ∃ k : Nat, k ≤ s.size ∧ i = .int .i64 k ∧ n = .int .i64 (decVal (s.data.toList.take k)) ∧ (s.data.toList.take k).all isDig = true) (fun _ _ i => s.size - (intOf i).toNat)
    case atStart => exact ⟨0, by omega, rfl, rfl, rfl⟩
    case round =>
      obtain ⟨k, hk, rfl, rfl, ha⟩ := hrel
      have hsm := dec_small (s := s) (k := k) (by omega) ha
      have HA := Lib.hid ha
      clear ha
      by_cases hlt : k < s.size
      · have hst := Lib.hid (dec_step hlt)
        have hltz : (k : Int) < (s.size : Int) := by omega
        generalize decVal (s.data.toList.take k) = v at hsm hst ⊢
        by_cases hd1 : (s[k].toNat : Int) < 48
        · have hno := numOk_bad hlt (show isDig s[k] = false by simp only [isDig, Bool.and_eq_false_iff, decide_eq_false_iff_not]; omega)
          have hf := Lib.hid (And.intro (numVal_no hno) hno)
          clear hno
          go_wp2
          go_ret2
          exact ⟨ret_num (by rw [hf.out.1]; rfl) hf.out.2.symm, rfl⟩
        · by_cases hd2 : (57 : Int) < (s[k].toNat : Int)
          · have hno := numOk_bad hlt (show isDig s[k] = false by simp only [isDig, Bool.and_eq_false_iff, decide_eq_false_iff_not]; omega)
            have hf := Lib.hid (And.intro (numVal_no hno) hno)
            clear hno
            go_wp2
            go_ret2
            exact ⟨ret_num (by rw [hf.out.1]; rfl) hf.out.2.symm, rfl⟩
          · have hn := Lib.hid (dig_snoc hlt HA.out ((isDig_iff _).2 ⟨by omega, by omega⟩))
            go_wp2
            go_round
            case rel => exact ⟨k + 1, by omega, by go_num, by rw [hst.out]; go_num, hn.out⟩
            case measure => simp [intOf]; omega
      · have hall : s.data.toList.take k = s.data.toList := List.take_of_length_le (by rw [size_list]; omega)
        have hyes := numOk_yes (s := s) (by omega) (by omega) HNZ.out (by rw [← hall]; exact HA.out)
        have hf := Lib.hid (show (decVal (s.data.toList.take k) : Int) = numVal s.data.toList ∧ true = numOk s.data.toList from ⟨by rw [numVal_yes hyes, hall], hyes.symm⟩)
        clear hall hyes
        go_wp2
        go_ret2
        exact ⟨ret_num hf.out.1 hf.out.2, rfl⟩

set_option maxRecDepth 100000 in
set_option maxHeartbeats 1000000 in
theorem number_any (s : ByteArray) (w : World) (hs : s.size ≤ maxLen) :
    Calls Tryz.prog 99 #[.string s] w fun r w' => r = .returned (.tuple #[.int .i64 (numVal s.data.toList), .bool (numOk s.data.toList)]) ∧ w = w' := by
  unfold maxLen at hs
  by_cases h0 : s.size = 0
  · have hno := numOk_long (s := s) (.inl h0)
    have hf := Lib.hid (And.intro (numVal_no hno) hno)
    have h0z : (s.size : Int) < 1 := by omega
    clear hno
    go_enter Tryz.func99, Tryz.ntmps99
    go_wp2
    go_ret2
    exact ⟨ret_num (by rw [hf.out.1]; rfl) hf.out.2.symm, rfl⟩
  have h0z : ¬ (s.size : Int) < 1 := by omega
  by_cases h1 : 10 < s.size
  · have hno := numOk_long (s := s) (.inr h1)
    have hf := Lib.hid (And.intro (numVal_no hno) hno)
    have h1z : (10 : Int) < (s.size : Int) := by omega
    clear hno
    go_enter Tryz.func99, Tryz.ntmps99
    go_wp2
    go_ret2
    exact ⟨ret_num (by rw [hf.out.1]; rfl) hf.out.2.symm, rfl⟩
  have h1z : ¬ (10 : Int) < (s.size : Int) := by omega
  have h0n : 0 < s.size := by omega
  have h0p : (0 : Int) < (s.size : Int) := by omega
  by_cases hc0 : s[0] = 48
  · have hb0 : ((s[0].toNat : Int) == 48) = true := by rw [hc0]; rfl
    by_cases hl : 1 < s.size
    · have hlz : (1 : Int) < (s.size : Int) := by omega
      have hno := numOk_zero hl hc0
      have hf := Lib.hid (And.intro (numVal_no hno) hno)
      clear hno hc0
      go_enter Tryz.func99, Tryz.ntmps99
      go_wp2
      go_ret2
      exact ⟨ret_num (by rw [hf.out.1]; rfl) hf.out.2.symm, rfl⟩
    · have hlz : ¬ (1 : Int) < (s.size : Int) := by omega
      have HNZ := Lib.hid (show ¬ (1 < s.size ∧ s[0] = 48) from fun h => hl h.1)
      clear hc0
      go_enter Tryz.func99, Tryz.ntmps99
      go_wp2
      go_loop [4, 5] (fun n i => ∃ k : Nat, k ≤ s.size ∧ i = .int .i64 k ∧ n = .int .i64 (decVal (s.data.toList.take k)) ∧ (s.data.toList.take k).all isDig = true) (fun _ i => s.size - (intOf i).toNat)
      case atStart => exact ⟨0, by omega, rfl, rfl, rfl⟩
      case round =>
        obtain ⟨k, hk, rfl, rfl, ha⟩ := hrel
        have hsm := dec_small (s := s) (k := k) (by omega) ha
        have HA := Lib.hid ha
        clear ha
        by_cases hlt : k < s.size
        · have hst := Lib.hid (dec_step hlt)
          have hltz : (k : Int) < (s.size : Int) := by omega
          generalize decVal (s.data.toList.take k) = v at hsm hst ⊢
          by_cases hd1 : (s[k].toNat : Int) < 48
          · have hno := numOk_bad hlt (show isDig s[k] = false by simp only [isDig, Bool.and_eq_false_iff, decide_eq_false_iff_not]; omega)
            have hf := Lib.hid (And.intro (numVal_no hno) hno)
            clear hno
            go_wp2
            go_ret2
            exact ⟨ret_num (by rw [hf.out.1]; rfl) hf.out.2.symm, rfl⟩
          · by_cases hd2 : (57 : Int) < (s[k].toNat : Int)
            · have hno := numOk_bad hlt (show isDig s[k] = false by simp only [isDig, Bool.and_eq_false_iff, decide_eq_false_iff_not]; omega)
              have hf := Lib.hid (And.intro (numVal_no hno) hno)
              clear hno
              go_wp2
              go_ret2
              exact ⟨ret_num (by rw [hf.out.1]; rfl) hf.out.2.symm, rfl⟩
            · have hn := Lib.hid (dig_snoc hlt HA.out ((isDig_iff _).2 ⟨by omega, by omega⟩))
              go_wp2
              go_round
              case rel => exact ⟨k + 1, by omega, by go_num, by rw [hst.out]; go_num, hn.out⟩
              case measure => simp [intOf]; omega
        · have hall : s.data.toList.take k = s.data.toList := List.take_of_length_le (by rw [size_list]; omega)
          have hyes := numOk_yes (s := s) (by omega) (by omega) HNZ.out (by rw [← hall]; exact HA.out)
          have hf := Lib.hid (show (decVal (s.data.toList.take k) : Int) = numVal s.data.toList ∧ true = numOk s.data.toList from ⟨by rw [numVal_yes hyes, hall], hyes.symm⟩)
          clear hall hyes
          go_wp2
          go_ret2
          exact ⟨ret_num hf.out.1 hf.out.2, rfl⟩
  · have hb0 : ((s[0].toNat : Int) == 48) = false := by
      rw [beq_eq_false_iff_ne]
      intro e
      exact hc0 (UInt8.toNat_inj.1 (by have : s[0].toNat = 48 := by exact_mod_cast e
                                       rw [this]; rfl))
    have HNZ := Lib.hid (show ¬ (1 < s.size ∧ s[0] = 48) from fun h => hc0 h.2)
    clear hc0
    go_enter Tryz.func99, Tryz.ntmps99
    go_wp2
    go_loop [4, 5] (fun n i => ∃ k : Nat, k ≤ s.size ∧ i = .int .i64 k ∧ n = .int .i64 (decVal (s.data.toList.take k)) ∧ (s.data.toList.take k).all isDig = true) (fun _ i => s.size - (intOf i).toNat)
    case atStart => exact ⟨0, by omega, rfl, rfl, rfl⟩
    case round =>
      obtain ⟨k, hk, rfl, rfl, ha⟩ := hrel
      have hsm := dec_small (s := s) (k := k) (by omega) ha
      have HA := Lib.hid ha
      clear ha
      by_cases hlt : k < s.size
      · have hst := Lib.hid (dec_step hlt)
        have hltz : (k : Int) < (s.size : Int) := by omega
        generalize decVal (s.data.toList.take k) = v at hsm hst ⊢
        by_cases hd1 : (s[k].toNat : Int) < 48
        · have hno := numOk_bad hlt (show isDig s[k] = false by simp only [isDig, Bool.and_eq_false_iff, decide_eq_false_iff_not]; omega)
          have hf := Lib.hid (And.intro (numVal_no hno) hno)
          clear hno
          go_wp2
          go_ret2
          exact ⟨ret_num (by rw [hf.out.1]; rfl) hf.out.2.symm, rfl⟩
        · by_cases hd2 : (57 : Int) < (s[k].toNat : Int)
          · have hno := numOk_bad hlt (show isDig s[k] = false by simp only [isDig, Bool.and_eq_false_iff, decide_eq_false_iff_not]; omega)
            have hf := Lib.hid (And.intro (numVal_no hno) hno)
            clear hno
            go_wp2
            go_ret2
            exact ⟨ret_num (by rw [hf.out.1]; rfl) hf.out.2.symm, rfl⟩
          · have hn := Lib.hid (dig_snoc hlt HA.out ((isDig_iff _).2 ⟨by omega, by omega⟩))
            go_wp2
            go_round
            case rel => exact ⟨k + 1, by omega, by go_num, by rw [hst.out]; go_num, hn.out⟩
            case measure => simp [intOf]; omega
      · have hall : s.data.toList.take k = s.data.toList := List.take_of_length_le (by rw [size_list]; omega)
        have hyes := numOk_yes (s := s) (by omega) (by omega) HNZ.out (by rw [← hall]; exact HA.out)
        have hf := Lib.hid (show (decVal (s.data.toList.take k) : Int) = numVal s.data.toList ∧ true = numOk s.data.toList from ⟨by rw [numVal_yes hyes, hall], hyes.symm⟩)
        clear hall hyes
        go_wp2
        go_ret2
        exact ⟨ret_num hf.out.1 hf.out.2, rfl⟩

end Go.Proofs.YtdjaphcelpchaaaGreatDoor

/- Reading identities: overview.parseId and bulletinref28.identity return what idOk and idVal tell. -/
namespace Go.Proofs.YtdjaphcelpchaaaGreatDoor
open Go Go.RowKit Go.Proofs

attribute [local go_sem ↓] ex_load_id ex_store_id ex_alloc_id ex_build_id
attribute [local go_sem] ld_id st_id guard_id okCells_drew rdCells_drew okCells_drewN rdCells_drewN rowOk_drew rowOk_cells okCells_cells rdCells_cells okArr_id rdArr_id setRow_drew setRow_new setRow_past fits_id encId_length

/-- The value of a hexadecimal digit; 16: it is none. -/
def hv (c : UInt8) : Nat := if 48 ≤ c.toNat ∧ c.toNat ≤ 57 then c.toNat - 48 else if 97 ≤ c.toNat ∧ c.toNat ≤ 102 then c.toNat - 87 else 16
def isHex (c : UInt8) : Bool := decide (hv c < 16)
def chr (l : List UInt8) (i : Nat) : UInt8 := l.getD i 0
/-- Byte j of the identity when k digits have been read. -/
def accB (l : List UInt8) (k j : Nat) : Nat := if 2 * j + 1 < k then hv (chr l (2 * j)) * 16 + hv (chr l (2 * j + 1)) else if 2 * j < k then hv (chr l (2 * j)) else 0
def accId (l : List UInt8) (k : Nat) : Id32 := ⟨(List.range 32).map fun j => UInt8.ofNat (accB l k j), by simp⟩
def idOk (l : List UInt8) : Bool := decide (l.length = 64) && l.all isHex
def idVal (l : List UInt8) : Id32 := if idOk l then accId l 64 else zeroId

theorem accId_zero (l : List UInt8) : accId l 0 = zeroId := by
  apply Subtype.ext
  simp only [accId, zeroId, accB]
  rfl
theorem accId_step (l : List UInt8) (k : Nat) (v : UInt8) (hv' : v.toNat = accB l (k + 1) (k / 2)) :
    (encId (accId l k)).toArray.setIfInBounds (k / 2) (.int .u8 v.toNat) = (encId (accId l (k + 1))).toArray := by
  apply Array.ext
  · rw [Array.size_setIfInBounds, encId_size, encId_size]
  · intro j h1 h2
    have hj : j < 32 := by rw [encId_size] at h2; exact h2
    rw [Array.getElem_setIfInBounds (by rw [encId_size]; exact hj)]
    by_cases he : k / 2 = j
    · rw [if_pos he]
      subst he
      simp only [encId, accId, List.map_map, List.getElem_toArray, List.getElem_map, List.getElem_range, Function.comp]
      rw [← hv']
      simp
    · rw [if_neg he]
      simp only [encId, accId, List.map_map, List.getElem_toArray, List.getElem_map, List.getElem_range, Function.comp]
      have : accB l k j = accB l (k + 1) j := by
        unfold accB
        by_cases c1 : 2 * j + 1 < k
        · simp [c1, show 2 * j + 1 < k + 1 by omega]
        · by_cases c2 : 2 * j < k
          · exfalso; omega
          · simp [c1, c2, show ¬ 2 * j < k + 1 by omega]
      rw [this]

theorem accB_old (l : List UInt8) (k : Nat) : accB l k (k / 2) = if k % 2 = 1 then hv (chr l (k - 1)) else 0 := by
  unfold accB
  by_cases h : k % 2 = 1
  · rw [if_pos h, if_neg (by omega), if_pos (by omega), show 2 * (k / 2) = k - 1 by omega]
  · rw [if_neg h, if_neg (by omega), if_neg (by omega)]
theorem accB_new (l : List UInt8) (k : Nat) : accB l (k + 1) (k / 2) = accB l k (k / 2) * 16 + hv (chr l k) := by
  rw [accB_old]
  unfold accB
  by_cases h : k % 2 = 1
  · rw [if_pos h, if_pos (by omega), show 2 * (k / 2) = k - 1 by omega, show k - 1 + 1 = k by omega]
  · rw [if_neg h, if_neg (by omega), if_pos (by omega), show 2 * (k / 2) = k by omega]; omega
theorem hv_le (c : UInt8) : hv c ≤ 16 := by unfold hv; split <;> (try split) <;> omega
theorem accId_get (l : List UInt8) (k : Nat) (hk : k < 64) (o : Nat) (ho : o = accB l k (k / 2)) (hlt : o < 256) : (encId (accId l k)).toArray[k / 2]? = some (.int .u8 (o : Int)) := by
  have hj : k / 2 < 32 := by omega
  have := encId_get (accId l k) (k / 2) hj
  rw [List.getElem?_toArray, this]
  simp only [accId, List.getElem_map, List.getElem_range]
  rw [← ho, UInt8.toNat_ofNat', Nat.mod_eq_of_lt (by omega)]
theorem or_nib : ∀ a : Nat, a < 16 → ∀ b : Nat, b < 16 → bits BinOp.or IntKind.u8 ((a * 16 : Nat) : Int) (b : Int) = ((a * 16 + b : Nat) : Int) := by decide +kernel

theorem results_agg2 {P : Program} {fn : Func} {p t : Tmp} {ty n : Nat} (h : fn.results = #[.cell p ty, .tmp t]) (hA : ∀ w, Sem.run P (isAgg ty) w = .ok true w) (hs : ∀ w, Sem.run P (Go.sizeOf ty) w = .ok n w)
    (tmps : Array Value) (w : World) (a : Addr) (cs : Array Value) (v : Value) (hp : tmps.getD p undef = .pointer (some a)) (hv : tmps.getD t undef = v) (hok : okCells w a n = true) (hrd : rdCells w a n = cs) :
    (results fn tmps).run P w = .ok (.tuple #[.agg cs, v]) w := by
  have hp' : tmps[p]?.getD undef = .pointer (some a) := by simpa using hp
  have hv2 : tmps[t]?.getD undef = v := by simpa using hv
  have hl : (loadVar ty a).run P w = .ok (.agg cs) w := by
    simp [loadVar, hA, hs, run_loadCells_rd w a n hok, hrd]
  simp [results, h, hp', hv2, asAddr, hl]

theorem hexIdxN : ∀ n : Nat, n < 256 → Lib.indexByte [48, 49, 50, 51, 52, 53, 54, 55, 56, 57, 97, 98, 99, 100, 101, 102] (UInt8.ofNat n) = if hv (UInt8.ofNat n) < 16 then (hv (UInt8.ofNat n) : Int) else -1 := by decide +kernel
theorem hexIdx (c : UInt8) : Lib.indexByte [48, 49, 50, 51, 52, 53, 54, 55, 56, 57, 97, 98, 99, 100, 101, 102] c = if hv c < 16 then (hv c : Int) else -1 := by
  have := hexIdxN c.toNat c.toNat_lt
  rwa [UInt8.ofNat_toNat] at this
theorem idx_any (c : UInt8) (w : World) (v : Int) (hv' : (if hv c < 16 then (hv c : Int) else -1) = v) :
    Calls Tryz.prog 131 #[.string ⟨#[48, 49, 50, 51, 52, 53, 54, 55, 56, 57, 97, 98, 99, 100, 101, 102]⟩, .int .u8 c.toNat] w fun r w' => r = .returned (.int .i64 v) ∧ w = w' := by
  refine (Tryz.strings_IndexByte _ (c.toNat : Int) w).mono ?_
  rintro e w' ⟨rfl, rfl⟩
  refine ⟨?_, rfl⟩
  have e1 : ((c.toNat : Int).toNat).toUInt8 = c := by rw [Int.toNat_natCast]; exact UInt8.ofNat_toNat
  rw [e1]
  show Ending.returned (.int .i64 (Lib.indexByte [48, 49, 50, 51, 52, 53, 54, 55, 56, 57, 97, 98, 99, 100, 101, 102] c)) = _
  rw [hexIdx, hv']

theorem idOk_len {s : ByteArray} (h : s.size ≠ 64) : idOk s.data.toList = false := by
  unfold idOk; rw [size_list]; simp [h]
theorem idOk_bad {s : ByteArray} {k : Nat} (hk : k < s.size) (h : ¬ hv s[k] < 16) : idOk s.data.toList = false := by
  unfold idOk
  rw [show s.data.toList.all isHex = false from List.all_eq_false.2 ⟨s[k], mem_byte s k hk, by simp [isHex, h]⟩]
  simp
theorem idOk_yes {s : ByteArray} (h : s.size = 64) (ha : s.data.toList.all isHex = true) : idOk s.data.toList = true := by
  unfold idOk; rw [size_list, ha, h]; rfl
theorem idVal_no {l : List UInt8} (h : idOk l = false) : idVal l = zeroId := by unfold idVal; rw [h]; rfl
theorem idVal_yes {l : List UInt8} (h : idOk l = true) : idVal l = accId l 64 := by unfold idVal; rw [h]; rfl
theorem hex_snoc {s : ByteArray} {k : Nat} (h : k < s.size) (ha : (s.data.toList.take k).all isHex = true) (hd : hv s[k] < 16) : (s.data.toList.take (k + 1)).all isHex = true := by
  rw [take_snoc s k h, List.all_append, ha]; simp [isHex, hd]
theorem chr_at (s : ByteArray) (k : Nat) (h : k < s.size) : chr s.data.toList k = s[k] := by
  unfold chr
  rw [List.getD_eq_getElem?_getD, List.getElem?_eq_getElem (show k < s.data.toList.length by rw [size_list]; exact h)]
  rfl
/-- The old half byte is small, if all digits so far are digits. -/
theorem old_small {s : ByteArray} {k : Nat} (hk : k ≤ s.size) (ha : (s.data.toList.take k).all isHex = true) : accB s.data.toList k (k / 2) < 16 := by
  rw [accB_old]
  split
  · rename_i h
    have h1 : k - 1 < s.size := by omega
    rw [chr_at s (k - 1) h1]
    have hm : s[k - 1] ∈ s.data.toList.take k := by
      rw [List.mem_take_iff_getElem]
      exact ⟨k - 1, by rw [size_list]; omega, rfl⟩
    have := List.all_eq_true.1 ha _ hm
    simpa [isHex] using this
  · omega

set_option maxRecDepth 100000 in
set_option maxHeartbeats 1000000 in
theorem parseId_any (s : ByteArray) (w : World) (hs : s.size ≤ maxLen) :
    Calls Tryz.prog 97 #[.string s] w fun r w' => r = .returned (.tuple #[.agg (encId (idVal s.data.toList)).toArray, .bool (idOk s.data.toList)]) ∧ Below w.heap.size w w' := by
  unfold maxLen at hs
  by_cases h64 : s.size = 64
  · have h64b : ((s.size : Int) != 64) = false := by rw [h64]; rfl
    have H64 := Lib.hid h64
    have hsz : (s.size : Int) ≤ 64 := by omega
    have hsz2 : (64 : Int) ≤ (s.size : Int) := by omega
    clear h64
    go_enter Tryz.func97, Tryz.ntmps97
    go_wp2
    go_loopw [5, 6, 13] (fun _ _ i wr => ∃ k : Nat, k ≤ 64 ∧ i = .int .i64 k ∧ wr = (w.alloc (.cells (encId zeroId).toArray 23)).alloc (.cells (encId (accId s.data.toList k)).toArray 23) ∧ (s.data.toList.take k).all isHex = true) (fun _ _ i _ => 64 - (intOf i).toNat)
    case atStart => exact ⟨0, by omega, rfl, by rw [accId_zero], rfl⟩
    case round =>
      obtain ⟨k, hk, rfl, rfl, ha⟩ := hrel
      by_cases hlt : k < 64
      · have hlts : k < s.size := by omega
        have hltz : (k : Int) < (s.size : Int) := by omega
        have hos := old_small (s := s) (k := k) (by omega) ha
        obtain ⟨o, ho⟩ : ∃ o, o = accB s.data.toList k (k / 2) := ⟨_, rfl⟩
        rw [← ho] at hos
        have hget := accId_get s.data.toList k hlt o ho (by omega)
        have HA := Lib.hid ha
        have HO := Lib.hid ho
        clear ha ho
        by_cases hh : hv s[k] < 16
        · obtain ⟨q, hq⟩ : ∃ q, q = hv s[k] := ⟨_, rfl⟩
          rw [← hq] at hh
          have hix := idx_any s[k] ((w.alloc (.cells (encId zeroId).toArray 23)).alloc (.cells (encId (accId s.data.toList k)).toArray 23)) (q : Int) (by rw [← hq, if_pos hh])
          have HIX := Lib.hid hix
          have hnew := Lib.hid (show ((encId (accId s.data.toList k)).set (k / 2) (.int .u8 ((o : Int) * 16 + (q : Int)))).toArray = (encId (accId s.data.toList (k + 1))).toArray by
            have h1 := accId_step s.data.toList k (UInt8.ofNat (o * 16 + q)) (by rw [UInt8.toNat_ofNat', accB_new, ← HO.out, chr_at s k hlts, ← hq]; omega)
            rw [UInt8.toNat_ofNat', Nat.mod_eq_of_lt (by omega)] at h1
            rw [← h1]
            simp)
          have hsn := Lib.hid (hex_snoc hlts HA.out (by rw [← hq]; exact hh))
          have hor := or_nib o hos q hh
          have hqz : (q : Int) < 16 := by omega
          have hoz : (o : Int) < 16 := by omega
          rw [Int.natCast_mul, show ((16 : Nat) : Int) = 16 from rfl] at hor
          clear hq hix
          go_wp2_with fail
          refine HIX.out.mono ?_
          rintro e w1 ⟨rfl, rfl⟩
          go_wp2
          go_roundw
          case rel =>
            refine ⟨k + 1, by omega, by go_num, ?_, hsn.out⟩
            rw [← hnew.out]
          case measure => simp [intOf]; omega
        · have hix := idx_any s[k] ((w.alloc (.cells (encId zeroId).toArray 23)).alloc (.cells (encId (accId s.data.toList k)).toArray 23)) (-1) (by rw [if_neg hh])
          have HIX := Lib.hid hix
          have hno := idOk_bad hlts hh
          have hf := Lib.hid (And.intro (idVal_no hno) hno)
          clear hix hno hget
          go_wp2_with fail
          refine HIX.out.mono ?_
          rintro e w1 ⟨rfl, rfl⟩
          go_wp2
          refine bodyPost_ret (v := .tuple #[.agg (encId zeroId).toArray, .bool false]) ?_ rfl ⟨by rw [hf.out.1, hf.out.2], ?_⟩
          exact results_agg2 rfl Tryz.isAgg23 Tryz.sizeOf23 _ _ ⟨w.heap.size, 0, none⟩ _ _ rfl rfl (ok_alloc _ (ok_new_id _ _ _)) ((rd_alloc _ (ok_new_id _ _ _)).trans (rd_new_id _ _ _))
          exact ((Below.refl _ _).alloc (Nat.le_refl _) _).alloc (by simp) _
      · obtain rfl : k = 64 := by omega
        have hall : s.data.toList.take 64 = s.data.toList := List.take_of_length_le (by rw [size_list, H64.out]; exact Nat.le_refl _)
        have hyes := idOk_yes H64.out (by rw [← hall]; exact ha)
        have hf := Lib.hid (And.intro (idVal_yes hyes) hyes)
        clear hall hyes ha
        have hge : ¬ ((64 : Int) < (s.size : Int)) := by omega
        rw [show ((64 : Nat) : Int) = 64 from rfl]
        go_wp2
        refine bodyPost_ret (v := .tuple #[.agg (encId (accId s.data.toList 64)).toArray, .bool true]) ?_ rfl ⟨by rw [hf.out.1, hf.out.2], ?_⟩
        exact results_agg2 rfl Tryz.isAgg23 Tryz.sizeOf23 _ _ ⟨w.heap.size, 0, none⟩ _ _ rfl rfl (ok_alloc _ (ok_new_id _ _ _)) ((rd_alloc _ (ok_new_id _ _ _)).trans (rd_new_id _ _ _))
        exact ((Below.refl _ _).alloc (Nat.le_refl _) _).alloc (by simp) _
  · have h64b : ((s.size : Int) != 64) = true := by rw [bne_iff_ne]; omega
    have hno := idOk_len h64
    have hf := Lib.hid (And.intro (idVal_no hno) hno)
    clear hno h64
    go_enter Tryz.func97, Tryz.ntmps97
    go_wp2
    refine bodyPost_ret (v := .tuple #[.agg (encId zeroId).toArray, .bool false]) ?_ rfl ⟨by rw [hf.out.1, hf.out.2], ?_⟩
    exact results_agg2 rfl Tryz.isAgg23 Tryz.sizeOf23 _ _ ⟨w.heap.size, 0, none⟩ _ _ rfl rfl (ok_alloc _ (ok_new_id _ _ _)) ((rd_alloc _ (ok_new_id _ _ _)).trans (rd_new_id _ _ _))
    exact ((Below.refl _ _).alloc (Nat.le_refl _) _).alloc (by simp) _

set_option maxRecDepth 100000 in
set_option maxHeartbeats 1000000 in
theorem identity_any (s : ByteArray) (w : World) (hs : s.size ≤ maxLen) :
    Calls Tryz.prog 100 #[.string s] w fun r w' => r = .returned (.tuple #[.agg (encId (idVal s.data.toList)).toArray, .bool (idOk s.data.toList)]) ∧ Below w.heap.size w w' := by
  unfold maxLen at hs
  by_cases h64 : s.size = 64
  · have h64b : ((s.size : Int) != 64) = false := by rw [h64]; rfl
    have H64 := Lib.hid h64
    have hsz : (s.size : Int) ≤ 64 := by omega
    have hsz2 : (64 : Int) ≤ (s.size : Int) := by omega
    clear h64
    go_enter Tryz.func100, Tryz.ntmps100
    go_wp2
    go_loopw [5, 6, 7] (fun i _ _ wr => ∃ k : Nat, k ≤ 64 ∧ i = .int .i64 k ∧ wr = (w.alloc (.cells (encId zeroId).toArray 23)).alloc (.cells (encId (accId s.data.toList k)).toArray 23) ∧ (s.data.toList.take k).all isHex = true) (fun i _ _ _ => 64 - (intOf i).toNat)
    case atStart => exact ⟨0, by omega, rfl, by rw [accId_zero], rfl⟩
    case round =>
      obtain ⟨k, hk, rfl, rfl, ha⟩ := hrel
      by_cases hlt : k < 64
      · have hlts : k < s.size := by omega
        have hltz : (k : Int) < (s.size : Int) := by omega
        have hltz64 : (k : Int) < 64 := by omega
        have hos := old_small (s := s) (k := k) (by omega) ha
        obtain ⟨o, ho⟩ : ∃ o, o = accB s.data.toList k (k / 2) := ⟨_, rfl⟩
        rw [← ho] at hos
        have hget := accId_get s.data.toList k hlt o ho (by omega)
        have HA := Lib.hid ha
        have HO := Lib.hid ho
        clear ha ho
        have hb255 : (s[k].toNat : Int) < 256 := by have := s[k].toNat_lt; omega
        by_cases c1 : (48 : Int) ≤ (s[k].toNat : Int) ∧ (s[k].toNat : Int) ≤ 57
        · obtain ⟨c1a, c1b⟩ := c1
          obtain ⟨q, hq⟩ : ∃ q, q = s[k].toNat - 48 := ⟨_, rfl⟩
          have hhq : hv s[k] = q := by rw [hq]; unfold hv; rw [if_pos (by omega)]
          have hh : q < 16 := by omega
          have hnew := Lib.hid (show ((encId (accId s.data.toList k)).set (k / 2) (.int .u8 ((o : Int) * 16 + ((s[k].toNat : Int) - 48)))).toArray = (encId (accId s.data.toList (k + 1))).toArray by
            have h1 := accId_step s.data.toList k (UInt8.ofNat (o * 16 + q)) (by rw [UInt8.toNat_ofNat', accB_new, ← HO.out, chr_at s k hlts, hhq]; omega)
            rw [UInt8.toNat_ofNat', Nat.mod_eq_of_lt (by omega)] at h1
            rw [← h1]
            have e1 : ((o * 16 + q : Nat) : Int) = (o : Int) * 16 + ((s[k].toNat : Int) - 48) := by omega
            rw [e1]
            simp)
          have hsn := Lib.hid (hex_snoc hlts HA.out (by rw [hhq]; exact hh))
          have hoz : (o : Int) < 16 := by omega
          clear hq hhq
          go_wp2
          go_roundw
          case rel =>
            refine ⟨k + 1, by omega, by go_num, ?_, hsn.out⟩
            rw [← hnew.out]
          case measure => simp [intOf]; omega
        by_cases c2 : (97 : Int) ≤ (s[k].toNat : Int) ∧ (s[k].toNat : Int) ≤ 102
        · obtain ⟨c2a, c2b⟩ := c2
          have c1a : (48 : Int) ≤ (s[k].toNat : Int) := by omega
          have c1b : ¬ (s[k].toNat : Int) ≤ 57 := by omega
          clear c1
          obtain ⟨q, hq⟩ : ∃ q, q = s[k].toNat - 87 := ⟨_, rfl⟩
          have hhq : hv s[k] = q := by rw [hq]; unfold hv; rw [if_neg (by omega), if_pos (by omega)]
          have hh : q < 16 := by omega
          have hnew := Lib.hid (show ((encId (accId s.data.toList k)).set (k / 2) (.int .u8 ((o : Int) * 16 + ((s[k].toNat : Int) - 97 + 10)))).toArray = (encId (accId s.data.toList (k + 1))).toArray by
            have h1 := accId_step s.data.toList k (UInt8.ofNat (o * 16 + q)) (by rw [UInt8.toNat_ofNat', accB_new, ← HO.out, chr_at s k hlts, hhq]; omega)
            rw [UInt8.toNat_ofNat', Nat.mod_eq_of_lt (by omega)] at h1
            rw [← h1]
            have e1 : ((o * 16 + q : Nat) : Int) = (o : Int) * 16 + ((s[k].toNat : Int) - 97 + 10) := by omega
            rw [e1]
            simp)
          have hsn := Lib.hid (hex_snoc hlts HA.out (by rw [hhq]; exact hh))
          have hoz : (o : Int) < 16 := by omega
          clear hq hhq
          go_wp2
          go_roundw
          case rel =>
            refine ⟨k + 1, by omega, by go_num, ?_, hsn.out⟩
            rw [← hnew.out]
          case measure => simp [intOf]; omega
        by_cases d1 : (48 : Int) ≤ (s[k].toNat : Int)
        · have d2 : ¬ (s[k].toNat : Int) ≤ 57 := by omega
          by_cases d3 : (97 : Int) ≤ (s[k].toNat : Int)
          · have d4 : ¬ (s[k].toNat : Int) ≤ 102 := by omega
            clear c1 c2
            have hno := idOk_bad hlts (show ¬ hv s[k] < 16 by unfold hv; rw [if_neg (by omega), if_neg (by omega)]; omega)
            have hf := Lib.hid (And.intro (idVal_no hno) hno)
            clear hno hget
            go_wp2
            refine bodyPost_ret (v := .tuple #[.agg (encId zeroId).toArray, .bool false]) ?_ rfl ⟨by rw [hf.out.1, hf.out.2], ?_⟩
            exact results_agg2 rfl Tryz.isAgg23 Tryz.sizeOf23 _ _ ⟨w.heap.size, 0, none⟩ _ _ rfl rfl (ok_alloc _ (ok_new_id _ _ _)) ((rd_alloc _ (ok_new_id _ _ _)).trans (rd_new_id _ _ _))
            exact ((Below.refl _ _).alloc (Nat.le_refl _) _).alloc (by simp) _
          · clear c1 c2
            have hno := idOk_bad hlts (show ¬ hv s[k] < 16 by unfold hv; rw [if_neg (by omega), if_neg (by omega)]; omega)
            have hf := Lib.hid (And.intro (idVal_no hno) hno)
            clear hno hget
            go_wp2
            refine bodyPost_ret (v := .tuple #[.agg (encId zeroId).toArray, .bool false]) ?_ rfl ⟨by rw [hf.out.1, hf.out.2], ?_⟩
            exact results_agg2 rfl Tryz.isAgg23 Tryz.sizeOf23 _ _ ⟨w.heap.size, 0, none⟩ _ _ rfl rfl (ok_alloc _ (ok_new_id _ _ _)) ((rd_alloc _ (ok_new_id _ _ _)).trans (rd_new_id _ _ _))
            exact ((Below.refl _ _).alloc (Nat.le_refl _) _).alloc (by simp) _
        · have d3 : ¬ (97 : Int) ≤ (s[k].toNat : Int) := by omega
          clear c1 c2
          have hno := idOk_bad hlts (show ¬ hv s[k] < 16 by unfold hv; rw [if_neg (by omega), if_neg (by omega)]; omega)
          have hf := Lib.hid (And.intro (idVal_no hno) hno)
          clear hno hget
          go_wp2
          refine bodyPost_ret (v := .tuple #[.agg (encId zeroId).toArray, .bool false]) ?_ rfl ⟨by rw [hf.out.1, hf.out.2], ?_⟩
          exact results_agg2 rfl Tryz.isAgg23 Tryz.sizeOf23 _ _ ⟨w.heap.size, 0, none⟩ _ _ rfl rfl (ok_alloc _ (ok_new_id _ _ _)) ((rd_alloc _ (ok_new_id _ _ _)).trans (rd_new_id _ _ _))
          exact ((Below.refl _ _).alloc (Nat.le_refl _) _).alloc (by simp) _
      · obtain rfl : k = 64 := by omega
        have hall : s.data.toList.take 64 = s.data.toList := List.take_of_length_le (by rw [size_list, H64.out]; exact Nat.le_refl _)
        have hyes := idOk_yes H64.out (by rw [← hall]; exact ha)
        have hf := Lib.hid (And.intro (idVal_yes hyes) hyes)
        clear hall hyes ha
        rw [show ((64 : Nat) : Int) = 64 from rfl]
        go_wp2
        refine bodyPost_ret (v := .tuple #[.agg (encId (accId s.data.toList 64)).toArray, .bool true]) ?_ rfl ⟨by rw [hf.out.1, hf.out.2], ?_⟩
        exact results_agg2 rfl Tryz.isAgg23 Tryz.sizeOf23 _ _ ⟨w.heap.size, 0, none⟩ _ _ rfl rfl (ok_alloc _ (ok_new_id _ _ _)) ((rd_alloc _ (ok_new_id _ _ _)).trans (rd_new_id _ _ _))
        exact ((Below.refl _ _).alloc (Nat.le_refl _) _).alloc (by simp) _
  · have h64b : ((s.size : Int) != 64) = true := by rw [bne_iff_ne]; omega
    have hno := idOk_len h64
    have hf := Lib.hid (And.intro (idVal_no hno) hno)
    clear hno h64
    go_enter Tryz.func100, Tryz.ntmps100
    go_wp2
    refine bodyPost_ret (v := .tuple #[.agg (encId zeroId).toArray, .bool false]) ?_ rfl ⟨by rw [hf.out.1, hf.out.2], ?_⟩
    exact results_agg2 rfl Tryz.isAgg23 Tryz.sizeOf23 _ _ ⟨w.heap.size, 0, none⟩ _ _ rfl rfl (ok_alloc _ (ok_new_id _ _ _)) ((rd_alloc _ (ok_new_id _ _ _)).trans (rd_new_id _ _ _))
    exact ((Below.refl _ _).alloc (Nat.le_refl _) _).alloc (by simp) _

end Go.Proofs.YtdjaphcelpchaaaGreatDoor

/- Texts cut at a byte: strings.Split and bulletinref12.Parts give the parts splitL. -/
namespace Go.Proofs.YtdjaphcelpchaaaGreatDoor
open Go Go.RowKit Go.Proofs

/-- The parts into which a byte divides a text. -/
def splitL (c : UInt8) : List UInt8 → List (List UInt8)
  | [] => [[]]
  | b :: l => if b = c then [] :: splitL c l else match splitL c l with
    | h :: t => (b :: h) :: t
    | [] => [[b]]
theorem splitL_ne (c : UInt8) (l : List UInt8) : splitL c l ≠ [] := by
  cases l with
  | nil => simp [splitL]
  | cons b l =>
    unfold splitL
    split
    · simp
    · split <;> simp
theorem splitK_cons (c b : UInt8) (l : List UInt8) (h : b ≠ c) (k : Nat) : Lib.splitK [c] 0 k (b :: l) = match Lib.splitK [c] 0 k l with | h :: t => (b :: h) :: t | [] => [[b]] := by
  have hp : ([c] : List UInt8).isPrefixOf (b :: l) = false := by simp [List.isPrefixOf, Ne.symm h]
  have hix : Lib.index (b :: l) [c] = if Lib.index l [c] == -1 then -1 else Lib.index l [c] + 1 := by rw [Lib.index, hp]; simp
  cases k with
  | zero => rfl
  | succ k =>
    by_cases hm : Lib.index l [c] = -1
    · have e1 : Lib.index (b :: l) [c] = -1 := by rw [hix, if_pos (beq_iff_eq.2 hm)]
      simp [Lib.splitK, hm, e1]
    · have hge := Lib.index_ge l [c]
      obtain ⟨j, hj⟩ : ∃ j : Nat, Lib.index l [c] = j := ⟨(Lib.index l [c]).toNat, by omega⟩
      have e1 : Lib.index (b :: l) [c] = ((j + 1 : Nat) : Int) := by rw [hix, if_neg (fun e => hm (beq_iff_eq.1 e)), hj]; omega
      have hne : ∀ n : Nat, ((n : Int) == -1) = false := fun n => beq_eq_false_iff_ne.2 (by omega)
      unfold Lib.splitK
      rw [e1, hj, hne, hne]
      simp
theorem split_eq (c : UInt8) : ∀ l : List UInt8, Lib.split l [c] = splitL c l
  | [] => by
    have : Lib.count [] [c] = 0 := by rw [Lib.count_one]; rfl
    unfold Lib.split; rw [this]; rfl
  | b :: l => by
    have ih := split_eq c l
    unfold Lib.split at ih ⊢
    by_cases h : b = c
    · subst h
      rw [Lib.count_cons_eq, Nat.add_comm 1]
      have hix : Lib.index (b :: l) [b] = ((0 : Nat) : Int) := by rw [Lib.index]; simp [List.isPrefixOf]
      unfold Lib.splitK splitL
      rw [hix, if_pos rfl, if_neg (by decide)]
      simp [ih]
    · rw [Lib.count_cons_ne b c l h, splitK_cons c b l h, ih]
      conv => rhs; rw [splitL]
      rw [if_neg h]

/-- The parts as strings. -/
def splitS (c : UInt8) (s : ByteArray) : List ByteArray := (splitL c s.data.toList).map str
theorem splitB_eq (c : UInt8) (s : ByteArray) : Lib.splitB ⟨#[c]⟩ 0 (Lib.countB s ⟨#[c]⟩) s = splitS c s := by
  have h := Lib.splitB_data ⟨#[c]⟩ 0 (Lib.countB s ⟨#[c]⟩) s
  have h2 : Lib.splitK [c] 0 (Lib.countB s ⟨#[c]⟩) s.data.toList = splitL c s.data.toList := by
    rw [← split_eq]; rfl
  have h3 : (Lib.splitB ⟨#[c]⟩ 0 (Lib.countB s ⟨#[c]⟩) s).map (fun x => str x.data.toList) = (splitL c s.data.toList).map str := by
    rw [← h2, ← h, List.map_map]; rfl
  unfold splitS
  rw [← h3]
  simp [str_of]
theorem splitS_length (c : UInt8) (s : ByteArray) : (splitS c s).length = Lib.countB s ⟨#[c]⟩ + 1 := by
  rw [← splitB_eq]
  exact Lib.splitB_all ⟨#[c]⟩ (Nat.le_refl 1) 0 _ s rfl
theorem splitS_len (c : UInt8) (s : ByteArray) : 1 ≤ (splitS c s).length ∧ (splitS c s).length ≤ s.size + 1 := by
  rw [splitS_length]
  have := Lib.countB_le ⟨#[c]⟩ (Nat.le_refl 1) s.size s (Nat.le_refl _)
  omega

theorem split_any (c : UInt8) (s : ByteArray) (w : World) (hG : Gl w) (hs : s.size < 4294967281) :
    Calls Tryz.prog 59 #[.string s, .string ⟨#[c]⟩] w fun r w' => r = .returned (.slice (some ⟨w.heap.size, 0, none⟩) (splitS c s).length (splitS c s).length) ∧ w.alloc (.cells ((splitS c s).map Value.string).toArray 9) = w' := by
  obtain ⟨m, hm⟩ := hG.len
  refine (Tryz.strings_Split s ⟨#[c]⟩ m w hs hm (Nat.le_refl 1)).mono ?_
  rintro e w' ⟨rfl, rfl⟩
  rw [splitS_length, splitB_eq]
  exact ⟨rfl, rfl⟩
theorem split_row (w : World) (t : Nat) (xs : List ByteArray) : StrRow (w.alloc (.cells (xs.map Value.string).toArray t)) w.heap.size 0 xs := by
  intro j x hx
  rw [Nat.zero_add, cells_new, List.getElem?_toArray, List.getElem?_map, hx]; rfl

theorem splitL_snoc (c b : UInt8) : ∀ l : List UInt8, splitL c (l ++ [b]) = if b = c then splitL c l ++ [[]] else (splitL c l).dropLast ++ [(splitL c l).getLastD [] ++ [b]]
  | [] => by
    by_cases h : b = c <;> simp [splitL, h]
  | x :: l => by
    have ih := splitL_snoc c b l
    have hne := splitL_ne c l
    rw [List.cons_append]
    unfold splitL
    by_cases hx : x = c
    · rw [if_pos hx, if_pos hx, ih]
      by_cases hb : b = c
      · simp [hb]
      · rw [if_neg hb, if_neg hb]
        cases hq : splitL c l with
        | nil => exact absurd hq hne
        | cons h t => simp
    · rw [if_neg hx, if_neg hx, ih]
      cases hq : splitL c l with
      | nil => exact absurd hq hne
      | cons h t =>
        by_cases hb : b = c
        · simp [hb]
        · rw [if_neg hb, if_neg hb]
          cases t with
          | nil => simp
          | cons h2 t2 => simp

/-- What bulletinref12.Parts has when k bytes have been read: the parts that are done, and the part that grows. -/
def doneV (c : UInt8) (s : ByteArray) (k : Nat) : List Value := (splitL c (s.data.toList.take k)).dropLast.map fun x => Value.string (str x)
def curP (c : UInt8) (s : ByteArray) (k : Nat) : List UInt8 := (splitL c (s.data.toList.take k)).getLastD []
theorem parts_hit {c : UInt8} {s : ByteArray} {k : Nat} (h : k < s.size) (he : s[k] = c) : doneV c s (k + 1) = doneV c s k ++ [.string (str (curP c s k))] ∧ curP c s (k + 1) = [] := by
  unfold doneV curP
  rw [take_snoc s k h, splitL_snoc, if_pos he]
  have hne := splitL_ne c (s.data.toList.take k)
  generalize splitL c (s.data.toList.take k) = P at hne
  constructor
  · rw [List.dropLast_concat]
    conv => lhs; rw [← List.dropLast_concat_getLast hne]
    rw [List.map_append, List.getLastD_eq_getLast?, List.getLast?_eq_some_getLast hne]; rfl
  · simp
theorem parts_miss {c : UInt8} {s : ByteArray} {k : Nat} (h : k < s.size) (he : s[k] ≠ c) : doneV c s (k + 1) = doneV c s k ∧ curP c s (k + 1) = curP c s k ++ [s[k]] := by
  unfold doneV curP
  rw [take_snoc s k h, splitL_snoc, if_neg he]
  constructor
  · rw [List.dropLast_concat]
  · simp
theorem parts_end {c : UInt8} {s : ByteArray} {k : Nat} (h : s.size ≤ k) : doneV c s k ++ [.string (str (curP c s k))] = (splitS c s).map Value.string := by
  unfold doneV curP splitS
  rw [List.take_of_length_le (by rw [size_list]; exact h), List.map_map]
  have hne := splitL_ne c s.data.toList
  generalize splitL c s.data.toList = P at hne
  conv => rhs; rw [← List.dropLast_concat_getLast hne]
  rw [List.map_append, List.getLastD_eq_getLast?, List.getLast?_eq_some_getLast hne]; rfl
theorem parts_le (c : UInt8) (s : ByteArray) : ∀ k, k ≤ s.size → (doneV c s k).length ≤ k ∧ (curP c s k).length ≤ k
  | 0, _ => by simp [doneV, curP, splitL]
  | k + 1, h => by
    have ih := parts_le c s k (by omega)
    by_cases he : s[k]'(by omega) = c
    · obtain ⟨h1, h2⟩ := parts_hit (by omega) he
      rw [h1, h2]; simp; omega
    · obtain ⟨h1, h2⟩ := parts_miss (by omega) he
      rw [h1, h2]; simp; omega

theorem str_cut (s : ByteArray) (k : Nat) (h : k < s.size) : s.extract k (k + 1) = str [s[k]] := by
  apply ByteArray.ext
  apply Array.ext'
  rw [Lib.extract_data]
  show _ = [s[k]]
  have e : s.data.toList.drop k = s[k] :: s.data.toList.drop (k + 1) := List.drop_eq_getElem_cons (by rw [size_list]; exact h)
  rw [e]
  simp

set_option maxRecDepth 100000 in
set_option maxHeartbeats 1000000 in
theorem parts_any (s : ByteArray) (c : UInt8) (w : World) (hs : s.size ≤ 4294967296) :
    Calls Tryz.prog 44 #[.string s, .int .u8 c.toNat] w fun r w' => ∃ v, r = .returned v ∧ w'.ownsRow w.heap.size 9 1 v (splitS c s).length ((splitS c s).map Value.string) ∧ Below w.heap.size w w' := by
  obtain ⟨i0, hi, hz0, hz1, hz2⟩ := info_parts Tryz.info_str
  go_enter Tryz.func44, Tryz.ntmps44
  go_wp2
  go_loopw [5, 6, 7] (fun o p i wr => ∃ k : Nat, k ≤ s.size ∧ i = .int .i64 k ∧ p = .string (str (curP c s k)) ∧ wr.ownsRow w.heap.size 9 1 o (doneV c s k).length (doneV c s k) ∧ Below w.heap.size w wr) (fun _ _ i _ => s.size - (intOf i).toNat)
  case atStart => exact ⟨0, by omega, rfl, rfl, World.ownsRow_nil _ _ _ _, Below.refl _ _⟩
  case round =>
    obtain ⟨k, hk, rfl, rfl, hown, hb⟩ := hrel
    have hle := parts_le c s k hk
    have hcs : (str (curP c s k)).size ≤ s.size := by rw [str_size]; omega
    obtain ⟨n, hn⟩ : ∃ n, n = (doneV c s k).length := ⟨_, rfl⟩
    have hnk : n ≤ k := by omega
    rw [← hn] at hown
    have HN := Lib.hid hn
    clear hn hle
    by_cases hlt : k < s.size
    · have hltz : (k : Int) < (s.size : Int) := by omega
      by_cases he : s[k] = c
      · have hst := Lib.hid (parts_hit hlt he)
        have heb : ((s[k].toNat : Int) == (c.toNat : Int)) = true := by rw [he]; simp
        clear he
        have hlt2 := Lib.hid (fun j hj => (hown.lt j hj).1)
        have hown1 := hown.alloc (.cells #[.string (str (curP c s k))] 9)
        clear hown
        go_wp2_with (at_builtin; refine wpList_append_own _ rfl (.tmp 19) (.tmp 21) 78 rfl w.heap.size 9 i0 (.string ⟨#[]⟩) 1 16 Tryz.underlying78 hi hz0 hz1 hz2 rfl (by decide) _ _ _ rfl hown1 ⟨wr.heap.size, 0, none⟩ 1 1 [.string (str (curP c s k))] rfl rfl ?c1 ?c2 ?c3 ?c4 ?c5 ?_)
        case c1 =>
          intro j u hj
          rw [Addr.add_lit, Nat.zero_add, cells_new]
          match j, hj with
          | 0, hj => simpa using hj
        case c2 => intro u hu; simp at hu; subst hu; rfl
        case c3 => unfold maxLen; omega
        case c4 => omega
        case c5 => have := hb.size; simp; omega
        intro v' w2 hown' hgrow _
        have hb2 : Below w.heap.size w w2 := (hb.alloc hb.size _).grown hgrow (by have := hb.size; simp; omega) (fun j hj => hlt2.out j hj)
        clear hown1 hgrow
        go_wp2
        go_roundw
        case rel => exact ⟨k + 1, by omega, by go_num, by rw [hst.out.2]; rfl, by rw [hst.out.1, List.length_append, ← HN.out]; exact hown', hb2⟩
        case measure => simp [intOf]; omega
      · have hst := Lib.hid (parts_miss hlt he)
        have heb : ((s[k].toNat : Int) == (c.toNat : Int)) = false := by
          rw [beq_eq_false_iff_ne]
          intro e
          exact he (UInt8.toNat_inj.1 (by exact_mod_cast e))
        clear he
        have hcut := Lib.hid (str_cut s k hlt)
        go_wp2
        go_roundw
        case rel => exact ⟨k + 1, by omega, by go_num, by rw [hst.out.2, ← str_append, ← hcut.out], by rw [hst.out.1, ← HN.out]; exact hown, hb⟩
        case measure => simp [intOf]; omega
    · have hend := Lib.hid (parts_end (c := c) (s := s) (k := k) (by omega))
      have hlt2 := Lib.hid (fun j hj => (hown.lt j hj).1)
      have hown1 := hown.alloc (.cells #[.string (str (curP c s k))] 9)
      clear hown
      go_wp2_with (at_builtin; refine wpList_append_own _ rfl (.tmp 30) (.tmp 32) 78 rfl w.heap.size 9 i0 (.string ⟨#[]⟩) 1 16 Tryz.underlying78 hi hz0 hz1 hz2 rfl (by decide) _ _ _ rfl hown1 ⟨wr.heap.size, 0, none⟩ 1 1 [.string (str (curP c s k))] rfl rfl ?e1 ?e2 ?e3 ?e4 ?e5 ?_)
      case e1 =>
        intro j u hj
        rw [Addr.add_lit, Nat.zero_add, cells_new]
        match j, hj with
        | 0, hj => simpa using hj
      case e2 => intro u hu; simp at hu; subst hu; rfl
      case e3 => unfold maxLen; omega
      case e4 => omega
      case e5 => have := hb.size; simp; omega
      intro v' w2 hown' hgrow _
      have hb2 : Below w.heap.size w w2 := (hb.alloc hb.size _).grown hgrow (by have := hb.size; simp; omega) (fun j hj => hlt2.out j hj)
      clear hown1 hgrow
      go_wp2
      go_ret
      refine ⟨_, rfl, ?_, hb2⟩
      have hl : (splitS c s).length = n + 1 := by
        have := congrArg List.length hend.out
        rw [List.length_append, List.length_map, ← HN.out] at this
        simpa using this.symm
      rw [hl, ← hend.out]
      exact hown'

end Go.Proofs.YtdjaphcelpchaaaGreatDoor

/- The fields of a line that is being read: overview.setNumber, (*overview.Line).setReferences. -/
namespace Go.Proofs.YtdjaphcelpchaaaGreatDoor
open Go Go.RowKit Go.Proofs

attribute [local go_sem ↓] ex_load_id ex_store_id ex_alloc_id ex_build_id
attribute [local go_sem] ld_id st_id guard_id okCells_drew rdCells_drew okCells_drewN rdCells_drewN rowOk_drew rowOk_cells okCells_cells rdCells_cells okArr_id rdArr_id setRow_drew setRow_new setRow_past fits_id encId_length

/-- A block that holds a line. -/
def LineVar (w : World) (lb : Nat) (g : GLine) : Prop := w.heap[lb]? = some (.cells (lineCells g) 34 (0, 0))
theorem LineVar.lt {w : World} {lb : Nat} {g : GLine} (h : LineVar w lb g) : lb < w.heap.size := (Array.getElem?_eq_some_iff.1 h).1
theorem LineVar.cell {w : World} {lb : Nat} {g : GLine} (h : LineVar w lb g) (j : Nat) : w.cell? ⟨lb, j, none⟩ = (lineCells g)[j]? := cell_of_row w lb j _ _ _ h
theorem LineVar.free {w : World} {lb : Nat} {g : GLine} (h : LineVar w lb g) (j : Nat) : w.frozen? ⟨lb, j, none⟩ = false := frozen_of_row w lb j _ _ h
theorem LineVar.grown {w w' : World} {lb : Nat} {g : GLine} {row : Option Nat} (h : LineVar w lb g) (hg : w.grownBy w' row) (hne : some lb ≠ row) : LineVar w' lb g := (hg.block lb h.lt hne).trans h

theorem lineList_set (g : GLine) (j : Nat) (v : Value) (hj : j < 5) : (lineList g).set (33 + j) v = .int .i64 g.number :: (encId g.id ++ [Value.string g.name, .int .i64 g.date, .string g.subject, g.refs, .int .i64 g.bytes].set j v) := by
  unfold lineList
  rw [show 33 + j = (32 + j) + 1 by omega, List.set_cons_succ, List.set_append_right _ _ (by rw [encId_length]; omega), encId_length, show 32 + j - 32 = j by omega]
theorem set_number (g : GLine) (v : Int) : (lineCells g).setIfInBounds 0 (.int .i64 v) = lineCells { g with number := v } := by
  simp [lineCells, lineList]
theorem set_name (g : GLine) (v : ByteArray) : (lineCells g).setIfInBounds 33 (.string v) = lineCells { g with name := v } := by
  unfold lineCells; rw [List.setIfInBounds_toArray, lineList_set g 0 _ (by omega)]; rfl
theorem set_date (g : GLine) (v : Int) : (lineCells g).setIfInBounds 34 (.int .i64 v) = lineCells { g with date := v } := by
  unfold lineCells; rw [List.setIfInBounds_toArray, lineList_set g 1 _ (by omega)]; rfl
theorem set_subject (g : GLine) (v : ByteArray) : (lineCells g).setIfInBounds 35 (.string v) = lineCells { g with subject := v } := by
  unfold lineCells; rw [List.setIfInBounds_toArray, lineList_set g 2 _ (by omega)]; rfl
theorem set_refs (g : GLine) (v : Value) : (lineCells g).setIfInBounds 36 v = lineCells { g with refs := v } := by
  unfold lineCells; rw [List.setIfInBounds_toArray, lineList_set g 3 _ (by omega)]; rfl
theorem set_bytes (g : GLine) (v : Int) : (lineCells g).setIfInBounds 37 (.int .i64 v) = lineCells { g with bytes := v } := by
  unfold lineCells; rw [List.setIfInBounds_toArray, lineList_set g 4 _ (by omega)]; rfl
theorem LineVar.set {w : World} {lb : Nat} {g g' : GLine} (h : LineVar w lb g) (j : Nat) (v : Value) (e : (lineCells g).setIfInBounds j v = lineCells g') : LineVar (w.setCell ⟨lb, j, none⟩ v) lb g' := by
  unfold LineVar at *
  rw [heap_setCell_same w lb j _ _ v h, e]
theorem grown_set (w : World) (lb j : Nat) (v : Value) : w.grownBy (w.setCell ⟨lb, j, none⟩ v) (some lb) :=
  ⟨rfl, rfl, rfl, by simp [World.setCell], fun k _ hne => heap_setCell_other w ⟨lb, j, none⟩ k v (fun e => hne (by rw [e]))⟩
theorem grown_refl (w : World) (r : Option Nat) : w.grownBy w r := ⟨rfl, rfl, rfl, Nat.le_refl _, fun _ _ _ => rfl⟩
theorem grown_trans {a b c : World} {r : Option Nat} (h : a.grownBy b r) (k : b.grownBy c r) : a.grownBy c r :=
  ⟨k.os.trans h.os, k.tape.trans h.tape, k.output.trans h.output, Nat.le_trans h.size k.size, fun i hi hne => (k.block i (Nat.lt_of_lt_of_le hi h.size) hne).trans (h.block i hi hne)⟩
theorem grown_below {w w' : World} (h : Below w.heap.size w w') (r : Option Nat) : w.grownBy w' r := ⟨h.os, h.tape, h.output, h.size, fun k hk _ => h.block k hk⟩
/-- What grows beyond a block of the call's own keeps what lay before. -/
theorem below_grown {w W w' : World} {B lb : Nat} (h : Below B w W) (hg : W.grownBy w' (some lb)) (hB : B ≤ W.heap.size) (hlb : B ≤ lb) : Below B w w' := h.grown hg hB (fun k e => by cases e; exact hlb)

def numErr (l : List UInt8) (lo hi e : Int) : Int := if numOk l then rangeErr (numVal l) lo hi e else 3

set_option maxHeartbeats 1000000 in
theorem setNumber_no (b off : Nat) (p : ByteArray) (lo hi e : Int) (w : World) (hs : p.size ≤ maxLen) (hok : numOk p.data.toList = false) :
    Calls Tryz.prog 96 #[.pointer (some ⟨b, off, none⟩), .string p, .int .i64 lo, .int .i64 hi, .int .i64 e] w fun r w' => r = .returned (.int .i64 3) ∧ w = w' := by
  have HOK := Lib.hid hok
  clear hok
  go_enter Tryz.func96, Tryz.ntmps96
  go_wp2_with fail
  refine (parseNumber_any p w hs).mono ?_
  rintro r w' ⟨rfl, rfl⟩
  rw [HOK.out]
  go_wp2
  go_ret
  exact ⟨rfl, rfl⟩
set_option maxHeartbeats 1000000 in
theorem setNumber_yes (b off : Nat) (p : ByteArray) (lo hi e : Int) (w : World) (hs : p.size ≤ maxLen) (old : Value) (hc : w.cell? ⟨b, off, none⟩ = some old) (hf : w.frozen? ⟨b, off, none⟩ = false) (hok : numOk p.data.toList = true) :
    Calls Tryz.prog 96 #[.pointer (some ⟨b, off, none⟩), .string p, .int .i64 lo, .int .i64 hi, .int .i64 e] w fun r w' => r = .returned (.int .i64 (rangeErr (numVal p.data.toList) lo hi e)) ∧ w.setCell ⟨b, off, none⟩ (.int .i64 (numVal p.data.toList)) = w' := by
  have HOK := Lib.hid hok
  clear hok
  go_enter Tryz.func96, Tryz.ntmps96
  go_wp2_with fail
  refine (parseNumber_any p w hs).mono ?_
  rintro r w' ⟨rfl, rfl⟩
  rw [HOK.out]
  go_wp2_with fail
  refine (checkRange_any _ _ _ _ _).mono ?_
  rintro r w' ⟨rfl, rfl⟩
  go_wp2
  go_ret
  exact ⟨rfl, rfl⟩

end Go.Proofs.YtdjaphcelpchaaaGreatDoor

/- (*overview.Line).setReferences reads the identities of a text and appends them to the line's own slice. -/
namespace Go.Proofs.YtdjaphcelpchaaaGreatDoor
open Go Go.RowKit Go.Proofs

theorem Tryz.info_id : (Tryz.prog.info? 23).map (fun i => (i.zero, i.size, i.bytes)) = some (some (.agg (encId zeroId).toArray), 32, 32) := by kernel_rfl

/-! ## 'fill', and a slice literal of one identity -/
theorem put_list : ∀ (cs : List Value) (k off : Nat) (pre mid post : List Value), pre.length = off + k → mid.length = cs.length →
    (cs.zipIdx k).foldl (fun acc (c : Value × Nat) => acc.setIfInBounds (off + c.2) c.1) (pre ++ (mid ++ post)).toArray = (pre ++ (cs ++ post)).toArray
  | [], k, off, pre, mid, post, _, hm => by
    obtain rfl : mid = [] := List.length_eq_zero_iff.1 (by simpa using hm)
    simp
  | c :: cs, k, off, pre, mid, post, hp, hm => by
    cases mid with
    | nil => simp at hm
    | cons m mid =>
      have ih := put_list cs (k + 1) off (pre ++ [c]) mid post (by simp [hp]; omega) (by simpa using hm)
      rw [List.zipIdx_cons, List.foldl_cons]
      have e : ((pre ++ (m :: mid ++ post)).toArray).setIfInBounds (off + k) c = (pre ++ [c] ++ (mid ++ post)).toArray := by
        rw [List.setIfInBounds_toArray, ← hp, List.set_append_right _ _ (Nat.le_refl _)]
        simp
      show List.foldl _ (((pre ++ (m :: mid ++ post)).toArray).setIfInBounds (off + k) c) _ = _
      rw [e, ih]
      simp
theorem put_all (cs cur : Array Value) (h : cur.size = cs.size) : cs.zipIdx.foldl (fun acc (c : Value × Nat) => acc.setIfInBounds (0 + c.2) c.1) cur = cs := by
  have := put_list cs.toList 0 0 [] cur.toList [] rfl (by simpa using h)
  simp only [List.nil_append, List.append_nil, Array.toArray_toList] at this
  rw [← Array.foldl_toList, Array.toList_zipIdx]
  exact this
theorem fill_one (cs cur : Array Value) (n : Nat) (hc : cs.size = n) (h : cur.size = n) : Instr.fill (fun i => some (i * n, n)) cur [(0, .agg cs)] = some cs := by
  have e := put_all cs cur (by omega)
  simp only [Nat.zero_add] at e
  simp only [Instr.fill, Value.cells, hc, h, Nat.zero_mul, Nat.zero_add]
  rw [if_neg (by simp)]
  exact congrArg some e

def bsRes (P : Program) (t : Nat) (w : World) (v : Value) : Result Next := Sem.run P (do pure (Next.value (← Instr.buildSlice t 1 #[(0, v)]))) w
theorem ex_bs_id (ρ : Operand → Value) (d : Option Tmp) (x : Operand) (ty : TypeId) (pos : String) (af : Array Edge) (g : Option (Nat × Bool)) (w : World) :
    Sem.run Tryz.prog (execOp ρ ⟨d, .buildSlice 24 1 #[(0, x)], ty, pos, af, g⟩) w = bsRes Tryz.prog 24 w (ρ x) := by kernel_rfl
theorem bs_id (w : World) (x : Id32) : bsRes Tryz.prog 24 w (.agg (encId x).toArray) = .ok (.value (.slice (some ⟨w.heap.size, 0, none⟩) 1 1)) (w.alloc (.cells (encId x).toArray 23)) := by
  obtain ⟨i0, hi, hz0, hz1, hz2⟩ := info_parts Tryz.info_id
  unfold bsRes
  rw [Sem.run_bind, run_buildSlice w 24 23 1 _ (encId x).toArray i0 _ Tryz.underlying24 hi hz0 (by rw [hz1]; decide) (by rw [hz1]; decide) (by
    rw [hz1]
    exact fill_one _ _ 32 (encId_size x) (by simp))]
  rfl

/-! ## identities in a row of one's own -/
def flatIds (ids : List Id32) : List Value := ids.flatMap encId
theorem flat_length (ids : List Id32) : (flatIds ids).length = ids.length * 32 := by
  induction ids with
  | nil => rfl
  | cons x r ih => unfold flatIds at *; rw [List.flatMap_cons, List.length_append, ih, encId_length, List.length_cons]; omega
theorem flat_get : ∀ (ids : List Id32) (j i : Nat), j < ids.length → i < 32 → (flatIds ids)[j * 32 + i]? = (encId ids[j]!)[i]?
  | [], j, i, hj, _ => by simp at hj
  | x :: r, 0, i, _, hi => by
    unfold flatIds
    rw [List.flatMap_cons, Nat.zero_mul, Nat.zero_add, List.getElem?_append_left (by rw [encId_length]; exact hi)]
    rfl
  | x :: r, j + 1, i, hj, hi => by
    have ih := flat_get r j i (by simpa using hj) hi
    unfold flatIds at *
    rw [List.flatMap_cons, List.getElem?_append_right (by rw [encId_length]; omega), encId_length, show (j + 1) * 32 + i - 32 = j * 32 + i by omega, ih]
    simp
theorem flat_snoc (ids : List Id32) (x : Id32) : flatIds (ids ++ [x]) = flatIds ids ++ encId x := by simp [flatIds]
theorem idsAt_own {w : World} {B : Nat} {v : Value} {ids : List Id32} (h : w.ownsRow B 23 32 v ids.length (flatIds ids)) : IdsAt w v ids := by
  rcases h.2 with ⟨rfl, h0⟩ | ⟨g, cap, cur, rfl, hg, hcur, hle, hmx, hcs, htk⟩
  · exact ⟨none, 0, by rw [h0], by omega, fun hne => absurd (List.length_eq_zero_iff.1 h0) hne⟩
  · refine ⟨_, cap, rfl, hle, fun _ => ⟨g, 0, rfl, fun j hj i v hi => ?_⟩⟩
    have hi32 : i < 32 := by have := (List.getElem?_eq_some_iff.1 hi).1; rwa [encId_length] at this
    have h1 := h.cellAt (j * 32 + i) (by omega)
    rw [Nat.zero_add, h1, flat_get ids j i hj hi32]
    exact hi
theorem own_one {w : World} {B e n : Nat} {v : Value} {xs : List Value} (h : w.ownsRow B e 32 v n xs) : v.oneCell' = true := by
  rcases h.2 with ⟨rfl, h0⟩ | ⟨g, cap, cur, rfl, _⟩ <;> rfl

/-- What a field of references says. -/
def refTexts (p : ByteArray) : List (List UInt8) := if p.size = 0 then [] else splitL 44 p.data.toList
def refIds (p : ByteArray) : List Id32 := (refTexts p).map idVal
def refsPart (p : ByteArray) : Int := if (refTexts p).all idOk then refsErr (refIds p) else 3

/-- Worlds in which a slice's cell and a variable of an identity hold what they hold. -/
def RefC (lb off ib : Nat) (v : Value) (x : Id32) : Type := { z : World // z.cell? ⟨lb, off, none⟩ = some v ∧ okCells z ⟨ib, 0, none⟩ 32 = true ∧ rdCells z ⟨ib, 0, none⟩ 32 = (encId x).toArray }
theorem RefC.same {lb off ib : Nat} {v : Value} {x : Id32} {w w' : World} (h : w.cell? ⟨lb, off, none⟩ = some v ∧ okCells w ⟨ib, 0, none⟩ 32 = true ∧ rdCells w ⟨ib, 0, none⟩ 32 = (encId x).toArray)
    (hl : w'.heap[lb]? = w.heap[lb]?) (hi : w'.heap[ib]? = w.heap[ib]?) : ∃ z : RefC lb off ib v x, w' = z.1 := by
  have hc : ∀ j, w'.cell? ⟨ib, j, none⟩ = w.cell? ⟨ib, j, none⟩ := fun j => by unfold World.cell?; rw [hi]
  have h2 := rd_same (w := w) (w' := w') (a := ⟨ib, 0, none⟩) (n := 32) (fun j _ => by rw [Addr.add_lit]; exact hc _)
  refine ⟨⟨w', ?_, by rw [h2.1]; exact h.2.1, by rw [h2.2]; exact h.2.2⟩, rfl⟩
  rw [← h.1]
  unfold World.cell?; rw [hl]

end Go.Proofs.YtdjaphcelpchaaaGreatDoor

/- (*overview.Line).setReferences. -/
namespace Go.Proofs.YtdjaphcelpchaaaGreatDoor
open Go Go.RowKit Go.Proofs

attribute [local go_sem ↓] ex_load_id ex_store_id ex_alloc_id ex_build_id ex_bs_id
attribute [local go_sem] ld_id st_id bs_id guard_id okCells_drew rdCells_drew okCells_drewN rdCells_drewN rowOk_drew rowOk_cells okCells_cells rdCells_cells okArr_id rdArr_id setRow_drew setRow_new setRow_past fits_id encId_length

theorem take_texts {T : List (List UInt8)} {k : Nat} (h : k < T.length) : (T.map idVal).take (k + 1) = (T.map idVal).take k ++ [idVal T[k]] := by
  rw [List.take_succ_eq_append_getElem (by simpa using h)]; simp
theorem all_take {T : List (List UInt8)} {k : Nat} (h : k < T.length) (ha : (T.take k).all idOk = true) (hk : idOk T[k] = true) : (T.take (k + 1)).all idOk = true := by
  rw [List.take_succ_eq_append_getElem h, List.all_append, ha]; simp [hk]
theorem not_all {T : List (List UInt8)} {k : Nat} (h : k < T.length) (hk : idOk T[k] = false) : T.all idOk = false :=
  List.all_eq_false.2 ⟨T[k], List.getElem_mem h, by simp [hk]⟩

theorem splitL_part (c : UInt8) : ∀ (l x : List UInt8), x ∈ splitL c l → x.length ≤ l.length
  | [], x, h => by simp [splitL] at h; simp [h]
  | b :: l, x, h => by
    have ih := splitL_part c l
    unfold splitL at h
    split at h
    · rcases List.mem_cons.1 h with rfl | h
      · simp
      · have := ih x h; simp; omega
    · have hne := splitL_ne c l
      cases hq : splitL c l with
      | nil => exact absurd hq hne
      | cons y t =>
        rw [hq] at h ih
        simp only at h
        rcases List.mem_cons.1 h with rfl | h
        · have := ih y (by simp); simp; omega
        · have := ih x (by simp [h]); simp; omega

/-- What the loop of setReferences keeps: the line's block, the row that grows, and what lay before. -/
structure RefsLoop (w1 wr : World) (lb off t : Nat) (cs : Array Value) (T : List (List UInt8)) (k : Nat) (v : Value) : Prop where
  blk : wr.heap[lb]? = some (.cells (cs.setIfInBounds off v) t (0, 0))
  own : wr.ownsRow w1.heap.size 23 32 v k (flatIds ((T.map idVal).take k))
  grown : w1.grownBy wr (some lb)

theorem RefsLoop.cell {w1 wr : World} {lb off t k : Nat} {cs : Array Value} {T : List (List UInt8)} {v : Value} (h : RefsLoop w1 wr lb off t cs T k v) (ho : off < cs.size) : wr.cell? ⟨lb, off, none⟩ = some v := by
  rw [cell_of_row wr lb off _ _ _ h.blk]; simp [ho]

set_option maxRecDepth 100000 in
set_option maxHeartbeats 2000000 in
theorem setReferences_some (lb t : Nat) (cs : Array Value) (p : ByteArray) (w : World) (hblk : w.heap[lb]? = some (.cells cs t (0, 0))) (h36 : cs[36]? = some (.slice none 0 0)) (hG : Gl w) (hp : p.size < 4294967281) (hne : p.size ≠ 0) :
    Calls Tryz.prog 98 #[.pointer (some ⟨lb, 0, none⟩), .string p] w fun r w' => r = .returned (.int .i64 (refsPart p)) ∧ w.grownBy w' (some lb) ∧ ∃ v, w'.heap[lb]? = some (.cells (cs.setIfInBounds 36 v) t (0, 0)) ∧ v.oneCell' = true ∧ v.ownBlock ≠ some lb ∧ (refsPart p = 0 → IdsAt w' v (refIds p)) := by
  have hoff : 36 < cs.size := (Array.getElem?_eq_some_iff.1 h36).1
  have hlb : lb < w.heap.size := (Array.getElem?_eq_some_iff.1 hblk).1
  obtain ⟨i0, hi, hz0, hz1, hz2⟩ := info_parts Tryz.info_id
  have hT : refTexts p = splitL 44 p.data.toList := by unfold refTexts; rw [if_neg hne]
  have hlen : (splitS 44 p).length = (refTexts p).length := by rw [hT]; simp [splitS]
  have hlen2 := (splitS_len 44 p).2
  have hpe : p.toList.isEmpty = false := by
    rw [ByteArray.toList_eq, List.isEmpty_eq_false_iff, ← List.length_pos_iff, size_list]; omega
  have HPE := Lib.hid hne
  obtain ⟨T, hTT⟩ : ∃ T, T = refTexts p := ⟨_, rfl⟩
  rw [← hTT] at hlen
  obtain ⟨n, hn⟩ : ∃ n, n = (splitS 44 p).length := ⟨_, rfl⟩
  have HS := Lib.hid (show splitS 44 p = T.map str by rw [hTT, hT]; rfl)
  have HT := Lib.hid hTT
  have HN := Lib.hid hn
  have HNT := Lib.hid (hn.trans hlen)
  have hn32 : n ≤ 4294967281 := by omega
  have HBLK := Lib.hid hblk
  have H36 := Lib.hid h36
  clear hT hTT hblk h36 hlen hlen2 hne
  go_enter Tryz.func98, Tryz.ntmps98
  go_wp2_with fail
  refine (split_any 44 p w hG hp).mono ?_
  rintro r w1 ⟨rfl, hw1⟩
  rw [HN.out.symm]
  have hrow : StrRow w1 w.heap.size 0 (T.map str) := by rw [← hw1, ← HS.out]; exact split_row _ _ _
  have hb1 : Below w.heap.size w w1 := by rw [← hw1]; exact (Below.refl _ _).alloc (Nat.le_refl _) _
  have hblk1 : w1.heap[lb]? = some (.cells cs t (0, 0)) := (hb1.block lb hlb).trans HBLK.out
  have hs1 : w.heap.size < w1.heap.size := by rw [← hw1]; simp
  have hset0 : cs.setIfInBounds 36 (.slice none 0 0) = cs := by
    obtain ⟨h1, h2⟩ := Array.getElem?_eq_some_iff.1 H36.out
    apply Array.ext_getElem?
    intro j
    rw [Array.getElem?_setIfInBounds]
    split
    · rename_i e; subst e; exact H36.out.symm
    · rfl
  have HW1 := Lib.hid hw1
  clear hw1 hn
  go_wp2
  go_loopw [14] (fun i wr => ∃ k v, k ≤ n ∧ i = .int .i64 (k : Nat) ∧ RefsLoop w1 wr lb 36 t cs T k v ∧ (T.take k).all idOk = true) (fun i _ => n - (intOf i).toNat)
  case atStart => exact ⟨0, .slice none 0 0, by omega, rfl, ⟨by rw [hset0]; exact hblk1, World.ownsRow_nil _ _ _ _, grown_refl _ _⟩, by simp⟩
  case round =>
    obtain ⟨k, v, hk, rfl, hL, hall⟩ := hrel
    have hlb1 : lb < w1.heap.size := by omega
    by_cases hlt : k < n
    · have hltz : (k : Int) < (n : Int) := by omega
      have hkT : k < T.length := by rw [← HNT.out]; exact hlt
      have htext : wr.cell? ⟨w.heap.size, k, none⟩ = some (.string (str T[k])) := by
        have h1 := hrow k (str T[k]) (by simp [hkT])
        rw [Nat.zero_add] at h1
        rw [← h1]
        unfold World.cell?
        rw [hL.grown.block w.heap.size hs1 (by simp; omega)]
      obtain ⟨X, hX⟩ : ∃ X, X = str T[k] := ⟨_, rfl⟩
      rw [← hX] at htext
      have hXs : X.size ≤ maxLen := by
        have h1 := splitL_part 44 p.data.toList T[k] (by
          have h0 : T[k] ∈ T := List.getElem_mem hkT
          have h2 : T = splitL 44 p.data.toList := by rw [HT.out, refTexts, if_neg HPE.out]
          exact h2 ▸ h0)
        rw [size_list] at h1
        rw [hX, str_size, maxLen]; omega
      have HX := Lib.hid hX
      clear hX
      have hcv := hL.cell hoff
      have hfv : wr.frozen? ⟨lb, 36, none⟩ = false := frozen_of_row wr lb 36 _ _ hL.blk
      go_wp2_with fail
      refine (parseId_any X wr hXs).mono ?_
      rintro r w2 ⟨rfl, hb2⟩
      by_cases hok : idOk X.data.toList = true
      · rw [hok]
        have hbz : ∀ b, b < wr.heap.size → (w2.alloc (.cells (encId (idVal X.data.toList)).toArray 23)).drew.heap[b]? = wr.heap[b]? := fun b hb => by
          show (w2.alloc _).heap[b]? = _
          rw [heap_alloc_old _ _ (Nat.lt_of_lt_of_le hb hb2.size), hb2.block b hb]
        have hlbr : lb < wr.heap.size := (Array.getElem?_eq_some_iff.1 hL.blk).1
        have hbase : (w2.alloc (.cells (encId (idVal X.data.toList)).toArray 23)).drew.cell? ⟨lb, 36, none⟩ = some v ∧ okCells (w2.alloc (.cells (encId (idVal X.data.toList)).toArray 23)).drew ⟨w2.heap.size, 0, none⟩ 32 = true ∧ rdCells (w2.alloc (.cells (encId (idVal X.data.toList)).toArray 23)).drew ⟨w2.heap.size, 0, none⟩ 32 = (encId (idVal X.data.toList)).toArray := by
          refine ⟨?_, ok_new_id _ _ _, rd_new_id _ _ _⟩
          rw [← hcv]
          unfold World.cell?
          rw [hbz lb hlbr]
        haveI : Nonempty (RefC lb 36 w2.heap.size v (idVal X.data.toList)) := ⟨⟨_, hbase⟩⟩
        have hz1' : ∀ z : RefC lb 36 w2.heap.size v (idVal X.data.toList), z.1.cell? ⟨lb, 36, none⟩ = some v := fun z => z.2.1
        have hz2' : ∀ z : RefC lb 36 w2.heap.size v (idVal X.data.toList), okCells z.1 ⟨w2.heap.size, 0, none⟩ 32 = true := fun z => z.2.2.1
        have hz3' : ∀ z : RefC lb 36 w2.heap.size v (idVal X.data.toList), rdCells z.1 ⟨w2.heap.size, 0, none⟩ 32 = (encId (idVal X.data.toList)).toArray := fun z => z.2.2.2
        go_wp2_with fail
        refine wp_region_mix0 [0, 1, 2, 3, 4, 5] [6, 7, 8, 9, 10] (fun w' => ∃ z : RefC lb 36 w2.heap.size v (idVal X.data.toList), w' = z.1) (by kernel_rfl) (by kernel_rfl) (by kernel_rfl) ⟨⟨_, hbase⟩, rfl⟩ ?_
        simp only [opsAt, List.map_cons, List.map_nil, Array.getD_eq_getD_getElem?, List.getElem?_toArray, List.getElem?_cons_zero, List.getElem?_cons_succ, Option.getD_some]
        repeat (go_big_quiet_step (fail))
        refine wpQuiet_nil ?_
        generalize hW0 : (w2.alloc (.cells (encId (idVal X.data.toList)).toArray 23)).drew = W at hbz hbase ⊢
        have hW := hW0.symm
        clear hW0
        refine wpR_cons true rfl (by kernel_rfl) ?_
        refine wpList_buildSlice rfl 24 23 1 _ rfl (encId (idVal X.data.toList)).toArray i0 _ Tryz.underlying24 hi hz0 (by rw [hz1]; decide) (by rw [hz1]; decide) (by rw [hz1]; simp only [List.map_toArray, List.map_cons, List.map_nil]; refine fill_one _ _ 32 (encId_size _) ?_; rw [Array.size_map, Array.size_range]) ?_
        clear hz1' hz2' hz3'
        go_wp2_with fail
        have hWs : wr.heap.size < W.heap.size := by have := hb2.size; rw [hW]; simp [World.drew]; omega
        have hownW : W.ownsRow w1.heap.size 23 32 v k (flatIds ((T.map idVal).take k)) := by rw [hW]; exact ((ownsRow_below hL.own hb2).alloc _).drew
        have hgW : wr.grownBy W none := by
          refine ⟨?_, ?_, ?_, by omega, fun b hb _ => hbz b hb⟩
          · rw [hW]; exact hb2.os
          · rw [hW]; exact hb2.tape
          · rw [hW]; exact hb2.output
        have hownA := hownW.alloc (.cells (encId (idVal X.data.toList)).toArray 23)
        have HW := Lib.hid hW
        clear hW
        refine ⟨fun _ => RefC.same hbase (heap_alloc_old _ _ (show lb < W.heap.size by omega)) (heap_alloc_old _ _ (show w2.heap.size < W.heap.size by rw [HW.out]; simp [World.drew])), wpR_cons true rfl (by kernel_rfl) ?_⟩
        have hW1 : w1.heap.size ≤ W.heap.size := by have := hL.grown.size; omega
        refine wpList_append_own _ rfl (.tmp 29) (.tmp 31) 24 rfl w1.heap.size 23 i0 (.agg (encId zeroId).toArray) 32 32 Tryz.underlying24 hi hz0 hz1 hz2 (encId_size zeroId) (by decide) _ _ _ rfl hownA ⟨W.heap.size, 0, none⟩ 1 1 (encId (idVal X.data.toList)) rfl (encId_length _) ?c1 ?c2 ?c3 ?c4 ?c5 ?_
        case c1 =>
          intro j u hj
          rw [Addr.add_lit, Nat.zero_add, cells_new, List.getElem?_toArray]; exact hj
        case c2 => exact encId_oneCell _
        case c3 => unfold maxLen; omega
        case c4 => omega
        case c5 => simp; omega
        intro v' w3 hown' hgrow _
        have hne : v.ownBlock ≠ some lb := fun e => by have := (hL.own.lt lb e).1; omega
        have hlt' := Lib.hid hown'.lt
        obtain ⟨g', cap', hv'⟩ : ∃ g' cap', v' = .slice (some ⟨g', 0, none⟩) (k + 1) cap' := by
          rcases hown'.2 with ⟨_, h0⟩ | ⟨g', cap', _, e, _⟩
          · omega
          · exact ⟨g', cap', e⟩
        subst hv'
        have hblk3 : w3.heap[lb]? = some (.cells (cs.setIfInBounds 36 v) t (0, 0)) := by
          rw [hgrow.block lb (by simp; omega) (fun e => hne e.symm), heap_alloc_old _ _ (by omega), hbz lb hlbr]
          exact hL.blk
        have hc3 : w3.cell? ⟨lb, 36, none⟩ = some v := by rw [cell_of_row w3 lb 36 _ _ _ hblk3]; simp [hoff]
        have hf3 : w3.frozen? ⟨lb, 36, none⟩ = false := frozen_of_row w3 lb 36 _ _ hblk3
        have hL' : RefsLoop w1 (w3.setCell ⟨lb, 36, none⟩ (.slice (some ⟨g', 0, none⟩) (k + 1) cap')) lb 36 t cs T (k + 1) (.slice (some ⟨g', 0, none⟩) (k + 1) cap') := by
          refine ⟨?_, ?_, ?_⟩
          · rw [heap_setCell_same w3 lb 36 _ _ _ hblk3, Array.setIfInBounds_setIfInBounds]
          · have hfl : flatIds ((T.map idVal).take (k + 1)) = flatIds ((T.map idVal).take k) ++ encId (idVal X.data.toList) := by
              rw [take_texts hkT, flat_snoc, HX.out]; rfl
            rw [hfl]
            exact hown'.kept (grown_set w3 lb 36 _) (Or.inr fun e => by have := (hlt'.out lb e).1; omega)
          · have hsz := hgrow.size
            have hg1 := hL.grown
            refine ⟨?_, ?_, ?_, ?_, fun b hb hnb => ?_⟩
            · exact hgrow.os.trans (hgW.os.trans hg1.os)
            · exact hgrow.tape.trans (hgW.tape.trans hg1.tape)
            · exact hgrow.output.trans (hgW.output.trans hg1.output)
            · simp [World.setCell] at hsz ⊢; omega
            · rw [heap_setCell_other w3 ⟨lb, 36, none⟩ b _ (fun e => hnb (by rw [e])), hgrow.block b (by simp; omega) (fun e => by have := (hL.own.lt b e.symm).1; omega), heap_alloc_old _ _ (by omega), hbz b (by have := hg1.size; omega)]
              exact hg1.block b hb hnb
        have HL' := Lib.hid hL'
        have HAL := Lib.hid (all_take hkT hall (by have := HX.out ▸ hok; exact this))
        have hC3 : ∃ z : RefC lb 36 w2.heap.size v (idVal X.data.toList), w3 = z.1 := by
          have hWw2 : w2.heap.size < W.heap.size := by rw [HW.out]; simp [World.drew]
          refine RefC.same hbase ?_ ?_
          · rw [hblk3, hbz lb hlbr, hL.blk]
          · rw [hgrow.block w2.heap.size (by simp; omega) (fun e => by have := (hL.own.lt _ e.symm).2; have := hb2.size; omega), heap_alloc_old _ _ hWw2]
        have HC3 := Lib.hid hC3
        clear hC3 hL' hown' hgrow hownA hownW hgW hbase hbz hall hL hblk3
        go_wp2_with fail
        refine ⟨fun _ => HC3.out, wpR_list [8, 9, 10] _ _ (by kernel_rfl) ?_⟩
        simp only [opsAt, List.map_cons, List.map_nil, Array.getD_eq_getD_getElem?, List.getElem?_toArray, List.getElem?_cons_zero, List.getElem?_cons_succ, Option.getD_some]
        go_wp2
        refine NoPanic.normal ?_
        go_wp2
        go_roundw
        case rel => exact ⟨k + 1, _, by omega, by go_num, HL'.out, HAL.out⟩
        case measure => simp [intOf]; omega
      · have hok' : idOk X.data.toList = false := by simpa using hok
        rw [hok']
        go_wp2
        go_ret
        have hblkf : (w2.alloc (.cells (encId (idVal X.data.toList)).toArray 23)).heap[lb]? = some (.cells (cs.setIfInBounds 36 v) t (0, 0)) := by
          have := (Array.getElem?_eq_some_iff.1 hL.blk).1
          rw [heap_alloc_old _ _ (Nat.lt_of_lt_of_le this hb2.size), hb2.block lb this]; exact hL.blk
        have hrp : refsPart p = 3 := by
          unfold refsPart
          rw [← HT.out, not_all hkT (by have := HX.out ▸ hok'; exact this)]; rfl
        refine ⟨by rw [hrp]; rfl, ?_, v, hblkf, own_one hL.own, fun e => by have := (hL.own.lt lb e).1; omega, fun e => by rw [hrp] at e; cases e⟩
        exact grown_trans (grown_below hb1 _) (grown_trans hL.grown (grown_below (hb2.alloc hb2.size _) _))
    · obtain rfl : k = n := by omega
      have hcv := hL.cell hoff
      have hids := idsAt_own (w := wr) (B := w1.heap.size) (v := v) (ids := (T.map idVal).take k) (by
        have : ((T.map idVal).take k).length = k := by rw [List.length_take, List.length_map, ← HNT.out]; omega
        rw [this]; exact hL.own)
      go_wp2_with fail
      refine (checkReferences_any v _ wr hids (by rw [List.length_take, List.length_map, maxLen]; omega)).mono ?_
      rintro r w2 ⟨rfl, hb2⟩
      go_wp2
      go_ret
      have hblkf : w2.heap[lb]? = some (.cells (cs.setIfInBounds 36 v) t (0, 0)) := (hb2.block lb (Array.getElem?_eq_some_iff.1 hL.blk).1).trans hL.blk
      have hrp : refsPart p = refsErr ((T.map idVal).take k) := by
        have ha : T.all idOk = true := by rw [← hall, List.take_of_length_le (by rw [← HNT.out]; omega)]
        unfold refsPart refIds
        rw [← HT.out, ha, List.take_of_length_le (by rw [List.length_map, ← HNT.out]; omega)]; rfl
      have hri : refIds p = (T.map idVal).take k := by
        unfold refIds
        rw [← HT.out, List.take_of_length_le (by rw [List.length_map, ← HNT.out]; omega)]
      refine ⟨by rw [hrp]; rfl, ?_, v, hblkf, own_one hL.own, fun e => by have := (hL.own.lt lb e).1; omega, fun _ => by rw [hri]; exact hids.below hb2⟩
      exact grown_trans (grown_below hb1 _) (grown_trans hL.grown (grown_below hb2 _))

set_option maxHeartbeats 1000000 in
theorem setReferences_any (lb t : Nat) (cs : Array Value) (p : ByteArray) (w : World) (hblk : w.heap[lb]? = some (.cells cs t (0, 0))) (h36 : cs[36]? = some (.slice none 0 0)) (hG : Gl w) (hp : p.size < 4294967281) :
    Calls Tryz.prog 98 #[.pointer (some ⟨lb, 0, none⟩), .string p] w fun r w' => r = .returned (.int .i64 (refsPart p)) ∧ w.grownBy w' (some lb) ∧ ∃ v, w'.heap[lb]? = some (.cells (cs.setIfInBounds 36 v) t (0, 0)) ∧ v.oneCell' = true ∧ v.ownBlock ≠ some lb ∧ (refsPart p = 0 → IdsAt w' v (refIds p)) := by
  by_cases hne : p.size = 0
  · have hpe : p.toList.isEmpty = true := by
      rw [ByteArray.toList_eq, List.isEmpty_iff, ← List.length_eq_zero_iff, size_list]; exact hne
    have HT := Lib.hid (show refTexts p = [] from if_pos hne)
    have HBLK := Lib.hid hblk
    have H36 := Lib.hid h36
    clear hne hblk h36
    go_enter Tryz.func98, Tryz.ntmps98
    go_wp2
    go_ret
    have hrp : refsPart p = 0 := by unfold refsPart refIds; rw [HT.out]; rfl
    have hset0 : cs.setIfInBounds 36 (.slice none 0 0) = cs := by
      apply Array.ext_getElem?
      intro j
      rw [Array.getElem?_setIfInBounds]
      split
      · rename_i e; subst e; rw [if_pos (Array.getElem?_eq_some_iff.1 H36.out).1]; exact H36.out.symm
      · rfl
    refine ⟨by rw [hrp]; rfl, grown_refl _ _, .slice none 0 0, by rw [hset0]; exact HBLK.out, rfl, by simp [Value.ownBlock], fun _ => ?_⟩
    have hri : refIds p = [] := by unfold refIds; rw [HT.out]; rfl
    rw [hri]
    exact ⟨none, 0, rfl, Nat.le_refl _, fun h => absurd rfl h⟩
  · exact setReferences_some lb t cs p w hblk h36 hG hp hne

end Go.Proofs.YtdjaphcelpchaaaGreatDoor

/- (*overview.Line).set: one part of a text into one field of the line. -/
namespace Go.Proofs.YtdjaphcelpchaaaGreatDoor
open Go Go.RowKit Go.Proofs

attribute [local go_sem ↓] ex_load_id ex_store_id ex_alloc_id ex_build_id
attribute [local go_sem] ld_id st_id guard_id okCells_drew rdCells_drew okCells_drewN rdCells_drewN rowOk_drew rowOk_cells okCells_cells rdCells_cells okArr_id rdArr_id setRow_drew setRow_new setRow_past fits_id encId_length

/-- What part i says of its text, and the line with that part set. -/
def partErr (i : Nat) (p : ByteArray) : Int := match i with
  | 0 => numErr p.data.toList 1 2147483646 2
  | 1 => if idOk p.data.toList then 0 else 3
  | 2 => textErr p.data.toList 60
  | 3 => numErr p.data.toList 0 105190559 13
  | 4 => textErr p.data.toList 200
  | 5 => refsPart p
  | _ => numErr p.data.toList 0 65536 2
def setG (g : GLine) (i : Nat) (p : ByteArray) (v : Value) : GLine := match i with
  | 0 => { g with number := numVal p.data.toList }
  | 1 => { g with id := idVal p.data.toList }
  | 2 => { g with name := p }
  | 3 => { g with date := numVal p.data.toList }
  | 4 => { g with subject := p }
  | 5 => { g with refs := v }
  | _ => { g with bytes := numVal p.data.toList }
/-- A block for a line, whatever it holds. -/
def LineBlk (w : World) (lb : Nat) : Prop := ∃ cs, w.heap[lb]? = some (.cells cs 34 (0, 0)) ∧ cs.size = 38
def SetPost (g : GLine) (i : Nat) (p : ByteArray) (lb : Nat) (w w' : World) : Prop :=
  w.grownBy w' (some lb) ∧ LineBlk w' lb ∧ (partErr i p = 0 → ∃ v, LineVar w' lb (setG g i p v) ∧ (i = 5 → v.oneCell' = true ∧ v.ownBlock ≠ some lb ∧ IdsAt w' v (refIds p)))

theorem LineVar.row {w : World} {lb : Nat} {g : GLine} (h : LineVar w lb g) : rowOk w lb 38 = true := by
  unfold rowOk; rw [h]; simp [lineCells_size]
theorem LineVar.blk {w : World} {lb : Nat} {g : GLine} (h : LineVar w lb g) : LineBlk w lb := ⟨_, h, lineCells_size g⟩
theorem LineBlk.row {w : World} {lb : Nat} (h : LineBlk w lb) : rowOk w lb 38 = true := by
  obtain ⟨cs, h1, h2⟩ := h
  unfold rowOk; rw [h1]; simp [h2]
theorem IdsAt.grown {w w' : World} {v : Value} {ids : List Id32} {lb : Nat} (h : IdsAt w v ids) (hg : w.grownBy w' (some lb)) (hne : v.ownBlock ≠ some lb) : IdsAt w' v ids := by
  obtain ⟨a, c, rfl, hc, hr⟩ := h
  refine ⟨a, c, rfl, hc, fun hn => ?_⟩
  obtain ⟨b, off, rfl, hrow⟩ := hr hn
  refine ⟨b, off, rfl, fun j hj i v hi => ?_⟩
  rw [← hrow j hj i v hi]
  unfold World.cell?
  rw [hg.block b (hrow.lt hn) (fun e => hne (by rw [Value.ownBlock]; exact e))]
theorem post_of {g : GLine} {i : Nat} {p : ByteArray} {lb : Nat} {w w' : World} (hg : w.grownBy w' (some lb)) (hv : ∀ v, LineVar w' lb (setG g i p v)) (hi : i ≠ 5) : SetPost g i p lb w w' :=
  ⟨hg, (hv undef).blk, fun _ => ⟨undef, hv undef, fun e => absurd e hi⟩⟩
theorem post_no {g : GLine} {i : Nat} {p : ByteArray} {lb : Nat} {w w' : World} (hg : w.grownBy w' (some lb)) (hv : LineVar w' lb g) (he : partErr i p ≠ 0) : SetPost g i p lb w w' :=
  ⟨hg, hv.blk, fun e => absurd e he⟩
theorem numErr_no {l : List UInt8} {lo hi e : Int} (h : numOk l = false) : numErr l lo hi e = 3 := by unfold numErr; rw [h]; rfl
theorem numErr_yes {l : List UInt8} {lo hi e : Int} (h : numOk l = true) : numErr l lo hi e = rangeErr (numVal l) lo hi e := by unfold numErr; rw [h]; rfl

set_option maxHeartbeats 1000000 in
theorem set0 (lb : Nat) (g : GLine) (p : ByteArray) (w : World) (hv : LineVar w lb g) (hs : p.size ≤ maxLen) :
    Calls Tryz.prog 60 #[.pointer (some ⟨lb, 0, none⟩), .int .i64 0, .string p] w fun r w' => r = .returned (.int .i64 (partErr 0 p)) ∧ SetPost g 0 p lb w w' := by
  by_cases hok : numOk p.data.toList = true
  · have HOK := Lib.hid hok
    clear hok
    go_enter Tryz.func60, Tryz.ntmps60
    go_wp2_with fail
    refine (setNumber_yes lb 0 p 1 2147483646 2 w hs _ ((hv.cell 0).trans (lc0 g)) (hv.free 0) HOK.out).mono ?_
    rintro r w' ⟨rfl, rfl⟩
    go_wp2
    go_ret
    exact ⟨ret_int (numErr_yes HOK.out).symm, post_of (grown_set _ _ _ _) (fun v => hv.set 0 _ (set_number g _)) (by decide)⟩
  · have HOK := Lib.hid (show numOk p.data.toList = false by simpa using hok)
    clear hok
    go_enter Tryz.func60, Tryz.ntmps60
    go_wp2_with fail
    refine (setNumber_no lb 0 p 1 2147483646 2 w hs HOK.out).mono ?_
    rintro r w' ⟨rfl, rfl⟩
    go_wp2
    go_ret
    exact ⟨ret_int (numErr_no HOK.out).symm, post_no (grown_refl _ _) hv (by rw [show partErr 0 p = 3 from numErr_no HOK.out]; decide)⟩

theorem lineList_id (g : GLine) (x : Id32) : (lineList g).take 1 ++ encId x ++ (lineList g).drop 33 = lineList { g with id := x } := by
  simp [lineList, encId_length]
theorem st_line_id (w : World) (lb : Nat) (g : GLine) (x : Id32) (h : LineVar w lb g) : stRes Tryz.prog 23 w (.pointer (some ⟨lb, 1, none⟩)) (.agg (encId x).toArray) = .ok .skip (w.setRow lb (lineCells { g with id := x })) := by
  have h1 := run_storeCells_at Tryz.prog lb 1 34 (encId x) 0 (lineCells g) w h (by rw [encId_length, lineCells_size]; omega) (encId_oneCell x)
  have e : ((lineCells g).toList.take (1 + 0) ++ encId x ++ (lineCells g).toList.drop (1 + 0 + (encId x).length)).toArray = lineCells { g with id := x } := by
    rw [encId_length]; exact congrArg List.toArray (lineList_id g x)
  rw [e] at h1
  unfold stRes
  rw [Sem.run_bind]
  have h2 : Sem.run Tryz.prog (Instr.storeAt 23 (.pointer (some ⟨lb, 1, none⟩)) (.agg (encId x).toArray)) w = .ok () (w.setRow lb (lineCells { g with id := x })) := by
    simp [Instr.storeAt, Instr.sureAddr, storeVar, Tryz.sizeOf23, Value.cells, encId_length, h1]
  rw [h2]; rfl
theorem LineVar.row_set {w : World} {lb : Nat} {g g' : GLine} (h : LineVar w lb g) : LineVar (w.setRow lb (lineCells g')) lb g' := setRow_heap w lb _ _ _ _ h
theorem grown_row (w : World) (lb : Nat) (cs : Array Value) : w.grownBy (w.setRow lb cs) (some lb) :=
  ⟨rfl, rfl, rfl, by simp [World.setRow], fun k _ hne => by
    unfold World.setRow
    simp only [Array.getElem?_modify]
    rw [if_neg (fun e => hne (by rw [e]))]⟩

set_option maxRecDepth 100000 in
set_option maxHeartbeats 1000000 in
theorem set1 (lb : Nat) (g : GLine) (p : ByteArray) (w : World) (hv : LineVar w lb g) (hs : p.size ≤ maxLen) :
    Calls Tryz.prog 60 #[.pointer (some ⟨lb, 0, none⟩), .int .i64 1, .string p] w fun r w' => r = .returned (.int .i64 (partErr 1 p)) ∧ SetPost g 1 p lb w w' := by
  go_enter Tryz.func60, Tryz.ntmps60
  go_wp2_with fail
  refine (parseId_any p w hs).mono ?_
  rintro r w2 ⟨rfl, hb2⟩
  have hv2 : LineVar (w2.alloc (.cells (encId (idVal p.data.toList)).toArray 23)) lb g := hv.grown (grown_below (hb2.alloc hb2.size _) none) (by simp)
  have hg2 := Lib.hid (grown_below (hb2.alloc hb2.size (.cells (encId (idVal p.data.toList)).toArray 23)) (some lb))
  by_cases hok : idOk p.data.toList = true
  · have HOK := Lib.hid hok
    rw [hok]
    clear hok hb2
    have hst := st_line_id _ lb g (idVal p.data.toList) hv2
    have HV2 := Lib.hid hv2
    clear hv2 hv
    go_wp2
    go_ret
    exact ⟨ret_int (by unfold partErr; rw [HOK.out]; rfl), post_of (grown_trans hg2.out (grown_row _ _ _)) (fun v => HV2.out.row_set) (by decide)⟩
  · have hok' : idOk p.data.toList = false := by simpa using hok
    have HOK := Lib.hid hok'
    rw [hok']
    have HV2 := Lib.hid hv2
    clear hok hok' hb2 hv2 hv
    go_wp2
    go_ret
    have e3 : partErr 1 p = 3 := by unfold partErr; rw [HOK.out]; rfl
    exact ⟨ret_int e3.symm, post_no hg2.out HV2.out (by rw [e3]; decide)⟩

set_option maxHeartbeats 1000000 in
theorem set2 (lb : Nat) (g : GLine) (p : ByteArray) (w : World) (hv : LineVar w lb g) (hs : p.size ≤ maxLen) :
    Calls Tryz.prog 60 #[.pointer (some ⟨lb, 0, none⟩), .int .i64 2, .string p] w fun r w' => r = .returned (.int .i64 (partErr 2 p)) ∧ SetPost g 2 p lb w w' := by
  have hc := (hv.cell 33).trans (lc33 g)
  have hf := hv.free 33
  have HV := Lib.hid hv
  clear hv
  go_enter Tryz.func60, Tryz.ntmps60
  go_wp2_with fail
  refine (checkText_any p 60 _ hs).mono ?_
  rintro r w' ⟨rfl, rfl⟩
  go_wp2
  go_ret
  exact ⟨rfl, post_of (grown_set _ _ _ _) (fun v => HV.out.set 33 _ (set_name g _)) (by decide)⟩

set_option maxHeartbeats 1000000 in
theorem set3 (lb : Nat) (g : GLine) (p : ByteArray) (w : World) (hv : LineVar w lb g) (hs : p.size ≤ maxLen) :
    Calls Tryz.prog 60 #[.pointer (some ⟨lb, 0, none⟩), .int .i64 3, .string p] w fun r w' => r = .returned (.int .i64 (partErr 3 p)) ∧ SetPost g 3 p lb w w' := by
  by_cases hok : numOk p.data.toList = true
  · have HOK := Lib.hid hok
    clear hok
    go_enter Tryz.func60, Tryz.ntmps60
    go_wp2_with fail
    refine (setNumber_yes lb 34 p 0 105190559 13 w hs _ ((hv.cell 34).trans (lc34 g)) (hv.free 34) HOK.out).mono ?_
    rintro r w' ⟨rfl, rfl⟩
    go_wp2
    go_ret
    exact ⟨ret_int (numErr_yes HOK.out).symm, post_of (grown_set _ _ _ _) (fun v => hv.set 34 _ (set_date g _)) (by decide)⟩
  · have HOK := Lib.hid (show numOk p.data.toList = false by simpa using hok)
    clear hok
    go_enter Tryz.func60, Tryz.ntmps60
    go_wp2_with fail
    refine (setNumber_no lb 34 p 0 105190559 13 w hs HOK.out).mono ?_
    rintro r w' ⟨rfl, rfl⟩
    go_wp2
    go_ret
    exact ⟨ret_int (numErr_no HOK.out).symm, post_no (grown_refl _ _) hv (by rw [show partErr 3 p = 3 from numErr_no HOK.out]; decide)⟩

set_option maxHeartbeats 1000000 in
theorem set4 (lb : Nat) (g : GLine) (p : ByteArray) (w : World) (hv : LineVar w lb g) (hs : p.size ≤ maxLen) :
    Calls Tryz.prog 60 #[.pointer (some ⟨lb, 0, none⟩), .int .i64 4, .string p] w fun r w' => r = .returned (.int .i64 (partErr 4 p)) ∧ SetPost g 4 p lb w w' := by
  have hc := (hv.cell 35).trans (lc35 g)
  have hf := hv.free 35
  have HV := Lib.hid hv
  clear hv
  go_enter Tryz.func60, Tryz.ntmps60
  go_wp2_with fail
  refine (checkText_any p 200 _ hs).mono ?_
  rintro r w' ⟨rfl, rfl⟩
  go_wp2
  go_ret
  exact ⟨rfl, post_of (grown_set _ _ _ _) (fun v => HV.out.set 35 _ (set_subject g _)) (by decide)⟩

set_option maxHeartbeats 1000000 in
theorem set5 (lb : Nat) (g : GLine) (p : ByteArray) (w : World) (hv : LineVar w lb g) (hr : g.refs = .slice none 0 0) (hG : Gl w) (hs : p.size < 4294967281) :
    Calls Tryz.prog 60 #[.pointer (some ⟨lb, 0, none⟩), .int .i64 5, .string p] w fun r w' => r = .returned (.int .i64 (partErr 5 p)) ∧ SetPost g 5 p lb w w' := by
  go_enter Tryz.func60, Tryz.ntmps60
  go_wp2_with fail
  refine (setReferences_any lb 34 (lineCells g) p w hv (by rw [lc36, hr]) hG hs).mono ?_
  rintro r w' ⟨rfl, hg, v, hb, h1, h2, h3⟩
  rw [set_refs] at hb
  clear hv hr hG
  go_wp2
  go_ret
  exact ⟨rfl, hg, LineVar.blk hb, fun e => ⟨v, hb, fun _ => ⟨h1, h2, h3 e⟩⟩⟩

set_option maxHeartbeats 1000000 in
theorem set6 (lb : Nat) (g : GLine) (p : ByteArray) (w : World) (hv : LineVar w lb g) (hs : p.size ≤ maxLen) :
    Calls Tryz.prog 60 #[.pointer (some ⟨lb, 0, none⟩), .int .i64 6, .string p] w fun r w' => r = .returned (.int .i64 (partErr 6 p)) ∧ SetPost g 6 p lb w w' := by
  by_cases hok : numOk p.data.toList = true
  · have HOK := Lib.hid hok
    clear hok
    go_enter Tryz.func60, Tryz.ntmps60
    go_wp2_with fail
    refine (setNumber_yes lb 37 p 0 65536 2 w hs _ ((hv.cell 37).trans (lc37 g)) (hv.free 37) HOK.out).mono ?_
    rintro r w' ⟨rfl, rfl⟩
    go_wp2
    go_ret
    exact ⟨ret_int (numErr_yes HOK.out).symm, post_of (grown_set _ _ _ _) (fun v => hv.set 37 _ (set_bytes g _)) (by decide)⟩
  · have HOK := Lib.hid (show numOk p.data.toList = false by simpa using hok)
    clear hok
    go_enter Tryz.func60, Tryz.ntmps60
    go_wp2_with fail
    refine (setNumber_no lb 37 p 0 65536 2 w hs HOK.out).mono ?_
    rintro r w' ⟨rfl, rfl⟩
    go_wp2
    go_ret
    exact ⟨ret_int (numErr_no HOK.out).symm, post_no (grown_refl _ _) hv (by rw [show partErr 6 p = 3 from numErr_no HOK.out]; decide)⟩

end Go.Proofs.YtdjaphcelpchaaaGreatDoor

/- overview.Parse. -/
namespace Go.Proofs.YtdjaphcelpchaaaGreatDoor
open Go Go.RowKit Go.Proofs

theorem set_any (i lb : Nat) (g : GLine) (p : ByteArray) (w : World) (hi : i < 7) (hv : LineVar w lb g) (hr : i = 5 → g.refs = .slice none 0 0) (hG : Gl w) (hs : p.size < 4294967281) :
    Calls Tryz.prog 60 #[.pointer (some ⟨lb, 0, none⟩), .int .i64 i, .string p] w fun r w' => r = .returned (.int .i64 (partErr i p)) ∧ SetPost g i p lb w w' := by
  have hm : p.size ≤ maxLen := by unfold maxLen; omega
  match i, hi, hr with
  | 0, _, _ => exact set0 lb g p w hv hm
  | 1, _, _ => exact set1 lb g p w hv hm
  | 2, _, _ => exact set2 lb g p w hv hm
  | 3, _, _ => exact set3 lb g p w hv hm
  | 4, _, _ => exact set4 lb g p w hv hm
  | 5, _, hr => exact set5 lb g p w hv (hr rfl) hG hs
  | 6, _, _ => exact set6 lb g p w hv hm

def nth (T : List ByteArray) (k : Nat) : ByteArray := T.getD k ⟨#[]⟩
theorem nth_at (T : List ByteArray) (k : Nat) (h : k < T.length) : T[k]? = some (nth T k) := by simp [nth, h]
/-- Where part k of a text begins. -/
def offs (T : List ByteArray) (k : Nat) : Nat := ((T.take k).map fun x => x.size + 1).sum
theorem offs_succ (T : List ByteArray) (k : Nat) (h : k < T.length) : offs T (k + 1) = offs T k + ((nth T k).size + 1) := by
  unfold offs
  have e : nth T k = T[k] := by simp [nth, h]
  rw [List.take_succ_eq_append_getElem h, e, List.map_append, List.sum_append]
  simp
def firstBad (T : List ByteArray) : Option Nat := (List.range 7).find? fun k => partErr k (nth T k) != 0
/-- The error and its offset that Parse tells of a text. -/
def parseOut (s : ByteArray) : Int × Int :=
  if (splitS 9 s).length < 7 then (4, s.size) else if 7 < (splitS 9 s).length then (5, offs (splitS 9 s) 7)
  else match firstBad (splitS 9 s) with
    | some k => (partErr k (nth (splitS 9 s) k), offs (splitS 9 s) k)
    | none => (0, 0)
/-- The line when k parts have been read; v is the slice of its references. -/
def gAt (T : List ByteArray) (v : Value) : Nat → GLine
  | 0 => zeroLine
  | k + 1 => setG (gAt T v k) k (nth T k) v
theorem gAt_indep (T : List ByteArray) (v v' : Value) : ∀ k, k ≤ 5 → gAt T v k = gAt T v' k := by
  intro k hk
  have : k = 0 ∨ k = 1 ∨ k = 2 ∨ k = 3 ∨ k = 4 ∨ k = 5 := by omega
  rcases this with rfl | rfl | rfl | rfl | rfl | rfl <;> rfl
theorem gAt_refs (T : List ByteArray) (v : Value) : (gAt T v 5).refs = .slice none 0 0 := rfl
structure ParsedIs (s : ByteArray) (G : GLine) (ids : List Id32) : Prop where
  no : (parseOut s).1 ≠ 0 → G = zeroLine ∧ ids = []
  yes : (parseOut s).1 = 0 → ∃ v, G = gAt (splitS 9 s) v 7 ∧ ids = refIds (nth (splitS 9 s) 5)

theorem firstBad_some {T : List ByteArray} {k : Nat} (hk : k < 7) (h : partErr k (nth T k) ≠ 0) (h0 : ∀ j, j < k → partErr j (nth T j) = 0) : firstBad T = some k := by
  unfold firstBad
  rw [List.find?_range_eq_some]
  exact ⟨by simp [h], by simpa using hk, fun j hj => by simp [h0 j hj]⟩
theorem firstBad_none {T : List ByteArray} (h0 : ∀ j, j < 7 → partErr j (nth T j) = 0) : firstBad T = none := by
  unfold firstBad
  rw [List.find?_eq_none]
  intro j hj
  simp only [List.mem_range] at hj
  simp [h0 j hj]
theorem idsAt_nil (w : World) : IdsAt w (.slice none 0 0) [] := ⟨none, 0, rfl, Nat.le_refl _, fun h => absurd rfl h⟩

theorem results_agg3 {P : Program} {fn : Func} {p t u : Tmp} {ty n : Nat} (h : fn.results = #[.cell p ty, .tmp t, .tmp u]) (hA : ∀ w, Sem.run P (isAgg ty) w = .ok true w) (hs : ∀ w, Sem.run P (Go.sizeOf ty) w = .ok n w)
    (tmps : Array Value) (w : World) (a : Addr) (cs : Array Value) (v v2 : Value) (hp : tmps.getD p undef = .pointer (some a)) (hv : tmps.getD t undef = v) (hu : tmps.getD u undef = v2) (hok : okCells w a n = true) (hrd : rdCells w a n = cs) :
    (results fn tmps).run P w = .ok (.tuple #[.agg cs, v, v2]) w := by
  have hp' : tmps[p]?.getD undef = .pointer (some a) := by simpa using hp
  have hv2 : tmps[t]?.getD undef = v := by simpa using hv
  have hv3 : tmps[u]?.getD undef = v2 := by simpa using hu
  have hl : (loadVar ty a).run P w = .ok (.agg cs) w := by
    simp [loadVar, hA, hs, run_loadCells_rd w a n hok, hrd]
  simp [results, h, hp', hv2, hv3, asAddr, hl]
theorem LineVar.rd {w : World} {lb : Nat} {g : GLine} (h : LineVar w lb g) : okCells w ⟨lb, 0, none⟩ 38 = true ∧ rdCells w ⟨lb, 0, none⟩ 38 = lineCells g := by
  have := rd_of_cells (w := w) (a := ⟨lb, 0, none⟩) (cs := lineList g) (fun j v hj => by rw [Addr.add_lit, Nat.zero_add, h.cell j]; simpa [lineCells] using hj)
  rwa [lineList_length] at this
theorem LineBlk.setRow {w : World} {lb : Nat} {g' : GLine} (h : LineBlk w lb) : LineVar (w.setRow lb (lineCells g')) lb g' := by
  obtain ⟨cs, h1, _⟩ := h
  exact setRow_heap w lb _ _ _ _ h1

end Go.Proofs.YtdjaphcelpchaaaGreatDoor

/- overview.Parse: the walk. -/
namespace Go.Proofs.YtdjaphcelpchaaaGreatDoor
open Go Go.RowKit Go.Proofs

attribute [local go_sem ↓] ex_load_id ex_store_id ex_load_line ex_store_line ex_alloc_line ex_build_line
attribute [local go_sem] ld_id st_id ld_line st_line guard_id okCells_drew rdCells_drew okCells_drewN rdCells_drewN rowOk_drew rowOk_cells okCells_cells rdCells_cells setRow_drew setRow_new setRow_past

structure ParseLoop (w W1 wr : World) (T : List ByteArray) (k : Nat) (v : Value) : Prop where
  var : LineVar wr w.heap.size (gAt T v k)
  grown : W1.grownBy wr (some w.heap.size)
  ids : 5 < k → v.oneCell' = true ∧ v.ownBlock ≠ some w.heap.size ∧ IdsAt wr v (refIds (nth T 5))
  ok : ∀ j, j < k → partErr j (nth T j) = 0

theorem ParseLoop.next {w W1 wr w' : World} {T : List ByteArray} {k : Nat} {v : Value} (h : ParseLoop w W1 wr T k v) (hp : SetPost (gAt T v k) k (nth T k) w.heap.size wr w') (he : partErr k (nth T k) = 0) : ∃ v', ParseLoop w W1 w' T (k + 1) v' := by
  obtain ⟨hg, _, hy⟩ := hp
  obtain ⟨v', hv', h5⟩ := hy he
  have hok : ∀ j, j < k + 1 → partErr j (nth T j) = 0 := fun j hj => by
    by_cases e : j = k
    · rw [e]; exact he
    · exact h.ok j (by omega)
  by_cases hk : k = 5
  · subst hk
    refine ⟨v', ?_, grown_trans h.grown hg, fun _ => h5 rfl, hok⟩
    rw [gAt, gAt_indep T v' v 5 (Nat.le_refl _)]
    exact hv'
  · by_cases hlt : k < 5
    · refine ⟨v', ?_, grown_trans h.grown hg, fun h6 => by omega, hok⟩
      rw [gAt, gAt_indep T v' v k (by omega)]
      exact hv'
    · refine ⟨v, ?_, grown_trans h.grown hg, fun _ => ?_, hok⟩
      · rw [gAt]
        have e : setG (gAt T v k) k (nth T k) v = setG (gAt T v k) k (nth T k) v' := by
          unfold setG
          split <;> first | rfl | omega
        rw [e]; exact hv'
      · obtain ⟨h1, h2, h3⟩ := h.ids (by omega)
        exact ⟨h1, h2, h3.grown hg h2⟩

theorem offs_le (T : List ByteArray) (M : Nat) : ∀ k, k ≤ T.length → (∀ j, j < k → (nth T j).size + 1 ≤ M) → offs T k ≤ k * M
  | 0, _, _ => by simp [offs]
  | k + 1, hk, h => by
    have ih := offs_le T M k (by omega) (fun j hj => h j (by omega))
    have h1 := h k (by omega)
    rw [offs_succ T k (by omega), Nat.succ_mul]
    omega
theorem gAt_one (T : List ByteArray) (v : Value) (h : v.oneCell' = true) : refsOne (gAt T v 7) := h

def ParsePost (s : ByteArray) (w : World) (r : Ending) (w' : World) : Prop := ∃ G ids, r = .returned (.tuple #[.agg (lineCells G), .int .i64 (parseOut s).2, .int .i64 (parseOut s).1]) ∧ ParsedIs s G ids ∧ IdsAt w' G.refs ids ∧ refsOne G ∧ Below w.heap.size w w'
theorem parse_bad {s : ByteArray} {w w' : World} {e o : Int} (he : parseOut s = (e, o)) (hne : e ≠ 0) (hb : Below w.heap.size w w') : ParsePost s w (.returned (.tuple #[.agg (lineCells zeroLine), .int .i64 o, .int .i64 e])) w' :=
  ⟨zeroLine, [], by rw [he], ⟨fun _ => ⟨rfl, rfl⟩, fun h => absurd (by rw [he] at h; exact h) hne⟩, idsAt_nil w', rfl, hb⟩
theorem parse_good {s : ByteArray} {w W1 wr : World} {v : Value} (h : ParseLoop w W1 wr (splitS 9 s) 7 v) (hlen : (splitS 9 s).length = 7) (hb1 : Below w.heap.size w W1) :
    ParsePost s w (.returned (.tuple #[.agg (lineCells (gAt (splitS 9 s) v 7)), .int .i64 0, .int .i64 0])) (wr.setRow w.heap.size (lineCells (gAt (splitS 9 s) v 7))) := by
  have he : parseOut s = (0, 0) := by
    unfold parseOut
    rw [if_neg (by omega), if_neg (by omega), firstBad_none h.ok]
  obtain ⟨h1, h2, h3⟩ := h.ids (by omega)
  refine ⟨_, refIds (nth (splitS 9 s) 5), by rw [he], ⟨fun e => absurd (by rw [he]) e, fun _ => ⟨v, rfl, rfl⟩⟩, h3.grown (grown_row _ _ _) h2, gAt_one _ _ h1, ?_⟩
  exact below_grown hb1 (grown_trans h.grown (grown_row _ _ _)) hb1.size (Nat.le_refl _)

set_option maxRecDepth 100000 in
set_option maxHeartbeats 2000000 in
theorem parse_any (s : ByteArray) (w : World) (hG : Gl w) (hs : s.size < 4294967281) :
    Calls Tryz.prog 19 #[.string s] w (ParsePost s w) := by
  obtain ⟨T, hT⟩ : ∃ T, T = splitS 9 s := ⟨_, rfl⟩
  have hlen := splitS_len 9 s
  rw [← hT] at hlen
  obtain ⟨n, hn⟩ : ∃ n, n = T.length := ⟨_, rfl⟩
  rw [← hn] at hlen
  have HT := Lib.hid hT
  have HN := Lib.hid hn
  have hsz : ∀ k, k < n → (nth T k).size ≤ s.size := fun k hk => by
    have h1 : nth T k ∈ T := by
      have := nth_at T k (by omega)
      exact List.mem_of_getElem? this
    have e0 : T = (splitL 9 s.data.toList).map str := hT
    generalize nth T k = y at h1 ⊢
    rw [e0, List.mem_map] at h1
    obtain ⟨x, hx, e⟩ := h1
    have := splitL_part 9 s.data.toList x hx
    rw [size_list] at this
    rw [← e, str_size]; exact this
  have HSZ := Lib.hid hsz
  have hfz : fitsRow 38 (lineCells zeroLine) = true := fits_line rfl
  clear hT hn hsz
  go_enter Tryz.func19, Tryz.ntmps19
  go_wp2_with fail
  refine (split_any 9 s _ (hG.later ((Below.refl _ _).alloc (Nat.le_refl _) _)) hs).mono ?_
  rintro r W1 ⟨rfl, hW1⟩
  rw [← HT.out] at hW1
  rw [← HT.out, ← HN.out]
  have hrow : StrRow W1 (w.heap.size + 1) 0 T := by
    rw [← hW1]
    have := split_row (w.alloc (.cells (lineCells zeroLine) 34)) 9 T
    simpa using this
  have hvar1 : LineVar W1 w.heap.size zeroLine := by
    unfold LineVar
    rw [← hW1, heap_alloc_old _ _ (by simp), heap_alloc_new]
  have hb1 : Below w.heap.size w W1 := by rw [← hW1]; exact ((Below.refl _ _).alloc (Nat.le_refl _) _).alloc (by simp) _
  have hs1 : W1.heap.size = w.heap.size + 2 := by rw [← hW1]; simp
  have hro1 := hvar1.row
  have HV1 := Lib.hid hvar1
  clear hW1 hvar1
  by_cases hlow : n < 7
  · have hlowz : (n : Int) < 7 := by omega
    have HPO := Lib.hid (show parseOut s = (4, (s.size : Int)) by unfold parseOut; rw [← HT.out, ← HN.out, if_pos hlow])
    go_wp2
    refine bodyPost_ret (v := .tuple #[.agg (lineCells zeroLine), .int .i64 (s.size : Int), .int .i64 4]) ?_ rfl (parse_bad HPO.out (by decide) (below_grown hb1 (grown_row _ _ _) (by omega) (Nat.le_refl _)))
    exact results_agg3 rfl Tryz.isAgg34 Tryz.sizeOf34 _ _ ⟨w.heap.size, 0, none⟩ _ _ _ rfl rfl rfl (HV1.out.blk.setRow.rd.1) (HV1.out.blk.setRow.rd.2)
  · have hlowz : ¬ (n : Int) < 7 := by omega
    go_wp2
    go_loop [3, 21] (fun o i => ∃ k : Nat, k ≤ 7 ∧ k ≤ n ∧ i = .int .i64 k ∧ o = .int .i64 (offs T k : Nat)) (fun _ i => 8 - (intOf i).toNat)
    case atStart => exact ⟨0, by omega, by omega, rfl, rfl⟩
    case round =>
      obtain ⟨k, hk7, hkn, rfl, rfl⟩ := hrel
      have hoff := offs_le T 4294967296 k (by rw [← HN.out]; exact hkn) (fun j hj => by have := HSZ.out j (by omega); omega)
      by_cases hlt : k < n
      · have hltz : (k : Int) < (n : Int) := by omega
        have htext : W1.cell? ⟨w.heap.size + 1, k, none⟩ = some (.string (nth T k)) := by
          have := hrow k _ (nth_at T k (by rw [← HN.out]; exact hlt))
          rwa [Nat.zero_add] at this
        by_cases h7 : k = 7
        · subst h7
          rw [show ((7 : Nat) : Int) = 7 from rfl] at *
          have HPO := Lib.hid (show parseOut s = (5, (offs T 7 : Int)) by unfold parseOut; rw [← HT.out, ← HN.out, if_neg hlow, if_pos hlt])
          go_wp2
          refine bodyPost_ret (v := .tuple #[.agg (lineCells zeroLine), .int .i64 (offs T 7 : Int), .int .i64 5]) ?_ rfl (parse_bad HPO.out (by decide) (below_grown hb1 (grown_row _ _ _) (by omega) (Nat.le_refl _)))
          exact results_agg3 rfl Tryz.isAgg34 Tryz.sizeOf34 _ _ ⟨w.heap.size, 0, none⟩ _ _ _ rfl rfl rfl (HV1.out.blk.setRow.rd.1) (HV1.out.blk.setRow.rd.2)
        · have h7z : ((k : Int) == 7) = false := by rw [beq_eq_false_iff_ne]; omega
          have hsk := HSZ.out k hlt
          have HO := Lib.hid (offs_succ T k (by rw [← HN.out]; exact hlt))
          go_wp2
          go_round
          case rel => exact ⟨k + 1, by omega, by omega, by go_num, by rw [HO.out]; go_num⟩
          case measure => simp [intOf]; omega
      · obtain rfl : k = n := by omega
        obtain rfl : k = 7 := by omega
        go_wp2
        go_loopw [3, 38] (fun o i wr => ∃ (k : Nat) (v : Value), k ≤ 7 ∧ i = .int .i64 k ∧ o = .int .i64 (offs T k : Nat) ∧ ParseLoop w W1 wr T k v) (fun _ i _ => 7 - (intOf i).toNat)
        case atStart => exact ⟨0, undef, by omega, rfl, rfl, HV1.out, grown_refl _ _, fun h => by omega, fun j hj => by omega⟩
        case round =>
          obtain ⟨k, v, hk, rfl, rfl, hL⟩ := hrel
          have hoff2 := offs_le T 4294967296 k (by rw [← HN.out]; exact hk) (fun j hj => by have := HSZ.out j (by omega); omega)
          have hbr : Below w.heap.size w wr := below_grown hb1 hL.grown (by omega) (Nat.le_refl _)
          by_cases hlt : k < 7
          · have hltz : (k : Int) < 7 := by omega
            have htext : wr.cell? ⟨w.heap.size + 1, k, none⟩ = some (.string (nth T k)) := by
              have := hrow k _ (nth_at T k (by rw [← HN.out]; exact hlt))
              rw [Nat.zero_add] at this
              rw [← this]
              unfold World.cell?
              rw [hL.grown.block (w.heap.size + 1) (by omega) (by simp)]
            have hsk := HSZ.out k hlt
            have HO := Lib.hid (offs_succ T k (by rw [← HN.out]; exact hlt))
            go_wp2_with fail
            refine (set_any k w.heap.size (gAt T v k) (nth T k) wr hlt hL.var (fun e => by subst e; exact gAt_refs T v) (hG.below hbr hG.size) (by omega)).mono ?_
            rintro r w2 ⟨rfl, hpost⟩
            by_cases he : partErr k (nth T k) = 0
            · have hnext := Lib.hid (hL.next hpost he)
              rw [he]
              clear hL hpost
              go_wp2
              go_roundw
              case rel =>
                obtain ⟨v', hv'⟩ := hnext.out
                exact ⟨k + 1, v', by omega, by go_num, by rw [HO.out]; go_num, hv'⟩
              case measure => simp [intOf]; omega
            · have hb2 := Lib.hid (below_grown hb1 (grown_trans hL.grown hpost.1) (by omega) (Nat.le_refl _))
              have HB := Lib.hid hpost.2.1
              have hro2 := hpost.2.1.row
              have HPO := Lib.hid (show parseOut s = (partErr k (nth T k), (offs T k : Int)) by
                unfold parseOut
                rw [← HT.out, ← HN.out, if_neg (by omega), if_neg (by omega), firstBad_some hlt he hL.ok])
              have HE := Lib.hid he
              generalize partErr k (nth T k) = e at he HPO HE ⊢
              have hez : (e == 0) = false := by rw [beq_eq_false_iff_ne]; exact he
              clear hL hpost
              go_wp2
              refine bodyPost_ret (v := .tuple #[.agg (lineCells zeroLine), .int .i64 (offs T k : Int), .int .i64 e]) ?_ rfl (parse_bad HPO.out HE.out (below_grown hb2.out (grown_row _ _ _) hb2.out.size (Nat.le_refl _)))
              exact results_agg3 rfl Tryz.isAgg34 Tryz.sizeOf34 _ _ ⟨w.heap.size, 0, none⟩ _ _ _ rfl rfl rfl (HB.out.setRow.rd.1) (HB.out.setRow.rd.2)
          · obtain rfl : k = 7 := by omega
            have hok := hL.var.rd.1
            have hrd := hL.var.rd.2
            have hro2 := hL.var.row
            have hft : fitsRow 38 (lineCells (gAt T v 7)) = true := fits_line (gAt_one T v (hL.ids (by omega)).1)
            have HL := Lib.hid hL
            clear hL
            rw [show ((7 : Nat) : Int) = 7 from rfl] at *
            go_wp2
            have hT := HT.out
            have hpg := parse_good (s := s) (w := w) (W1 := W1) (wr := wr) (v := v) (hT ▸ HL.out) (by rw [← hT]; exact HN.out.symm) hb1
            rw [← hT] at hpg
            refine bodyPost_ret (v := .tuple #[.agg (lineCells (gAt T v 7)), .int .i64 0, .int .i64 0]) ?_ rfl hpg
            exact results_agg3 rfl Tryz.isAgg34 Tryz.sizeOf34 _ _ ⟨w.heap.size, 0, none⟩ _ _ _ rfl rfl rfl (HL.out.var.blk.setRow.rd.1) (HL.out.var.blk.setRow.rd.2)

end Go.Proofs.YtdjaphcelpchaaaGreatDoor
