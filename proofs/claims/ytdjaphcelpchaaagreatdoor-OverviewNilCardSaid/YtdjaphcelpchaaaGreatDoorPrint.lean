/- The text of a line: overview.lineText, overview.Print and bulletinref28.Print. -/
import Derived.Test.YtdjaphcelpchaaaGreatDoorNum
namespace Go.Proofs.YtdjaphcelpchaaaGreatDoor
open Go Go.RowKit Go.Proofs

attribute [local go_sem ↓] ex_load_id ex_store_id ex_load_line ex_store_line ex_load_rline ex_store_rline
attribute [local go_sem] ld_id st_id ld_line st_line ld_rline st_rline guard_id okCells_drew rdCells_drew okCells_drewN rdCells_drewN ok_alloc rd_alloc rowOk_drew rowOk_new rowOk_alloc setRow_drew setRow_new setRow_past fits_id ok_new_id rd_new_id
attribute [local go_sem] lc0 lc33 lc34 lc35 lc36 lc37 rc0 rc1 rc34 rc35 rc36 rc37 rc38 ok_new_line rd_new_line ok_new_rline rd_new_rline ok_line_id rd_line_id ok_rline_id rd_rline_id

/-- The references in hexadecimal, and their text. -/
def hexS (x : Id32) : ByteArray := str (hexOf x)
def refsTxt (ids : List Id32) : List UInt8 := joinS (ids.map hexS) [44]
/-- The seven parts of a line's text, and the text. -/
def lineParts (n : Nat) (id : Id32) (name : ByteArray) (d : Nat) (subject : ByteArray) (ids : List Id32) (b : Nat) : List ByteArray :=
  [str (Lib.decDigits n), hexS id, name, str (Lib.decDigits d), subject, str (refsTxt ids), str (Lib.decDigits b)]
def lineTxt (n : Nat) (id : Id32) (name : ByteArray) (d : Nat) (subject : ByteArray) (ids : List Id32) (b : Nat) : List UInt8 := joinS (lineParts n id name d subject ids b) [9]

theorem joinS_length_le : ∀ (xs : List ByteArray) (sep : List UInt8) (m : Nat), (∀ x ∈ xs, x.size ≤ m) → (joinS xs sep).length ≤ xs.length * (m + sep.length) := by
  intro xs sep m h
  have all : ∀ k, (joinS (xs.take k) sep).length ≤ k * (m + sep.length) := by
    intro k
    induction k with
    | zero => simp [joinS, Lib.join_nil]
    | succ k ih =>
      by_cases hlt : k < xs.length
      · rw [joinS_snoc _ _ _ hlt]
        have hx := h xs[k] (List.getElem_mem hlt)
        rw [Nat.succ_mul]
        split
        · rw [size_list]; omega
        · rw [List.length_append, List.length_append, size_list]; omega
      · rw [List.take_of_length_le (by omega)] at ih ⊢
        rw [Nat.succ_mul]; omega
  have := all xs.length
  rwa [List.take_length] at this

theorem hexS_size (x : Id32) : (hexS x).size = 64 := by unfold hexS; rw [str_size, hexOf_length]
theorem refsTxt_le (ids : List Id32) (h : ids.length ≤ 20) : (refsTxt ids).length ≤ 1300 := by
  have := joinS_length_le (ids.map hexS) [44] 64 (fun x hx => by
    simp only [List.mem_map] at hx
    obtain ⟨y, _, rfl⟩ := hx
    rw [hexS_size]; omega)
  unfold refsTxt
  rw [List.length_map] at this
  simp at this
  omega
theorem lineTxt_le (n : Nat) (id : Id32) (name : ByteArray) (d : Nat) (subject : ByteArray) (ids : List Id32) (b : Nat) (hn : n ≤ 9223372036854775807) (hd : d ≤ 9223372036854775807) (hb : b ≤ 9223372036854775807)
    (h1 : name.size ≤ 1300) (h2 : subject.size ≤ 1300) (h3 : ids.length ≤ 20) : (lineTxt n id name d subject ids b).length ≤ 10000 := by
  have := joinS_length_le (lineParts n id name d subject ids b) [9] 1300 (fun x hx => by
    simp only [lineParts, List.mem_cons, List.mem_nil_iff, or_false] at hx
    have e1 := decDigits_len n hn
    have e2 := decDigits_len d hd
    have e3 := decDigits_len b hb
    rcases hx with rfl | rfl | rfl | rfl | rfl | rfl | rfl
    · rw [str_size]; omega
    · rw [hexS_size]; omega
    · exact h1
    · rw [str_size]; omega
    · exact h2
    · rw [str_size]; exact refsTxt_le ids h3
    · rw [str_size]; omega)
  unfold lineTxt
  simp [lineParts] at this ⊢
  omega

def hexVals (ids : List Id32) (k : Nat) : List Value := (ids.take k).map fun x => Value.string (hexS x)
theorem Tryz.info_str : (Tryz.prog.info? 9).map (fun i => (i.zero, i.size, i.bytes)) = some (some (.string ⟨#[]⟩), 1, 16) := by kernel_rfl

theorem parts_row (w : World) (t : Nat) (s1 s2 s3 s4 s5 s6 s7 : ByteArray) : StrRow (w.alloc (.cells #[.string s1, .string s2, .string s3, .string s4, .string s5, .string s6, .string s7] t)) w.heap.size 0 [s1, s2, s3, s4, s5, s6, s7] := by
  intro j x hx
  rw [Nat.zero_add, cells_new]
  have hj := (List.getElem?_eq_some_iff.1 hx).1
  have : j = 0 ∨ j = 1 ∨ j = 2 ∨ j = 3 ∨ j = 4 ∨ j = 5 ∨ j = 6 := by simp at hj; omega
  rcases this with rfl | rfl | rfl | rfl | rfl | rfl | rfl <;> (simp at hx; subst hx; rfl)

theorem rangeErr_zero {n lo hi e : Int} (he : e ≠ 0) (h : rangeErr n lo hi e = 0) : lo ≤ n ∧ n ≤ hi := by
  unfold rangeErr at h
  split at h
  · exact absurd h he
  · omega
theorem textErr_zero {s : List UInt8} {m : Int} (h : textErr s m = 0) : (s.length : Int) ≤ m ∧ s.any badByte = false := by
  unfold textErr at h
  split at h
  · cases h
  · split at h
    · cases h
    · rename_i h1 h2
      exact ⟨by omega, by simpa using h2⟩
theorem refsErr_zero {ids : List Id32} (h : refsErr ids = 0) : ids.length ≤ 20 ∧ dupUpto ids ids.length = false := by
  unfold refsErr at h
  split at h
  · cases h
  · split at h
    · cases h
    · rename_i h1 h2
      exact ⟨by omega, by simpa using h2⟩
theorem orErr_zero : ∀ {l : List Int}, orErr l = 0 → ∀ e ∈ l, e = 0
  | [], _, e, he => by cases he
  | x :: l, h, e, he => by
    unfold orErr at h
    split at h
    · rename_i hx
      rcases List.mem_cons.1 he with rfl | he
      · exact hx
      · exact orErr_zero h e he
    · rename_i hx; exact absurd h hx
/-- What a line without errors is. -/
theorem lineErr_zero {g : GLine} {ids : List Id32} (h : lineErr g ids = 0) : (1 ≤ g.number ∧ g.number ≤ 2147483646) ∧ g.name.size ≤ 60 ∧ (0 ≤ g.date ∧ g.date ≤ 105190559) ∧ g.subject.size ≤ 200 ∧ ids.length ≤ 20 ∧ (0 ≤ g.bytes ∧ g.bytes ≤ 65536) := by
  have hz := orErr_zero h
  have h1 := rangeErr_zero (by decide) (hz (rangeErr g.number 1 2147483646 2) (by simp))
  have h2 := textErr_zero (hz (textErr g.name.data.toList 60) (by simp))
  have h3 := rangeErr_zero (by decide) (hz (rangeErr g.date 0 105190559 13) (by simp))
  have h4 := textErr_zero (hz (textErr g.subject.data.toList 200) (by simp))
  have h5 := refsErr_zero (hz (refsErr ids) (by simp))
  have h6 := rangeErr_zero (by decide) (hz (rangeErr g.bytes 0 65536 2) (by simp))
  have e2 := h2.1
  have e4 := h4.1
  rw [size_list] at e2 e4
  exact ⟨h1, by omega, h3, by omega, h5.1, h6⟩

theorem join_later {w : World} {v : Value} {xs : List ByteArray} (h : (∃ a c, v = .slice a 0 c ∧ xs = []) ∨ ∃ b off c, v = .slice (some ⟨b, off, none⟩) xs.length c ∧ xs.length ≤ c ∧ b < w.heap.size ∧ StrRow w b off xs) (z : Later w) :
    (∃ a c, v = .slice a 0 c ∧ xs = []) ∨ ∃ b off c, v = .slice (some ⟨b, off, none⟩) xs.length c ∧ xs.length ≤ c ∧ b < z.1.heap.size ∧ StrRow z.1 b off xs :=
  h.imp id fun ⟨b, off, c, h1, h2, h3, h4⟩ => ⟨b, off, c, h1, h2, Nat.lt_of_lt_of_le h3 z.2.size, fun j x hx => z.cell (h4 j x hx)⟩

set_option maxRecDepth 100000 in
set_option maxHeartbeats 2000000 in
theorem lineText_any (g : GLine) (ids : List Id32) (n d b : Nat) (w : World) (hG : Gl w) (h : LineOk w g ids) (hn : g.number = (n : Int)) (hd : g.date = (d : Int)) (hby : g.bytes = (b : Int))
    (bn : n ≤ 9223372036854775807) (bd : d ≤ 9223372036854775807) (bb : b ≤ 9223372036854775807) (h1 : g.name.size ≤ 1300) (h2 : g.subject.size ≤ 1300) (h3 : ids.length ≤ 20) :
    Calls Tryz.prog 54 #[.agg (lineCells g)] w fun r w' => r = .returned (.string (str (lineTxt n g.id g.name d g.subject ids b))) ∧ Below w.heap.size w w' := by
  obtain ⟨i0, hi, hz0, hz1, hz2⟩ := info_parts Tryz.info_str
  have hbw : Below w.heap.size w (w.alloc (.cells (lineCells g) 34)) := (Below.refl _ _).alloc (Nat.le_refl _) _
  obtain ⟨a, c, hrefs, hc, hr⟩ := (h.below hbw).refs
  have HR := Lib.hid hr
  have HBW := Lib.hid hbw
  have HREFS := Lib.hid hrefs
  clear hr hbw
  go_enter Tryz.func54, Tryz.ntmps54
  go_wp2
  obtain ⟨W, hW⟩ : ∃ W, w.alloc (.cells (lineCells g) 34) = W := ⟨_, rfl⟩
  have hWs : W.heap.size = w.heap.size + 1 := by rw [← hW]; simp
  have HW := Lib.hid hW
  have HWS := Lib.hid hWs
  rw [hW] at HR HBW ⊢
  clear hW hWs
  go_loopw [3, 5, 9] (fun t _ i wr => ∃ k : Nat, k ≤ ids.length ∧ i = .int .i64 k ∧ wr.ownsRow W.heap.size 9 1 t k (hexVals ids k) ∧ Below W.heap.size W wr) (fun _ _ i _ => ids.length - (intOf i).toNat)
  case atStart => exact ⟨0, by omega, rfl, World.ownsRow_nil _ _ _ _, Below.refl _ _⟩
  case round =>
    obtain ⟨k, hk, rfl, hown, hb⟩ := hrel
    by_cases hlt : k < ids.length
    · have hne : ids ≠ [] := by intro e; rw [e] at hlt; simp at hlt
      obtain ⟨bk, off, rfl, hrow⟩ := HR.out hne
      have hltz : (k : Int) < (ids.length : Int) := by omega
      obtain ⟨o1, d1⟩ := (hrow.below hb (hrow.lt hne)).rd hlt
      have hxk : hexVals ids (k + 1) = hexVals ids k ++ [Value.string (hexS ids[k]!)] := by
        unfold hexVals
        rw [List.take_succ_eq_append_getElem hlt, List.map_append, List.map_cons, List.map_nil, show ids[k]! = ids[k] by simp [hlt]]
      generalize hx : ids[k]! = x at d1 hxk
      have HXK := Lib.hid hxk
      have HROW := Lib.hid hrow
      clear hx hrow hxk hne
      go_wp2_with fail
      refine (idText_any x _).mono ?_
      rintro e w1 ⟨rfl, hb1⟩
      clear o1 d1
      have hbx : Below wr.heap.size wr w1 := ((Below.refl _ _).alloc (Nat.le_refl _) _).trans (hb1.mono (by simp))
      have hbW : Below W.heap.size W w1 := hb.trans (hbx.mono hb.size)
      have hown1 := (ownsRow_below hown hbx).alloc (.cells #[.string (hexS x)] 9)
      have hlt2 := fun j hj => (hown.lt j hj).1
      have HLT2 := Lib.hid hlt2
      clear hb1 hbx hb hown hlt2
      go_wp2_with (at_builtin; refine wpList_append_own _ rfl (.tmp 13) (.tmp 16) 78 rfl W.heap.size 9 i0 (.string ⟨#[]⟩) 1 16 Tryz.underlying78 hi hz0 hz1 hz2 rfl (by decide) _ _ _ rfl hown1 ⟨w1.heap.size, 0, none⟩ 1 1 [.string (hexS x)] rfl rfl ?c1 ?c2 ?c3 ?c4 ?c5 ?_)
      case c1 =>
        intro j u hj
        rw [Addr.add_lit, Nat.zero_add]
        show (w1.alloc (.cells #[.string (hexS x)] 9)).cell? ⟨w1.heap.size, j, none⟩ = some u
        rw [cells_new]
        match j, hj with
        | 0, hj => simpa using hj
      case c2 => intro u hu; simp at hu; subst hu; rfl
      case c3 => unfold maxLen; omega
      case c4 => omega
      case c5 => have := hbW.size; simp; omega
      intro v' w2 hown' hgrow _
      have hb2 : Below W.heap.size W w2 := (hbW.alloc hbW.size _).grown hgrow (by have := hbW.size; simp; omega) (fun j hj => HLT2.out j hj)
      clear hown1 hgrow
      go_wp2
      go_roundw
      case rel => exact ⟨k + 1, by omega, by go_num, by rw [HXK.out]; exact hown', hb2⟩
      case measure => simp [intOf]; omega
    · obtain rfl : k = ids.length := by omega
      have hGr : Gl wr := (hG.later HBW.out).later hb
      have c0 : ∀ z : Later wr, z.1.cell? ⟨w.heap.size, 0, none⟩ = some (.int .i64 n) := fun z => z.cell ((hb.cell (p := ⟨w.heap.size, 0, none⟩) (by rw [HWS.out]; simp)).trans (by rw [← HW.out, cells_new, lc0, hn]))
      have c33 : ∀ z : Later wr, z.1.cell? ⟨w.heap.size, 33, none⟩ = some (.string g.name) := fun z => z.cell ((hb.cell (p := ⟨w.heap.size, 33, none⟩) (by rw [HWS.out]; simp)).trans (by rw [← HW.out, cells_new, lc33]))
      have c34 : ∀ z : Later wr, z.1.cell? ⟨w.heap.size, 34, none⟩ = some (.int .i64 d) := fun z => z.cell ((hb.cell (p := ⟨w.heap.size, 34, none⟩) (by rw [HWS.out]; simp)).trans (by rw [← HW.out, cells_new, lc34, hd]))
      have c35 : ∀ z : Later wr, z.1.cell? ⟨w.heap.size, 35, none⟩ = some (.string g.subject) := fun z => z.cell ((hb.cell (p := ⟨w.heap.size, 35, none⟩) (by rw [HWS.out]; simp)).trans (by rw [← HW.out, cells_new, lc35]))
      have c37 : ∀ z : Later wr, z.1.cell? ⟨w.heap.size, 37, none⟩ = some (.int .i64 b) := fun z => z.cell ((hb.cell (p := ⟨w.heap.size, 37, none⟩) (by rw [HWS.out]; simp)).trans (by rw [← HW.out, cells_new, lc37, hby]))
      have oid : okCells wr ⟨w.heap.size, 1, none⟩ 32 = true := (rd_same (w := W) (w' := wr) (a := ⟨w.heap.size, 1, none⟩) (n := 32) (fun j _ => by rw [Addr.add_lit]; exact hb.cell (p := ⟨w.heap.size, 1 + j, none⟩) (by rw [HWS.out]; exact Nat.lt_succ_self _))).1.trans (by rw [← HW.out]; exact ok_line_id _ _ _)
      have rid : rdCells wr ⟨w.heap.size, 1, none⟩ 32 = (encId g.id).toArray := (rd_same (w := W) (w' := wr) (a := ⟨w.heap.size, 1, none⟩) (n := 32) (fun j _ => by rw [Addr.add_lit]; exact hb.cell (p := ⟨w.heap.size, 1 + j, none⟩) (by rw [HWS.out]; exact Nat.lt_succ_self _))).2.trans (by rw [← HW.out]; exact rd_line_id _ _ _)
      have oz : ∀ z : Later wr, okCells z.1 ⟨w.heap.size, 1, none⟩ 32 = true := fun z => z.ok oid
      have dz : ∀ z : Later wr, rdCells z.1 ⟨w.heap.size, 1, none⟩ 32 = (encId g.id).toArray := fun z => (z.rd oid).trans rid
      clear oid rid
      have hjv : (∃ a' c', u3 = .slice a' 0 c' ∧ ids.map hexS = []) ∨ ∃ b' off' c', u3 = .slice (some ⟨b', off', none⟩) (ids.map hexS).length c' ∧ (ids.map hexS).length ≤ c' ∧ b' < wr.heap.size ∧ StrRow wr b' off' (ids.map hexS) := by
        rcases hown.2 with ⟨e1, e2⟩ | ⟨g', cap, cur, e1, hg', hcur, hle, hmx, hcs, htk⟩
        · exact .inl ⟨none, 0, e1, by rw [List.eq_nil_of_length_eq_zero e2]; rfl⟩
        · refine .inr ⟨g', 0, cap, by rw [List.length_map]; exact e1, by rw [List.length_map]; exact hle, (Array.getElem?_eq_some_iff.1 hcur).1, fun j y hy => ?_⟩
          rw [e1] at hown
          have hj : j < ids.length := by have := (List.getElem?_eq_some_iff.1 hy).1; simpa using this
          rw [Nat.zero_add, hown.cellAt j (by omega)]
          unfold hexVals
          rw [List.take_length]
          rw [List.getElem?_map] at hy ⊢
          cases hq : ids[j]? with
          | none => rw [hq] at hy; cases hy
          | some q => rw [hq] at hy; simp only [Option.map_some, Option.some.injEq] at hy ⊢; rw [hy]
      have hjl : (joinS (ids.map hexS) [44]).length ≤ 140737488355328 := by have := refsTxt_le ids h3; unfold refsTxt at this; omega
      have HJV := Lib.hid hjv
      clear hjv hown
      have hge : ¬ ((ids.length : Int) < (ids.length : Int)) := by omega
      go_wp2
      refine wp_region_ht 18 (fun w' => ∃ z : Later wr, w' = z.1) (by kernel_rfl) (by kernel_rfl) ⟨⟨_, (Below.refl _ _).drew⟩, rfl⟩ ?_
      simp only [List.take_succ_cons, List.take_zero, List.drop_succ_cons, List.drop_zero]
      repeat (go_big_quiet_step (first | (go_at_call 81; exact Later.call (itoa_any _ _ (by assumption) (hGr.later (Subtype.property _)))) | (go_at_call 92; exact Later.call (idText_any _ _)) | (go_at_call 93; exact Later.call (join_any _ (ids.map hexS) _ _ (join_later HJV.out _) hjl (by rw [List.length_map]; omega)))))
      refine wpQuiet_nil ?_
      rintro _ ⟨z, rfl⟩
      have hz := z.2
      generalize z.1 = wz at hz ⊢
      clear c0 c33 c34 c35 c37 oz dz
      go_wp2_with fail
      have hJ := join_any (.slice (some ⟨wz.heap.size, 0, none⟩) 7 7) (lineParts n g.id g.name d g.subject ids b) ⟨#[9]⟩ (wz.alloc (.cells #[.string (str (Lib.decDigits n)), .string (str (hexOf g.id)), .string g.name, .string (str (Lib.decDigits d)), .string g.subject, .string (str (joinS (ids.map hexS) [44])), .string (str (Lib.decDigits b))] 9))
        (.inr ⟨wz.heap.size, 0, 7, rfl, by simp [lineParts], by simp, parts_row _ _ _ _ _ _ _ _ _⟩) (by have := lineTxt_le n g.id g.name d g.subject ids b bn bd bb h1 h2 h3; unfold lineTxt at this; exact Nat.le_trans this (by omega)) (by simp [lineParts])
      refine hJ.mono ?_
      rintro e w3 ⟨rfl, hb3⟩
      clear hJ
      go_wp2
      go_ret
      refine ⟨rfl, ?_⟩
      have k1 : Below w.heap.size w wz := HBW.out.trans ((hb.trans (hz.mono hb.size)).mono HBW.out.size)
      exact (k1.alloc k1.size _).trans (hb3.mono (by have := k1.size; simp; omega))

set_option maxHeartbeats 1000000 in
theorem print_any (g : GLine) (ids : List Id32) (w : World) (hG : Gl w) (h : LineOk w g ids) :
    Calls Tryz.prog 16 #[.agg (lineCells g)] w fun r w' => r = .returned (.tuple #[.string (if lineErr g ids = 0 then str (lineTxt g.number.toNat g.id g.name g.date.toNat g.subject ids g.bytes.toNat) else ⟨#[]⟩), .int .i64 (lineErr g ids)]) ∧ Below w.heap.size w w' := by
  have hbw : Below w.heap.size w (w.alloc (.cells (lineCells g) 34)) := (Below.refl _ _).alloc (Nat.le_refl _) _
  have hok := h.below hbw
  have HOK := Lib.hid hok
  have HBW := Lib.hid hbw
  clear hok hbw
  by_cases he : lineErr g ids = 0
  · obtain ⟨e1, e2, e3, e4, e5, e6⟩ := lineErr_zero he
    have HE := Lib.hid he
    clear he
    have z0 : ((0 : Int) != 0) = false := rfl
    go_enter Tryz.func16, Tryz.ntmps16
    go_wp2_with fail
    refine (lineCheck_any g ids _ HOK.out).mono ?_
    rintro e w1 ⟨rfl, hb1⟩
    rw [HE.out]
    have hb1' : Below (w.heap.size + 1) (w.alloc (.cells (lineCells g) 34)) w1 := by simpa using hb1
    have o1 : okCells w1 ⟨w.heap.size, 0, none⟩ 38 = true := (rd_same (fun j _ => by rw [Addr.add_lit]; exact hb1'.cell (p := ⟨w.heap.size, 0 + j, none⟩) (Nat.lt_succ_self _))).1.trans (ok_new_line w g 34)
    have d1 : rdCells w1 ⟨w.heap.size, 0, none⟩ 38 = lineCells g := (rd_same (fun j _ => by rw [Addr.add_lit]; exact hb1'.cell (p := ⟨w.heap.size, 0 + j, none⟩) (Nat.lt_succ_self _))).2.trans (rd_new_line w g 34)
    clear hb1'
    go_wp2_with fail
    refine (lineText_any g ids g.number.toNat g.date.toNat g.bytes.toNat w1 ((hG.later HBW.out).later hb1) (HOK.out.below hb1) (by omega) (by omega) (by omega) (by omega) (by omega) (by omega) (by omega) (by omega) (by omega)).mono ?_
    rintro e w2 ⟨rfl, hb2⟩
    go_wp2
    go_ret2
    refine ⟨by first | rfl | rw [if_pos HE.out, HE.out]; rfl, ?_⟩
    have k1 := HBW.out.trans (hb1.mono HBW.out.size)
    exact k1.trans (hb2.mono k1.size)
  · have HE := Lib.hid he
    have z0 : (lineErr g ids != 0) = true := by simp [he]
    clear he
    go_enter Tryz.func16, Tryz.ntmps16
    go_wp2_with fail
    refine (lineCheck_any g ids _ HOK.out).mono ?_
    rintro e w1 ⟨rfl, hb1⟩
    go_wp2
    go_ret2
    refine ⟨by first | rfl | rw [if_neg HE.out]; rfl, ?_⟩
    exact HBW.out.trans (hb1.mono HBW.out.size)


theorem refsTxt_snoc (ids : List Id32) (k : Nat) (h : k < ids.length) : refsTxt (ids.take (k + 1)) = if k = 0 then hexOf ids[k] else refsTxt (ids.take k) ++ [44] ++ hexOf ids[k] := by
  unfold refsTxt
  have hk : k < (ids.map hexS).length := by simpa using h
  have := joinS_snoc (ids.map hexS) [44] k hk
  rw [← List.map_take, ← List.map_take] at this
  rw [this]
  simp [hexS, str_list]

set_option maxRecDepth 100000 in
set_option maxHeartbeats 2000000 in
theorem refPrint_any (s : ByteArray) (g : GLine) (ids : List Id32) (n d b : Nat) (w : World) (h : LineOk w g ids) (hn : g.number = (n : Int)) (hd : g.date = (d : Int)) (hby : g.bytes = (b : Int))
    (bn : n ≤ 9223372036854775807) (bd : d ≤ 9223372036854775807) (bb : b ≤ 9223372036854775807) (h1 : g.name.size ≤ 1300) (h2 : g.subject.size ≤ 1300) (h3 : ids.length ≤ 20) :
    Calls Tryz.prog 20 #[.agg (rlineCells s g)] w fun r w' => r = .returned (.string (str (lineTxt n g.id g.name d g.subject ids b))) ∧ Below w.heap.size w w' := by
  have hbw : Below w.heap.size w (w.alloc (.cells (rlineCells s g) 26)) := (Below.refl _ _).alloc (Nat.le_refl _) _
  obtain ⟨a, c, hrefs, hc, hr⟩ := (h.below hbw).refs
  have HR := Lib.hid hr
  have HBW := Lib.hid hbw
  clear hr hbw
  go_enter Tryz.func20, Tryz.ntmps20
  go_wp2
  obtain ⟨W, hW⟩ : ∃ W, w.alloc (.cells (rlineCells s g) 26) = W := ⟨_, rfl⟩
  have hWs : W.heap.size = w.heap.size + 1 := by rw [← hW]; simp
  have HW := Lib.hid hW
  have HWS := Lib.hid hWs
  rw [hW] at HR HBW ⊢
  clear hW hWs
  go_loopw [3, 4] (fun t i wr => ∃ k : Nat, k ≤ ids.length ∧ i = .int .i64 k ∧ t = .string (str (refsTxt (ids.take k))) ∧ Below W.heap.size W wr) (fun _ i _ => ids.length - (intOf i).toNat)
  case atStart => exact ⟨0, by omega, rfl, rfl, Below.refl _ _⟩
  case round =>
    obtain ⟨k, hk, rfl, rfl, hb⟩ := hrel
    have c37 : wr.cell? ⟨w.heap.size, 37, none⟩ = some (.slice a ids.length c) := (hb.cell (p := ⟨w.heap.size, 37, none⟩) (by rw [HWS.out]; simp)).trans (by rw [← HW.out, cells_new, rc37, hrefs])
    by_cases hlt : k < ids.length
    · have hne : ids ≠ [] := by intro e; rw [e] at hlt; simp at hlt
      obtain ⟨bk, off, rfl, hrow⟩ := HR.out hne
      have hltz : (k : Int) < (ids.length : Int) := by omega
      obtain ⟨o1, d1⟩ := (hrow.below hb (hrow.lt hne)).rd hlt
      have hxk := refsTxt_snoc ids k hlt
      have hxe : ids[k] = ids[k]! := by simp [hlt]
      rw [hxe] at hxk
      generalize hx : ids[k]! = x at d1 hxk
      have hl1 : (str (refsTxt (ids.take k))).size ≤ 1300 := by rw [str_size]; exact refsTxt_le _ (by simp; omega)
      have hl2 : (str (hexOf x)).size ≤ 64 := by rw [str_size, hexOf_length]; exact Nat.le_refl _
      clear hx hrow hne hxe
      by_cases hk0 : k = 0
      · subst hk0
        rw [if_pos rfl] at hxk
        have HXK := Lib.hid hxk
        have E0 := Lib.hid (show str (refsTxt (List.take 0 ids)) = ⟨#[]⟩ from rfl)
        clear hxk hl1
        rw [E0.out, show ((0 : Nat) : Int) = 0 from rfl]
        rw [Nat.zero_mul, Nat.add_zero] at o1 d1
        go_wp2_with fail
        refine (hex_any x _).mono ?_
        rintro e w1 ⟨rfl, hb1⟩
        go_wp2
        go_roundw
        case rel => exact ⟨1, by omega, rfl, by rw [HXK.out]; exact congrArg Value.string (str_append' [] _), hb.trans (hb1.mono hb.size)⟩
        case measure => simp [intOf]; omega
      · rw [if_neg hk0] at hxk
        have HXK := Lib.hid hxk
        have hkz : (0 : Int) < (k : Int) := by omega
        clear hxk
        go_wp2_with fail
        refine (hex_any x _).mono ?_
        rintro e w1 ⟨rfl, hb1⟩
        go_wp2
        go_roundw
        case rel => exact ⟨k + 1, by omega, by go_num, by rw [HXK.out, ← str_append, ← str_append]; rfl, hb.trans (hb1.mono hb.size)⟩
        case measure => simp [intOf]; omega
    · obtain rfl : k = ids.length := by omega
      rw [List.take_length]
      have c1 : ∀ z : Later wr, z.1.cell? ⟨w.heap.size, 1, none⟩ = some (.int .i64 n) := fun z => z.cell ((hb.cell (p := ⟨w.heap.size, 1, none⟩) (by rw [HWS.out]; simp)).trans (by rw [← HW.out, cells_new, rc1, hn]))
      have c34 : ∀ z : Later wr, z.1.cell? ⟨w.heap.size, 34, none⟩ = some (.string g.name) := fun z => z.cell ((hb.cell (p := ⟨w.heap.size, 34, none⟩) (by rw [HWS.out]; simp)).trans (by rw [← HW.out, cells_new, rc34]))
      have c35 : ∀ z : Later wr, z.1.cell? ⟨w.heap.size, 35, none⟩ = some (.int .i64 d) := fun z => z.cell ((hb.cell (p := ⟨w.heap.size, 35, none⟩) (by rw [HWS.out]; simp)).trans (by rw [← HW.out, cells_new, rc35, hd]))
      have c36 : ∀ z : Later wr, z.1.cell? ⟨w.heap.size, 36, none⟩ = some (.string g.subject) := fun z => z.cell ((hb.cell (p := ⟨w.heap.size, 36, none⟩) (by rw [HWS.out]; simp)).trans (by rw [← HW.out, cells_new, rc36]))
      have c38 : ∀ z : Later wr, z.1.cell? ⟨w.heap.size, 38, none⟩ = some (.int .i64 b) := fun z => z.cell ((hb.cell (p := ⟨w.heap.size, 38, none⟩) (by rw [HWS.out]; simp)).trans (by rw [← HW.out, cells_new, rc38, hby]))
      have oid : okCells wr ⟨w.heap.size, 2, none⟩ 32 = true := (rd_same (w := W) (w' := wr) (a := ⟨w.heap.size, 2, none⟩) (n := 32) (fun j _ => by rw [Addr.add_lit]; exact hb.cell (p := ⟨w.heap.size, 2 + j, none⟩) (by rw [HWS.out]; exact Nat.lt_succ_self _))).1.trans (by rw [← HW.out]; exact ok_rline_id _ _ _ _)
      have rid : rdCells wr ⟨w.heap.size, 2, none⟩ 32 = (encId g.id).toArray := (rd_same (w := W) (w' := wr) (a := ⟨w.heap.size, 2, none⟩) (n := 32) (fun j _ => by rw [Addr.add_lit]; exact hb.cell (p := ⟨w.heap.size, 2 + j, none⟩) (by rw [HWS.out]; exact Nat.lt_succ_self _))).2.trans (by rw [← HW.out]; exact rd_rline_id _ _ _ _)
      have oz : ∀ z : Later wr, okCells z.1 ⟨w.heap.size, 2, none⟩ 32 = true := fun z => z.ok oid
      have dz : ∀ z : Later wr, rdCells z.1 ⟨w.heap.size, 2, none⟩ 32 = (encId g.id).toArray := fun z => (z.rd oid).trans rid
      clear oid rid
      have hge : ¬ ((ids.length : Int) < (ids.length : Int)) := by omega
      go_wp2
      refine wp_region_ht 17 (fun w' => ∃ z : Later wr, w' = z.1) (by kernel_rfl) (by kernel_rfl) ⟨⟨_, (Below.refl _ _).drew⟩, rfl⟩ ?_
      simp only [List.take_succ_cons, List.take_zero, List.drop_succ_cons, List.drop_zero]
      repeat (go_big_quiet_step (first | (go_at_call 63; exact Later.call (decimal_any _ _ (by assumption))) | (go_at_call 61; exact Later.call (hex_any _ _))))
      refine wpQuiet_nil ?_
      rintro _ ⟨z, rfl⟩
      have hz := z.2
      generalize z.1 = wz at hz ⊢
      clear c1 c34 c35 c36 c38 oz dz c37
      go_wp2_with fail
      have hJ := text12_any wz.heap.size 0 7 (lineParts n g.id g.name d g.subject ids b) ⟨#[9]⟩ (wz.alloc (.cells #[.string (str (Lib.decDigits n)), .string (str (hexOf g.id)), .string g.name, .string (str (Lib.decDigits d)), .string g.subject, .string (str (refsTxt ids)), .string (str (Lib.decDigits b))] 9))
        (parts_row _ _ _ _ _ _ _ _ _) (by have := lineTxt_le n g.id g.name d g.subject ids b bn bd bb h1 h2 h3; unfold lineTxt at this; exact Nat.le_trans this (by omega)) (by simp [lineParts])
      refine hJ.mono ?_
      rintro e w3 ⟨rfl, rfl⟩
      clear hJ
      go_wp2
      go_ret
      refine ⟨rfl, ?_⟩
      have k1 : Below w.heap.size w wz := HBW.out.trans ((hb.trans (hz.mono hb.size)).mono HBW.out.size)
      exact k1.alloc k1.size _

end Go.Proofs.YtdjaphcelpchaaaGreatDoor
