/- groupname.isLower, isComponent, Check and the reference's Component, Check: what they answer at any string. -/
import Derived.Test.YtdjaphcelpchaaaGreatDoorKnown
namespace Go.Proofs.YtdjaphcelpchaaaGreatDoor
open Go Go.RowKit Go.Proofs

/-- A lower-case letter; a byte that no component holds; a component; the error of a name. -/
def lowB (c : UInt8) : Bool := decide (97 ≤ c.toNat) && decide (c.toNat ≤ 122)
def badB (c : UInt8) : Bool := !lowB c && (decide (c.toNat < 48) || decide (57 < c.toNat)) && c.toNat != 45 && c.toNat != 43 && c.toNat != 95
def compB (l : List UInt8) : Bool := match l with
  | [] => false
  | c :: r => decide ((c :: r).length ≤ 20) && lowB c && !(c :: r).any badB
def nameErr (s : ByteArray) : Int := if 80 < s.size then 5 else if (splitS 46 s).any (fun x => !compB x.data.toList) then 12 else if 10 < (splitS 46 s).length then 9 else 0

set_option maxHeartbeats 1000000 in
theorem isLower_any (c : UInt8) (w : World) : Calls Tryz.prog 134 #[.int .u8 c.toNat] w fun r w' => r = .returned (.bool (lowB c)) ∧ w = w' := by
  unfold lowB
  by_cases h1 : 97 ≤ c.toNat
  · by_cases h2 : c.toNat ≤ 122
    · rw [decide_eq_true h1, decide_eq_true h2]
      have h1' : (97 : Int) ≤ (c.toNat : Int) := by omega
      have h2' : (c.toNat : Int) ≤ 122 := by omega
      go_enter Tryz.func134, Tryz.ntmps134
      go_wp2
      go_ret
      exact ⟨by simp, rfl⟩
    · rw [decide_eq_true h1, decide_eq_false h2]
      have h1' : (97 : Int) ≤ (c.toNat : Int) := by omega
      have h2' : decide ((c.toNat : Int) ≤ 122) = false := by simp; omega
      go_enter Tryz.func134, Tryz.ntmps134
      go_wp2
      go_ret
      exact ⟨by simp, rfl⟩
  · rw [decide_eq_false h1]
    have h1' : decide ((97 : Int) ≤ (c.toNat : Int)) = false := by simp; omega
    go_enter Tryz.func134, Tryz.ntmps134
    go_wp2
    go_ret
    exact ⟨by simp, rfl⟩

set_option maxHeartbeats 2000000 in
theorem other_any (c : UInt8) (w : World) : Calls Tryz.prog 136 #[.int .u8 c.toNat] w fun r w' => r = .returned (.bool (badB c)) ∧ w = w' := by
  unfold badB
  have hlow := isLower_any c w
  generalize lowB c = b at hlow
  have HL := Lib.hid hlow
  clear hlow
  cases b with
  | true =>
    go_enter Tryz.func136, Tryz.ntmps136
    go_wp2_with fail
    refine HL.out.mono ?_
    rintro r w' ⟨rfl, rfl⟩
    go_wp2
    go_ret
    exact ⟨rfl, rfl⟩
  | false =>
    by_cases h1 : c.toNat < 48
    case pos =>
      have n45 : ((c.toNat : Int) != 45) = (c.toNat != 45) := by
        rw [Bool.eq_iff_iff]; simp; omega
      have n43 : ((c.toNat : Int) != 43) = (c.toNat != 43) := by
        rw [Bool.eq_iff_iff]; simp; omega
      have n95 : ((c.toNat : Int) != 95) = (c.toNat != 95) := by
        rw [Bool.eq_iff_iff]; simp; omega
      have h1' : (c.toNat : Int) < 48 := by omega
      rw [decide_eq_true h1, ← n45, ← n43, ← n95]
      cases e45 : ((c.toNat : Int) != 45) <;> cases e43 : ((c.toNat : Int) != 43) <;> cases e95 : ((c.toNat : Int) != 95) <;>
      · clear n45 n43 n95
        go_enter Tryz.func136, Tryz.ntmps136
        go_wp2_with fail
        refine HL.out.mono ?_
        rintro r w' ⟨rfl, rfl⟩
        go_wp2
        go_ret
        exact ⟨rfl, rfl⟩
    by_cases h2 : 57 < c.toNat
    case neg =>
      have h1' : decide ((c.toNat : Int) < 48) = false := by simp; omega
      have h2' : decide (57 < (c.toNat : Int)) = false := by simp; omega
      rw [decide_eq_false h1, decide_eq_false h2]
      go_enter Tryz.func136, Tryz.ntmps136
      go_wp2_with fail
      refine HL.out.mono ?_
      rintro r w' ⟨rfl, rfl⟩
      go_wp2
      go_ret
      exact ⟨rfl, rfl⟩
    have n45 : ((c.toNat : Int) != 45) = (c.toNat != 45) := by
      rw [Bool.eq_iff_iff]; simp; omega
    have n43 : ((c.toNat : Int) != 43) = (c.toNat != 43) := by
      rw [Bool.eq_iff_iff]; simp; omega
    have n95 : ((c.toNat : Int) != 95) = (c.toNat != 95) := by
      rw [Bool.eq_iff_iff]; simp; omega
    have h1' : decide ((c.toNat : Int) < 48) = false := by simp; omega
    have h2' : 57 < (c.toNat : Int) := by omega
    rw [decide_eq_false h1, decide_eq_true h2, ← n45, ← n43, ← n95]
    cases e45 : ((c.toNat : Int) != 45) <;> cases e43 : ((c.toNat : Int) != 43) <;> cases e95 : ((c.toNat : Int) != 95) <;>
    · clear n45 n43 n95
      go_enter Tryz.func136, Tryz.ntmps136
      go_wp2_with fail
      refine HL.out.mono ?_
      rintro r w' ⟨rfl, rfl⟩
      go_wp2
      go_ret
      exact ⟨rfl, rfl⟩

def encB (x : UInt8) : Value := .int .u8 x.toNat
theorem pred_bad (w : World) : PredAt Tryz.prog 136 #[] encB badB w := fun W x _ =>
  (other_any x W).mono fun _ _ ⟨he, hw⟩ => ⟨he, 0, hw.symm⟩

theorem bytesRow_get (s : ByteArray) (cap j : Nat) (h : j < s.size) : (bytesRow s cap)[j]? = some (.int .u8 (s.data.toList[j]!).toNat) := by
  unfold bytesRow
  have h' : j < s.data.size := h
  rw [Array.getElem?_append_left (by simpa using h'), Array.getElem?_map, Array.getElem?_eq_getElem h']
  simp only [Option.map_some]
  have : s.data.toList[j]! = s.data[j] := by rw [getElem!_pos s.data.toList j (by simpa using h')]; rfl
  rw [this]

theorem compB_eq {s : ByteArray} (h0 : 0 < s.size) : compB s.data.toList = (decide (s.size ≤ 20) && lowB s[0] && !s.data.toList.any badB) := by
  obtain ⟨⟨l⟩⟩ := s
  cases l with
  | nil => exact absurd h0 (by simp [ByteArray.size])
  | cons c r => rfl

set_option maxRecDepth 100000 in
set_option maxHeartbeats 1000000 in
theorem isComponent_any (s : ByteArray) (w : World) (hs : s.size ≤ maxLen) : Calls Tryz.prog 108 #[.string s] w fun r w' => r = .returned (.bool (compB s.data.toList)) ∧ Below w.heap.size w w' := by
  unfold maxLen at hs
  by_cases h0 : 0 < s.size
  case neg =>
    obtain ⟨⟨l⟩⟩ := s
    cases l with
    | nil =>
      go_enter Tryz.func108, Tryz.ntmps108
      go_wp2
      go_ret
      exact ⟨rfl, Below.refl _ _⟩
    | cons c r => exact absurd h0 (by simp [ByteArray.size])
  have hc := compB_eq h0
  have hpe : s.toList.isEmpty = false := by
    rw [ByteArray.toList_eq, List.isEmpty_eq_false_iff, ← List.length_pos_iff, size_list]; omega
  rw [hc]
  clear hc
  by_cases h20 : s.size ≤ 20
  case neg =>
    rw [decide_eq_false h20]
    have h20' : (20 : Int) < (s.size : Int) := by omega
    go_enter Tryz.func108, Tryz.ntmps108
    go_wp2
    go_ret
    exact ⟨rfl, Below.refl _ _⟩
  rw [decide_eq_true h20]
  have h20' : decide ((20 : Int) < (s.size : Int)) = false := by simp; omega
  have hlow := isLower_any s[0] w
  generalize lowB s[0] = b at hlow
  have HL := Lib.hid hlow
  clear hlow
  generalize hbb : s.data.toList.any badB = bb
  have HBB := Lib.hid hbb
  clear hbb
  go_enter Tryz.func108, Tryz.ntmps108
  go_wp2_with fail
  refine HL.out.mono ?_
  rintro r w' ⟨rfl, rfl⟩
  cases b with
  | false =>
    go_wp2
    go_ret
    exact ⟨rfl, Below.refl _ _⟩
  | true =>
    have hcv := run_bytes_of_string (P := Tryz.prog) w 9 124 5 s Tryz.underlying9 Tryz.underlying124 Tryz.underlying5
    go_wp2_with fail
    have hcf := AnyE.slices_ContainsFunc Tryz.containsFuncByte encB badB 136 #[] (enters_of Tryz.func136 (by decide) rfl) w.heap.size 0 s.size (grownCap w s.size 0 5) s.data.toList (w.alloc (.cells (bytesRow s (grownCap w s.size 0 5)) 5 ((bytesRow s (grownCap w s.size 0 5)).size, (bytesRow s (grownCap w s.size 0 5)).size + 1))).drew (pred_bad _) (Nat.le_of_eq (size_list s).symm) (by omega) (fun j hj => by
      have hj' : j < s.size := by rw [size_list] at hj; exact hj
      have := bytesRow_get s (grownCap w s.size 0 5) j hj'
      rw [World.cell?_drew, World.cell?_alloc_mark, Nat.zero_add]
      exact this)
    have hany : (s.data.toList.take s.size).any badB = s.data.toList.any badB := by rw [List.take_of_length_le (Nat.le_of_eq (size_list s))]
    rw [hany] at hcf
    rw [HBB.out] at hcf
    have HF := Lib.hid hcf
    clear hcf hcv hany HBB
    refine HF.out.mono ?_
    rintro r w' ⟨rfl, q, rfl⟩
    go_wp2
    go_ret
    exact ⟨by simp, below_drewN' ((Below.refl _ _).alloc (Nat.le_refl _) _) (1 + q)⟩

set_option maxHeartbeats 1000000 in
theorem notComp_any (s : ByteArray) (w : World) (hs : s.size ≤ maxLen) : Calls Tryz.prog 107 #[.string s] w fun r w' => r = .returned (.bool (!compB s.data.toList)) ∧ Below w.heap.size w w' := by
  have hc := isComponent_any s w hs
  generalize compB s.data.toList = b at hc ⊢
  have HC := Lib.hid hc
  clear hc
  go_enter Tryz.func107, Tryz.ntmps107
  go_wp2_with fail
  refine HC.out.mono ?_
  rintro r w' ⟨rfl, hb⟩
  go_wp2
  go_ret
  exact ⟨by simp, hb⟩

/-- The first index of a bad part, or -1. -/
def badAt : List ByteArray → Nat → Int
  | [], _ => -1
  | x :: r, k => if compB x.data.toList then badAt r (k + 1) else k
theorem badAt_all : ∀ (xs : List ByteArray) (k : Nat), (0 ≤ badAt xs k) ↔ xs.any (fun x => !compB x.data.toList) = true
  | [], k => by simp [badAt]
  | x :: r, k => by
    have := badAt_all r (k + 1)
    by_cases h : compB x.data.toList = true
    · simp only [badAt, h, if_true, List.any_cons, Bool.not_true, Bool.false_or]; exact this
    · simp only [badAt, h, List.any_cons]
      simp

set_option maxRecDepth 100000 in
set_option maxHeartbeats 1000000 in
theorem indexBad_any (b c : Nat) (xs : List ByteArray) (w : World) (hx : StrRow w b 0 xs) (hm : xs.length ≤ 1000000) (hlen : ∀ x ∈ xs, x.size ≤ maxLen) :
    Calls Tryz.prog 133 #[.slice (some ⟨b, 0, none⟩) xs.length c, .func (.func 107) #[] #[]] w fun r w' => r = .returned (.int .i64 (badAt xs 0)) ∧ Below w.heap.size w w' := by
  have HX := Lib.hid hx
  have HL := Lib.hid hlen
  clear hx hlen
  go_enter Tryz.func133, Tryz.ntmps133
  go_wp2
  go_loopw [5, 8] (fun _ i wr => ∃ k : Nat, k ≤ xs.length ∧ i = .int .i64 k ∧ Hid (badAt xs 0 = badAt (xs.drop k) k) ∧ Below w.heap.size w wr) (fun _ i _ => xs.length - (intOf i).toNat)
  case atStart => exact ⟨0, by omega, rfl, Lib.hid rfl, Below.refl _ _⟩
  case round =>
    obtain ⟨k, hk, rfl, HB, hb⟩ := hrel
    by_cases hlt : k < xs.length
    · have hltz : (k : Int) < (xs.length : Int) := by omega
      have hget : xs[k]? = some xs[k] := List.getElem?_eq_getElem hlt
      have hc0 := HX.out k _ hget
      rw [Nat.zero_add] at hc0
      have hcell : wr.cell? ⟨b, k, none⟩ = some (.string xs[k]) := (hb.cell (block_lt_of_cell hc0)).trans hc0
      have hsz := HL.out xs[k] (List.getElem_mem hlt)
      have hst : Hid (badAt xs 0 = if compB xs[k].data.toList then badAt (xs.drop (k + 1)) (k + 1) else k) := Lib.hid (by
        rw [HB.out, List.drop_eq_getElem_cons hlt]; rfl)
      have hcall := notComp_any xs[k] wr hsz
      have HBB := Lib.hid hb
      clear HB hc0 hget hsz hb
      generalize xs[k] = x at hcell hst hcall
      generalize compB x.data.toList = bb at hcall hst
      have HC := Lib.hid hcall
      clear hcall
      cases bb with
      | true =>
        go_wp2_with fail
        refine HC.out.mono ?_
        rintro r w' ⟨rfl, hb1⟩
        have hb2 := HBB.out.trans (hb1.mono HBB.out.size)
        go_wp2
        go_roundw
        case rel => exact ⟨k + 1, by omega, by go_num, Lib.hid (by rw [hst.out]; rfl), hb2⟩
        case measure => simp [intOf]; omega
      | false =>
        go_wp2_with fail
        refine HC.out.mono ?_
        rintro r w' ⟨rfl, hb1⟩
        have hb2 := HBB.out.trans (hb1.mono HBB.out.size)
        go_wp2
        go_ret
        exact ⟨ret_int (by rw [hst.out]; rfl), hb2⟩
    · have hend : Hid (badAt xs 0 = -1) := Lib.hid (by rw [HB.out, List.drop_eq_nil_of_le (by omega)]; rfl)
      clear HB
      go_wp2
      go_ret
      exact ⟨ret_int (by rw [hend.out]), hb⟩

set_option maxHeartbeats 1000000 in
theorem anyBad_any (b c : Nat) (xs : List ByteArray) (w : World) (hx : StrRow w b 0 xs) (hm : xs.length ≤ 1000000) (hlen : ∀ x ∈ xs, x.size ≤ maxLen) :
    Calls Tryz.prog 106 #[.slice (some ⟨b, 0, none⟩) xs.length c, .func (.func 107) #[] #[]] w fun r w' => r = .returned (.bool (xs.any fun x => !compB x.data.toList)) ∧ Below w.heap.size w w' := by
  have HI := Lib.hid (indexBad_any b c xs w hx hm hlen)
  have hiff := badAt_all xs 0
  have hd : (xs.any fun x => !compB x.data.toList) = decide (0 ≤ badAt xs 0) := by
    rw [Bool.eq_iff_iff, decide_eq_true_eq]; exact hiff.symm
  rw [hd]
  clear hiff hd hx hlen
  generalize badAt xs 0 = n at HI ⊢
  go_enter Tryz.func106, Tryz.ntmps106
  go_wp2_with fail
  refine HI.out.mono ?_
  rintro r w' ⟨rfl, hb⟩
  go_wp2
  go_ret
  exact ⟨by simp, hb⟩

set_option maxHeartbeats 1000000 in
theorem dots_any (s : ByteArray) (w : World) (hG : Gl w) (hs : s.size < 4294967281) :
    Calls Tryz.prog 105 #[.string s] w fun r w' => r = .returned (.slice (some ⟨w.heap.size, 0, none⟩) (splitS 46 s).length (splitS 46 s).length) ∧ w.alloc (.cells ((splitS 46 s).map Value.string).toArray 9) = w' := by
  go_enter Tryz.func105, Tryz.ntmps105
  go_wp2_with fail
  refine (split_any 46 s w hG hs).mono ?_
  rintro r w' ⟨rfl, rfl⟩
  go_wp2
  go_ret
  exact ⟨rfl, rfl⟩

theorem splitL_le (c : UInt8) : ∀ l : List UInt8, ∀ x ∈ splitL c l, x.length ≤ l.length
  | [], x, hx => by simp [splitL] at hx; simp [hx]
  | b :: l, x, hx => by
    have ih := splitL_le c l
    unfold splitL at hx
    split at hx
    · simp only [List.mem_cons] at hx
      rcases hx with rfl | hx
      · simp
      · have := ih x hx; simp; omega
    · split at hx
      · rename_i h t e
        rw [e] at ih
        simp only [List.mem_cons] at hx
        rcases hx with rfl | hx
        · have := ih h (by simp); simp; omega
        · have := ih x (by simp [hx]); simp; omega
      · simp at hx; subst hx; simp
theorem splitS_le (c : UInt8) (s : ByteArray) : ∀ x ∈ splitS c s, x.size ≤ s.size := by
  intro x hx
  unfold splitS at hx
  obtain ⟨l, hl, rfl⟩ := List.mem_map.1 hx
  rw [str_size, ← size_list]
  exact splitL_le c _ l hl

set_option maxRecDepth 100000 in
set_option maxHeartbeats 1000000 in
theorem nameCheck_any (s : ByteArray) (w : World) (hG : Gl w) (hs : s.size ≤ maxLen) :
    Calls Tryz.prog 72 #[.string s] w fun r w' => r = .returned (.int .i64 (nameErr s)) ∧ Below w.heap.size w w' := by
  unfold maxLen at hs
  unfold nameErr
  by_cases h80 : 80 < s.size
  · rw [if_pos h80]
    have h80' : (80 : Int) < (s.size : Int) := by omega
    go_enter Tryz.func72, Tryz.ntmps72
    go_wp2
    go_ret
    exact ⟨rfl, Below.refl _ _⟩
  · rw [if_neg h80]
    have h80' : ¬ (80 : Int) < (s.size : Int) := by omega
    have hle := splitS_le 46 s
    have hln := splitS_len 46 s
    have hD := Lib.hid (dots_any s w hG (by omega))
    have hbw : Below w.heap.size w (w.alloc (.cells ((splitS 46 s).map Value.string).toArray 9)) := (Below.refl _ _).alloc (Nat.le_refl _) _
    have hA := anyBad_any w.heap.size (splitS 46 s).length (splitS 46 s) (w.alloc (.cells ((splitS 46 s).map Value.string).toArray 9)) (split_row w _ _) (by omega) (fun x hx => by have := hle x hx; unfold maxLen; omega)
    have hm : (splitS 46 s).length ≤ 81 := by omega
    generalize splitS 46 s = xs at hD hA hbw hm ⊢
    generalize (xs.any fun x => !compB x.data.toList) = b at hA ⊢
    generalize xs.length = n at hD hA hm ⊢
    have HA := Lib.hid hA
    have HB := Lib.hid hbw
    clear hA hbw hle hln
    cases b with
    | true =>
      go_enter Tryz.func72, Tryz.ntmps72
      go_wp2_with fail
      refine hD.out.mono ?_
      rintro r w' ⟨rfl, rfl⟩
      go_wp2_with fail
      refine HA.out.mono ?_
      rintro r w' ⟨rfl, hb⟩
      go_wp2
      go_ret
      exact ⟨rfl, HB.out.trans (hb.mono HB.out.size)⟩
    | false =>
      by_cases h10 : 10 < n
      · have h10' : (10 : Int) < (n : Int) := by omega
        rw [if_pos h10]
        go_enter Tryz.func72, Tryz.ntmps72
        go_wp2_with fail
        refine hD.out.mono ?_
        rintro r w' ⟨rfl, rfl⟩
        go_wp2_with fail
        refine HA.out.mono ?_
        rintro r w' ⟨rfl, hb⟩
        go_wp2
        go_ret
        exact ⟨rfl, HB.out.trans (hb.mono HB.out.size)⟩
      · have h10' : ¬ (10 : Int) < (n : Int) := by omega
        rw [if_neg h10]
        go_enter Tryz.func72, Tryz.ntmps72
        go_wp2_with fail
        refine hD.out.mono ?_
        rintro r w' ⟨rfl, rfl⟩
        go_wp2_with fail
        refine HA.out.mono ?_
        rintro r w' ⟨rfl, hb⟩
        go_wp2
        go_ret
        exact ⟨rfl, HB.out.trans (hb.mono HB.out.size)⟩

end Go.Proofs.YtdjaphcelpchaaaGreatDoor
