/- Texts cut at a byte: strings.Split and bulletinref12.Parts give the parts splitL. -/
import Derived.Test.YtdjaphcelpchaaaGreatDoorScanId
import Derived.Lib.SplitLaws
namespace Go.Proofs.YtdjaphcelpchaaaGreatDoor
open Go Go.RowKit Go.Proofs

/-- The parts into which a byte divides a text. -/
def splitL (c : UInt8) : List UInt8 → List (List UInt8)
  | [] => [[]]
  | b :: l => if b = c then [] :: splitL c l else match splitL c l with
    | h :: t => (b :: h) :: t
    | [] => [[b]]
theorem splitL_ne (c : UInt8) (l : List UInt8) : splitL c l ≠ [] := by
  cases l with
  | nil => simp [splitL]
  | cons b l =>
    unfold splitL
    split
    · simp
    · split <;> simp
theorem splitK_cons (c b : UInt8) (l : List UInt8) (h : b ≠ c) (k : Nat) : Lib.splitK [c] 0 k (b :: l) = match Lib.splitK [c] 0 k l with | h :: t => (b :: h) :: t | [] => [[b]] := by
  have hp : ([c] : List UInt8).isPrefixOf (b :: l) = false := by simp [List.isPrefixOf, Ne.symm h]
  have hix : Lib.index (b :: l) [c] = if Lib.index l [c] == -1 then -1 else Lib.index l [c] + 1 := by rw [Lib.index, hp]; simp
  cases k with
  | zero => rfl
  | succ k =>
    by_cases hm : Lib.index l [c] = -1
    · have e1 : Lib.index (b :: l) [c] = -1 := by rw [hix, if_pos (beq_iff_eq.2 hm)]
      simp [Lib.splitK, hm, e1]
    · have hge := Lib.index_ge l [c]
      obtain ⟨j, hj⟩ : ∃ j : Nat, Lib.index l [c] = j := ⟨(Lib.index l [c]).toNat, by omega⟩
      have e1 : Lib.index (b :: l) [c] = ((j + 1 : Nat) : Int) := by rw [hix, if_neg (fun e => hm (beq_iff_eq.1 e)), hj]; omega
      have hne : ∀ n : Nat, ((n : Int) == -1) = false := fun n => beq_eq_false_iff_ne.2 (by omega)
      unfold Lib.splitK
      rw [e1, hj, hne, hne]
      simp
theorem split_eq (c : UInt8) : ∀ l : List UInt8, Lib.split l [c] = splitL c l
  | [] => by
    have : Lib.count [] [c] = 0 := by rw [Lib.count_one]; rfl
    unfold Lib.split; rw [this]; rfl
  | b :: l => by
    have ih := split_eq c l
    unfold Lib.split at ih ⊢
    by_cases h : b = c
    · subst h
      rw [Lib.count_cons_eq, Nat.add_comm 1]
      have hix : Lib.index (b :: l) [b] = ((0 : Nat) : Int) := by rw [Lib.index]; simp [List.isPrefixOf]
      unfold Lib.splitK splitL
      rw [hix, if_pos rfl, if_neg (by decide)]
      simp [ih]
    · rw [Lib.count_cons_ne b c l h, splitK_cons c b l h, ih]
      conv => rhs; rw [splitL]
      rw [if_neg h]

/-- The parts as strings. -/
def splitS (c : UInt8) (s : ByteArray) : List ByteArray := (splitL c s.data.toList).map str
theorem splitB_eq (c : UInt8) (s : ByteArray) : Lib.splitB ⟨#[c]⟩ 0 (Lib.countB s ⟨#[c]⟩) s = splitS c s := by
  have h := Lib.splitB_data ⟨#[c]⟩ 0 (Lib.countB s ⟨#[c]⟩) s
  have h2 : Lib.splitK [c] 0 (Lib.countB s ⟨#[c]⟩) s.data.toList = splitL c s.data.toList := by
    rw [← split_eq]; rfl
  have h3 : (Lib.splitB ⟨#[c]⟩ 0 (Lib.countB s ⟨#[c]⟩) s).map (fun x => str x.data.toList) = (splitL c s.data.toList).map str := by
    rw [← h2, ← h, List.map_map]; rfl
  unfold splitS
  rw [← h3]
  simp [str_of]
theorem splitS_length (c : UInt8) (s : ByteArray) : (splitS c s).length = Lib.countB s ⟨#[c]⟩ + 1 := by
  rw [← splitB_eq]
  exact Lib.splitB_all ⟨#[c]⟩ (Nat.le_refl 1) 0 _ s rfl
theorem splitS_len (c : UInt8) (s : ByteArray) : 1 ≤ (splitS c s).length ∧ (splitS c s).length ≤ s.size + 1 := by
  rw [splitS_length]
  have := Lib.countB_le ⟨#[c]⟩ (Nat.le_refl 1) s.size s (Nat.le_refl _)
  omega

theorem split_any (c : UInt8) (s : ByteArray) (w : World) (hG : Gl w) (hs : s.size < 4294967281) :
    Calls Tryz.prog 59 #[.string s, .string ⟨#[c]⟩] w fun r w' => r = .returned (.slice (some ⟨w.heap.size, 0, none⟩) (splitS c s).length (splitS c s).length) ∧ w.alloc (.cells ((splitS c s).map Value.string).toArray 9) = w' := by
  obtain ⟨m, hm⟩ := hG.len
  refine (Tryz.strings_Split s ⟨#[c]⟩ m w hs hm (Nat.le_refl 1)).mono ?_
  rintro e w' ⟨rfl, rfl⟩
  rw [splitS_length, splitB_eq]
  exact ⟨rfl, rfl⟩
theorem split_row (w : World) (t : Nat) (xs : List ByteArray) : StrRow (w.alloc (.cells (xs.map Value.string).toArray t)) w.heap.size 0 xs := by
  intro j x hx
  rw [Nat.zero_add, cells_new, List.getElem?_toArray, List.getElem?_map, hx]; rfl

theorem splitL_snoc (c b : UInt8) : ∀ l : List UInt8, splitL c (l ++ [b]) = if b = c then splitL c l ++ [[]] else (splitL c l).dropLast ++ [(splitL c l).getLastD [] ++ [b]]
  | [] => by
    by_cases h : b = c <;> simp [splitL, h]
  | x :: l => by
    have ih := splitL_snoc c b l
    have hne := splitL_ne c l
    rw [List.cons_append]
    unfold splitL
    by_cases hx : x = c
    · rw [if_pos hx, if_pos hx, ih]
      by_cases hb : b = c
      · simp [hb]
      · rw [if_neg hb, if_neg hb]
        cases hq : splitL c l with
        | nil => exact absurd hq hne
        | cons h t => simp
    · rw [if_neg hx, if_neg hx, ih]
      cases hq : splitL c l with
      | nil => exact absurd hq hne
      | cons h t =>
        by_cases hb : b = c
        · simp [hb]
        · rw [if_neg hb, if_neg hb]
          cases t with
          | nil => simp
          | cons h2 t2 => simp

/-- What bulletinref12.Parts has when k bytes have been read: the parts that are done, and the part that grows. -/
def doneV (c : UInt8) (s : ByteArray) (k : Nat) : List Value := (splitL c (s.data.toList.take k)).dropLast.map fun x => Value.string (str x)
def curP (c : UInt8) (s : ByteArray) (k : Nat) : List UInt8 := (splitL c (s.data.toList.take k)).getLastD []
theorem parts_hit {c : UInt8} {s : ByteArray} {k : Nat} (h : k < s.size) (he : s[k] = c) : doneV c s (k + 1) = doneV c s k ++ [.string (str (curP c s k))] ∧ curP c s (k + 1) = [] := by
  unfold doneV curP
  rw [take_snoc s k h, splitL_snoc, if_pos he]
  have hne := splitL_ne c (s.data.toList.take k)
  generalize splitL c (s.data.toList.take k) = P at hne
  constructor
  · rw [List.dropLast_concat]
    conv => lhs; rw [← List.dropLast_concat_getLast hne]
    rw [List.map_append, List.getLastD_eq_getLast?, List.getLast?_eq_some_getLast hne]; rfl
  · simp
theorem parts_miss {c : UInt8} {s : ByteArray} {k : Nat} (h : k < s.size) (he : s[k] ≠ c) : doneV c s (k + 1) = doneV c s k ∧ curP c s (k + 1) = curP c s k ++ [s[k]] := by
  unfold doneV curP
  rw [take_snoc s k h, splitL_snoc, if_neg he]
  constructor
  · rw [List.dropLast_concat]
  · simp
theorem parts_end {c : UInt8} {s : ByteArray} {k : Nat} (h : s.size ≤ k) : doneV c s k ++ [.string (str (curP c s k))] = (splitS c s).map Value.string := by
  unfold doneV curP splitS
  rw [List.take_of_length_le (by rw [size_list]; exact h), List.map_map]
  have hne := splitL_ne c s.data.toList
  generalize splitL c s.data.toList = P at hne
  conv => rhs; rw [← List.dropLast_concat_getLast hne]
  rw [List.map_append, List.getLastD_eq_getLast?, List.getLast?_eq_some_getLast hne]; rfl
theorem parts_le (c : UInt8) (s : ByteArray) : ∀ k, k ≤ s.size → (doneV c s k).length ≤ k ∧ (curP c s k).length ≤ k
  | 0, _ => by simp [doneV, curP, splitL]
  | k + 1, h => by
    have ih := parts_le c s k (by omega)
    by_cases he : s[k]'(by omega) = c
    · obtain ⟨h1, h2⟩ := parts_hit (by omega) he
      rw [h1, h2]; simp; omega
    · obtain ⟨h1, h2⟩ := parts_miss (by omega) he
      rw [h1, h2]; simp; omega

theorem str_cut (s : ByteArray) (k : Nat) (h : k < s.size) : s.extract k (k + 1) = str [s[k]] := by
  apply ByteArray.ext
  apply Array.ext'
  rw [Lib.extract_data]
  show _ = [s[k]]
  have e : s.data.toList.drop k = s[k] :: s.data.toList.drop (k + 1) := List.drop_eq_getElem_cons (by rw [size_list]; exact h)
  rw [e]
  simp

set_option maxRecDepth 100000 in
set_option maxHeartbeats 1000000 in
theorem parts_any (s : ByteArray) (c : UInt8) (w : World) (hs : s.size ≤ 4294967296) :
    Calls Tryz.prog 44 #[.string s, .int .u8 c.toNat] w fun r w' => ∃ v, r = .returned v ∧ w'.ownsRow w.heap.size 9 1 v (splitS c s).length ((splitS c s).map Value.string) ∧ Below w.heap.size w w' := by
  obtain ⟨i0, hi, hz0, hz1, hz2⟩ := info_parts Tryz.info_str
  go_enter Tryz.func44, Tryz.ntmps44
  go_wp2
  go_loopw [5, 6, 7] (fun o p i wr => ∃ k : Nat, k ≤ s.size ∧ i = .int .i64 k ∧ p = .string (str (curP c s k)) ∧ wr.ownsRow w.heap.size 9 1 o (doneV c s k).length (doneV c s k) ∧ Below w.heap.size w wr) (fun _ _ i _ => s.size - (intOf i).toNat)
  case atStart => exact ⟨0, by omega, rfl, rfl, World.ownsRow_nil _ _ _ _, Below.refl _ _⟩
  case round =>
    obtain ⟨k, hk, rfl, rfl, hown, hb⟩ := hrel
    have hle := parts_le c s k hk
    have hcs : (str (curP c s k)).size ≤ s.size := by rw [str_size]; omega
    obtain ⟨n, hn⟩ : ∃ n, n = (doneV c s k).length := ⟨_, rfl⟩
    have hnk : n ≤ k := by omega
    rw [← hn] at hown
    have HN := Lib.hid hn
    clear hn hle
    by_cases hlt : k < s.size
    · have hltz : (k : Int) < (s.size : Int) := by omega
      by_cases he : s[k] = c
      · have hst := Lib.hid (parts_hit hlt he)
        have heb : ((s[k].toNat : Int) == (c.toNat : Int)) = true := by rw [he]; simp
        clear he
        have hlt2 := Lib.hid (fun j hj => (hown.lt j hj).1)
        have hown1 := hown.alloc (.cells #[.string (str (curP c s k))] 9)
        clear hown
        go_wp2_with (at_builtin; refine wpList_append_own _ rfl (.tmp 19) (.tmp 21) 78 rfl w.heap.size 9 i0 (.string ⟨#[]⟩) 1 16 Tryz.underlying78 hi hz0 hz1 hz2 rfl (by decide) _ _ _ rfl hown1 ⟨wr.heap.size, 0, none⟩ 1 1 [.string (str (curP c s k))] rfl rfl ?c1 ?c2 ?c3 ?c4 ?c5 ?_)
        case c1 =>
          intro j u hj
          rw [Addr.add_lit, Nat.zero_add, cells_new]
          match j, hj with
          | 0, hj => simpa using hj
        case c2 => intro u hu; simp at hu; subst hu; rfl
        case c3 => unfold maxLen; omega
        case c4 => omega
        case c5 => have := hb.size; simp; omega
        intro v' w2 hown' hgrow _
        have hb2 : Below w.heap.size w w2 := (hb.alloc hb.size _).grown hgrow (by have := hb.size; simp; omega) (fun j hj => hlt2.out j hj)
        clear hown1 hgrow
        go_wp2
        go_roundw
        case rel => exact ⟨k + 1, by omega, by go_num, by rw [hst.out.2]; rfl, by rw [hst.out.1, List.length_append, ← HN.out]; exact hown', hb2⟩
        case measure => simp [intOf]; omega
      · have hst := Lib.hid (parts_miss hlt he)
        have heb : ((s[k].toNat : Int) == (c.toNat : Int)) = false := by
          rw [beq_eq_false_iff_ne]
          intro e
          exact he (UInt8.toNat_inj.1 (by exact_mod_cast e))
        clear he
        have hcut := Lib.hid (str_cut s k hlt)
        go_wp2
        go_roundw
        case rel => exact ⟨k + 1, by omega, by go_num, by rw [hst.out.2, ← str_append, ← hcut.out], by rw [hst.out.1, ← HN.out]; exact hown, hb⟩
        case measure => simp [intOf]; omega
    · have hend := Lib.hid (parts_end (c := c) (s := s) (k := k) (by omega))
      have hlt2 := Lib.hid (fun j hj => (hown.lt j hj).1)
      have hown1 := hown.alloc (.cells #[.string (str (curP c s k))] 9)
      clear hown
      go_wp2_with (at_builtin; refine wpList_append_own _ rfl (.tmp 30) (.tmp 32) 78 rfl w.heap.size 9 i0 (.string ⟨#[]⟩) 1 16 Tryz.underlying78 hi hz0 hz1 hz2 rfl (by decide) _ _ _ rfl hown1 ⟨wr.heap.size, 0, none⟩ 1 1 [.string (str (curP c s k))] rfl rfl ?e1 ?e2 ?e3 ?e4 ?e5 ?_)
      case e1 =>
        intro j u hj
        rw [Addr.add_lit, Nat.zero_add, cells_new]
        match j, hj with
        | 0, hj => simpa using hj
      case e2 => intro u hu; simp at hu; subst hu; rfl
      case e3 => unfold maxLen; omega
      case e4 => omega
      case e5 => have := hb.size; simp; omega
      intro v' w2 hown' hgrow _
      have hb2 : Below w.heap.size w w2 := (hb.alloc hb.size _).grown hgrow (by have := hb.size; simp; omega) (fun j hj => hlt2.out j hj)
      clear hown1 hgrow
      go_wp2
      go_ret
      refine ⟨_, rfl, ?_, hb2⟩
      have hl : (splitS c s).length = n + 1 := by
        have := congrArg List.length hend.out
        rw [List.length_append, List.length_map, ← HN.out] at this
        simpa using this.symm
      rw [hl, ← hend.out]
      exact hown'

end Go.Proofs.YtdjaphcelpchaaaGreatDoor
