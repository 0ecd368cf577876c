/- Reading numbers: overview.parseNumber and bulletinref28.number return what numOk and numVal tell. -/
import Derived.Test.YtdjaphcelpchaaaGreatDoorPrint
namespace Go.Proofs.YtdjaphcelpchaaaGreatDoor
open Go Go.RowKit Go.Proofs

def isDig (c : UInt8) : Bool := decide (48 ≤ (c.toNat : Int)) && decide ((c.toNat : Int) ≤ 57)
def decVal (l : List UInt8) : Nat := l.foldl (fun n c => 10 * n + (c.toNat - 48)) 0
def numOk (l : List UInt8) : Bool := decide (1 ≤ l.length ∧ l.length ≤ 10) && !(decide (1 < l.length) && l.head? == some 48) && l.all isDig
def numVal (l : List UInt8) : Nat := if numOk l then decVal l else 0

theorem decVal_snoc (l : List UInt8) (c : UInt8) : decVal (l ++ [c]) = 10 * decVal l + (c.toNat - 48) := by simp [decVal]
theorem decVal_lt : ∀ (k : Nat) (l : List UInt8), l.length ≤ k → l.all isDig = true → decVal l < 10 ^ l.length := by
  intro k
  induction k with
  | zero => intro l h _; rw [List.eq_nil_of_length_eq_zero (l := l) (by omega)]; simp [decVal]
  | succ k ih =>
    intro l h hd
    by_cases hl : l = []
    · subst hl; simp [decVal]
    · have e := List.dropLast_concat_getLast hl
      have hlen : l.length = l.dropLast.length + 1 := by
        have := congrArg List.length e
        rw [List.length_append] at this
        simpa using this.symm
      rw [← e, List.all_append, Bool.and_eq_true] at hd
      have h1 := ih l.dropLast (by omega) hd.1
      have h2 : isDig (l.getLast hl) = true := by simpa using hd.2
      simp only [isDig, Bool.and_eq_true, decide_eq_true_eq] at h2
      have h3 : decVal l = 10 * decVal l.dropLast + ((l.getLast hl).toNat - 48) := by
        conv => lhs; rw [← e]
        exact decVal_snoc _ _
      rw [h3, hlen, Nat.pow_succ]
      omega

theorem isDig_iff (c : UInt8) : isDig c = true ↔ 48 ≤ (c.toNat : Int) ∧ (c.toNat : Int) ≤ 57 := by simp [isDig]
theorem numOk_long {s : ByteArray} (h : s.size = 0 ∨ 10 < s.size) : numOk s.data.toList = false := by
  unfold numOk
  rw [size_list]
  rw [show decide (1 ≤ s.size ∧ s.size ≤ 10) = false by simp; omega]
  rfl
theorem numOk_zero {s : ByteArray} (h : 1 < s.size) (h0 : s[0]'(by omega) = 48) : numOk s.data.toList = false := by
  unfold numOk
  have e : s.data.toList.head? = some 48 := by
    rw [List.head?_eq_getElem?, List.getElem?_eq_getElem (show 0 < s.data.toList.length by rw [size_list]; omega)]
    exact congrArg some h0
  rw [e, size_list, show decide (1 < s.size) = true by simpa using h]
  simp
theorem numOk_bad {s : ByteArray} {k : Nat} (h : k < s.size) (hb : isDig s[k] = false) : numOk s.data.toList = false := by
  unfold numOk
  rw [show s.data.toList.all isDig = false from List.all_eq_false.2 ⟨s[k], mem_byte s k h, by simp [hb]⟩]
  simp
theorem numOk_yes {s : ByteArray} (h1 : 1 ≤ s.size) (h2 : s.size ≤ 10) (h3 : ¬ (1 < s.size ∧ s[0]'(by omega) = 48)) (h4 : s.data.toList.all isDig = true) : numOk s.data.toList = true := by
  unfold numOk
  rw [h4, size_list, show decide (1 ≤ s.size ∧ s.size ≤ 10) = true by simp; omega]
  by_cases hl : 1 < s.size
  · have h0 : s[0]'(by omega) ≠ 48 := fun e => h3 ⟨hl, e⟩
    have e : s.data.toList.head? = some (s[0]'(by omega)) := by
      rw [List.head?_eq_getElem?, List.getElem?_eq_getElem (show 0 < s.data.toList.length by rw [size_list]; omega)]
      rfl
    rw [e]
    simp [h0]
  · simp [hl]
theorem numVal_no {l : List UInt8} (h : numOk l = false) : numVal l = 0 := by unfold numVal; rw [h]; rfl
theorem numVal_yes {l : List UInt8} (h : numOk l = true) : numVal l = decVal l := by unfold numVal; rw [h]; rfl
theorem numVal_lt (l : List UInt8) : numVal l < 10000000000 := by
  unfold numVal
  split
  · rename_i h
    simp only [numOk, Bool.and_eq_true, decide_eq_true_eq] at h
    have h1 := decVal_lt l.length l (Nat.le_refl _) h.2
    have h2 : 10 ^ l.length ≤ 10 ^ 10 := Nat.pow_le_pow_right (by omega) h.1.1.2
    omega
  · omega
theorem ret_num {a b : Int} {x y : Bool} (h1 : a = b) (h2 : x = y) : Ending.returned (.tuple #[.int .i64 a, .bool x]) = .returned (.tuple #[.int .i64 b, .bool y]) := by rw [h1, h2]

theorem dig_snoc {s : ByteArray} {k : Nat} (h : k < s.size) (ha : (s.data.toList.take k).all isDig = true) (hd : isDig s[k] = true) : (s.data.toList.take (k + 1)).all isDig = true := by
  rw [take_snoc s k h, List.all_append, ha]; simp [hd]
theorem dec_step {s : ByteArray} {k : Nat} (h : k < s.size) : decVal (s.data.toList.take (k + 1)) = 10 * decVal (s.data.toList.take k) + (s[k].toNat - 48) := by
  rw [take_snoc s k h, decVal_snoc]
theorem dec_small {s : ByteArray} {k : Nat} (hs : s.size ≤ 10) (ha : (s.data.toList.take k).all isDig = true) : decVal (s.data.toList.take k) < 10000000000 := by
  have h1 := decVal_lt _ _ (Nat.le_refl _) ha
  have h2 : (s.data.toList.take k).length ≤ 10 := by rw [List.length_take, size_list]; omega
  have h3 : 10 ^ (s.data.toList.take k).length ≤ 10 ^ 10 := Nat.pow_le_pow_right (by omega) h2
  omega

set_option maxRecDepth 100000 in
set_option maxHeartbeats 1000000 in
theorem parseNumber_any (s : ByteArray) (w : World) (hs : s.size ≤ maxLen) :
    Calls Tryz.prog 122 #[.string s] w fun r w' => r = .returned (.tuple #[.int .i64 (numVal s.data.toList), .bool (numOk s.data.toList)]) ∧ w = w' := by
  unfold maxLen at hs
  by_cases h0 : s.size = 0
  · have hno := numOk_long (s := s) (.inl h0)
    have hf := Lib.hid (And.intro (numVal_no hno) hno)
    have he : s.toList = [] := by rw [ByteArray.toList_eq]; exact List.eq_nil_of_length_eq_zero (by rw [size_list]; exact h0)
    have he2 : s.toList.isEmpty = true := by rw [he]; rfl
    clear hno he
    go_enter Tryz.func122, Tryz.ntmps122
    go_wp2
    go_ret2
    exact ⟨ret_num (by rw [hf.out.1]; rfl) hf.out.2.symm, rfl⟩
  have he2 : s.toList.isEmpty = false := by
    rw [ByteArray.toList_eq]
    cases hq : s.data.toList with
    | nil => exact absurd (by rw [← size_list, hq]; rfl) h0
    | cons a l => rfl
  by_cases h1 : 10 < s.size
  · have hno := numOk_long (s := s) (.inr h1)
    have hf := Lib.hid (And.intro (numVal_no hno) hno)
    have h1z : (10 : Int) < (s.size : Int) := by omega
    clear hno
    go_enter Tryz.func122, Tryz.ntmps122
    go_wp2
    go_ret2
    exact ⟨ret_num (by rw [hf.out.1]; rfl) hf.out.2.symm, rfl⟩
  have h1z : ¬ (10 : Int) < (s.size : Int) := by omega
  by_cases hl : 1 < s.size
  · have hlz : (1 : Int) < (s.size : Int) := by omega
    have h0z : (0 : Int) < (s.size : Int) := by omega
    have h0n : 0 < s.size := by omega
    by_cases hc0 : s[0] = 48
    · have hno := numOk_zero hl hc0
      have hf := Lib.hid (And.intro (numVal_no hno) hno)
      have hb0 : ((s[0].toNat : Int) == 48) = true := by rw [hc0]; rfl
      clear hno hc0
      go_enter Tryz.func122, Tryz.ntmps122
      go_wp2
      go_ret2
      exact ⟨ret_num (by rw [hf.out.1]; rfl) hf.out.2.symm, rfl⟩
    · have hb0 : ((s[0].toNat : Int) == 48) = false := by
        rw [beq_eq_false_iff_ne]
        intro e
        exact hc0 (UInt8.toNat_inj.1 (by have : s[0].toNat = 48 := by exact_mod_cast e
                                         rw [this]; rfl))
      have HNZ := Lib.hid (show ¬ (1 < s.size ∧ s[0] = 48) from fun h => hc0 h.2)
      clear hc0
      go_enter Tryz.func122, Tryz.ntmps122
      go_wp2
      go_loop [4, 5, 25] (fun n _ i => ∃ k : Nat, k ≤ s.size ∧ i = .int .i64 k ∧ n = .int .i64 (decVal (s.data.toList.take k)) ∧ (s.data.toList.take k).all isDig = true) (fun _ _ i => s.size - (intOf i).toNat)
      case atStart => exact ⟨0, by omega, rfl, rfl, rfl⟩
      case round =>
        obtain ⟨k, hk, rfl, rfl, ha⟩ := hrel
        have hsm := dec_small (s := s) (k := k) (by omega) ha
        have HA := Lib.hid ha
        clear ha
        by_cases hlt : k < s.size
        · have hst := Lib.hid (dec_step hlt)
          have hltz : (k : Int) < (s.size : Int) := by omega
          generalize decVal (s.data.toList.take k) = v at hsm hst ⊢
          by_cases hd1 : (s[k].toNat : Int) < 48
          · have hno := numOk_bad hlt (show isDig s[k] = false by simp only [isDig, Bool.and_eq_false_iff, decide_eq_false_iff_not]; omega)
            have hf := Lib.hid (And.intro (numVal_no hno) hno)
            clear hno
            go_wp2
            go_ret2
            exact ⟨ret_num (by rw [hf.out.1]; rfl) hf.out.2.symm, rfl⟩
          · by_cases hd2 : (57 : Int) < (s[k].toNat : Int)
            · have hno := numOk_bad hlt (show isDig s[k] = false by simp only [isDig, Bool.and_eq_false_iff, decide_eq_false_iff_not]; omega)
              have hf := Lib.hid (And.intro (numVal_no hno) hno)
              clear hno
              go_wp2
              go_ret2
              exact ⟨ret_num (by rw [hf.out.1]; rfl) hf.out.2.symm, rfl⟩
            · have hn := Lib.hid (dig_snoc hlt HA.out ((isDig_iff _).2 ⟨by omega, by omega⟩))
              go_wp2
              go_round
              case rel => exact ⟨k + 1, by omega, by go_num, by rw [hst.out]; go_num, hn.out⟩
              case measure => simp [intOf]; omega
        · have hall : s.data.toList.take k = s.data.toList := List.take_of_length_le (by rw [size_list]; omega)
          have hyes := numOk_yes (s := s) (by omega) (by omega) HNZ.out (by rw [← hall]; exact HA.out)
          have hf := Lib.hid (show (decVal (s.data.toList.take k) : Int) = numVal s.data.toList ∧ true = numOk s.data.toList from ⟨by rw [numVal_yes hyes, hall], hyes.symm⟩)
          clear hall hyes
          go_wp2
          go_ret2
          exact ⟨ret_num hf.out.1 hf.out.2, rfl⟩
  · have hlz : ¬ (1 : Int) < (s.size : Int) := by omega
    have h0n : 0 < s.size := by omega
    have HNZ := Lib.hid (show ¬ (1 < s.size ∧ s[0] = 48) from fun h => hl h.1)
    go_enter Tryz.func122, Tryz.ntmps122
    go_wp2
    go_loop [4, 5, 25] (fun n _ i => ∃ k : Nat, k ≤ s.size ∧ i = .int .i64 k ∧ n = .int .i64 (decVal (s.data.toList.take k)) ∧ (s.data.toList.take k).all isDig = true) (fun _ _ i => s.size - (intOf i).toNat)
    case atStart => exact ⟨0, by omega, rfl, rfl, rfl⟩
    case round =>
      obtain ⟨k, hk, rfl, rfl, ha⟩ := hrel
      have hsm := dec_small (s := s) (k := k) (by omega) ha
      have HA := Lib.hid ha
      clear ha
      by_cases hlt : k < s.size
      · have hst := Lib.hid (dec_step hlt)
        have hltz : (k : Int) < (s.size : Int) := by omega
        generalize decVal (s.data.toList.take k) = v at hsm hst ⊢
        by_cases hd1 : (s[k].toNat : Int) < 48
        · have hno := numOk_bad hlt (show isDig s[k] = false by simp only [isDig, Bool.and_eq_false_iff, decide_eq_false_iff_not]; omega)
          have hf := Lib.hid (And.intro (numVal_no hno) hno)
          clear hno
          go_wp2
          go_ret2
          exact ⟨ret_num (by rw [hf.out.1]; rfl) hf.out.2.symm, rfl⟩
        · by_cases hd2 : (57 : Int) < (s[k].toNat : Int)
          · have hno := numOk_bad hlt (show isDig s[k] = false by simp only [isDig, Bool.and_eq_false_iff, decide_eq_false_iff_not]; omega)
            have hf := Lib.hid (And.intro (numVal_no hno) hno)
            clear hno
            go_wp2
            go_ret2
            exact ⟨ret_num (by rw [hf.out.1]; rfl) hf.out.2.symm, rfl⟩
          · have hn := Lib.hid (dig_snoc hlt HA.out ((isDig_iff _).2 ⟨by omega, by omega⟩))
            go_wp2
            go_round
            case rel => exact ⟨k + 1, by omega, by go_num, by rw [hst.out]; go_num, hn.out⟩
            case measure => simp [intOf]; omega
      · have hall : s.data.toList.take k = s.data.toList := List.take_of_length_le (by rw [size_list]; omega)
        have hyes := numOk_yes (s := s) (by omega) (by omega) HNZ.out (by rw [← hall]; exact HA.out)
        have hf := Lib.hid (show (decVal (s.data.toList.take k) : Int) = numVal s.data.toList ∧ true = numOk s.data.toList from ⟨by rw [numVal_yes hyes, hall], hyes.symm⟩)
        clear hall hyes
        go_wp2
        go_ret2
        exact ⟨ret_num hf.out.1 hf.out.2, rfl⟩

set_option maxRecDepth 100000 in
set_option maxHeartbeats 1000000 in
theorem number_any (s : ByteArray) (w : World) (hs : s.size ≤ maxLen) :
    Calls Tryz.prog 99 #[.string s] w fun r w' => r = .returned (.tuple #[.int .i64 (numVal s.data.toList), .bool (numOk s.data.toList)]) ∧ w = w' := by
  unfold maxLen at hs
  by_cases h0 : s.size = 0
  · have hno := numOk_long (s := s) (.inl h0)
    have hf := Lib.hid (And.intro (numVal_no hno) hno)
    have h0z : (s.size : Int) < 1 := by omega
    clear hno
    go_enter Tryz.func99, Tryz.ntmps99
    go_wp2
    go_ret2
    exact ⟨ret_num (by rw [hf.out.1]; rfl) hf.out.2.symm, rfl⟩
  have h0z : ¬ (s.size : Int) < 1 := by omega
  by_cases h1 : 10 < s.size
  · have hno := numOk_long (s := s) (.inr h1)
    have hf := Lib.hid (And.intro (numVal_no hno) hno)
    have h1z : (10 : Int) < (s.size : Int) := by omega
    clear hno
    go_enter Tryz.func99, Tryz.ntmps99
    go_wp2
    go_ret2
    exact ⟨ret_num (by rw [hf.out.1]; rfl) hf.out.2.symm, rfl⟩
  have h1z : ¬ (10 : Int) < (s.size : Int) := by omega
  have h0n : 0 < s.size := by omega
  have h0p : (0 : Int) < (s.size : Int) := by omega
  by_cases hc0 : s[0] = 48
  · have hb0 : ((s[0].toNat : Int) == 48) = true := by rw [hc0]; rfl
    by_cases hl : 1 < s.size
    · have hlz : (1 : Int) < (s.size : Int) := by omega
      have hno := numOk_zero hl hc0
      have hf := Lib.hid (And.intro (numVal_no hno) hno)
      clear hno hc0
      go_enter Tryz.func99, Tryz.ntmps99
      go_wp2
      go_ret2
      exact ⟨ret_num (by rw [hf.out.1]; rfl) hf.out.2.symm, rfl⟩
    · have hlz : ¬ (1 : Int) < (s.size : Int) := by omega
      have HNZ := Lib.hid (show ¬ (1 < s.size ∧ s[0] = 48) from fun h => hl h.1)
      clear hc0
      go_enter Tryz.func99, Tryz.ntmps99
      go_wp2
      go_loop [4, 5] (fun n i => ∃ k : Nat, k ≤ s.size ∧ i = .int .i64 k ∧ n = .int .i64 (decVal (s.data.toList.take k)) ∧ (s.data.toList.take k).all isDig = true) (fun _ i => s.size - (intOf i).toNat)
      case atStart => exact ⟨0, by omega, rfl, rfl, rfl⟩
      case round =>
        obtain ⟨k, hk, rfl, rfl, ha⟩ := hrel
        have hsm := dec_small (s := s) (k := k) (by omega) ha
        have HA := Lib.hid ha
        clear ha
        by_cases hlt : k < s.size
        · have hst := Lib.hid (dec_step hlt)
          have hltz : (k : Int) < (s.size : Int) := by omega
          generalize decVal (s.data.toList.take k) = v at hsm hst ⊢
          by_cases hd1 : (s[k].toNat : Int) < 48
          · have hno := numOk_bad hlt (show isDig s[k] = false by simp only [isDig, Bool.and_eq_false_iff, decide_eq_false_iff_not]; omega)
            have hf := Lib.hid (And.intro (numVal_no hno) hno)
            clear hno
            go_wp2
            go_ret2
            exact ⟨ret_num (by rw [hf.out.1]; rfl) hf.out.2.symm, rfl⟩
          · by_cases hd2 : (57 : Int) < (s[k].toNat : Int)
            · have hno := numOk_bad hlt (show isDig s[k] = false by simp only [isDig, Bool.and_eq_false_iff, decide_eq_false_iff_not]; omega)
              have hf := Lib.hid (And.intro (numVal_no hno) hno)
              clear hno
              go_wp2
              go_ret2
              exact ⟨ret_num (by rw [hf.out.1]; rfl) hf.out.2.symm, rfl⟩
            · have hn := Lib.hid (dig_snoc hlt HA.out ((isDig_iff _).2 ⟨by omega, by omega⟩))
              go_wp2
              go_round
              case rel => exact ⟨k + 1, by omega, by go_num, by rw [hst.out]; go_num, hn.out⟩
              case measure => simp [intOf]; omega
        · have hall : s.data.toList.take k = s.data.toList := List.take_of_length_le (by rw [size_list]; omega)
          have hyes := numOk_yes (s := s) (by omega) (by omega) HNZ.out (by rw [← hall]; exact HA.out)
          have hf := Lib.hid (show (decVal (s.data.toList.take k) : Int) = numVal s.data.toList ∧ true = numOk s.data.toList from ⟨by rw [numVal_yes hyes, hall], hyes.symm⟩)
          clear hall hyes
          go_wp2
          go_ret2
          exact ⟨ret_num hf.out.1 hf.out.2, rfl⟩
  · have hb0 : ((s[0].toNat : Int) == 48) = false := by
      rw [beq_eq_false_iff_ne]
      intro e
      exact hc0 (UInt8.toNat_inj.1 (by have : s[0].toNat = 48 := by exact_mod_cast e
                                       rw [this]; rfl))
    have HNZ := Lib.hid (show ¬ (1 < s.size ∧ s[0] = 48) from fun h => hc0 h.2)
    clear hc0
    go_enter Tryz.func99, Tryz.ntmps99
    go_wp2
    go_loop [4, 5] (fun n i => ∃ k : Nat, k ≤ s.size ∧ i = .int .i64 k ∧ n = .int .i64 (decVal (s.data.toList.take k)) ∧ (s.data.toList.take k).all isDig = true) (fun _ i => s.size - (intOf i).toNat)
    case atStart => exact ⟨0, by omega, rfl, rfl, rfl⟩
    case round =>
      obtain ⟨k, hk, rfl, rfl, ha⟩ := hrel
      have hsm := dec_small (s := s) (k := k) (by omega) ha
      have HA := Lib.hid ha
      clear ha
      by_cases hlt : k < s.size
      · have hst := Lib.hid (dec_step hlt)
        have hltz : (k : Int) < (s.size : Int) := by omega
        generalize decVal (s.data.toList.take k) = v at hsm hst ⊢
        by_cases hd1 : (s[k].toNat : Int) < 48
        · have hno := numOk_bad hlt (show isDig s[k] = false by simp only [isDig, Bool.and_eq_false_iff, decide_eq_false_iff_not]; omega)
          have hf := Lib.hid (And.intro (numVal_no hno) hno)
          clear hno
          go_wp2
          go_ret2
          exact ⟨ret_num (by rw [hf.out.1]; rfl) hf.out.2.symm, rfl⟩
        · by_cases hd2 : (57 : Int) < (s[k].toNat : Int)
          · have hno := numOk_bad hlt (show isDig s[k] = false by simp only [isDig, Bool.and_eq_false_iff, decide_eq_false_iff_not]; omega)
            have hf := Lib.hid (And.intro (numVal_no hno) hno)
            clear hno
            go_wp2
            go_ret2
            exact ⟨ret_num (by rw [hf.out.1]; rfl) hf.out.2.symm, rfl⟩
          · have hn := Lib.hid (dig_snoc hlt HA.out ((isDig_iff _).2 ⟨by omega, by omega⟩))
            go_wp2
            go_round
            case rel => exact ⟨k + 1, by omega, by go_num, by rw [hst.out]; go_num, hn.out⟩
            case measure => simp [intOf]; omega
      · have hall : s.data.toList.take k = s.data.toList := List.take_of_length_le (by rw [size_list]; omega)
        have hyes := numOk_yes (s := s) (by omega) (by omega) HNZ.out (by rw [← hall]; exact HA.out)
        have hf := Lib.hid (show (decVal (s.data.toList.take k) : Int) = numVal s.data.toList ∧ true = numOk s.data.toList from ⟨by rw [numVal_yes hyes, hall], hyes.symm⟩)
        clear hall hyes
        go_wp2
        go_ret2
        exact ⟨ret_num hf.out.1 hf.out.2, rfl⟩

end Go.Proofs.YtdjaphcelpchaaaGreatDoor
