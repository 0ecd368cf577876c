/- Contracts of the functions that check texts and ranges: overview.checkText, checkRange and bulletinref28.text return what the plain functions textErr and rangeErr tell; nothing in memory changes. -/
import Derived.Test.YtdjaphcelpchaaaGreatDoorProg
import Derived.WalkKit
import Derived.WalkLawsBesides
import Derived.WalkSpells
import Derived.LoopTactic
import Derived.Outline
import Derived.Lib.Hide
import Derived.Deep.QuietTactic
import Derived.BigQuiet
namespace Go.Proofs.YtdjaphcelpchaaaGreatDoor
open Go Go.RowKit Go.Proofs

def badByte (c : UInt8) : Bool := decide ((c.toNat : Int) < 32) || decide ((c.toNat : Int) = 127)
def textErr (s : List UInt8) (most : Int) : Int := if most < (s.length : Int) then 5 else if s.any badByte then 6 else 0
def rangeErr (n lo hi e : Int) : Int := if n < lo ∨ hi < n then e else 0

theorem ret_int {k : IntKind} {a b : Int} (h : a = b) : Ending.returned (.int k a) = .returned (.int k b) := by rw [h]
theorem size_list (s : ByteArray) : s.data.toList.length = s.size := rfl
theorem take_snoc (s : ByteArray) (k : Nat) (h : k < s.size) : s.data.toList.take (k + 1) = s.data.toList.take k ++ [s[k]] := by
  rw [List.take_succ_eq_append_getElem (by simpa using h)]; rfl
theorem mem_byte (s : ByteArray) (k : Nat) (h : k < s.size) : s[k] ∈ s.data.toList := by
  have e : s[k] = s.data.toList[k]'(by simpa using h) := rfl
  rw [e]; exact List.getElem_mem _

theorem textErr_long {s : List UInt8} {most : Int} (h : most < (s.length : Int)) : textErr s most = 5 := if_pos h
theorem textErr_bad {s : List UInt8} {most : Int} (h : (s.length : Int) ≤ most) (b : s.any badByte = true) : textErr s most = 6 := by
  unfold textErr; rw [if_neg (by omega), if_pos b]
theorem textErr_ok {s : List UInt8} {most : Int} (h : (s.length : Int) ≤ most) (b : s.any badByte = false) : textErr s most = 0 := by
  unfold textErr; rw [if_neg (by omega), if_neg (by simp [b])]

theorem checkRange_any (n lo hi e : Int) (w : World) :
    Calls Tryz.prog 56 #[.int .i64 n, .int .i64 lo, .int .i64 hi, .int .i64 e] w fun r w' => r = .returned (.int .i64 (rangeErr n lo hi e)) ∧ w = w' := by
  by_cases h1 : n < lo
  · have hf := Lib.hid (show rangeErr n lo hi e = e from if_pos (.inl h1))
    go_enter Tryz.func56, Tryz.ntmps56
    go_wp2
    go_ret
    exact ⟨ret_int hf.out.symm, rfl⟩
  · by_cases h2 : hi < n
    · have hf := Lib.hid (show rangeErr n lo hi e = e from if_pos (.inr h2))
      go_enter Tryz.func56, Tryz.ntmps56
      go_wp2
      go_ret
      exact ⟨ret_int hf.out.symm, rfl⟩
    · have hf := Lib.hid (show rangeErr n lo hi e = 0 from if_neg (by omega))
      go_enter Tryz.func56, Tryz.ntmps56
      go_wp2
      go_ret
      exact ⟨ret_int hf.out.symm, rfl⟩

theorem badByte_iff (c : UInt8) : badByte c = true ↔ (c.toNat : Int) < 32 ∨ (c.toNat : Int) = 127 := by simp [badByte]
theorem any_snoc {s : ByteArray} {k : Nat} (hlt : k < s.size) (hb : (s.data.toList.take k).any badByte = false) (hc : ¬ ((s[k].toNat : Int) < 32 ∨ (s[k].toNat : Int) = 127)) :
    (s.data.toList.take (k + 1)).any badByte = false := by
  have : badByte s[k] = false := by
    cases h : badByte s[k] with
    | false => rfl
    | true => exact absurd ((badByte_iff _).1 h) hc
  rw [take_snoc s k hlt, List.any_append, hb]; simp [this]
theorem any_at {s : ByteArray} {k : Nat} (hlt : k < s.size) (hc : (s[k].toNat : Int) < 32 ∨ (s[k].toNat : Int) = 127) : s.data.toList.any badByte = true :=
  List.any_eq_true.2 ⟨s[k], mem_byte s k hlt, (badByte_iff _).2 hc⟩
theorem any_end {s : ByteArray} {k : Nat} (hlt : ¬ k < s.size) (hb : (s.data.toList.take k).any badByte = false) : s.data.toList.any badByte = false := by
  rwa [List.take_of_length_le (by rw [size_list]; omega)] at hb

set_option maxHeartbeats 400000 in
theorem checkText_any (s : ByteArray) (most : Int) (w : World) (hs : s.size ≤ maxLen) :
    Calls Tryz.prog 57 #[.string s, .int .i64 most] w fun r w' => r = .returned (.int .i64 (textErr s.data.toList most)) ∧ w = w' := by
  unfold maxLen at hs
  by_cases hm : most < (s.size : Int)
  · have hf := Lib.hid (textErr_long (s := s.data.toList) hm)
    go_enter Tryz.func57, Tryz.ntmps57
    go_wp2
    go_ret
    exact ⟨ret_int hf.out.symm, rfl⟩
  · go_enter Tryz.func57, Tryz.ntmps57
    go_wp2
    go_loop [12] (fun i => ∃ k : Nat, k ≤ s.size ∧ i = .int .i64 k ∧ (s.data.toList.take k).any badByte = false) (fun i => s.size - (intOf i).toNat)
    case atStart => exact ⟨0, Nat.zero_le _, rfl, rfl⟩
    case round =>
      obtain ⟨k, hk, rfl, hb⟩ := hrel
      by_cases hlt : k < s.size
      · have HB := Lib.hid hb
        clear hb
        by_cases h1 : (s[k].toNat : Int) < 32
        · have hf := Lib.hid (textErr_bad (s := s.data.toList) hm (any_at hlt (.inl h1)))
          go_wp2
          go_ret
          exact ⟨ret_int hf.out.symm, rfl⟩
        · by_cases h2 : (s[k].toNat : Int) = 127
          · have hf := Lib.hid (textErr_bad (s := s.data.toList) hm (any_at hlt (.inr h2)))
            have h2' : ((s[k].toNat : Int) == 127) = true := beq_iff_eq.2 h2
            have H2 := Lib.hid h2
            clear h2
            go_wp2
            go_ret
            exact ⟨ret_int hf.out.symm, rfl⟩
          · have hn := Lib.hid (any_snoc hlt HB.out (by omega))
            have h2' : ((s[k].toNat : Int) == 127) = false := beq_eq_false_iff_ne.2 h2
            clear h2
            go_wp2
            go_round
            case rel => exact ⟨k + 1, by omega, by go_num, hn.out⟩
            case measure => simp [intOf]; omega
      · have hf := Lib.hid (textErr_ok (s := s.data.toList) hm (any_end hlt hb))
        clear hb
        go_wp2
        go_ret
        exact ⟨ret_int hf.out.symm, rfl⟩

set_option maxHeartbeats 400000 in
theorem text_any (s : ByteArray) (most : Int) (w : World) (hs : s.size ≤ maxLen) :
    Calls Tryz.prog 52 #[.string s, .int .i64 most] w fun r w' => r = .returned (.int .i64 (textErr s.data.toList most)) ∧ w = w' := by
  unfold maxLen at hs
  by_cases hm : most < (s.size : Int)
  · have hf := Lib.hid (textErr_long (s := s.data.toList) hm)
    go_enter Tryz.func52, Tryz.ntmps52
    go_wp2
    go_ret
    exact ⟨ret_int hf.out.symm, rfl⟩
  · go_enter Tryz.func52, Tryz.ntmps52
    go_wp2
    go_loop [5] (fun i => ∃ k : Nat, k ≤ s.size ∧ i = .int .i64 k ∧ (s.data.toList.take k).any badByte = false) (fun i => s.size - (intOf i).toNat)
    case atStart => exact ⟨0, Nat.zero_le _, rfl, rfl⟩
    case round =>
      obtain ⟨k, hk, rfl, hb⟩ := hrel
      by_cases hlt : k < s.size
      · have HB := Lib.hid hb
        clear hb
        by_cases h1 : (s[k].toNat : Int) < 32
        · have hf := Lib.hid (textErr_bad (s := s.data.toList) hm (any_at hlt (.inl h1)))
          go_wp2
          go_ret
          exact ⟨ret_int hf.out.symm, rfl⟩
        · by_cases h2 : (s[k].toNat : Int) = 127
          · have hf := Lib.hid (textErr_bad (s := s.data.toList) hm (any_at hlt (.inr h2)))
            have h2' : ((s[k].toNat : Int) == 127) = true := beq_iff_eq.2 h2
            have H2 := Lib.hid h2
            clear h2
            go_wp2
            go_ret
            exact ⟨ret_int hf.out.symm, rfl⟩
          · have hn := Lib.hid (any_snoc hlt HB.out (by omega))
            have h2' : ((s[k].toNat : Int) == 127) = false := beq_eq_false_iff_ne.2 h2
            clear h2
            go_wp2
            go_round
            case rel => exact ⟨k + 1, by omega, by go_num, hn.out⟩
            case measure => simp [intOf]; omega
      · have hf := Lib.hid (textErr_ok (s := s.data.toList) hm (any_end hlt hb))
        clear hb
        go_wp2
        go_ret
        exact ⟨ret_int hf.out.symm, rfl⟩

end Go.Proofs.YtdjaphcelpchaaaGreatDoor
