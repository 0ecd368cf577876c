/- Parts of the proofs about bulletinlaw28: Text, Region, Mem, Mix, Refs, Line, Hex, Num. -/
import Derived.Test.YtdjaphcelpchaaaGreatDoorShelf
import Derived.Test.YtdjaphcelpchaaaGreatDoorProg
import Derived.WalkKit
import Derived.WalkLawsBesides
import Derived.WalkSpells
import Derived.LoopTactic
import Derived.Outline
import Derived.Lib.Hide
import Derived.Deep.QuietTactic
import Derived.BigQuiet
import Derived.StillTail
import Derived.Deep.Quiet
import Derived.Below
import Derived.Laws.StructEq
import Derived.Laws.NewBlocks
import Derived.Shelf.SlicesE.Kit
import Derived.Deep.RegionHeld3
import Derived.Deep.LoopGhost
import Derived.Deep.RegionWith
import Derived.Deep.DeepFit
import Derived.StillTailTactics
import Derived.Lib.ItoaNum

/- Contracts of the functions that check texts and ranges: overview.checkText, checkRange and bulletinref28.text return what the plain functions textErr and rangeErr tell; nothing in memory changes. -/
namespace Go.Proofs.YtdjaphcelpchaaaGreatDoor
open Go Go.RowKit Go.Proofs

def badByte (c : UInt8) : Bool := decide ((c.toNat : Int) < 32) || decide ((c.toNat : Int) = 127)
def textErr (s : List UInt8) (most : Int) : Int := if most < (s.length : Int) then 5 else if s.any badByte then 6 else 0
def rangeErr (n lo hi e : Int) : Int := if n < lo ∨ hi < n then e else 0

theorem ret_int {k : IntKind} {a b : Int} (h : a = b) : Ending.returned (.int k a) = .returned (.int k b) := by rw [h]
theorem size_list (s : ByteArray) : s.data.toList.length = s.size := rfl
theorem take_snoc (s : ByteArray) (k : Nat) (h : k < s.size) : s.data.toList.take (k + 1) = s.data.toList.take k ++ [s[k]] := by
  rw [List.take_succ_eq_append_getElem (by simpa using h)]; rfl
theorem mem_byte (s : ByteArray) (k : Nat) (h : k < s.size) : s[k] ∈ s.data.toList := by
  have e : s[k] = s.data.toList[k]'(by simpa using h) := rfl
  rw [e]; exact List.getElem_mem _

theorem textErr_long {s : List UInt8} {most : Int} (h : most < (s.length : Int)) : textErr s most = 5 := if_pos h
theorem textErr_bad {s : List UInt8} {most : Int} (h : (s.length : Int) ≤ most) (b : s.any badByte = true) : textErr s most = 6 := by
  unfold textErr; rw [if_neg (by omega), if_pos b]
theorem textErr_ok {s : List UInt8} {most : Int} (h : (s.length : Int) ≤ most) (b : s.any badByte = false) : textErr s most = 0 := by
  unfold textErr; rw [if_neg (by omega), if_neg (by simp [b])]

theorem checkRange_any (n lo hi e : Int) (w : World) :
    Calls Tryz.prog 56 #[.int .i64 n, .int .i64 lo, .int .i64 hi, .int .i64 e] w fun r w' => r = .returned (.int .i64 (rangeErr n lo hi e)) ∧ w = w' := by
  by_cases h1 : n < lo
  · have hf := Lib.hid (show rangeErr n lo hi e = e from if_pos (.inl h1))
    go_enter Tryz.func56, Tryz.ntmps56
    go_wp2
    go_ret
    exact ⟨ret_int hf.out.symm, rfl⟩
  · by_cases h2 : hi < n
    · have hf := Lib.hid (show rangeErr n lo hi e = e from if_pos (.inr h2))
      go_enter Tryz.func56, Tryz.ntmps56
      go_wp2
      go_ret
      exact ⟨ret_int hf.out.symm, rfl⟩
    · have hf := Lib.hid (show rangeErr n lo hi e = 0 from if_neg (by omega))
      go_enter Tryz.func56, Tryz.ntmps56
      go_wp2
      go_ret
      exact ⟨ret_int hf.out.symm, rfl⟩

theorem badByte_iff (c : UInt8) : badByte c = true ↔ (c.toNat : Int) < 32 ∨ (c.toNat : Int) = 127 := by simp [badByte]
theorem any_snoc {s : ByteArray} {k : Nat} (hlt : k < s.size) (hb : (s.data.toList.take k).any badByte = false) (hc : ¬ ((s[k].toNat : Int) < 32 ∨ (s[k].toNat : Int) = 127)) :
    (s.data.toList.take (k + 1)).any badByte = false := by
  have : badByte s[k] = false := by
    cases h : badByte s[k] with
    | false => rfl
    | true => exact absurd ((badByte_iff _).1 h) hc
  rw [take_snoc s k hlt, List.any_append, hb]; simp [this]
theorem any_at {s : ByteArray} {k : Nat} (hlt : k < s.size) (hc : (s[k].toNat : Int) < 32 ∨ (s[k].toNat : Int) = 127) : s.data.toList.any badByte = true :=
  List.any_eq_true.2 ⟨s[k], mem_byte s k hlt, (badByte_iff _).2 hc⟩
theorem any_end {s : ByteArray} {k : Nat} (hlt : ¬ k < s.size) (hb : (s.data.toList.take k).any badByte = false) : s.data.toList.any badByte = false := by
  rwa [List.take_of_length_le (by rw [size_list]; omega)] at hb

set_option maxHeartbeats 400000 in
theorem checkText_any (s : ByteArray) (most : Int) (w : World) (hs : s.size ≤ maxLen) :
    Calls Tryz.prog 57 #[.string s, .int .i64 most] w fun r w' => r = .returned (.int .i64 (textErr s.data.toList most)) ∧ w = w' := by
  unfold maxLen at hs
  by_cases hm : most < (s.size : Int)
  · have hf := Lib.hid (textErr_long (s := s.data.toList) hm)
    go_enter Tryz.func57, Tryz.ntmps57
    go_wp2
    go_ret
    exact ⟨ret_int hf.out.symm, rfl⟩
  · go_enter Tryz.func57, Tryz.ntmps57
    go_wp2
    go_loop [12] (fun i => ∃ k : Nat, k ≤ s.size ∧ i = .int .i64 k ∧ (s.data.toList.take k).any badByte = false) (fun i => s.size - (intOf i).toNat)
    case atStart => exact ⟨0, Nat.zero_le _, rfl, rfl⟩
    case round =>
      obtain ⟨k, hk, rfl, hb⟩ := hrel
      by_cases hlt : k < s.size
      · have HB := Lib.hid hb
        clear hb
        by_cases h1 : (s[k].toNat : Int) < 32
        · have hf := Lib.hid (textErr_bad (s := s.data.toList) hm (any_at hlt (.inl h1)))
          go_wp2
          go_ret
          exact ⟨ret_int hf.out.symm, rfl⟩
        · by_cases h2 : (s[k].toNat : Int) = 127
          · have hf := Lib.hid (textErr_bad (s := s.data.toList) hm (any_at hlt (.inr h2)))
            have h2' : ((s[k].toNat : Int) == 127) = true := beq_iff_eq.2 h2
            have H2 := Lib.hid h2
            clear h2
            go_wp2
            go_ret
            exact ⟨ret_int hf.out.symm, rfl⟩
          · have hn := Lib.hid (any_snoc hlt HB.out (by omega))
            have h2' : ((s[k].toNat : Int) == 127) = false := beq_eq_false_iff_ne.2 h2
            clear h2
            go_wp2
            go_round
            case rel => exact ⟨k + 1, by omega, by go_num, hn.out⟩
            case measure => simp [intOf]; omega
      · have hf := Lib.hid (textErr_ok (s := s.data.toList) hm (any_end hlt hb))
        clear hb
        go_wp2
        go_ret
        exact ⟨ret_int hf.out.symm, rfl⟩

set_option maxHeartbeats 400000 in
theorem text_any (s : ByteArray) (most : Int) (w : World) (hs : s.size ≤ maxLen) :
    Calls Tryz.prog 52 #[.string s, .int .i64 most] w fun r w' => r = .returned (.int .i64 (textErr s.data.toList most)) ∧ w = w' := by
  unfold maxLen at hs
  by_cases hm : most < (s.size : Int)
  · have hf := Lib.hid (textErr_long (s := s.data.toList) hm)
    go_enter Tryz.func52, Tryz.ntmps52
    go_wp2
    go_ret
    exact ⟨ret_int hf.out.symm, rfl⟩
  · go_enter Tryz.func52, Tryz.ntmps52
    go_wp2
    go_loop [5] (fun i => ∃ k : Nat, k ≤ s.size ∧ i = .int .i64 k ∧ (s.data.toList.take k).any badByte = false) (fun i => s.size - (intOf i).toNat)
    case atStart => exact ⟨0, Nat.zero_le _, rfl, rfl⟩
    case round =>
      obtain ⟨k, hk, rfl, hb⟩ := hrel
      by_cases hlt : k < s.size
      · have HB := Lib.hid hb
        clear hb
        by_cases h1 : (s[k].toNat : Int) < 32
        · have hf := Lib.hid (textErr_bad (s := s.data.toList) hm (any_at hlt (.inl h1)))
          go_wp2
          go_ret
          exact ⟨ret_int hf.out.symm, rfl⟩
        · by_cases h2 : (s[k].toNat : Int) = 127
          · have hf := Lib.hid (textErr_bad (s := s.data.toList) hm (any_at hlt (.inr h2)))
            have h2' : ((s[k].toNat : Int) == 127) = true := beq_iff_eq.2 h2
            have H2 := Lib.hid h2
            clear h2
            go_wp2
            go_ret
            exact ⟨ret_int hf.out.symm, rfl⟩
          · have hn := Lib.hid (any_snoc hlt HB.out (by omega))
            have h2' : ((s[k].toNat : Int) == 127) = false := beq_eq_false_iff_ne.2 h2
            clear h2
            go_wp2
            go_round
            case rel => exact ⟨k + 1, by omega, by go_num, hn.out⟩
            case measure => simp [intOf]; omega
      · have hf := Lib.hid (textErr_ok (s := s.data.toList) hm (any_end hlt hb))
        clear hb
        go_wp2
        go_ret
        exact ⟨ret_int hf.out.symm, rfl⟩

end Go.Proofs.YtdjaphcelpchaaaGreatDoor

/- A region that draws its order: its first n operations only read, or call functions that answer one value in every world of a class and leave a world of the class; the others come behind all of these, one after the other. Then one walk in the order of the text serves every order. Conditions: three closed checks over the region. -/
namespace Go.Proofs.YtdjaphcelpchaaaGreatDoor
open Go Go.RowKit

section
variable {P : Program}

/-- The first n operations wait for earlier ones alone, and are guarded by such alone. -/
def headB (ops : Array Oper) (n : Nat) : Bool :=
  (List.range n).all fun i => match ops[i]? with
    | some o => (o.after.all fun e => !Region.binds .any e || decide (e.on < i)) && (match o.guard with | none => true | some (j, _) => decide (j < n))
    | none => false

theorem wpAny_fuel {md : Region.Mode} {ops : Array Oper} {Q : Exit → Act → World → Prop} : ∀ (f : Nat) (listed : Array Bool) (a : Act) (w : World), wpAny P md ops Q f listed a w → wpAny P md ops Q (f + 1) listed a w
  | 0, _, _, _, h => ⟨fun _ => h.2, fun i hi => by rw [h.1] at hi; cases hi⟩
  | f + 1, _, _, _, h => ⟨h.1, fun i hi => wpOp_mono (fun a' w' h' => wpAny_fuel f _ a' w' h') (h.2 i hi)⟩

theorem wpAny_more {md : Region.Mode} {ops : Array Oper} {Q : Exit → Act → World → Prop} {listed : Array Bool} {a : Act} {w : World} {f : Nat} (h : wpAny P md ops Q f listed a w) : ∀ k, wpAny P md ops Q (k + f) listed a w
  | 0 => by simpa using h
  | k + 1 => by rw [show k + 1 + f = (k + f) + 1 by omega]; exact wpAny_fuel _ _ _ _ (wpAny_more h k)

theorem headB_spec {ops : Array Oper} {n i : Nat} (h : headB ops n = true) (hi : i < n) : ∃ o, ops[i]? = some o ∧ (∀ e ∈ o.after, Region.binds .any e = true → e.on < i) ∧ (∀ j b, o.guard = some (j, b) → j < n) := by
  have h1 := List.all_eq_true.1 h i (List.mem_range.2 hi)
  split at h1
  · rename_i o ho
    simp only [Bool.and_eq_true, Array.all_eq_true_iff_forall_mem, Bool.or_eq_true, Bool.not_eq_true', decide_eq_true_eq] at h1
    refine ⟨o, ho, fun e he hb => ?_, fun j b hg => ?_⟩
    · rcases h1.1 e he with h2 | h2
      · rw [hb] at h2; cases h2
      · exact h2
    · have h2 := h1.2
      rw [hg] at h2
      simpa using h2
  · cases h1

theorem getD_of_eq {x y : Array Bool} {i : Nat} {d : Bool} (h : x[i]? = y[i]?) : x.getD i d = y.getD i d := by simp [h]

theorem least_ready {ops : Array Oper} {n : Nat} {listed : Array Bool} (hB : headB ops n = true) (hsz : listed.size = n) : ∀ (m : Nat), m < n → listed.getD m true = false → ∃ i, i < n ∧ i ∈ Region.ready .any ops listed := by
  intro m
  induction m using Nat.strongRecOn with
  | _ m ih =>
    intro hm hun
    obtain ⟨o, ho, he, _⟩ := headB_spec hB hm
    by_cases hall : ∀ e ∈ o.after, Region.binds .any e = true → listed.getD e.on false = true
    · exact ⟨m, hm, mem_ready.2 ⟨hun, o, ho, hall⟩⟩
    · obtain ⟨e, hx⟩ := Classical.not_forall.1 hall
      obtain ⟨hin, hx⟩ := Classical.not_imp.1 hx
      obtain ⟨hb, hx⟩ := Classical.not_imp.1 hx
      have hlt := he e hin hb
      refine ih e.on hlt (by omega) (getD_in (by omega) (by simpa using hx))

variable {C : World → Prop}

theorem ready_head {l : List Oper} {n i : Nat} {listed listed' : Array Bool} (hB : headB l.toArray n = true) (hag : ∀ j, j < n → listed'[j]? = listed[j]?) (hi : i < n) :
    i ∈ Region.ready .any (l.take n).toArray listed' ↔ i ∈ Region.ready .any l.toArray listed := by
  have e1 : (l.take n).toArray[i]? = l.toArray[i]? := by simp [hi]
  have e2 : listed'.getD i true = listed.getD i true := getD_of_eq (hag i hi)
  rw [mem_ready, mem_ready, e1, e2]
  obtain ⟨o, ho, he, _⟩ := headB_spec hB hi
  constructor
  · rintro ⟨h1, o', ho', hall⟩
    refine ⟨h1, o', ho', fun e hin hb => ?_⟩
    have : o' = o := Option.some.inj (ho'.symm.trans ho)
    subst this
    rw [← getD_of_eq (hag e.on (by have := he e hin hb; omega))]
    exact hall e hin hb
  · rintro ⟨h1, o', ho', hall⟩
    refine ⟨h1, o', ho', fun e hin hb => ?_⟩
    have : o' = o := Option.some.inj (ho'.symm.trans ho)
    subst this
    rw [getD_of_eq (hag e.on (by have := he e hin hb; omega))]
    exact hall e hin hb

theorem wanted_head {l : List Oper} {n i : Nat} {o : Oper} (hB : headB l.toArray n = true) (hi : i < n) (ho : l.toArray[i]? = some o) (t : Array Value) :
    Region.wanted o (yielded (l.take n).toArray t) = Region.wanted o (yielded l.toArray t) := by
  obtain ⟨o', ho', _, hg⟩ := headB_spec hB hi
  have : o' = o := Option.some.inj (ho'.symm.trans ho)
  subst this
  unfold Region.wanted
  cases hq : o'.guard with
  | none => rfl
  | some x =>
    obtain ⟨j, b⟩ := x
    have hj := hg j b hq
    have e1 : (l.take n).toArray[j]? = l.toArray[j]? := by simp [hj]
    simp only [yielded, e1]

theorem ht_aux {l : List Oper} {n : Nat} {Q : Exit → Act → World → Prop} (hn : n < l.length) (hs : Region.sinkB .any l.toArray n = true) (hc : Region.chainB .any l.toArray n = true) (hB : headB l.toArray n = true)
    (hseq : Region.seqB .any l.toArray (l.length - n) n ((Array.replicate n true) ++ (Array.replicate (l.length - n) false)) = true) :
    ∀ (f : Nat) (listed listed' : Array Bool) (a : Act) (w : World), HeadInv .any l.toArray n listed → listed'.size = n → (∀ j, j < n → listed'[j]? = listed[j]?) → C w →
      wpAnyQ P .any (l.take n).toArray C (fun a' => ∀ w', C w' → wpList P l.toArray Q (l.drop n) a' w') f listed' a → wpAny P .any l.toArray Q (f + (l.length - n)) listed a w := by
  have done : ∀ (listed listed' : Array Bool) (a : Act) (w : World), HeadInv .any l.toArray n listed → listed'.size = n → (∀ j, j < n → listed'[j]? = listed[j]?) → Region.ready .any (l.take n).toArray listed' = [] →
      wpList P l.toArray Q (l.drop n) a w → wpAny P .any l.toArray Q (l.length - n) listed a w := by
    intro listed listed' a w inv hsz hag hr h
    have hB' : headB (l.take n).toArray n = true := by
      refine List.all_eq_true.2 fun i hi => ?_
      have hi' : i < n := List.mem_range.1 hi
      have h1 := List.all_eq_true.1 hB i hi
      have e1 : (l.take n).toArray[i]? = l.toArray[i]? := by simp [hi']
      rw [e1]; exact h1
    have hall : ∀ i, i < n → listed[i]? = some true := by
      intro i hi
      have hlt : i < listed.size := by rw [inv.size]; simp; omega
      cases hv : listed[i] with
      | true => rw [Array.getElem?_eq_getElem hlt, hv]
      | false =>
        have hun : listed'.getD i true = false := by rw [getD_of_eq (hag i hi)]; simp [hlt, hv]
        obtain ⟨j, _, hj⟩ := least_ready hB' hsz i hi hun
        rw [hr] at hj; cases hj
    have heq : listed = (Array.replicate n true) ++ (Array.replicate (l.length - n) false) := by
      apply Array.ext_getElem?
      intro i
      by_cases hi : i < n
      · rw [hall i hi, Array.getElem?_append_left (by simpa using hi)]; simp [hi]
      · by_cases hi2 : i < l.length
        · have h1 := inv.tail i (by omega) (by simpa using hi2)
          have hlt : i < listed.size := by rw [inv.size]; simpa using hi2
          have h2 : listed[i] = false := by simpa [hlt] using h1
          rw [Array.getElem?_append_right (by simp; omega), Array.getElem?_eq_getElem hlt, h2, Array.size_replicate, Array.getElem?_eq_getElem (by simp; omega)]
          simp
        · rw [Array.getElem?_eq_none (by rw [inv.size]; simp; omega), Array.getElem?_eq_none (by simp; omega)]
    have := wpAny_of_seq (P := P) (md := .any) (ops := l.toArray) (Q' := Q) (l.drop n) n listed a w (fun j => by simp [List.getElem?_drop]) (by rw [List.length_drop, heq]; exact hseq) h
    rwa [List.length_drop] at this
  intro f
  induction f with
  | zero =>
    intro listed listed' a w inv hsz hag hw h
    rw [Nat.zero_add]
    exact done listed listed' a w inv hsz hag h.1 (h.2 w hw)
  | succ f ih =>
    intro listed listed' a w inv hsz hag hw h
    by_cases hr : Region.ready .any (l.take n).toArray listed' = []
    · exact wpAny_more (done listed listed' a w inv hsz hag hr (h.1 hr w hw)) (f + 1)
    · obtain ⟨i0, hi0⟩ := List.exists_mem_of_ne_nil _ hr
      have hi0n : i0 < n := by
        obtain ⟨_, o, ho, _⟩ := mem_ready.1 hi0
        have := (Array.getElem?_eq_some_iff.1 ho).1
        simp at this; omega
      have hmem := (ready_head hB hag hi0n).1 hi0
      rw [show f + 1 + (l.length - n) = (f + (l.length - n)) + 1 by omega]
      refine ⟨fun he => (by rw [he] at hmem; cases hmem), fun i hi => ?_⟩
      have hin : i < n := by
        rcases Nat.lt_or_ge i n with h1 | h1
        · exact h1
        · exact absurd hi (tail_waits hs hc (by simpa using hn) inv (n - i0) i0 rfl hi0n (mem_ready.1 hmem).1 i h1)
      have hq := h.2 i ((ready_head hB hag hin).2 hi)
      obtain ⟨o, ho, _, _⟩ := headB_spec hB hin
      have e1 : (l.take n).toArray[i]? = some o := by rw [← ho]; simp [hin]
      unfold qOp at hq
      unfold wpOp
      simp only [e1] at hq
      simp only [ho]
      rw [wanted_head hB hin ho] at hq
      have next : ∀ (a' : Act) (w' : World), C w' → wpAnyQ P .any (l.take n).toArray C (fun a' => ∀ w', C w' → wpList P l.toArray Q (l.drop n) a' w') f (listed'.setIfInBounds i true) a' →
          wpAny P .any l.toArray Q (f + (l.length - n)) (listed.setIfInBounds i true) a' w' := fun a' w' hw' h' =>
        ih (listed.setIfInBounds i true) (listed'.setIfInBounds i true) a' w' (inv.set hi hin) (by simpa using hsz) (fun j hj => by
          have h1 := hag j hj
          have s1 : i < listed'.size := by omega
          have s2 : i < listed.size := by rw [inv.size]; simp; omega
          simp only [Array.getElem?_setIfInBounds, s1, s2, if_true, h1]) hw' h'
      split
      · rename_i hwant
        rw [if_pos hwant] at hq
        exact .inl (Oper.wp_of_quiet hw next hq)
      · rename_i hwant
        rw [if_neg hwant] at hq
        exact next _ _ hw hq

/-- The checks over a region, in one. -/
def htB (l : List Oper) (n : Nat) : Bool :=
  decide (n < l.length) && Region.sinkB .any l.toArray n && Region.chainB .any l.toArray n && headB l.toArray n && Region.lexB .any (l.take n).toArray
    && Region.seqB .any l.toArray (l.length - n) n ((Array.replicate n true) ++ (Array.replicate (l.length - n) false))

theorem wp_region_ht {id : Nat} {Q : Exit → Act → World → Prop} {a : Act} {w : World} {l : List Oper} (n : Nat) (C : World → Prop) (hm : P.follows .mixedOrders = true) (hB : htB l n = true) (hC : C w.drew)
    (h : wpQuiet P (l.take n).toArray C (fun a' => ∀ w', C w' → wpList P l.toArray Q (l.drop n) a' w') (l.take n) a) : (Code.region id l.toArray true).wp P Q a w := by
  simp only [htB, Bool.and_eq_true, decide_eq_true_eq] at hB
  obtain ⟨⟨⟨⟨⟨hn, hs⟩, hc⟩, hh⟩, hl⟩, hq⟩ := hB
  simp only [Region.lexB, Bool.and_eq_true] at hl
  have hlen : (l.take n).length = n := by simp; omega
  refine wp_region_any hm ?_
  have h1 := wpAnyQ_lex (P := P) (C := C) (md := .any) hl.1 (l.take n) 0 (Array.replicate (l.take n).toArray.size false) a (by simp) (by simpa using hl.2) h
  have h2 := ht_aux (P := P) (C := C) (Q := Q) hn hs hc hh hq (l.take n).length (Array.replicate l.toArray.size false) (Array.replicate (l.take n).toArray.size false) a w.drew
    ⟨by simp, fun j oj _ hl => (by rw [getD_replicate_false] at hl; cases hl), fun t _ ht => getD_in (by simpa using ht) (getD_replicate_false _ _)⟩
    (by simp; omega) (fun j hj => by simp [show j < min n l.length by omega, show j < l.length by omega]) hC h1
  rw [hlen, show n + (l.length - n) = l.toArray.size by simp; omega] at h2
  exact h2

end

/-- A world that agrees with w on all that lay in w. -/
def Later (w : World) : Type := { w' : World // Below w.heap.size w w' }
instance {w : World} : CoeOut (Later w) World := ⟨Subtype.val⟩
instance {w : World} : Nonempty (Later w) := ⟨⟨w, Below.refl _ _⟩⟩
def isLater (w : World) (w' : World) : Prop := ∃ z : Later w, w' = z.1
theorem isLater_iff {w w' : World} : isLater w w' ↔ Below w.heap.size w w' := ⟨fun ⟨z, h⟩ => h ▸ z.2, fun h => ⟨⟨w', h⟩, rfl⟩⟩

theorem Later.cell {w : World} {a : Addr} {v : Value} (h : w.cell? a = some v) (z : Later w) : z.1.cell? a = some v := (z.2.cell (block_lt_of_cell h)).trans h

theorem Later.call {P : Program} {f : FuncId} {args : Array Value} {w : World} {z : Later w} {v : Value}
    (h : Calls P f args z.1 fun e w' => e = .returned v ∧ Below z.1.heap.size z.1 w') : Calls P f args z.1 fun e w'' => e = .returned v ∧ ∃ z' : Later w, w'' = z'.1 :=
  h.mono fun _ _ ⟨he, hb⟩ => ⟨he, ⟨⟨_, z.2.trans (hb.mono z.2.size)⟩, rfl⟩⟩
theorem Later.call_same {P : Program} {f : FuncId} {args : Array Value} {w : World} {z : Later w} {v : Value}
    (h : Calls P f args z.1 fun e w' => e = .returned v ∧ z.1 = w') : Calls P f args z.1 fun e w'' => e = .returned v ∧ ∃ z' : Later w, w'' = z'.1 :=
  h.mono fun _ _ ⟨he, hb⟩ => ⟨he, z, hb.symm⟩
theorem Later.call_drew {P : Program} {f : FuncId} {args : Array Value} {w : World} {z : Later w} {v : Value}
    (h : Calls P f args z.1 fun e w' => e = .returned v ∧ ∃ q, w' = z.1.drewN q) : Calls P f args z.1 fun e w'' => e = .returned v ∧ ∃ z' : Later w, w'' = z'.1 :=
  h.mono fun _ _ ⟨he, q, hb⟩ => ⟨he, ⟨⟨_, z.2.trans ⟨by rw [hb]; rfl, by rw [hb]; rfl, by rw [hb]; rfl, by rw [hb]; exact Nat.le_refl _, fun _ _ => by rw [hb]; rfl⟩⟩, rfl⟩⟩

end Go.Proofs.YtdjaphcelpchaaaGreatDoor

/- Reading and writing whole aggregates in memory, as functions of the world: the walk reads an identity or a line by one equation. Identities: their cells, and '==' on them. -/
namespace Go.Proofs.YtdjaphcelpchaaaGreatDoor
open Go Go.RowKit Go.Proofs

/-- An identity: 32 bytes. -/
def Id32 : Type := { l : List UInt8 // l.length = 32 }
instance : Inhabited Id32 := ⟨⟨List.replicate 32 0, by simp⟩⟩
instance : DecidableEq Id32 := inferInstanceAs (DecidableEq { l : List UInt8 // l.length = 32 })
def encId (x : Id32) : List Value := x.1.map fun b => .int .u8 b.toNat
theorem encId_length (x : Id32) : (encId x).length = 32 := by simp [encId, x.2]
theorem encId_get (x : Id32) (i : Nat) (h : i < 32) : (encId x)[i]? = some (.int .u8 (x.1[i]'(by rw [x.2]; exact h)).toNat) := by
  simp [encId, List.getElem?_eq_getElem (show i < x.1.length by rw [x.2]; exact h)]
theorem encId_oneCell (x : Id32) : ∀ v ∈ encId x, v.oneCell' = true := by
  intro v hv
  simp only [encId, List.mem_map] at hv
  obtain ⟨b, _, rfl⟩ := hv
  rfl

/-- What n cells from an address on hold; and whether they are there. -/
def rdCells (w : World) (a : Addr) (n : Nat) : Array Value := ((List.range n).map fun j => (w.cell? (a.add j)).getD undef).toArray
def okCells (w : World) (a : Addr) (n : Nat) : Bool := (List.range n).all fun j => (w.cell? (a.add j)).isSome

theorem okCells_iff (w : World) (a : Addr) (n : Nat) : okCells w a n = true ↔ ∀ j, j < n → ∃ v, w.cell? (a.add j) = some v := by
  simp [okCells, Option.isSome_iff_exists]

theorem run_loadCells_rd {P : Program} (w : World) (a : Addr) (n : Nat) (h : okCells w a n = true) : Sem.run P (loadCells a n) w = .ok (rdCells w a n) w := by
  have := run_loadCells_list (P := P) w a ((List.range n).map fun j => (w.cell? (a.add j)).getD undef) (fun j v hj => by
    rw [List.getElem?_map] at hj
    by_cases hlt : j < n
    · rw [List.getElem?_range hlt] at hj
      obtain ⟨u, hu⟩ := (okCells_iff w a n).1 h j hlt
      simp only [Option.map_some, hu, Option.getD_some, Option.some.injEq] at hj
      rw [hu, hj]
    · rw [List.getElem?_eq_none (by simp; omega)] at hj
      simp at hj)
  simpa [rdCells] using this

theorem run_loadAt_rd {P : Program} (t n : Nat) (hA : ∀ w, Sem.run P (isAgg t) w = .ok true w) (hs : ∀ w, Sem.run P (Go.sizeOf t) w = .ok n w) (w : World) (a : Addr) (h : okCells w a n = true) :
    Sem.run P (Instr.loadAt t (.pointer (some a))) w = .ok (.agg (rdCells w a n)) w := by
  simp [Instr.loadAt, Instr.sureAddr, loadVar, hA, hs, run_loadCells_rd w a n h]

theorem rd_of_cells {w : World} {a : Addr} {cs : List Value} (h : ∀ j v, cs[j]? = some v → w.cell? (a.add j) = some v) :
    okCells w a cs.length = true ∧ rdCells w a cs.length = cs.toArray := by
  have hj : ∀ j (hlt : j < cs.length), w.cell? (a.add j) = some cs[j] := fun j hlt => h j _ (List.getElem?_eq_getElem hlt)
  refine ⟨(okCells_iff _ _ _).2 fun j hlt => ⟨_, hj j hlt⟩, ?_⟩
  unfold rdCells
  congr 1
  apply List.ext_getElem
  · simp
  · intro i h1 h2
    simp [hj i h2]

@[simp] theorem okCells_drew (w : World) (a : Addr) (n : Nat) : okCells w.drew a n = okCells w a n := rfl
@[simp] theorem rdCells_drew (w : World) (a : Addr) (n : Nat) : rdCells w.drew a n = rdCells w a n := rfl
@[simp] theorem okCells_drewN (w : World) (a : Addr) (n k : Nat) : okCells (w.drewN k) a n = okCells w a n := by
  simp only [okCells, World.cell?_drewN]
@[simp] theorem rdCells_drewN (w : World) (a : Addr) (n k : Nat) : rdCells (w.drewN k) a n = rdCells w a n := by
  simp only [rdCells, World.cell?_drewN]

theorem rd_same {w w' : World} {a : Addr} {n : Nat} (hc : ∀ j, j < n → w'.cell? (a.add j) = w.cell? (a.add j)) : okCells w' a n = okCells w a n ∧ rdCells w' a n = rdCells w a n := by
  constructor
  · rw [Bool.eq_iff_iff, okCells_iff, okCells_iff]
    exact ⟨fun h j hj => by obtain ⟨v, hv⟩ := h j hj; exact ⟨v, by rw [← hc j hj]; exact hv⟩, fun h j hj => by obtain ⟨v, hv⟩ := h j hj; exact ⟨v, by rw [hc j hj]; exact hv⟩⟩
  · unfold rdCells
    congr 1
    apply List.map_congr_left
    intro j hj
    rw [hc j (by simpa using hj)]

theorem add_block (a : Addr) (j : Nat) : (a.add j).block = a.block := by unfold Addr.add; split <;> rfl

theorem ok_alloc {w : World} {a : Addr} {n : Nat} (o : Obj) (h : okCells w a n = true) : okCells (w.alloc o) a n = true := by
  rw [okCells_iff] at h ⊢
  intro j hj
  obtain ⟨v, hv⟩ := h j hj
  exact ⟨v, Lib.cell?_alloc_some _ hv⟩
theorem rd_alloc {w : World} {a : Addr} {n : Nat} (o : Obj) (h : okCells w a n = true) : rdCells (w.alloc o) a n = rdCells w a n := by
  rw [okCells_iff] at h
  unfold rdCells
  congr 1
  apply List.map_congr_left
  intro j hj
  obtain ⟨v, hv⟩ := h j (by simpa using hj)
  rw [hv, Lib.cell?_alloc_some _ hv]

theorem cells_new (w : World) (cs : Array Value) (t : Nat) (j : Nat) : (w.alloc (.cells cs t)).cell? ⟨w.heap.size, j, none⟩ = cs[j]? := World.cell?_alloc_mark w cs t (0, 0) j
theorem ok_new (w : World) (cs : Array Value) (t off n : Nat) (h : off + n ≤ cs.size) : okCells (w.alloc (.cells cs t)) ⟨w.heap.size, off, none⟩ n = true := by
  rw [okCells_iff]
  intro j hj
  rw [Addr.add_lit, cells_new]
  exact ⟨cs[off + j]'(by omega), Array.getElem?_eq_getElem (by omega)⟩
theorem rd_new (w : World) (cs : Array Value) (t off n : Nat) (h : off + n ≤ cs.size) : rdCells (w.alloc (.cells cs t)) ⟨w.heap.size, off, none⟩ n = cs.extract off (off + n) := by
  unfold rdCells
  apply Array.ext
  · simp; omega
  · intro i h1 h2
    have hi : i < n := by simpa using h1
    have hlt : off + i < cs.size := by omega
    simp only [List.getElem_toArray, List.getElem_map, List.getElem_range, Array.getElem_extract]
    rw [Addr.add_lit, cells_new, Array.getElem?_eq_getElem hlt]
    rfl

theorem Later.ok {w : World} {a : Addr} {n : Nat} (h : okCells w a n = true) (z : Later w) : okCells z.1 a n = true := by
  rw [okCells_iff] at h ⊢
  intro j hj
  obtain ⟨v, hv⟩ := h j hj
  exact ⟨v, z.cell hv⟩
theorem Later.rd {w : World} {a : Addr} {n : Nat} (h : okCells w a n = true) (z : Later w) : rdCells z.1 a n = rdCells w a n := by
  rw [okCells_iff] at h
  unfold rdCells
  congr 1
  apply List.map_congr_left
  intro j hj
  obtain ⟨v, hv⟩ := h j (by simpa using hj)
  rw [hv, z.cell hv]

/-- A block of n cells, none of them frozen; what a store of a whole aggregate into it makes. -/
def rowOk (w : World) (g n : Nat) : Bool := match w.heap[g]? with
  | some (.cells c _ fr) => c.size == n && fr == (0, 0)
  | _ => false
theorem rowOk_iff {w : World} {g n : Nat} (h : rowOk w g n = true) : ∃ c t, w.heap[g]? = some (.cells c t (0, 0)) ∧ c.size = n := by
  unfold rowOk at h
  split at h
  · rename_i c t fr hg
    simp only [Bool.and_eq_true, beq_iff_eq] at h
    obtain ⟨h1, rfl⟩ := h
    exact ⟨c, t, hg, h1⟩
  · simp at h

theorem run_storeAt_row {P : Program} (t n : Nat) (hi : (P.info? t).map (·.size) = some n) (w : World) (g : Nat) (cells : Array Value) (h : rowOk w g n = true) (hn : cells.size = n) (h1 : cells.all (·.oneCell') = true) :
    Sem.run P (Instr.storeAt t (.pointer (some ⟨g, 0, none⟩)) (.agg cells)) w = .ok () (w.setRow g cells) := by
  obtain ⟨c, t', hg, hc⟩ := rowOk_iff h
  simp [Instr.storeAt, Instr.sureAddr, run_storeVar_row w g t' t c cells hg (by rw [hn]; exact hi) (by omega) h1]

@[simp] theorem rowOk_drew (w : World) (g n : Nat) : rowOk w.drew g n = rowOk w g n := rfl
theorem rowOk_new (w : World) (c : Array Value) (t g n : Nat) (hg : g = w.heap.size) (hn : c.size = n) : rowOk (w.alloc (.cells c t)) g n = true := by
  subst hg
  unfold rowOk
  rw [heap_alloc_new]
  simp [hn]
theorem rowOk_alloc {w : World} {g n : Nat} (o : Obj) (h : rowOk w g n = true) : rowOk (w.alloc o) g n = true := by
  obtain ⟨c, t, hg, hc⟩ := rowOk_iff h
  have hlt : g < w.heap.size := (Array.getElem?_eq_some_iff.1 hg).1
  unfold rowOk
  rw [heap_alloc_old (w := w) (o := o) (h := hlt), hg]
  simp [hc]
@[simp] theorem setRow_drew (w : World) (g : Nat) (cs : Array Value) : w.drew.setRow g cs = (w.setRow g cs).drew := rfl
theorem setRow_new (w : World) (c cs : Array Value) (t g : Nat) (hg : g = w.heap.size) : (w.alloc (.cells c t)).setRow g cs = w.alloc (.cells cs t) := by
  subst hg
  unfold World.setRow World.alloc
  congr 1
  apply Array.ext_getElem?
  intro k
  simp only [Array.getElem?_modify, Array.getElem?_push]
  by_cases hk : k = w.heap.size
  · subst hk; simp
  · have hk' : ¬ w.heap.size = k := fun h => hk h.symm
    simp [hk, hk']
theorem setRow_past (w : World) (o : Obj) (cs : Array Value) (g : Nat) (hg : g < w.heap.size) : (w.alloc o).setRow g cs = (w.setRow g cs).alloc o := by
  unfold World.setRow World.alloc
  congr 1
  apply Array.ext_getElem?
  intro k
  simp only [Array.getElem?_modify, Array.getElem?_push, Array.size_modify]
  by_cases hk : k = w.heap.size
  · subst hk; simp [Nat.ne_of_lt hg]
  · simp [hk]

/-! ## '==' on identities -/

theorem map_u8_inj {a b : List UInt8} (h : a.map (fun c => Value.int .u8 c.toNat) = b.map (fun c => Value.int .u8 c.toNat)) : a = b := by
  induction a generalizing b with
  | nil => cases b with
    | nil => rfl
    | cons y b => simp at h
  | cons x a ih => cases b with
    | nil => simp at h
    | cons y b =>
      simp only [List.map_cons, List.cons.injEq, Value.int.injEq, true_and] at h
      have : x.toNat = y.toNat := by exact_mod_cast h.1
      rw [UInt8.toNat_inj.1 this, ih h.2]
theorem encId_inj {x y : Id32} (h : encId x = encId y) : x = y := Subtype.ext (map_u8_inj h)


theorem part_u8 (xs : List UInt8) (i : Nat) (h : i < xs.length) (w : World) : Sem.run Tryz.prog (part 5 (xs.map fun b => Value.int .u8 b.toNat).toArray i) w = .ok (.int .u8 (xs[i]'h).toNat) w := by
  simp [part, Tryz.isAgg5, h]

/-- The loop of '==' over two arrays of bytes, over whatever list of places: whether all agree. -/
theorem eqLoop (xs ys : List UInt8) (e : Nat) (hin : ∀ (a b : Int) (w : World), (Op.equalIn e 5 (.int .u8 a) (.int .u8 b)).run Tryz.prog w = .ok (a == b) w) :
    ∀ (l : List Nat) (w : World), (∀ i ∈ l, i < xs.length ∧ i < ys.length) →
    Sem.run Tryz.prog (forIn l ((none, ()) : Option Bool × Unit) fun i __s => do
      let a ← part 5 (xs.map fun b => Value.int .u8 b.toNat).toArray (i * 1)
      let b ← part 5 (ys.map fun b => Value.int .u8 b.toNat).toArray (i * 1)
      let r ← Op.equalIn e 5 a b
      if (!r) = true then pure (ForInStep.done (some false, ())) else pure (ForInStep.yield (none, ()))) w
    = .ok (if l.all (fun i => xs[i]! == ys[i]!) then (none, ()) else (some false, ())) w
  | [], w, _ => by simp
  | i :: l, w, h => by
    obtain ⟨h1, h2⟩ := h i (by simp)
    rw [List.forIn_cons]
    simp only [Sem.run_bind, Nat.mul_one, part_u8 xs i h1, part_u8 ys i h2, Result.andThen_ok, hin]
    have e1 : xs[i]! = xs[i] := by simp [h1]
    have e2 : ys[i]! = ys[i] := by simp [h2]
    by_cases hq : xs[i] = ys[i]
    · have ih := eqLoop xs ys e hin l w (fun j hj => h j (by simp [hj]))
      simp only [hq, beq_self_eq_true, Bool.not_true, Bool.false_eq_true, if_false, Sem.run_pure, Result.andThen_ok]
      simp only [Nat.mul_one] at ih
      rw [ih, List.all_cons, e1, e2, hq]
      simp
    · have hz : ((xs[i].toNat : Int) == (ys[i].toNat : Int)) = false := by
        rw [beq_eq_false_iff_ne]
        intro hh
        exact hq (UInt8.toNat_inj.1 (by exact_mod_cast hh))
      simp only [hz, Bool.not_false, if_true, Sem.run_pure, Result.andThen_ok]
      rw [List.all_cons, e1, e2]
      simp [hq]

theorem all_range_eq (xs ys : List UInt8) (hx : xs.length = 32) (hy : ys.length = 32) : ((List.range' 0 32 1).all (fun i => xs[i]! == ys[i]!)) = decide (xs = ys) := by
  rw [Bool.eq_iff_iff]
  simp only [List.all_eq_true, List.mem_range'_1, beq_iff_eq, decide_eq_true_eq]
  constructor
  · intro h
    apply List.ext_getElem (by omega)
    intro i h1 h2
    have := h i (by omega)
    simpa [h1, h2] using this
  · rintro rfl i _; rfl

theorem eqArr (xs ys : List UInt8) (hx : xs.length = 32) (hy : ys.length = 32) (e : Nat) (hin : ∀ (a b : Int) (w : World), (Op.equalIn e 5 (.int .u8 a) (.int .u8 b)).run Tryz.prog w = .ok (a == b) w) (w : World) :
    (Op.equalIn (e + 1) 23 (.agg (xs.map fun b => Value.int .u8 b.toNat).toArray) (.agg (ys.map fun b => Value.int .u8 b.toNat).toArray)).run Tryz.prog w = .ok (decide (xs = ys)) w := by
  have hu : Tryz.prog.underlying 23 = some (.array 32 5) := by kernel_rfl
  have := eqLoop xs ys e hin (List.range' 0 32 1) w (fun i hi => by simp only [List.mem_range'_1] at hi; omega)
  rw [all_range_eq xs ys hx hy] at this
  simp only [Op.equalIn, Sem.run_bind, run_underlying hu, Result.andThen_ok, Tryz.sizeOf5, Std.Legacy.Range.forIn_eq_forIn_range', Std.Legacy.Range.size]
  simp only [Nat.sub_zero, Nat.add_one_sub_one, Nat.div_one, Nat.reduceAdd]
  rw [this]
  by_cases h : xs = ys <;> simp [h]

theorem eqIn_id (x y : Id32) (w : World) : (Op.equalIn 10000 23 (.agg (encId x).toArray) (.agg (encId y).toArray)).run Tryz.prog w = .ok (decide (x = y)) w := by
  have hin : ∀ (a b : Int) (w : World), (Op.equalIn 9999 5 (.int .u8 a) (.int .u8 b)).run Tryz.prog w = .ok (a == b) w := fun a b w => run_equalIn_int w 9998 5 .u8 .u8 a b Tryz.underlying5
  have h := eqArr x.1 y.1 x.2 y.2 9999 hin w
  have hd : decide (x.1 = y.1) = decide (x = y) := decide_eq_decide.2 ⟨fun h => Subtype.ext h, fun h => congrArg _ h⟩
  rw [hd] at h
  exact h
/-- '==' and '!=' on identities. -/
theorem run_eql_id (x y : Id32) (w : World) : (binOp .eql 23 (.agg (encId x).toArray) (.agg (encId y).toArray)).run Tryz.prog w = .ok (.bool (decide (x = y))) w := by
  rw [run_eql_struct, eqIn_id]; rfl
theorem run_neq_id (x y : Id32) (w : World) : (binOp .neq 23 (.agg (encId x).toArray) (.agg (encId y).toArray)).run Tryz.prog w = .ok (.bool (!decide (x = y))) w := by
  rw [run_neq_struct, eqIn_id]; rfl
theorem guard_id : Tryz.prog.eqGuardType Tryz.prog.depth 23 = false := by kernel_rfl
theorem eqId : EqlAt Tryz.prog 23 (fun x : Id32 => .agg (encId x).toArray) (fun x y => decide (x = y)) := ⟨run_eql_id, GuardAt.agg _ guard_id⟩

/-! ## Loads and stores of aggregates, at the level of the whole operation -/

/-- What a load of an aggregate comes to, behind a name that the walk does not open. -/
def ldRes (P : Program) (t : Nat) (w : World) (v : Value) : Result Next := Sem.run P (do pure (Next.value (← Instr.loadAt t v))) w
def stRes (P : Program) (t : Nat) (w : World) (p v : Value) : Result Next := Sem.run P (do Instr.storeAt t p v; pure Next.skip) w
theorem exec_load (P : Program) (t : Nat) (ρ : Operand → Value) (d : Option Tmp) (x : Operand) (ty : TypeId) (pos : String) (af : Array Edge) (g : Option (Nat × Bool)) (w : World) :
    Sem.run P (execOp ρ ⟨d, .load t x, ty, pos, af, g⟩) w = ldRes P t w (ρ x) := rfl
theorem exec_store (P : Program) (t : Nat) (ρ : Operand → Value) (d : Option Tmp) (x y : Operand) (ty : TypeId) (pos : String) (af : Array Edge) (g : Option (Nat × Bool)) (w : World) :
    Sem.run P (execOp ρ ⟨d, .store t x y, ty, pos, af, g⟩) w = stRes P t w (ρ x) (ρ y) := rfl
theorem ldRes_agg {P : Program} {t n : Nat} (hA : ∀ w, Sem.run P (isAgg t) w = .ok true w) (hs : ∀ w, Sem.run P (Go.sizeOf t) w = .ok n w) (w : World) (a : Addr) (h : okCells w a n = true) :
    ldRes P t w (.pointer (some a)) = .ok (.value (.agg (rdCells w a n))) w := by
  unfold ldRes
  rw [Sem.run_bind, run_loadAt_rd t n hA hs w a h]
  rfl
/-- An aggregate of n cells. -/
def fitsRow (n : Nat) (cells : Array Value) : Bool := cells.size == n && cells.all (·.oneCell')
theorem fitsRow_mk {n : Nat} {cells : Array Value} (hn : cells.size = n) (h1 : cells.all (·.oneCell') = true) : fitsRow n cells = true := by
  unfold fitsRow; rw [h1, hn]; simp
theorem stRes_agg {P : Program} {t n : Nat} (hi : (P.info? t).map (·.size) = some n) (w : World) (g : Nat) (cells : Array Value) (h : rowOk w g n = true) (h2 : fitsRow n cells = true) :
    stRes P t w (.pointer (some ⟨g, 0, none⟩)) (.agg cells) = .ok .skip (w.setRow g cells) := by
  unfold stRes
  unfold fitsRow at h2
  rw [Bool.and_eq_true, beq_iff_eq] at h2
  rw [Sem.run_bind, run_storeAt_row t n hi w g cells h h2.1 h2.2]
  rfl

theorem ex_load_id (ρ : Operand → Value) (d : Option Tmp) (x : Operand) (ty : TypeId) (pos : String) (af : Array Edge) (g : Option (Nat × Bool)) (w : World) :
    Sem.run Tryz.prog (execOp ρ ⟨d, .load 23 x, ty, pos, af, g⟩) w = ldRes Tryz.prog 23 w (ρ x) := rfl
theorem ex_store_id (ρ : Operand → Value) (d : Option Tmp) (x y : Operand) (ty : TypeId) (pos : String) (af : Array Edge) (g : Option (Nat × Bool)) (w : World) :
    Sem.run Tryz.prog (execOp ρ ⟨d, .store 23 x y, ty, pos, af, g⟩) w = stRes Tryz.prog 23 w (ρ x) (ρ y) := rfl
theorem ld_id (w : World) (a : Addr) (h : okCells w a 32 = true) : ldRes Tryz.prog 23 w (.pointer (some a)) = .ok (.value (.agg (rdCells w a 32))) w :=
  ldRes_agg Tryz.isAgg23 Tryz.sizeOf23 w a h
theorem st_id (w : World) (g : Nat) (cells : Array Value) (h : rowOk w g 32 = true) (h2 : fitsRow 32 cells = true) :
    stRes Tryz.prog 23 w (.pointer (some ⟨g, 0, none⟩)) (.agg cells) = .ok .skip (w.setRow g cells) := stRes_agg (by kernel_rfl) w g cells h h2
theorem encId_size (x : Id32) : (encId x).toArray.size = 32 := by simp [encId_length]
theorem encId_all (x : Id32) : (encId x).toArray.all (·.oneCell') = true := by
  rw [Array.all_eq_true_iff_forall_mem]
  intro v hv
  exact encId_oneCell x v (by simpa using hv)

theorem fits_id (x : Id32) : fitsRow 32 (encId x).toArray = true := fitsRow_mk (encId_size x) (encId_all x)
/-- Reading back a whole block that holds an identity. -/
theorem rd_new_id (w : World) (x : Id32) (t : Nat) : rdCells (w.alloc (.cells (encId x).toArray t)) ⟨w.heap.size, 0, none⟩ 32 = (encId x).toArray := by
  rw [rd_new w _ t 0 32 (by rw [encId_size]; omega)]
  apply Array.ext'
  simp [List.take_of_length_le (Nat.le_of_eq (encId_length x))]
theorem ok_new_id (w : World) (x : Id32) (t : Nat) : okCells (w.alloc (.cells (encId x).toArray t)) ⟨w.heap.size, 0, none⟩ 32 = true := ok_new w _ t 0 32 (by rw [encId_size]; omega)

def zeroId : Id32 := ⟨List.replicate 32 0, by simp⟩
theorem ex_alloc_id (ρ : Operand → Value) (d : Option Tmp) (ty : TypeId) (pos : String) (af : Array Edge) (g : Option (Nat × Bool)) (w : World) :
    Sem.run Tryz.prog (execOp ρ ⟨d, .alloc 23, ty, pos, af, g⟩) w = .ok (.value (.pointer (some ⟨w.heap.size, 0, none⟩))) (w.alloc (.cells (encId zeroId).toArray 23)) := by kernel_rfl
theorem ex_build_id (ρ : Operand → Value) (d : Option Tmp) (ty : TypeId) (pos : String) (af : Array Edge) (g : Option (Nat × Bool)) (w : World) :
    Sem.run Tryz.prog (execOp ρ ⟨d, .build 23 #[], ty, pos, af, g⟩) w = .ok (.value (.agg (encId zeroId).toArray)) w := by kernel_rfl

/-! ## The same through any number of new blocks, without conditions -/

theorem rowOk_cells (w : World) (c : Array Value) (t g n : Nat) : rowOk (w.alloc (.cells c t)) g n = if g = w.heap.size then c.size == n else rowOk w g n := by
  by_cases h : g = w.heap.size
  · rw [if_pos h]; subst h; unfold rowOk; rw [heap_alloc_new]; simp
  · rw [if_neg h]
    have e : (w.alloc (.cells c t)).heap[g]? = w.heap[g]? := by
      show (w.heap.push _)[g]? = _
      rw [Array.getElem?_push, if_neg h]
    unfold rowOk
    rw [e]
/-- Cells of a block that is written out. -/
def rdArr (c : Array Value) (off n : Nat) : Array Value := ((List.range n).map fun j => (c[off + j]?).getD undef).toArray
def okArr (c : Array Value) (off n : Nat) : Bool := (List.range n).all fun j => (c[off + j]?).isSome
theorem okCells_cells (w : World) (c : Array Value) (t b off n : Nat) : okCells (w.alloc (.cells c t)) ⟨b, off, none⟩ n = if b = w.heap.size then okArr c off n else okCells w ⟨b, off, none⟩ n := by
  split
  · rename_i h; subst h
    unfold okCells okArr
    simp only [Addr.add_lit, cells_new]
  · rename_i h
    unfold okCells
    have e : ∀ j, (w.alloc (.cells c t)).cell? ⟨b, off + j, none⟩ = w.cell? ⟨b, off + j, none⟩ := fun j => by
      unfold World.cell?
      have e1 : (w.alloc (.cells c t)).heap[b]? = w.heap[b]? := by
        show (w.heap.push _)[b]? = _
        rw [Array.getElem?_push, if_neg h]
      rw [e1]
    simp only [Addr.add_lit, e]
theorem rdCells_cells (w : World) (c : Array Value) (t b off n : Nat) : rdCells (w.alloc (.cells c t)) ⟨b, off, none⟩ n = if b = w.heap.size then rdArr c off n else rdCells w ⟨b, off, none⟩ n := by
  split
  · rename_i h; subst h
    unfold rdCells rdArr
    simp only [Addr.add_lit, cells_new]
  · rename_i h
    unfold rdCells
    have e : ∀ j, (w.alloc (.cells c t)).cell? ⟨b, off + j, none⟩ = w.cell? ⟨b, off + j, none⟩ := fun j => by
      unfold World.cell?
      have e1 : (w.alloc (.cells c t)).heap[b]? = w.heap[b]? := by
        show (w.heap.push _)[b]? = _
        rw [Array.getElem?_push, if_neg h]
      rw [e1]
    simp only [Addr.add_lit, e]
theorem okArr_le {c : Array Value} {off n : Nat} (h : off + n ≤ c.size) : okArr c off n = true := by
  unfold okArr
  rw [List.all_eq_true]
  intro j hj
  rw [Array.getElem?_eq_getElem (by have := List.mem_range.1 hj; omega)]; rfl
theorem rdArr_extract {c : Array Value} {off n : Nat} (h : off + n ≤ c.size) : rdArr c off n = c.extract off (off + n) := by
  unfold rdArr
  apply Array.ext
  · simp; omega
  · intro i h1 h2
    have hi : i < n := by simpa using h1
    simp only [List.getElem_toArray, List.getElem_map, List.getElem_range, Array.getElem_extract]
    rw [Array.getElem?_eq_getElem (by omega)]; rfl
theorem okArr_id (x : Id32) : okArr (encId x).toArray 0 32 = true := okArr_le (by rw [encId_size]; omega)
theorem rdArr_id (x : Id32) : rdArr (encId x).toArray 0 32 = (encId x).toArray := by
  rw [rdArr_extract (by rw [encId_size]; omega)]
  apply Array.ext'
  simp [List.take_of_length_le (Nat.le_of_eq (encId_length x))]

end Go.Proofs.YtdjaphcelpchaaaGreatDoor

/- A region that draws its order: some of its operations (E) read or call quietly, the others (R) act, in a forced order among themselves. Each E comes before the R that wait for it, or is apart from it. Then one walk, first E, then R, serves every order. -/
namespace Go.Proofs.YtdjaphcelpchaaaGreatDoor
open Go Go.RowKit

section
variable {P : Program} {ops : Array Oper} {C : World → Prop} {Q : Exit → Act → World → Prop}

/-- An acting operation, apart from a quiet one: it makes no difference whether the quiet one has come up already. -/
theorem wpOp_putQ {j : Nat} {oi oj : Oper} {v : Value} (hj : ops[j]? = some oj) (hap : oi.apart ops oj = true) (hsi : ∀ cs b, oi.op ≠ .select cs b) (hsj : ∀ cs b, oj.op ≠ .select cs b)
    {K : Act → World → Prop} {a : Act} {w : World} (hy : YieldsIn P ops C oi v a) (h : wpOp P ops (NoPanic Q) j K (a.put oi.dst v) w) :
    wpOp P ops (NoPanic Q) j (fun a' w' => YieldsIn P ops C oi v a' ∧ K (a'.put oi.dst v) w') a w := by
  obtain ⟨h1, h2, h3⟩ := Oper.apart_spec hap
  have keep : ∀ (a : Act), YieldsIn P ops C oi v a → ∀ u, YieldsIn P ops C oi v (a.put oj.dst u) := fun a hy u =>
    hy.of_same (execOp_put oi hsi a oj.dst u h3) (wanted_put oi a oj.dst u h3)
  have keepD : ∀ d, YieldsIn P ops C oi v { a with defers := d :: a.defers } := fun d => hy.of_same rfl rfl
  unfold wpOp at *
  simp only [hj] at *
  rw [wanted_put oj a oi.dst v h1] at h
  split
  · rename_i hw
    simp only [hw, if_true] at h
    rcases h with h | ⟨hasks, hlets⟩
    case inr => exact .inr ⟨by unfold Oper.asks at *; rw [execOp_put oj hsj a oi.dst v h1] at hasks; exact hasks, hlets⟩
    refine .inl ?_
    unfold Oper.wp at *
    rw [execOp_put oj hsj a oi.dst v h1] at h
    generalize (execOp a.eval oj).run P w = r at *
    cases r with
    | ok n w' =>
      cases n <;> simp only [Oper.upon] at h ⊢
      case value u => exact ⟨keep a hy u, by rw [← Act.put_comm a v u h2]; exact h⟩
      case skip => exact ⟨keep a hy _, by rw [← Act.put_comm a v undef h2]; exact h⟩
      case defer d =>
        refine ⟨keep _ (keepD d) _, ?_⟩
        rw [← Act.put_comm _ v undef h2, ← Act.put_defers]
        exact h
      case enter f args =>
        refine Calls.mono h fun e w'' he => ?_
        cases e with
        | returned u => exact ⟨keep a hy u, by rw [← Act.put_comm a v u h2]; exact he⟩
        | panicked c => exact he.elim
        | outgrown => exact he
      case row row args => exact Rows.mono h fun u w'' he => ⟨keep a hy u, by rw [← Act.put_comm a v u h2]; exact he⟩
    | halt x w' =>
      cases x <;> simp only [Oper.upon] at h ⊢
      case panic u => exact h.elim
  · rename_i hw
    simp only [hw] at h
    exact ⟨keep a hy _, by rw [← Act.put_comm a v undef h2]; exact h⟩

/-- Operations by their numbers. -/
def opsAt (ops : Array Oper) (E : List Nat) : List Oper := E.map fun i => ops.getD i default
theorem opsAt_get {i : Nat} {o : Oper} (h : ops[i]? = some o) : ops.getD i default = o := by simp [h]

theorem wpQuiet_mono {K K' : Act → Prop} (hk : ∀ a, K a → K' a) : ∀ (l : List Oper) (a : Act), wpQuiet P ops C K l a → wpQuiet P ops C K' l a
  | [], _, h => hk _ h
  | o :: l, a, h => by
    unfold wpQuiet at *
    split
    · rename_i hw
      rw [if_pos hw] at h
      exact Oper.quiet_mono (wpQuiet_mono hk l) h
    · rename_i hw
      rw [if_neg hw] at h
      exact wpQuiet_mono hk l _ h

theorem quiet_cons {i : Nat} {o : Oper} {K : Act → Prop} {l : List Oper} {a : Act} (hi : ops[i]? = some o) (h : wpQuiet P ops C K (o :: l) a) : ∃ v, YieldsIn P ops C o v a ∧ wpQuiet P ops C K l (a.put o.dst v) :=
  yieldsIn_of_qOp hi (by unfold qOp; simp only [hi]; exact h)
theorem cons_quiet {i : Nat} {o : Oper} {K : Act → Prop} {l : List Oper} {a : Act} {v : Value} (hi : ops[i]? = some o) (hy : YieldsIn P ops C o v a) (h : wpQuiet P ops C K l (a.put o.dst v)) : wpQuiet P ops C K (o :: l) a := by
  have := hy.qOp hi (K := wpQuiet P ops C K l) h
  unfold qOp at this
  simp only [hi] at this
  exact this

/-- A quiet operation past those that stand before it and are apart from it. -/
theorem quiet_front {e : Nat} {oe : Oper} (he : ops[e]? = some oe) (hsel : ∀ (j : Nat) (o : Oper) cs b, ops[j]? = some o → o.op ≠ .select cs b) {K : Act → Prop} :
    ∀ (E1 E2 : List Nat) (a : Act), (∀ x ∈ E1, ∃ ox, ops[x]? = some ox ∧ ox.apart ops oe = true) → wpQuiet P ops C K (opsAt ops (E1 ++ e :: E2)) a → qOp P ops C e (wpQuiet P ops C K (opsAt ops (E1 ++ E2))) a
  | [], E2, a, _, h => by
    have hd : opsAt ops (e :: E2) = oe :: opsAt ops E2 := by unfold opsAt; rw [List.map_cons, opsAt_get he]
    rw [List.nil_append, hd] at h
    rw [List.nil_append]
    unfold qOp
    simp only [he]
    exact h
  | x :: E1, E2, a, hx, h => by
    obtain ⟨ox, hox, hap⟩ := hx x (by simp)
    have hd : ∀ T, opsAt ops (x :: T) = ox :: opsAt ops T := fun T => by unfold opsAt; rw [List.map_cons, opsAt_get hox]
    rw [List.cons_append, hd] at h
    obtain ⟨v, hy, h2⟩ := quiet_cons hox h
    have ih := quiet_front he hsel E1 E2 _ (fun y hy => hx y (by simp [hy])) h2
    have := qOp_put he hap (fun cs b => hsel x ox cs b hox) (fun cs b => hsel e oe cs b he) hy ih
    refine qOp_mono (fun a' h3 => ?_) this
    rw [List.cons_append, hd]
    exact cons_quiet hox h3.1 h3.2

/-- An acting operation past quiet ones that are apart from it. -/
theorem act_front {r : Nat} {orr : Oper} (hr : ops[r]? = some orr) (hsel : ∀ (j : Nat) (o : Oper) cs b, ops[j]? = some o → o.op ≠ .select cs b) {K : Act → World → Prop} {w : World} :
    ∀ (E : List Nat) (a : Act), (∀ x ∈ E, ∃ ox, ops[x]? = some ox ∧ ox.apart ops orr = true) → wpQuiet P ops C (fun a' => wpOp P ops (NoPanic Q) r K a' w) (opsAt ops E) a →
      wpOp P ops (NoPanic Q) r (fun a' w' => wpQuiet P ops C (fun a'' => K a'' w') (opsAt ops E) a') a w
  | [], _, _, h => h
  | x :: E, a, hx, h => by
    obtain ⟨ox, hox, hap⟩ := hx x (by simp)
    have hd : opsAt ops (x :: E) = ox :: opsAt ops E := by unfold opsAt; rw [List.map_cons, opsAt_get hox]
    rw [hd] at h
    obtain ⟨v, hy, h2⟩ := quiet_cons hox h
    have ih := act_front hr hsel E _ (fun y hy => hx y (by simp [hy])) h2
    refine wpOp_mono (fun a' w' h3 => ?_) (wpOp_putQ hr hap (fun cs b => hsel x ox cs b hox) (fun cs b => hsel r orr cs b hr) hy ih)
    rw [hd]
    exact cons_quiet hox h3.1 h3.2

/-- r waits, through others or not, for e. -/
def ancB (ops : Array Oper) : Nat → Nat → Nat → Bool
  | 0, _, _ => false
  | f + 1, r, e => match ops[r]? with
    | some o => o.after.any fun x => Region.binds .any x && (x.on == e || ancB ops f x.on e)
    | none => false

def Closed (ops : Array Oper) (L : Array Bool) : Prop := ∀ j oj, ops[j]? = some oj → L.getD j false = true → ∀ e ∈ oj.after, Region.binds .any e = true → L.getD e.on false = true

theorem anc_listed {L : Array Bool} (hc : Closed ops L) : ∀ (f r e : Nat), (∀ o, ops[r]? = some o → ∀ x ∈ o.after, Region.binds .any x = true → L.getD x.on false = true) → ancB ops f r e = true → L.getD e false = true
  | 0, _, _, _, h => by simp [ancB] at h
  | f + 1, r, e, hr, h => by
    unfold ancB at h
    split at h
    · rename_i o ho
      obtain ⟨x, hx, hb⟩ := Array.any_eq_true'.1 h
      simp only [Bool.and_eq_true, Bool.or_eq_true, beq_iff_eq] at hb
      have h1 := hr o ho x hx hb.1
      rcases hb.2 with rfl | h2
      · exact h1
      · exact anc_listed hc f x.on e (fun o' ho' => hc x.on o' ho' h1) h2
    · cases h

/-- Must the class hold behind r? Not if all of E lie before it. -/
def needB (ops : Array Oper) (E : List Nat) (r : Nat) : Bool := !(E.all fun e => ancB ops ops.size r e)

/-- The acting operations, one after the other. -/
def wpR (P : Program) (ops : Array Oper) (Q : Exit → Act → World → Prop) (C : World → Prop) (E : List Nat) : List Nat → Act → World → Prop
  | [], a, w => Q .normal a w
  | r :: rest, a, w => wpOp P ops (NoPanic Q) r (fun a' w' => (needB ops E r = true → C w') ∧ wpR P ops Q C E rest a' w') a w

/-- Operations of which it is known that they enter no function. -/
def isCall (o : Oper) : Bool := match o.op with
  | .move _ | .assign _ | .pick .. | .load .. | .fieldAddr .. | .field .. | .index .. | .indexAddr .. | .binOp .. | .unOp .. | .slice .. | .extract .. | .build .. | .lookup .. | .nilCheck _ => false
  | _ => true
theorem value_not_enter {s : Sem Value} {w w' : World} {f : FuncId} {args : Array Value} (h : Sem.run P (do pure (Next.value (← s))) w = .ok (.enter f args) w') : False := by
  rw [Sem.run_bind] at h
  generalize s.run P w = r at h
  cases r with
  | ok v w1 => simp [Result.andThen] at h
  | halt x w1 => simp [Result.andThen] at h
theorem no_enter_halt {w w' : World} {f : FuncId} {args : Array Value} (h : Sem.run P (runtimePanic (α := Next) .nilDeref) w = .ok (.enter f args) w') : False := by
  simp [runtimePanic, goPanic, Sem.run_bind, run_program] at h
theorem enter_is_call {o : Oper} {ρ : Operand → Value} {w w' : World} {f : FuncId} {args : Array Value} (hc : isCall o = false) (h : (execOp ρ o).run P w = .ok (.enter f args) w') : False := by
  obtain ⟨d, op, ty, pos, af, g⟩ := o
  cases op <;> simp only [isCall, Bool.true_eq_false] at hc
  case move x => simp [execOp] at h
  case assign x => simp [execOp] at h
  case pick c a b =>
    simp only [execOp, Sem.run_bind] at h
    generalize (asBool (ρ c)).run P w = r at h
    cases r with
    | ok v w1 => simp [Result.andThen] at h
    | halt x w1 => simp [Result.andThen] at h
  case nilCheck x =>
    simp only [execOp] at h
    split at h
    · exact no_enter_halt h
    · exact no_enter_halt h
    · exact no_enter_halt h
    · split at h
      · exact no_enter_halt h
      · rename_i t v
        simp only [Sem.run_bind, run_program, Result.andThen_ok] at h
        generalize (nilAhead _ _ _ _).run P w = r at h
        cases r with
        | ok b w1 =>
          simp only [Result.andThen_ok] at h
          by_cases hb : (b != some false) = true
          · rw [if_pos hb] at h
            simp [unsupported] at h
          · rw [if_neg hb] at h
            simp at h
        | halt x w1 => simp [Result.andThen] at h
      · simp at h
    · simp at h
  all_goals exact value_not_enter h
def pairB (f : Nat → Nat → Bool) : List Nat → Bool
  | [] => true
  | x :: l => l.all (f x) && pairB f l
theorem pairB_spec {f : Nat → Nat → Bool} : ∀ {l : List Nat}, pairB f l = true → l.Pairwise fun x y => f x y = true
  | [], _ => .nil
  | x :: l, h => by
    simp only [pairB, Bool.and_eq_true, List.all_eq_true] at h
    exact .cons h.1 (pairB_spec h.2)
def chainR (ops : Array Oper) : List Nat → Bool
  | r :: s :: l => Region.waitsFor .any ops s r && chainR ops (s :: l)
  | _ => true
def apartB (ops : Array Oper) (y e : Nat) : Bool := Region.waitsFor .any ops e y || (match ops[y]?, ops[e]? with | some oy, some oe => oy.apart ops oe | _, _ => false)
def predsB (ops : Array Oper) (l : List Nat) (e : Nat) : Bool := match ops[e]? with
  | some o => o.after.all fun x => !Region.binds .any x || (l.contains x.on && x.on != e)
  | none => false
/-- The closed checks. -/
def mixB (ops : Array Oper) (E R : List Nat) : Bool :=
  Region.noSelect ops && decide ((E ++ R).Nodup) && decide (E.length + R.length = ops.size) && ((List.range ops.size).all fun i => E.contains i || R.contains i)
  && E.all (predsB ops E) && pairB (fun y e => !Region.waitsFor .any ops y e && apartB ops y e) E
  && R.all (predsB ops (E ++ R)) && pairB (fun r s => !Region.waitsFor .any ops r s) R && chainR ops R
  && (R.all fun r => E.all fun y => apartB ops y r)
  && (E.all fun e => match ops[e]? with | some o => !isCall o || (match R with | r :: _ => ancB ops ops.size r e | [] => true) | none => false)

def unl (L : Array Bool) (i : Nat) : Bool := !L.getD i true
def Zf (P : Program) (ops : Array Oper) (Q : Exit → Act → World → Prop) (C : World → Prop) (E : List Nat) (ph : Bool) (w : World) (R : List Nat) (a : Act) : Prop :=
  if ph = true then wpR P ops Q C E R a w else ∀ w', C w' → wpR P ops Q C E R a w'

theorem waitsFor_of {r e : Nat} {o : Oper} (ho : ops[r]? = some o) {x : Edge} (hx : x ∈ o.after) (hb : Region.binds .any x = true) (hon : x.on = e) : Region.waitsFor .any ops r e = true := by
  unfold Region.waitsFor
  rw [ho]
  exact Array.any_eq_true'.2 ⟨x, hx, by simp [hb, hon]⟩
theorem not_waits_of_ready {L : Array Bool} {i x : Nat} (hi : i ∈ Region.ready .any ops L) (hx : L.getD x true = false) : Region.waitsFor .any ops i x = false := by
  cases h : Region.waitsFor .any ops i x with
  | false => rfl
  | true =>
    obtain ⟨o, ho, e, he, hb, hon⟩ := Region.waitsFor_spec h
    obtain ⟨_, o', ho', hall⟩ := mem_ready.1 hi
    have : o' = o := Option.some.inj (ho'.symm.trans ho)
    subst this
    have h1 := hall e he hb
    rw [hon, getD_both hx] at h1
    cases h1
theorem chain_pred : ∀ {r : Nat} {l : List Nat}, chainR ops (r :: l) = true → ∀ i ∈ l, ∃ p ∈ r :: l, Region.waitsFor .any ops i p = true
  | _, [], _, i, hi => by cases hi
  | r, s :: l, h, i, hi => by
    simp only [chainR, Bool.and_eq_true] at h
    rcases List.mem_cons.1 hi with rfl | hi
    · exact ⟨r, by simp, h.1⟩
    · obtain ⟨p, hp, hw⟩ := chain_pred h.2 i hi
      exact ⟨p, by simp at hp ⊢; rcases hp with hp | hp <;> simp [hp], hw⟩
theorem chain_suffix : ∀ (Rd R' : List Nat), chainR ops (Rd ++ R') = true → chainR ops R' = true
  | [], _, h => h
  | [r], [], _ => rfl
  | [r], s :: l, h => by simp only [List.cons_append, List.nil_append, chainR, Bool.and_eq_true] at h; exact h.2
  | r :: s :: Rd, R', h => by
    simp only [List.cons_append, chainR, Bool.and_eq_true] at h
    exact chain_suffix (s :: Rd) R' h.2
theorem filter_set {L : Array Bool} {e : Nat} {E E1 E2 : List Nat} (hsz : e < L.size) (hnd : E.Nodup) (h : E.filter (unl L) = E1 ++ e :: E2) : E.filter (unl (L.setIfInBounds e true)) = E1 ++ E2 := by
  have h1 : E.filter (unl (L.setIfInBounds e true)) = (E.filter (unl L)).filter (fun i => i != e) := by
    rw [List.filter_filter]
    apply List.filter_congr
    intro i _
    by_cases hie : i = e
    · subst hie; simp [unl, hsz]
    · have : (L.setIfInBounds e true).getD i true = L.getD i true := getD_set_ne true (Ne.symm hie)
      simp only [unl, this]
      simp [hie]
  have hnd' : (E1 ++ e :: E2).Nodup := h ▸ hnd.filter _
  rw [h1, h, List.filter_append, List.filter_cons]
  simp only [bne_self_eq_false, Bool.false_eq_true, if_false]
  rw [List.nodup_append] at hnd'
  obtain ⟨n1, n2, n3⟩ := hnd'
  rw [List.filter_eq_self.2, List.filter_eq_self.2]
  · intro x hx; simp only [bne_iff_ne]; rintro rfl; exact (List.nodup_cons.1 n2).1 hx
  · intro x hx; simp only [bne_iff_ne]; rintro rfl; exact n3 x hx x (by simp) rfl
theorem filter_set_not {L : Array Bool} {r : Nat} {E : List Nat} (hr : r ∉ E) : E.filter (unl (L.setIfInBounds r true)) = E.filter (unl L) := by
  apply List.filter_congr
  intro i hi
  have : (L.setIfInBounds r true).getD i true = L.getD i true := getD_set_ne true (by rintro rfl; exact hr hi)
  simp only [unl, this]
theorem quiet_const {X : Prop} {Y : Act → Prop} : ∀ (l : List Oper) (a : Act), wpQuiet P ops C (fun a => X ∧ Y a) l a → X
  | [], _, h => h.1
  | o :: l, a, h => by
    unfold wpQuiet at h
    split at h
    · obtain ⟨v, _, h2⟩ := h
      exact quiet_const l _ h2
    · exact quiet_const l _ h

theorem still_of_quiet {e : Nat} {o : Oper} {K : Act → Prop} {K' : Act → World → Prop} {a : Act} {w : World} (he : ops[e]? = some o) (hcall : isCall o = false) (hC : C w) (hk : ∀ a', K a' → K' a' w) (h : qOp P ops C e K a) :
    wpOp P ops (NoPanic Q) e K' a w := by
  unfold qOp at h
  unfold wpOp
  simp only [he] at h ⊢
  split
  · rename_i hw
    rw [if_pos hw] at h
    refine .inl ?_
    obtain ⟨v, hv, hn⟩ := h
    have h1 := hv w hC
    unfold Oper.quietAt at h1
    unfold Oper.wp
    generalize hr : (execOp a.eval o).run P w = r at *
    cases r with
    | ok n w' =>
      cases n <;> simp only [Oper.quietUpon] at h1 <;> simp only [Oper.upon]
      case value u => obtain ⟨rfl, rfl⟩ := h1; exact hk _ hn
      case skip => obtain ⟨rfl, rfl⟩ := h1; exact hk _ hn
      case enter f args =>
        exfalso
        exact enter_is_call hcall hr
    | halt x w' => exact h1.elim
  · rename_i hw
    rw [if_neg hw] at h
    exact hk _ h

theorem mix_main {E R : List Nat} (hB : mixB ops E R = true) : ∀ (n : Nat) (L : Array Bool) (Rd R' : List Nat) (a : Act) (w : World) (ph : Bool), R = Rd ++ R' → L.size = ops.size → Closed ops L → (∀ r ∈ Rd, L.getD r true = true) → (∀ r ∈ R', L.getD r true = false) →
    (E.filter (unl L)).length + R'.length = n → (E.filter (unl L) ≠ [] → C w) → (ph = false → C w ∧ Rd = []) → (ph = true → ∀ e ∈ E.filter (unl L), ∀ o, ops[e]? = some o → isCall o = false) →
    wpQuiet P ops C (Zf P ops Q C E ph w R') (opsAt ops (E.filter (unl L))) a → wpAny P .any ops (NoPanic Q) n L a w := by
  simp only [mixB, Bool.and_eq_true, decide_eq_true_eq, List.all_eq_true] at hB
  obtain ⟨⟨⟨⟨⟨⟨⟨⟨⟨⟨hns, hnd⟩, hlen⟩, hcov⟩, hpE⟩, hpair⟩, hpR⟩, hpairR⟩, hchain⟩, hapR⟩, hcalls⟩ := hB
  have hsel := Region.noSelect_spec hns
  have hpair' := pairB_spec hpair
  have hpairR' := pairB_spec hpairR
  have hndE : E.Nodup := (List.nodup_append.1 hnd).1
  have hdis : ∀ x, x ∈ E → x ∈ R → False := fun x h1 h2 => (List.nodup_append.1 hnd).2.2 x h1 x h2 rfl
  have hget : ∀ (l : List Nat) (e : Nat), predsB ops l e = true → ∃ o, ops[e]? = some o ∧ ∀ x ∈ o.after, Region.binds .any x = true → x.on ∈ l ∧ x.on ≠ e := by
    intro l e h
    unfold predsB at h
    split at h
    · rename_i o ho
      refine ⟨o, ho, fun x hx hb => ?_⟩
      have h1 := (Array.all_eq_true_iff_forall_mem.1 h) x hx
      simp only [hb, Bool.not_true, Bool.false_or, Bool.and_eq_true, List.contains_iff_mem, bne_iff_ne] at h1
      exact h1
    · cases h
  have hapart : ∀ y e, apartB ops y e = true → Region.waitsFor .any ops e y = false → ∃ oy oe, ops[y]? = some oy ∧ ops[e]? = some oe ∧ oy.apart ops oe = true := by
    intro y e h hw
    unfold apartB at h
    rw [hw, Bool.false_or] at h
    split at h
    · rename_i oy oe h1 h2
      exact ⟨oy, oe, h1, h2, h⟩
    · cases h
  intro n
  induction n with
  | zero =>
    intro L Rd R' a w ph hR hsz hcl hRd hR' hn _ hphC _ h
    have hE0 : E.filter (unl L) = [] := List.eq_nil_of_length_eq_zero (by omega)
    have hR0 : R' = [] := List.eq_nil_of_length_eq_zero (by omega)
    subst hR0
    rw [List.append_nil] at hR
    subst hR
    rw [hE0] at h
    refine ⟨?_, ?_⟩
    · rw [List.eq_nil_iff_forall_not_mem]
      intro i hi
      obtain ⟨h1, o, ho, _⟩ := mem_ready.1 hi
      have hlt := (Array.getElem?_eq_some_iff.1 ho).1
      have hc := hcov i (List.mem_range.2 hlt)
      simp only [Bool.or_eq_true, List.contains_iff_mem] at hc
      rcases hc with hc | hc
      · have : i ∈ E.filter (unl L) := List.mem_filter.2 ⟨hc, by simp only [unl, h1, Bool.not_false]⟩
        rw [hE0] at this; cases this
      · rw [hRd i hc] at h1; cases h1
    · have h' : Zf P ops Q C E ph w [] a := h
      unfold Zf at h'
      split at h'
      · exact h'
      · rename_i hf
        exact h' w (hphC (by simpa using hf)).1
  | succ n ih =>
    intro L Rd R' a w ph hR hsz hcl hRd hR' hn hCw hphC hphE h
    have hunE : ∀ x, x ∈ E.filter (unl L) ↔ x ∈ E ∧ L.getD x true = false := fun x => by
      rw [List.mem_filter]; simp only [unl, Bool.not_eq_true']
    -- something may come up
    have hsome : Region.ready .any ops L ≠ [] := by
      cases hE' : E.filter (unl L) with
      | cons e T =>
        have he := (hunE e).1 (by rw [hE']; simp)
        obtain ⟨o, ho, hpre⟩ := hget E e (hpE e he.1)
        have hpw := hpair'.filter (p := unl L)
        rw [hE'] at hpw
        have : e ∈ Region.ready .any ops L := mem_ready.2 ⟨he.2, o, ho, fun x hx hb => by
          obtain ⟨hxE, hxe⟩ := hpre x hx hb
          cases hlx : L.getD x.on false with
          | true => rfl
          | false =>
            exfalso
            have hin : x.on < L.size := by
              obtain ⟨ox, hox, _⟩ := hget E x.on (hpE _ hxE)
              rw [hsz]; exact (Array.getElem?_eq_some_iff.1 hox).1
            have hxm : x.on ∈ E.filter (unl L) := (hunE _).2 ⟨hxE, getD_in hin hlx⟩
            rw [hE'] at hxm
            rcases List.mem_cons.1 hxm with h1 | h1
            · exact hxe h1
            · have h2 := (List.pairwise_cons.1 hpw).1 _ h1
              simp only [Bool.and_eq_true, Bool.not_eq_true'] at h2
              rw [waitsFor_of ho hx hb rfl] at h2
              cases h2.1⟩
        intro h0; rw [h0] at this; cases this
      | nil =>
        cases R' with
        | nil => rw [hE'] at hn; simp at hn
        | cons r rest =>
          have hrR : r ∈ R := by rw [hR]; simp
          obtain ⟨o, ho, hpre⟩ := hget (E ++ R) r (hpR r hrR)
          have : r ∈ Region.ready .any ops L := mem_ready.2 ⟨hR' r (by simp), o, ho, fun x hx hb => by
            obtain ⟨hxE, hxe⟩ := hpre x hx hb
            cases hlx : L.getD x.on false with
            | true => rfl
            | false =>
              exfalso
              rcases List.mem_append.1 hxE with h1 | h1
              · have hin : x.on < L.size := by
                  obtain ⟨ox, hox, _⟩ := hget E x.on (hpE _ h1)
                  rw [hsz]; exact (Array.getElem?_eq_some_iff.1 hox).1
                have : x.on ∈ E.filter (unl L) := (hunE _).2 ⟨h1, getD_in hin hlx⟩
                rw [hE'] at this; cases this
              · have hin : x.on < L.size := by
                  obtain ⟨ox, hox, _⟩ := hget (E ++ R) x.on (hpR _ h1)
                  rw [hsz]; exact (Array.getElem?_eq_some_iff.1 hox).1
                rw [hR] at h1
                rcases List.mem_append.1 h1 with h2 | h2
                · have := hRd _ h2
                  rw [getD_in hin hlx] at this; cases this
                · rcases List.mem_cons.1 h2 with h3 | h3
                  · exact hxe h3
                  · rw [hR] at hpairR'
                    have h4 := (List.pairwise_cons.1 (List.pairwise_append.1 hpairR').2.1).1 _ h3
                    simp only [Bool.not_eq_true'] at h4
                    rw [waitsFor_of ho hx hb rfl] at h4
                    cases h4⟩
          intro h0; rw [h0] at this; cases this
    refine ⟨fun h0 => absurd h0 hsome, fun i hi => ?_⟩
    obtain ⟨hiu, oi, hoi, hall⟩ := mem_ready.1 hi
    have hilt := (Array.getElem?_eq_some_iff.1 hoi).1
    have hcl' : Closed ops (L.setIfInBounds i true) := fun j oj hj hl e he hb => by
      by_cases hij : i = j
      · subst hij
        have : oj = oi := Option.some.inj (hj.symm.trans hoi)
        subst this
        exact getD_set_true (hall e he hb)
      · rw [getD_set_ne false hij] at hl
        exact getD_set_true (hcl j oj hj hl e he hb)
    have hc := hcov i (List.mem_range.2 hilt)
    simp only [Bool.or_eq_true, List.contains_iff_mem] at hc
    rcases hc with hc | hc
    · -- a quiet one
      have himem : i ∈ E.filter (unl L) := (hunE i).2 ⟨hc, hiu⟩
      obtain ⟨E1, E2, hsplit⟩ := List.append_of_mem himem
      have hiR : i ∉ R := fun h' => hdis i hc h'
      have hpw := hpair'.filter (p := unl L)
      rw [hsplit] at hpw h
      have hap : ∀ x ∈ E1, ∃ ox, ops[x]? = some ox ∧ ox.apart ops oi = true := by
        intro x hx
        have h2 := (List.pairwise_append.1 hpw).2.2 x hx i (by simp)
        simp only [Bool.and_eq_true, Bool.not_eq_true'] at h2
        have hxu : L.getD x true = false := ((hunE x).1 (by rw [hsplit]; simp [hx])).2
        obtain ⟨oy, oe, h3, h4, h5⟩ := hapart x i h2.2 (not_waits_of_ready hi hxu)
        have : oe = oi := Option.some.inj (h4.symm.trans hoi)
        subst this
        exact ⟨oy, h3, h5⟩
      have hq := quiet_front hoi hsel E1 E2 a hap h
      have hfs := filter_set (by rw [hsz]; exact hilt) hndE hsplit
      have next : ∀ (a' : Act) (w' : World), (ph = true → w' = w) → C w' → wpQuiet P ops C (Zf P ops Q C E ph w R') (opsAt ops (E1 ++ E2)) a' → wpAny P .any ops (NoPanic Q) n (L.setIfInBounds i true) a' w' := by
        intro a' w' hw' hC' h'
        refine ih (L.setIfInBounds i true) Rd R' a' w' ph hR (by simpa using hsz) hcl' (fun r hr => ?_) (fun r hr => ?_) ?_ (fun _ => hC') (fun hp => ⟨hC', (hphC hp).2⟩) (fun hp e he o ho => ?_) ?_
        · rw [getD_set_ne true (by rintro rfl; exact hiR (by rw [hR]; simp [hr]))]; exact hRd r hr
        · rw [getD_set_ne true (by rintro rfl; exact hiR (by rw [hR]; simp [hr]))]; exact hR' r hr
        · rw [hfs]; rw [hsplit] at hn; simp only [List.length_append, List.length_cons] at hn ⊢; omega
        · rw [hfs] at he
          exact hphE hp e (by rw [hsplit]; simp at he ⊢; rcases he with he | he <;> simp [he]) o ho
        · rw [hfs]
          refine wpQuiet_mono (fun a'' h'' => ?_) _ _ h'
          unfold Zf at *
          split
          · rename_i hp
            rw [if_pos hp] at h''
            rw [hw' hp]; exact h''
          · rename_i hp
            rw [if_neg hp] at h''
            exact h''
      have hCw' : C w := hCw (by rw [hsplit]; simp)
      cases ph with
      | false => exact wpOp_of_qOp hCw' (fun a' w' hC' h' => next a' w' (by simp) hC' h') hq
      | true =>
        exact still_of_quiet hoi (hphE rfl i himem oi hoi) hCw' (fun a' h' => next a' w (fun _ => rfl) hCw' h') hq
    · -- the next acting one
      have hiE : i ∉ E := fun h' => hdis i h' hc
      have hiR' : i ∈ R' := by
        rw [hR] at hc
        rcases List.mem_append.1 hc with h1 | h1
        · rw [hRd i h1] at hiu; cases hiu
        · exact h1
      cases R' with
      | nil => cases hiR'
      | cons r rest =>
        have hir : i = r := by
          rcases List.mem_cons.1 hiR' with h1 | h1
          · exact h1
          · exfalso
            have hch := chain_suffix Rd (r :: rest) (by rw [← hR]; exact hchain)
            obtain ⟨p, hp, hw⟩ := chain_pred hch i h1
            rw [not_waits_of_ready hi (hR' p hp)] at hw
            cases hw
        subst hir
        have hap : ∀ x ∈ E.filter (unl L), ∃ ox, ops[x]? = some ox ∧ ox.apart ops oi = true := by
          intro x hx
          have hx' := (hunE x).1 hx
          have h2 := hapR i hc x hx'.1
          obtain ⟨oy, oe, h3, h4, h5⟩ := hapart x i h2 (not_waits_of_ready hi hx'.2)
          have : oe = oi := Option.some.inj (h4.symm.trans hoi)
          subst this
          exact ⟨oy, h3, h5⟩
        have h1 : wpQuiet P ops C (fun a' => wpOp P ops (NoPanic Q) i (fun a' w' => (needB ops E i = true → C w') ∧ wpR P ops Q C E rest a' w') a' w) (opsAt ops (E.filter (unl L))) a := by
          refine wpQuiet_mono (fun a'' h'' => ?_) _ _ h
          unfold Zf at h''
          split at h''
          · exact h''
          · rename_i hp
            exact h'' w (hphC (by simpa using hp)).1
        have h2 := act_front hoi hsel (E.filter (unl L)) a hap h1
        have hfs := filter_set_not (L := L) hiE
        have hneed : E.filter (unl L) ≠ [] → needB ops E i = true := by
          intro hne
          cases hq : needB ops E i with
          | true => rfl
          | false =>
            exfalso
            unfold needB at hq
            simp only [Bool.not_eq_false', List.all_eq_true] at hq
            obtain ⟨e, he⟩ := List.exists_mem_of_ne_nil _ hne
            have he' := (hunE e).1 he
            have h4 := anc_listed hcl ops.size i e (fun o ho => by
              have : o = oi := Option.some.inj (ho.symm.trans hoi)
              subst this; exact hall) (hq e he'.1)
            rw [getD_both he'.2] at h4
            cases h4
        refine wpOp_mono (fun a' w' h3 => ?_) h2
        refine ih (L.setIfInBounds i true) (Rd ++ [i]) rest a' w' true (by rw [hR]; simp) (by simpa using hsz) hcl' (fun r hr => ?_) (fun r hr => ?_) ?_ (fun hne => ?_) (by simp) (fun _ e he o ho => ?_) ?_
        · by_cases hri : i = r
          · subst hri; rw [hsz.symm] at hilt; simp [hilt]
          · rw [getD_set_ne true hri]
            rcases List.mem_append.1 hr with h4 | h4
            · exact hRd r h4
            · simp at h4; exact absurd h4.symm hri
        · have hri : i ≠ r := by
            rintro rfl
            have : (Rd ++ i :: rest).Nodup := hR ▸ (List.nodup_append.1 hnd).2.1
            exact (List.nodup_cons.1 (List.nodup_append.1 this).2.1).1 hr
          rw [getD_set_ne true hri]; exact hR' r (by simp [hr])
        · rw [hfs]; simp only [List.length_cons] at hn; omega
        · rw [hfs] at hne
          exact (quiet_const _ _ h3) (hneed hne)
        · rw [hfs] at he
          cases ph with
          | true => exact hphE rfl e he o ho
          | false =>
            have he' := (hunE e).1 he
            have h4 := hcalls e he'.1
            rw [ho] at h4
            simp only [Bool.or_eq_true, Bool.not_eq_true'] at h4
            rcases h4 with h4 | h4
            · exact h4
            · exfalso
              have hRd0 := (hphC rfl).2
              subst hRd0
              rw [List.nil_append] at hR
              rw [hR] at h4
              have h5 := anc_listed hcl ops.size i e (fun o ho => by
                have : o = oi := Option.some.inj (ho.symm.trans hoi)
                subst this; exact hall) h4
              rw [getD_both he'.2] at h5
              cases h5
        · rw [hfs]
          refine wpQuiet_mono (fun a'' h'' => ?_) _ _ h3
          unfold Zf
          rw [if_pos rfl]
          exact h''.2

/-- The walk over a region: first the quiet ones, then the acting ones. -/
theorem wp_region_mix {id : Nat} {a : Act} {w : World} (E R : List Nat) (C : World → Prop) (hm : P.follows .mixedOrders = true) (hB : mixB ops E R = true) (hC : C w.drew)
    (h : wpQuiet P ops C (fun a' => ∀ w', C w' → wpR P ops Q C E R a' w') (opsAt ops E) a) : (Code.region id ops true).wp P Q a w := by
  refine wp_region_noPanic (wp_region_any hm ?_)
  have hlen : E.length + R.length = ops.size := by
    simp only [mixB, Bool.and_eq_true, decide_eq_true_eq] at hB
    exact hB.1.1.1.1.1.1.1.1.2
  have hall : E.filter (unl (Array.replicate ops.size false)) = E := by
    rw [List.filter_eq_self]
    intro i hi
    have hcov : predsB ops E i = true := by
      simp only [mixB, Bool.and_eq_true, List.all_eq_true] at hB
      exact hB.1.1.1.1.1.1.2 i hi
    have : i < ops.size := by
      unfold predsB at hcov
      split at hcov
      · rename_i o ho; exact (Array.getElem?_eq_some_iff.1 ho).1
      · cases hcov
    simp [unl, this]
  have hRlt : ∀ r ∈ R, r < ops.size := by
    intro r hr
    have hcov : predsB ops (E ++ R) r = true := by
      simp only [mixB, Bool.and_eq_true, List.all_eq_true] at hB
      exact hB.1.1.1.1.2 r hr
    unfold predsB at hcov
    split at hcov
    · rename_i o ho; exact (Array.getElem?_eq_some_iff.1 ho).1
    · cases hcov
  refine mix_main hB ops.size (Array.replicate ops.size false) [] R a w.drew false rfl (by simp) (fun j oj _ hl => by rw [getD_replicate_false] at hl; cases hl) (fun r hr => by cases hr)
    (fun r hr => by simp [hRlt r hr]) (by rw [hall]; exact hlen) (fun _ => hC) (fun _ => ⟨hC, rfl⟩) (fun h => by cases h) ?_
  rw [hall]
  exact wpQuiet_mono (fun a' h' => by unfold Zf; rw [if_neg (by simp)]; exact h') _ _ h


/-- The same where no quiet operation is a call: the acting ones begin in the very world behind the draw. -/
theorem wp_region_mix0 {id : Nat} {a : Act} {w : World} (E R : List Nat) (C : World → Prop) (hm : P.follows .mixedOrders = true) (hB : mixB ops E R = true) (hE : (E.all fun e => match ops[e]? with | some o => !isCall o | none => false) = true) (hC : C w.drew)
    (h : wpQuiet P ops C (fun a' => wpR P ops Q C E R a' w.drew) (opsAt ops E) a) : (Code.region id ops true).wp P Q a w := by
  refine wp_region_noPanic (wp_region_any hm ?_)
  have hlen : E.length + R.length = ops.size := by
    simp only [mixB, Bool.and_eq_true, decide_eq_true_eq] at hB
    exact hB.1.1.1.1.1.1.1.1.2
  have hall : E.filter (unl (Array.replicate ops.size false)) = E := by
    rw [List.filter_eq_self]
    intro i hi
    have hcov : predsB ops E i = true := by
      simp only [mixB, Bool.and_eq_true, List.all_eq_true] at hB
      exact hB.1.1.1.1.1.1.2 i hi
    have : i < ops.size := by
      unfold predsB at hcov
      split at hcov
      · rename_i o ho; exact (Array.getElem?_eq_some_iff.1 ho).1
      · cases hcov
    simp [unl, this]
  have hRlt : ∀ r ∈ R, r < ops.size := by
    intro r hr
    have hcov : predsB ops (E ++ R) r = true := by
      simp only [mixB, Bool.and_eq_true, List.all_eq_true] at hB
      exact hB.1.1.1.1.2 r hr
    unfold predsB at hcov
    split at hcov
    · rename_i o ho; exact (Array.getElem?_eq_some_iff.1 ho).1
    · cases hcov
  refine mix_main hB ops.size (Array.replicate ops.size false) [] R a w.drew true rfl (by simp) (fun j oj _ hl => by rw [getD_replicate_false] at hl; cases hl) (fun r hr => by cases hr)
    (fun r hr => by simp [hRlt r hr]) (by rw [hall]; exact hlen) (fun _ => hC) (fun h => by cases h) (fun _ e he o ho => ?_) ?_
  · rw [hall] at he
    have h1 := List.all_eq_true.1 hE e he
    rw [ho] at h1
    simpa using h1
  · rw [hall]
    exact wpQuiet_mono (fun a' h' => by unfold Zf; rw [if_pos rfl]; exact h') _ _ h

/-- What stands behind one acting operation. -/
def Qn (P : Program) (ops : Array Oper) (Q : Exit → Act → World → Prop) (C : World → Prop) (E rest : List Nat) (b : Bool) : Exit → Act → World → Prop
  | .normal, a, w => (b = true → C w) ∧ wpR P ops Q C E rest a w
  | .panic _, _, _ => False
  | e, a, w => Q e a w
theorem Qn_normal {E rest : List Nat} {b : Bool} {a : Act} {w : World} : Qn P ops Q C E rest b .normal a w = ((b = true → C w) ∧ wpR P ops Q C E rest a w) := rfl
theorem NoPanic_normal {a : Act} {w : World} : NoPanic Q .normal a w = Q .normal a w := rfl

theorem wpR_nil {E : List Nat} {a : Act} {w : World} (h : Q .normal a w) : wpR P ops Q C E [] a w := h
theorem wpR_cons {E rest : List Nat} {r : Nat} {o : Oper} {a : Act} {w : World} (b : Bool) (hr : ops[r]? = some o) (hb : needB ops E r = b) (h : wpList P ops (Qn P ops Q C E rest b) [o] a w) : wpR P ops Q C E (r :: rest) a w := by
  unfold wpR wpOp
  simp only [hr]
  unfold wpList at h
  have hl : LetsOut (Qn P ops Q C E rest b) → LetsOut (NoPanic Q) := fun ⟨a, w, h⟩ => ⟨a, w, h⟩
  have hk : ∀ a' w', wpList P ops (Qn P ops Q C E rest b) [] a' w' → (needB ops E r = true → C w') ∧ wpR P ops Q C E rest a' w' := fun a' w' h' => by
    rw [hb]; exact h'
  split
  · rename_i hw
    rw [if_pos hw] at h
    rcases h with h | ⟨h1, h2⟩
    · refine .inl ?_
      unfold Oper.wp at *
      generalize (execOp a.eval o).run P w = r at *
      cases r with
      | ok n w' =>
        cases n <;> simp only [Oper.upon] at h ⊢
        case value u => exact hk _ _ h
        case skip => exact hk _ _ h
        case defer d => exact hk _ _ h
        case enter f args =>
          refine Calls.mono h fun e w'' he => ?_
          cases e with
          | returned u => exact hk _ _ he
          | panicked c => exact he
          | outgrown => exact hl he
        case row row args => exact Rows.mono h fun u w'' he => hk _ _ he
      | halt x w' => cases x <;> simp only [Oper.upon] at h ⊢ <;> exact h
    · exact .inr ⟨h1, hl h2⟩
  · rename_i hw
    rw [if_neg hw] at h
    exact hk _ _ h

/-- The last acting operations in one walk, where the class is not asked any more. -/
theorem wpR_list {E : List Nat} : ∀ (R : List Nat) (a : Act) (w : World), (R.all fun r => !needB ops E r && decide (r < ops.size)) = true → wpList P ops (NoPanic Q) (opsAt ops R) a w → wpR P ops Q C E R a w
  | [], _, _, _, h => h
  | r :: R, a, w, hn, h => by
    rw [List.all_cons, Bool.and_eq_true] at hn
    obtain ⟨hn1, hn2⟩ := hn
    rw [Bool.and_eq_true, Bool.not_eq_true', decide_eq_true_eq] at hn1
    have hr : ops[r]? = some (ops.getD r default) := by simp [hn1.2]
    unfold wpR wpOp
    simp only [hr]
    unfold opsAt at h
    rw [List.map_cons] at h
    unfold wpList at h
    have hk : ∀ a' w', wpList P ops (NoPanic Q) (opsAt ops R) a' w' → (needB ops E r = true → C w') ∧ wpR P ops Q C E R a' w' := fun a' w' h' =>
      ⟨(fun h1 => by rw [hn1.1] at h1; cases h1), wpR_list R a' w' hn2 h'⟩
    split
    · rename_i hw
      rw [if_pos hw] at h
      exact h.imp (fun h => Oper.wp_mono hk h) id
    · rename_i hw
      rw [if_neg hw] at h
      exact hk _ _ h

end
end Go.Proofs.YtdjaphcelpchaaaGreatDoor

/- Slices of identities in memory, and the functions that check references: bulletinref28.refs and overview.checkReferences return what refsErr tells. -/
namespace Go.Proofs.YtdjaphcelpchaaaGreatDoor
open Go Go.RowKit Go.Proofs

attribute [local go_sem ↓] ex_load_id ex_store_id
attribute [local go_sem 2000] run_eql_id
attribute [local go_sem] ld_id st_id guard_id okCells_drew rdCells_drew okCells_drewN rdCells_drewN ok_alloc rd_alloc

/-- The cells of a row of identities. -/
def IdRow (w : World) (b off : Nat) (ids : List Id32) : Prop := ∀ j, j < ids.length → ∀ i v, (encId ids[j]!)[i]? = some v → w.cell? ⟨b, off + j * 32 + i, none⟩ = some v
/-- A slice value that reads as a list of identities. -/
def IdsAt (w : World) (v : Value) (ids : List Id32) : Prop :=
  ∃ a c, v = .slice a ids.length c ∧ ids.length ≤ c ∧ (ids ≠ [] → ∃ b off, a = some ⟨b, off, none⟩ ∧ IdRow w b off ids)

theorem IdRow.rd {w : World} {b off : Nat} {ids : List Id32} (h : IdRow w b off ids) {j : Nat} (hj : j < ids.length) :
    okCells w ⟨b, off + j * 32, none⟩ 32 = true ∧ rdCells w ⟨b, off + j * 32, none⟩ 32 = (encId ids[j]!).toArray := by
  have := rd_of_cells (w := w) (a := ⟨b, off + j * 32, none⟩) (cs := encId ids[j]!) (fun i v hi => by rw [Addr.add_lit]; exact h j hj i v hi)
  rwa [encId_length] at this
theorem IdRow.lt {w : World} {b off : Nat} {ids : List Id32} (h : IdRow w b off ids) (hne : ids ≠ []) : b < w.heap.size := by
  have h0 : 0 < ids.length := List.length_pos_iff.2 hne
  have := h 0 h0 0 _ (encId_get _ 0 (by omega))
  exact block_lt_of_cell this
theorem IdRow.below {w w' : World} {b off : Nat} {ids : List Id32} (h : IdRow w b off ids) {B : Nat} (hb : Below B w w') (hB : b < B) : IdRow w' b off ids :=
  fun j hj i v hi => (hb.cell (p := ⟨b, _, none⟩) hB).trans (h j hj i v hi)
theorem IdsAt.below {w w' : World} {v : Value} {ids : List Id32} (h : IdsAt w v ids) (hb : Below w.heap.size w w') : IdsAt w' v ids := by
  obtain ⟨a, c, e, hc, hr⟩ := h
  exact ⟨a, c, e, hc, fun hne => let ⟨b, off, e2, hrow⟩ := hr hne; ⟨b, off, e2, hrow.below hb (hrow.lt hne)⟩⟩

/-- Is one of the first k identities equal to x? -/
def among (ids : List Id32) (k : Nat) (x : Id32) : Bool := (ids.take k).any fun y => decide (x = y)
def dupUpto (ids : List Id32) (k : Nat) : Bool := (List.range k).any fun i => among ids i ids[i]!
def refsErr (ids : List Id32) : Int := if 20 < ids.length then 9 else if dupUpto ids ids.length then 7 else 0

theorem among_succ (ids : List Id32) (k : Nat) (x : Id32) (h : k < ids.length) : among ids (k + 1) x = (among ids k x || decide (x = ids[k]!)) := by
  unfold among
  rw [List.take_succ_eq_append_getElem h, List.any_append]
  simp [h]
theorem dupUpto_succ (ids : List Id32) (k : Nat) : dupUpto ids (k + 1) = (dupUpto ids k || among ids k ids[k]!) := by
  unfold dupUpto
  rw [List.range_succ, List.any_append]
  simp
theorem dupUpto_mono {ids : List Id32} {k n : Nat} (h : k ≤ n) (hd : dupUpto ids k = true) : dupUpto ids n = true := by
  unfold dupUpto at *
  rw [List.any_eq_true] at *
  obtain ⟨i, hi, hx⟩ := hd
  exact ⟨i, by simp at hi ⊢; omega, hx⟩
theorem among_mono {ids : List Id32} {k n : Nat} {x : Id32} (h : k ≤ n) (hd : among ids k x = true) : among ids n x = true := by
  unfold among at *
  rw [List.any_eq_true] at *
  obtain ⟨i, hi, hx⟩ := hd
  exact ⟨i, (List.take_subset_take_left ids h) hi, hx⟩
theorem refsErr_long {ids : List Id32} (h : 20 < ids.length) : refsErr ids = 9 := if_pos h
theorem refsErr_dup {ids : List Id32} (h : ids.length ≤ 20) (hd : dupUpto ids ids.length = true) : refsErr ids = 7 := by
  unfold refsErr; rw [if_neg (by omega), if_pos hd]
theorem refsErr_ok {ids : List Id32} (h : ids.length ≤ 20) (hd : dupUpto ids ids.length = false) : refsErr ids = 0 := by
  unfold refsErr; rw [if_neg (by omega), if_neg (by simp [hd])]
theorem refsErr_at {ids : List Id32} {i k : Nat} (h : ids.length ≤ 20) (hi : i < ids.length) (hk : k < i) (e : ids[i]! = ids[k]!) : refsErr ids = 7 :=
  refsErr_dup h (dupUpto_mono (show i + 1 ≤ ids.length from hi) (by
    rw [dupUpto_succ, among_mono (show k + 1 ≤ i from hk) (by rw [among_succ ids k _ (by omega), e]; simp)]; simp))

set_option maxHeartbeats 1000000 in
theorem refs_any (v : Value) (ids : List Id32) (w : World) (h : IdsAt w v ids) (hm : ids.length ≤ maxLen) :
    Calls Tryz.prog 53 #[v] w fun r w' => r = .returned (.int .i64 (refsErr ids)) ∧ ∃ q, w' = w.drewN q := by
  unfold maxLen at hm
  obtain ⟨a, c, rfl, hc, hr⟩ := h
  by_cases hlong : 20 < ids.length
  · have hf := Lib.hid (refsErr_long hlong)
    have hlong' : (20 : Int) < (ids.length : Int) := by omega
    clear hr
    go_enter Tryz.func53, Tryz.ntmps53
    go_wp2
    go_ret
    exact ⟨ret_int hf.out.symm, 0, rfl⟩
  · have HR := Lib.hid hr
    clear hr
    have hshort : (ids.length : Int) ≤ 20 := by omega
    go_enter Tryz.func53, Tryz.ntmps53
    go_wp2
    go_loopw [3, 4] (fun i _ wr => ∃ k q : Nat, k ≤ ids.length ∧ i = .int .i64 k ∧ dupUpto ids k = false ∧ wr = w.drewN q) (fun i _ _ => ids.length - (intOf i).toNat)
    case atStart => exact ⟨0, 0, Nat.zero_le _, rfl, rfl, rfl⟩
    case round =>
      obtain ⟨k, q, hk, rfl, hd, rfl⟩ := hrel
      have HD := Lib.hid hd
      clear hd
      by_cases hlt : k < ids.length
      · obtain ⟨b, off, rfl, hrow⟩ := HR.out (by intro e; rw [e] at hlt; simp at hlt)
        have hltz : (k : Int) < (ids.length : Int) := by omega
        have HW := Lib.hid hrow
        have hr1 := hrow.rd hlt
        clear hrow
        generalize hx : ids[k]! = x at hr1
        have HX := Lib.hid hx
        clear hx
        go_wp2
        go_loopw [4] (fun j wr => ∃ m q2 : Nat, m ≤ k ∧ j = .int .i64 m ∧ among ids m x = false ∧ wr = w.drewN q2) (fun j _ => k - (intOf j).toNat)
        case atStart => exact ⟨0, q, Nat.zero_le _, rfl, rfl, rfl⟩
        case round =>
          obtain ⟨m, q2, hmk, rfl, ha, rfl⟩ := hrel
          have HA := Lib.hid ha
          clear ha
          by_cases hm2 : m < k
          · have hmz : (m : Int) < (k : Int) := by omega
            have hmz2 : (m : Int) < (ids.length : Int) := by omega
            have hr2 := HW.out.rd (show m < ids.length by omega)
            generalize hy : ids[m]! = y at hr2
            have HY := Lib.hid hy
            clear hy
            obtain ⟨o1, d1⟩ := hr1
            obtain ⟨o2, d2⟩ := hr2
            by_cases hxy : x = y
            · have hf := Lib.hid (refsErr_at (by omega) hlt hm2 (by rw [HX.out, HY.out, hxy]))
              have hxy' : decide (x = y) = true := by simp [hxy]
              have HXY := Lib.hid hxy
              clear hxy
              go_wp2
              go_quiet (fail)
              go_wp2
              go_ret
              exact ⟨ret_int hf.out.symm, q2 + nq, by first | rfl | rw [World.drewN_drewN]⟩
            · have hn := Lib.hid (show among ids (m + 1) x = false by rw [among_succ ids m x (by omega), HA.out, HY.out]; simp [hxy])
              have hxy' : decide (x = y) = false := by simp [hxy]
              clear hxy
              go_wp2
              go_quiet (fail)
              go_wp2
              go_roundw
              case rel => exact ⟨m + 1, q2 + nq, by omega, by go_num, hn.out, by first | rfl | rw [World.drewN_drewN]⟩
              case measure => simp [intOf]; omega
          · have hmk2 : m = k := by omega
            have hn := Lib.hid (show dupUpto ids (k + 1) = false by rw [dupUpto_succ, HD.out, HX.out, ← hmk2, HA.out]; rfl)
            clear hmk2
            go_wp2
            go_roundw
            case rel => exact ⟨k + 1, q2, by omega, by go_num, hn.out, rfl⟩
            case measure => simp [intOf]; omega
      · have hf := Lib.hid (refsErr_ok (show ids.length ≤ 20 by omega) (by rw [show ids.length = k by omega]; exact HD.out))
        go_wp2
        go_ret
        exact ⟨ret_int hf.out.symm, q, rfl⟩

theorem contains_id (b off n c : Nat) (ids : List Id32) (x : Id32) (w : World) (hz : n ≤ ids.length) (hm : n ≤ 9223372036854775807) (h : IdRow w b off ids) :
    Calls Tryz.prog 94 #[.slice (some ⟨b, off, none⟩) n c, .agg (encId x).toArray] w fun e w' => e = .returned (.bool (among ids n x)) ∧ Below w.heap.size w w' :=
  AnyQ.slices_Contains Tryz.containsId 32 Tryz.isAgg23 Tryz.sizeOf23 encId encId_length _ eqId b off n c ids x w hz hm h

attribute [local go_sem] rowOk_drew rowOk_new rowOk_alloc setRow_drew setRow_new setRow_past fits_id ok_new_id rd_new_id

set_option maxRecDepth 100000 in
set_option maxHeartbeats 1000000 in
theorem checkReferences_any (v : Value) (ids : List Id32) (w : World) (h : IdsAt w v ids) (hm : ids.length ≤ maxLen) :
    Calls Tryz.prog 58 #[v] w fun r w' => r = .returned (.int .i64 (refsErr ids)) ∧ Below w.heap.size w w' := by
  unfold maxLen at hm
  obtain ⟨a, c, rfl, hc, hr⟩ := h
  by_cases hlong : 20 < ids.length
  · have hf := Lib.hid (refsErr_long hlong)
    have hlong' : (20 : Int) < (ids.length : Int) := by omega
    clear hr
    go_enter Tryz.func58, Tryz.ntmps58
    go_wp2
    go_ret
    exact ⟨ret_int hf.out.symm, Below.refl _ _⟩
  · have HR := Lib.hid hr
    clear hr
    have hshort : (ids.length : Int) ≤ 20 := by omega
    go_enter Tryz.func58, Tryz.ntmps58
    go_wp2
    go_loopw [10] (fun i wr => ∃ k : Nat, k ≤ ids.length ∧ i = .int .i64 k ∧ dupUpto ids k = false ∧ Below w.heap.size w wr) (fun i _ => ids.length - (intOf i).toNat)
    case atStart => exact ⟨0, Nat.zero_le _, rfl, rfl, Below.refl _ _⟩
    case round =>
      obtain ⟨k, hk, rfl, hd, hb⟩ := hrel
      have HD := Lib.hid hd
      clear hd
      by_cases hlt : k < ids.length
      · obtain ⟨b, off, rfl, hrow⟩ := HR.out (by intro e; rw [e] at hlt; simp at hlt)
        have hltz : (k : Int) < (ids.length : Int) := by omega
        have hcz : (k : Int) ≤ (c : Int) := by omega
        have hne : ids ≠ [] := by intro e; rw [e] at hlt; simp at hlt
        have HW := Lib.hid (hrow.below hb (hrow.lt hne))
        clear hrow hne
        obtain ⟨o1, d1⟩ := HW.out.rd hlt
        generalize hx : ids[k]! = x at d1
        have HX := Lib.hid hx
        clear hx
        go_wp2
        have oz : ∀ z : Later (wr.alloc (.cells (encId x).toArray 23)), okCells z.1 ⟨wr.heap.size, 0, none⟩ 32 = true := fun z => z.ok (ok_new_id _ _ _)
        have dz : ∀ z : Later (wr.alloc (.cells (encId x).toArray 23)), rdCells z.1 ⟨wr.heap.size, 0, none⟩ 32 = (encId x).toArray := fun z => (z.rd (ok_new_id _ _ _)).trans (rd_new_id _ _ _)
        refine wp_region_ht 4 (fun w' => ∃ z : Later (wr.alloc (.cells (encId x).toArray 23)), w' = z.1) (by kernel_rfl) (by kernel_rfl) ⟨⟨_, (Below.refl _ _).drew⟩, rfl⟩ ?_
        simp only [List.take_succ_cons, List.take_zero, List.drop_succ_cons, List.drop_zero]
        repeat (go_big_quiet_step (fail))
        refine wpQuiet_nil ?_
        rintro _ ⟨z, rfl⟩
        have hz := z.2
        generalize z.1 = wz at hz ⊢
        clear oz dz o1 d1
        have hzr : Below wr.heap.size wr wz := ((Below.refl _ _).alloc (Nat.le_refl _) _).trans (hz.mono (by simp))
        have hbz : Below w.heap.size w wz := hb.trans (hzr.mono hb.size)
        have hrz : IdRow wz b off ids := HW.out.below hzr (HW.out.lt (by intro e; rw [e] at hlt; simp at hlt))
        have hmk : k ≤ 9223372036854775807 := by omega
        clear hz hzr
        cases hq : among ids k x with
        | true =>
          have hc94 := contains_id b off k c ids x wz hk hmk hrz
          rw [hq] at hc94
          have hf := Lib.hid (refsErr_dup (show ids.length ≤ 20 by omega) (dupUpto_mono (show k + 1 ≤ ids.length from hlt) (by rw [dupUpto_succ, HX.out, hq]; simp)))
          clear hq hrz
          have H94 := Lib.hid hc94
          clear hc94
          go_wp2_with fail
          refine H94.out.mono ?_
          rintro e w1 ⟨rfl, hb1⟩
          go_wp2
          go_ret
          exact ⟨ret_int hf.out.symm, hbz.trans (hb1.mono hbz.size)⟩
        | false =>
          have hc94 := contains_id b off k c ids x wz hk hmk hrz
          rw [hq] at hc94
          have hn := Lib.hid (show dupUpto ids (k + 1) = false by rw [dupUpto_succ, HX.out, hq, HD.out]; rfl)
          clear hq hrz
          have H94 := Lib.hid hc94
          clear hc94
          go_wp2_with fail
          refine H94.out.mono ?_
          rintro e w1 ⟨rfl, hb1⟩
          go_wp2
          go_roundw
          case rel => exact ⟨k + 1, by omega, by go_num, hn.out, hbz.trans (hb1.mono hbz.size)⟩
          case measure => simp [intOf]; omega
      · have hf := Lib.hid (refsErr_ok (show ids.length ≤ 20 by omega) (by rw [show ids.length = k by omega]; exact HD.out))
        go_wp2
        go_ret
        exact ⟨ret_int hf.out.symm, hb⟩

end Go.Proofs.YtdjaphcelpchaaaGreatDoor

/- Lines in memory: the cells of overview.Line and of bulletinref28.Line; (overview.Line).Check and bulletinref28.Check return what lineErr tells. -/
namespace Go.Proofs.YtdjaphcelpchaaaGreatDoor
open Go Go.RowKit Go.Proofs

/-- A line as Go holds it: its references are a slice value. -/
structure GLine where
  number : Int
  id : Id32
  name : ByteArray
  date : Int
  subject : ByteArray
  refs : Value
  bytes : Int

def lineList (g : GLine) : List Value := .int .i64 g.number :: (encId g.id ++ [.string g.name, .int .i64 g.date, .string g.subject, g.refs, .int .i64 g.bytes])
/-- The 38 cells of an overview.Line, and the 39 of a bulletinref28.Line. -/
def lineCells (g : GLine) : Array Value := (lineList g).toArray
def rlineCells (grp : ByteArray) (g : GLine) : Array Value := (.string grp :: lineList g).toArray

theorem lineList_length (g : GLine) : (lineList g).length = 38 := by simp [lineList, encId_length]
theorem lineCells_size (g : GLine) : (lineCells g).size = 38 := by simp [lineCells, lineList_length]
theorem rlineCells_size (s : ByteArray) (g : GLine) : (rlineCells s g).size = 39 := by simp [rlineCells, lineList_length]
theorem lineList_at (g : GLine) (j : Nat) : (lineList g)[33 + j]? = [Value.string g.name, .int .i64 g.date, .string g.subject, g.refs, .int .i64 g.bytes][j]? := by
  unfold lineList
  rw [show 33 + j = (32 + j) + 1 by omega, List.getElem?_cons_succ, List.getElem?_append_right (by rw [encId_length]; omega), encId_length, show 32 + j - 32 = j by omega]
theorem lc0 (g : GLine) : (lineCells g)[0]? = some (.int .i64 g.number) := rfl
theorem lc33 (g : GLine) : (lineCells g)[33]? = some (.string g.name) := by simpa [lineCells] using lineList_at g 0
theorem lc34 (g : GLine) : (lineCells g)[34]? = some (.int .i64 g.date) := by simpa [lineCells] using lineList_at g 1
theorem lc35 (g : GLine) : (lineCells g)[35]? = some (.string g.subject) := by simpa [lineCells] using lineList_at g 2
theorem lc36 (g : GLine) : (lineCells g)[36]? = some g.refs := by simpa [lineCells] using lineList_at g 3
theorem lc37 (g : GLine) : (lineCells g)[37]? = some (.int .i64 g.bytes) := by simpa [lineCells] using lineList_at g 4
theorem rc_succ (s : ByteArray) (g : GLine) (j : Nat) : (rlineCells s g)[j + 1]? = (lineCells g)[j]? := by simp [rlineCells, lineCells]
theorem rc0 (s : ByteArray) (g : GLine) : (rlineCells s g)[0]? = some (.string s) := rfl
theorem rc1 (s : ByteArray) (g : GLine) : (rlineCells s g)[1]? = some (.int .i64 g.number) := rfl
theorem rc34 (s : ByteArray) (g : GLine) : (rlineCells s g)[34]? = some (.string g.name) := (rc_succ s g 33).trans (lc33 g)
theorem rc35 (s : ByteArray) (g : GLine) : (rlineCells s g)[35]? = some (.int .i64 g.date) := (rc_succ s g 34).trans (lc34 g)
theorem rc36 (s : ByteArray) (g : GLine) : (rlineCells s g)[36]? = some (.string g.subject) := (rc_succ s g 35).trans (lc35 g)
theorem rc37 (s : ByteArray) (g : GLine) : (rlineCells s g)[37]? = some g.refs := (rc_succ s g 36).trans (lc36 g)
theorem rc38 (s : ByteArray) (g : GLine) : (rlineCells s g)[38]? = some (.int .i64 g.bytes) := (rc_succ s g 37).trans (lc37 g)

def refsOne (g : GLine) : Prop := g.refs.oneCell' = true
theorem lineList_one {g : GLine} (h : refsOne g) : ∀ v ∈ lineList g, v.oneCell' = true := by
  intro v hv
  simp only [lineList, List.mem_cons, List.mem_append, List.mem_nil_iff, or_false] at hv
  rcases hv with rfl | hv | rfl | rfl | rfl | rfl | rfl
  · rfl
  · exact encId_oneCell _ v hv
  · rfl
  · rfl
  · rfl
  · exact h
  · rfl
theorem fits_line {g : GLine} (h : refsOne g) : fitsRow 38 (lineCells g) = true := fitsRow_mk (lineCells_size g) (by
  rw [Array.all_eq_true_iff_forall_mem]; intro v hv; exact lineList_one h v (by simpa [lineCells] using hv))
theorem fits_rline {s : ByteArray} {g : GLine} (h : refsOne g) : fitsRow 39 (rlineCells s g) = true := fitsRow_mk (rlineCells_size s g) (by
  rw [Array.all_eq_true_iff_forall_mem]
  intro v hv
  simp only [rlineCells, List.mem_toArray, List.mem_cons] at hv
  rcases hv with rfl | hv
  · rfl
  · exact lineList_one h v hv)

theorem ext_full {cs : Array Value} {n : Nat} (h : cs.size = n) : cs.extract 0 (0 + n) = cs := by subst h; simp
theorem ok_new_line (w : World) (g : GLine) (t : Nat) : okCells (w.alloc (.cells (lineCells g) t)) ⟨w.heap.size, 0, none⟩ 38 = true := ok_new w _ t 0 38 (by rw [lineCells_size]; omega)
theorem rd_new_line (w : World) (g : GLine) (t : Nat) : rdCells (w.alloc (.cells (lineCells g) t)) ⟨w.heap.size, 0, none⟩ 38 = lineCells g := by
  rw [rd_new w _ t 0 38 (by rw [lineCells_size]; omega)]; exact ext_full (lineCells_size g)
theorem ok_new_rline (w : World) (s : ByteArray) (g : GLine) (t : Nat) : okCells (w.alloc (.cells (rlineCells s g) t)) ⟨w.heap.size, 0, none⟩ 39 = true := ok_new w _ t 0 39 (by rw [rlineCells_size]; omega)
theorem rd_new_rline (w : World) (s : ByteArray) (g : GLine) (t : Nat) : rdCells (w.alloc (.cells (rlineCells s g) t)) ⟨w.heap.size, 0, none⟩ 39 = rlineCells s g := by
  rw [rd_new w _ t 0 39 (by rw [rlineCells_size]; omega)]; exact ext_full (rlineCells_size s g)
theorem extract_id (g : GLine) : (lineCells g).extract 1 (1 + 32) = (encId g.id).toArray := by
  apply Array.ext'
  simp [lineCells, lineList, encId_length]
theorem extract_rid (s : ByteArray) (g : GLine) : (rlineCells s g).extract 2 (2 + 32) = (encId g.id).toArray := by
  apply Array.ext'
  simp [rlineCells, lineList, encId_length]
theorem ok_line_id (w : World) (g : GLine) (t : Nat) : okCells (w.alloc (.cells (lineCells g) t)) ⟨w.heap.size, 1, none⟩ 32 = true := ok_new w _ t 1 32 (by rw [lineCells_size]; omega)
theorem rd_line_id (w : World) (g : GLine) (t : Nat) : rdCells (w.alloc (.cells (lineCells g) t)) ⟨w.heap.size, 1, none⟩ 32 = (encId g.id).toArray := by
  rw [rd_new w _ t 1 32 (by rw [lineCells_size]; omega)]; exact extract_id g
theorem ok_rline_id (w : World) (s : ByteArray) (g : GLine) (t : Nat) : okCells (w.alloc (.cells (rlineCells s g) t)) ⟨w.heap.size, 2, none⟩ 32 = true := ok_new w _ t 2 32 (by rw [rlineCells_size]; omega)
theorem rd_rline_id (w : World) (s : ByteArray) (g : GLine) (t : Nat) : rdCells (w.alloc (.cells (rlineCells s g) t)) ⟨w.heap.size, 2, none⟩ 32 = (encId g.id).toArray := by
  rw [rd_new w _ t 2 32 (by rw [rlineCells_size]; omega)]; exact extract_rid s g

theorem ex_load_line (ρ : Operand → Value) (d : Option Tmp) (x : Operand) (ty : TypeId) (pos : String) (af : Array Edge) (g : Option (Nat × Bool)) (w : World) :
    Sem.run Tryz.prog (execOp ρ ⟨d, .load 34 x, ty, pos, af, g⟩) w = ldRes Tryz.prog 34 w (ρ x) := rfl
theorem ex_store_line (ρ : Operand → Value) (d : Option Tmp) (x y : Operand) (ty : TypeId) (pos : String) (af : Array Edge) (g : Option (Nat × Bool)) (w : World) :
    Sem.run Tryz.prog (execOp ρ ⟨d, .store 34 x y, ty, pos, af, g⟩) w = stRes Tryz.prog 34 w (ρ x) (ρ y) := rfl
theorem ld_line (w : World) (a : Addr) (h : okCells w a 38 = true) : ldRes Tryz.prog 34 w (.pointer (some a)) = .ok (.value (.agg (rdCells w a 38))) w :=
  ldRes_agg Tryz.isAgg34 Tryz.sizeOf34 w a h
theorem st_line (w : World) (g : Nat) (cells : Array Value) (h : rowOk w g 38 = true) (h2 : fitsRow 38 cells = true) :
    stRes Tryz.prog 34 w (.pointer (some ⟨g, 0, none⟩)) (.agg cells) = .ok .skip (w.setRow g cells) := stRes_agg (by kernel_rfl) w g cells h h2
theorem ex_load_rline (ρ : Operand → Value) (d : Option Tmp) (x : Operand) (ty : TypeId) (pos : String) (af : Array Edge) (g : Option (Nat × Bool)) (w : World) :
    Sem.run Tryz.prog (execOp ρ ⟨d, .load 26 x, ty, pos, af, g⟩) w = ldRes Tryz.prog 26 w (ρ x) := rfl
theorem ex_store_rline (ρ : Operand → Value) (d : Option Tmp) (x y : Operand) (ty : TypeId) (pos : String) (af : Array Edge) (g : Option (Nat × Bool)) (w : World) :
    Sem.run Tryz.prog (execOp ρ ⟨d, .store 26 x y, ty, pos, af, g⟩) w = stRes Tryz.prog 26 w (ρ x) (ρ y) := rfl
theorem ld_rline (w : World) (a : Addr) (h : okCells w a 39 = true) : ldRes Tryz.prog 26 w (.pointer (some a)) = .ok (.value (.agg (rdCells w a 39))) w :=
  ldRes_agg Tryz.isAgg26 Tryz.sizeOf26 w a h
theorem st_rline (w : World) (g : Nat) (cells : Array Value) (h : rowOk w g 39 = true) (h2 : fitsRow 39 cells = true) :
    stRes Tryz.prog 26 w (.pointer (some ⟨g, 0, none⟩)) (.agg cells) = .ok .skip (w.setRow g cells) := stRes_agg (by kernel_rfl) w g cells h h2

/-- The zero line. -/
def zeroLine : GLine := ⟨0, zeroId, ⟨#[]⟩, 0, ⟨#[]⟩, .slice none 0 0, 0⟩
theorem ex_alloc_line (ρ : Operand → Value) (d : Option Tmp) (ty : TypeId) (pos : String) (af : Array Edge) (g : Option (Nat × Bool)) (w : World) :
    Sem.run Tryz.prog (execOp ρ ⟨d, .alloc 34, ty, pos, af, g⟩) w = .ok (.value (.pointer (some ⟨w.heap.size, 0, none⟩))) (w.alloc (.cells (lineCells zeroLine) 34)) := by kernel_rfl
theorem ex_build_line (ρ : Operand → Value) (d : Option Tmp) (ty : TypeId) (pos : String) (af : Array Edge) (g : Option (Nat × Bool)) (w : World) :
    Sem.run Tryz.prog (execOp ρ ⟨d, .build 34 #[], ty, pos, af, g⟩) w = .ok (.value (.agg (lineCells zeroLine))) w := by kernel_rfl
theorem ex_alloc_rline (ρ : Operand → Value) (d : Option Tmp) (ty : TypeId) (pos : String) (af : Array Edge) (g : Option (Nat × Bool)) (w : World) :
    Sem.run Tryz.prog (execOp ρ ⟨d, .alloc 26, ty, pos, af, g⟩) w = .ok (.value (.pointer (some ⟨w.heap.size, 0, none⟩))) (w.alloc (.cells (rlineCells ⟨#[]⟩ zeroLine) 26)) := by kernel_rfl
theorem ex_build_rline (ρ : Operand → Value) (d : Option Tmp) (ty : TypeId) (pos : String) (af : Array Edge) (g : Option (Nat × Bool)) (w : World) :
    Sem.run Tryz.prog (execOp ρ ⟨d, .build 26 #[], ty, pos, af, g⟩) w = .ok (.value (.agg (rlineCells ⟨#[]⟩ zeroLine))) w := by kernel_rfl

attribute [local go_sem ↓] ex_load_id ex_store_id ex_load_line ex_store_line ex_load_rline ex_store_rline
attribute [local go_sem] ld_id st_id ld_line st_line ld_rline st_rline guard_id okCells_drew rdCells_drew okCells_drewN rdCells_drewN ok_alloc rd_alloc rowOk_drew rowOk_new rowOk_alloc setRow_drew setRow_new setRow_past fits_id ok_new_id rd_new_id
attribute [local go_sem] lc0 lc33 lc34 lc35 lc36 lc37 rc0 rc1 rc34 rc35 rc36 rc37 rc38 ok_new_line rd_new_line ok_new_rline rd_new_rline ok_line_id rd_line_id ok_rline_id rd_rline_id

/-- The first number of a list that is not 0. -/
def orErr : List Int → Int
  | [] => 0
  | e :: r => if e = 0 then orErr r else e
theorem orErr_zeros : ∀ (l : List Int), (∀ e ∈ l, e = 0) → ∀ r, orErr (l ++ r) = orErr r
  | [], _, _ => rfl
  | e :: l, h, r => by
    have h0 : e = 0 := h e (by simp)
    rw [List.cons_append, orErr, if_pos h0]
    exact orErr_zeros l (fun x hx => h x (by simp [hx])) r
theorem orErr_hit {es : List Int} {k : Nat} (hlt : k < es.length) (hz : ∀ j, j < k → es[j]! = 0) (hk : es[k]! ≠ 0) : orErr es = es[k]! := by
  have e1 : es = es.take k ++ es[k] :: es.drop (k + 1) := by simp
  rw [e1, orErr_zeros (es.take k) (fun x hx => by
    obtain ⟨j, hj, rfl⟩ := List.mem_take_iff_getElem.1 hx
    have := hz j (by omega)
    simpa [show j < es.length by omega] using this)]
  have : es[k]! = es[k] := by simp [hlt]
  rw [← e1, this]
  rw [this] at hk
  simp [orErr, hk]
theorem orErr_none {es : List Int} (hz : ∀ j, j < es.length → es[j]! = 0) : orErr es = 0 := by
  have := orErr_zeros es (fun x hx => by
    obtain ⟨j, hj, rfl⟩ := List.mem_iff_getElem.1 hx
    simpa [hj] using hz j hj) []
  simpa [orErr] using this

theorem or_any (b : Nat) (c : Nat) (es : List Int) (w : World) (hm : es.length ≤ 1000) (h : ∀ j, j < es.length → w.cell? ⟨b, j, none⟩ = some (.int .i64 es[j]!)) :
    Calls Tryz.prog 55 #[.slice (some ⟨b, 0, none⟩) es.length c] w fun r w' => r = .returned (.int .i64 (orErr es)) ∧ w = w' := by
  have H := Lib.hid h
  clear h
  go_enter Tryz.func55, Tryz.ntmps55
  go_wp2
  go_loop [8] (fun i => ∃ k : Nat, k ≤ es.length ∧ i = .int .i64 k ∧ ∀ j, j < k → es[j]! = 0) (fun i => es.length - (intOf i).toNat)
  case atStart => exact ⟨0, Nat.zero_le _, rfl, fun j hj => absurd hj (Nat.not_lt_zero _)⟩
  case round =>
    obtain ⟨k, hk, rfl, hz⟩ := hrel
    have HZ := Lib.hid hz
    clear hz
    by_cases hlt : k < es.length
    · have hltz : (k : Int) < (es.length : Int) := by omega
      have hc := H.out k hlt
      generalize hx : es[k]! = x at hc
      have HX := Lib.hid hx
      clear hx
      by_cases h0 : x = 0
      · have h0' : (x != 0) = false := by simp [h0]
        have hn := Lib.hid (show ∀ j, j < k + 1 → es[j]! = 0 from fun j hj => by
          by_cases e : j = k
          · rw [e, HX.out, h0]
          · exact HZ.out j (by omega))
        clear h0
        go_wp2
        go_round
        case rel => exact ⟨k + 1, by omega, by go_num, hn.out⟩
        case measure => simp [intOf]; omega
      · have h0' : (x != 0) = true := by simp [h0]
        have hf := Lib.hid (show orErr es = x by rw [orErr_hit hlt HZ.out (by rw [HX.out]; exact h0), HX.out])
        clear h0
        go_wp2
        go_ret
        exact ⟨ret_int hf.out.symm, rfl⟩
    · have hf := Lib.hid (orErr_none (es := es) (by rw [show es.length = k by omega]; exact HZ.out))
      go_wp2
      go_ret
      exact ⟨ret_int hf.out.symm, rfl⟩

/-- The error of a line. -/
def lineErr (g : GLine) (ids : List Id32) : Int :=
  orErr [rangeErr g.number 1 2147483646 2, textErr g.name.data.toList 60, rangeErr g.date 0 105190559 13, textErr g.subject.data.toList 200, refsErr ids, rangeErr g.bytes 0 65536 2]

theorem or6 (a b c d e f : Int) (w : World) :
    Calls Tryz.prog 55 #[.slice (some ⟨w.heap.size, 0, none⟩) 6 6] (w.alloc (.cells #[.int .i64 a, .int .i64 b, .int .i64 c, .int .i64 d, .int .i64 e, .int .i64 f] 30))
      fun r w' => r = .returned (.int .i64 (orErr [a, b, c, d, e, f])) ∧ w.alloc (.cells #[.int .i64 a, .int .i64 b, .int .i64 c, .int .i64 d, .int .i64 e, .int .i64 f] 30) = w' :=
  or_any w.heap.size 6 [a, b, c, d, e, f] _ (by simp) (fun j hj => by
    rw [cells_new]
    have : j = 0 ∨ j = 1 ∨ j = 2 ∨ j = 3 ∨ j = 4 ∨ j = 5 := by simp at hj; omega
    rcases this with rfl | rfl | rfl | rfl | rfl | rfl <;> rfl)

/-- What is asked of a line in memory: its references are a slice of identities, its texts have lengths. -/
structure LineOk (w : World) (g : GLine) (ids : List Id32) : Prop where
  refs : IdsAt w g.refs ids
  len : ids.length ≤ maxLen
  name : g.name.size ≤ maxLen
  subject : g.subject.size ≤ maxLen

theorem LineOk.below {w w' : World} {g : GLine} {ids : List Id32} (h : LineOk w g ids) (hb : Below w.heap.size w w') : LineOk w' g ids := ⟨h.refs.below hb, h.len, h.name, h.subject⟩
theorem IdsAt.one {w : World} {v : Value} {ids : List Id32} (h : IdsAt w v ids) : v.oneCell' = true := by
  obtain ⟨a, c, rfl, _⟩ := h; rfl

set_option maxRecDepth 100000 in
set_option maxHeartbeats 1000000 in
theorem lineCheck_any (g : GLine) (ids : List Id32) (w : World) (h : LineOk w g ids) :
    Calls Tryz.prog 18 #[.agg (lineCells g)] w fun r w' => r = .returned (.int .i64 (lineErr g ids)) ∧ Below w.heap.size w w' := by
  have hbw : Below w.heap.size w (w.alloc (.cells (lineCells g) 34)) := (Below.refl _ _).alloc (Nat.le_refl _) _
  have hok := Lib.hid (h.below hbw)
  have HBW := Lib.hid hbw
  clear hbw
  obtain ⟨W, hW⟩ : ∃ W, w.alloc (.cells (lineCells g) 34) = W := ⟨_, rfl⟩
  have c0 : ∀ z : Later W, z.1.cell? ⟨w.heap.size, 0, none⟩ = some (.int .i64 g.number) := fun z => z.cell (by rw [← hW, cells_new]; exact lc0 g)
  have c33 : ∀ z : Later W, z.1.cell? ⟨w.heap.size, 33, none⟩ = some (.string g.name) := fun z => z.cell (by rw [← hW, cells_new]; exact lc33 g)
  have c34 : ∀ z : Later W, z.1.cell? ⟨w.heap.size, 34, none⟩ = some (.int .i64 g.date) := fun z => z.cell (by rw [← hW, cells_new]; exact lc34 g)
  have c35 : ∀ z : Later W, z.1.cell? ⟨w.heap.size, 35, none⟩ = some (.string g.subject) := fun z => z.cell (by rw [← hW, cells_new]; exact lc35 g)
  have c36 : ∀ z : Later W, z.1.cell? ⟨w.heap.size, 36, none⟩ = some g.refs := fun z => z.cell (by rw [← hW, cells_new]; exact lc36 g)
  have c37 : ∀ z : Later W, z.1.cell? ⟨w.heap.size, 37, none⟩ = some (.int .i64 g.bytes) := fun z => z.cell (by rw [← hW, cells_new]; exact lc37 g)
  have HW := Lib.hid hW
  go_enter Tryz.func18, Tryz.ntmps18
  go_wp2
  clear hW
  refine wp_region_ht 18 (fun w' => ∃ z : Later W, w' = z.1) (by kernel_rfl) (by kernel_rfl) ⟨⟨_, (Below.refl _ _).drew⟩, rfl⟩ ?_
  simp only [List.take_succ_cons, List.take_zero, List.drop_succ_cons, List.drop_zero]
  repeat (go_big_quiet_step (first | (go_at_call 56; exact Later.call_same (checkRange_any _ _ _ _ _)) | (go_at_call 57; exact Later.call_same (checkText_any _ _ _ (by first | exact h.name | exact h.subject))) | (go_at_call 58; exact Later.call (checkReferences_any _ _ _ ((HW.out ▸ hok.out : LineOk W g ids).refs.below (Subtype.property _)) h.len))))
  refine wpQuiet_nil ?_
  rintro _ ⟨z, rfl⟩
  have hz := z.2
  generalize z.1 = wz at hz ⊢
  clear c0 c33 c34 c35 c36 c37
  go_wp2_with fail
  refine (or6 _ _ _ _ _ _ _).mono ?_
  rintro e w1 ⟨rfl, rfl⟩
  go_wp2
  go_ret
  refine ⟨rfl, ?_⟩
  have h1 : Below w.heap.size w wz := HBW.out.trans (by rw [HW.out]; exact hz.mono (by rw [← HW.out]; simp))
  exact h1.alloc h1.size _

set_option maxRecDepth 100000 in
set_option maxHeartbeats 1000000 in
theorem refCheck_any (s : ByteArray) (g : GLine) (ids : List Id32) (w : World) (h : LineOk w g ids) :
    Calls Tryz.prog 15 #[.agg (rlineCells s g)] w fun r w' => r = .returned (.int .i64 (lineErr g ids)) ∧ Below w.heap.size w w' := by
  have hbw : Below w.heap.size w (w.alloc (.cells (rlineCells s g) 26)) := (Below.refl _ _).alloc (Nat.le_refl _) _
  have hok := h.below hbw
  have hn := hok.name
  have hsu := hok.subject
  have HB := Lib.hid hbw
  have HO := Lib.hid hok
  clear hbw hok
  have split : ∀ n lo hi e : Int, (rangeErr n lo hi e = e ∧ (n < lo ∨ hi < n)) ∨ (rangeErr n lo hi e = 0 ∧ lo ≤ n ∧ n ≤ hi) := fun n lo hi e => by
    by_cases hx : n < lo ∨ hi < n
    · exact .inl ⟨if_pos hx, hx⟩
    · exact .inr ⟨if_neg hx, by omega, by omega⟩
  have done : ∀ v : Int, lineErr g ids = v → ∀ w' : World, Below w.heap.size w w' → (Ending.returned (.int .i64 v) = .returned (.int .i64 (lineErr g ids)) ∧ Below w.heap.size w w') := fun v hv w' hw' => ⟨ret_int hv.symm, hw'⟩
  have DONE := Lib.hid done
  clear done
  rcases split g.number 1 2147483646 2 with ⟨e1, hx⟩ | ⟨e1, h1, h2⟩
  · have hf := Lib.hid (show lineErr g ids = 2 by simp [lineErr, orErr, e1])
    clear split e1
    rcases hx with hx | hx
    · go_enter Tryz.func15, Tryz.ntmps15
      go_wp2
      go_ret
      exact DONE.out _ hf.out _ HB.out
    · have hx' : ¬ g.number < 1 := by omega
      go_enter Tryz.func15, Tryz.ntmps15
      go_wp2
      go_ret
      exact DONE.out _ hf.out _ HB.out
  have n1 : ¬ g.number < 1 := by omega
  have n2 : ¬ (2147483646 : Int) < g.number := by omega
  clear h1 h2
  go_enter Tryz.func15, Tryz.ntmps15
  go_wp2_with fail
  refine (text_any _ _ _ hn).mono ?_
  rintro e w' ⟨rfl, rfl⟩
  generalize e2 : textErr g.name.data.toList 60 = x2
  by_cases hx2 : x2 = 0
  case neg =>
    have hf := Lib.hid (show lineErr g ids = x2 by simp [lineErr, orErr, e1, e2, hx2])
    have hb2 : (x2 != 0) = true := by simp [hx2]
    clear split e1 e2 hx2
    go_wp2
    go_ret
    exact DONE.out _ hf.out _ HB.out
  subst hx2
  have E1 := Lib.hid e1
  have E2 := Lib.hid e2
  clear e1 e2
  rcases split g.date 0 105190559 13 with ⟨e3, hx⟩ | ⟨e3, h1, h2⟩
  · have hf := Lib.hid (show lineErr g ids = 13 by simp [lineErr, orErr, E1.out, E2.out, e3])
    clear split e3
    rcases hx with hx | hx
    · go_wp2
      go_ret
      exact DONE.out _ hf.out _ HB.out
    · have hx' : ¬ g.date < 0 := by omega
      go_wp2
      go_ret
      exact DONE.out _ hf.out _ HB.out
  have d1 : ¬ g.date < 0 := by omega
  have d2 : ¬ (105190559 : Int) < g.date := by omega
  have E3 := Lib.hid e3
  clear e3 h1 h2
  go_wp2_with fail
  refine (text_any _ _ _ hsu).mono ?_
  rintro e w' ⟨rfl, rfl⟩
  generalize e4 : textErr g.subject.data.toList 200 = x4
  by_cases hx4 : x4 = 0
  case neg =>
    have hf := Lib.hid (show lineErr g ids = x4 by simp [lineErr, orErr, E1.out, E2.out, E3.out, e4, hx4])
    have hb2 : (x4 != 0) = true := by simp [hx4]
    clear split e4 hx4
    go_wp2
    go_ret
    exact DONE.out _ hf.out _ HB.out
  subst hx4
  have E4 := Lib.hid e4
  clear e4
  go_wp2_with fail
  refine (refs_any _ ids _ HO.out.refs HO.out.len).mono ?_
  rintro e w' ⟨rfl, q, rfl⟩
  have hbq : Below w.heap.size w ((w.alloc (.cells (rlineCells s g) 26)).drewN q) := HB.out.trans ⟨rfl, rfl, rfl, Nat.le_refl _, fun _ _ => rfl⟩
  have HQ := Lib.hid hbq
  clear hbq
  generalize e5 : refsErr ids = x5
  by_cases hx5 : x5 = 0
  case neg =>
    have hf := Lib.hid (show lineErr g ids = x5 by simp [lineErr, orErr, E1.out, E2.out, E3.out, E4.out, e5, hx5])
    have hb2 : (x5 != 0) = true := by simp [hx5]
    clear split e5 hx5
    go_wp2
    go_ret
    exact DONE.out _ hf.out _ HQ.out
  subst hx5
  have E5 := Lib.hid e5
  clear e5
  rcases split g.bytes 0 65536 2 with ⟨e6, hx⟩ | ⟨e6, h1, h2⟩
  · have hf := Lib.hid (show lineErr g ids = 2 by simp [lineErr, orErr, E1.out, E2.out, E3.out, E4.out, E5.out, e6])
    clear split e6
    rcases hx with hx | hx
    · go_wp2
      go_ret
      exact DONE.out _ hf.out _ HQ.out
    · have hx' : ¬ g.bytes < 0 := by omega
      go_wp2
      go_ret
      exact DONE.out _ hf.out _ HQ.out
  have b1 : ¬ g.bytes < 0 := by omega
  have b2 : ¬ (65536 : Int) < g.bytes := by omega
  have hf := Lib.hid (show lineErr g ids = 0 by simp [lineErr, orErr, E1.out, E2.out, E3.out, E4.out, E5.out, e6])
  clear e6 h1 h2 split
  go_wp2
  go_ret
  exact DONE.out _ hf.out _ HQ.out

end Go.Proofs.YtdjaphcelpchaaaGreatDoor

/- Identities in hexadecimal: overview.idText and bulletinref28.Hex return hexOf. -/
namespace Go.Proofs.YtdjaphcelpchaaaGreatDoor
open Go Go.RowKit Go.Proofs

attribute [local go_sem ↓] ex_load_id ex_store_id
attribute [local go_sem] ld_id st_id guard_id okCells_drew rdCells_drew okCells_drewN rdCells_drewN ok_alloc rd_alloc rowOk_drew rowOk_new rowOk_alloc setRow_drew setRow_new setRow_past fits_id ok_new_id rd_new_id

/-- A string of bytes. -/
def str (l : List UInt8) : ByteArray := ⟨l.toArray⟩
theorem str_list (l : List UInt8) : (str l).data.toList = l := rfl
theorem str_size (l : List UInt8) : (str l).size = l.length := by simp [str, ByteArray.size]
theorem str_of (s : ByteArray) : str s.data.toList = s := rfl

def hexDig (n : Nat) : UInt8 := if n < 10 then UInt8.ofNat (48 + n) else UInt8.ofNat (87 + n)
def hexB (b : UInt8) : List UInt8 := [hexDig (b.toNat / 16), hexDig (b.toNat % 16)]
def hexL (l : List UInt8) : List UInt8 := l.flatMap hexB
def hexOf (x : Id32) : List UInt8 := hexL x.1
theorem hexL_length (l : List UInt8) : (hexL l).length = 2 * l.length := by
  induction l with
  | nil => rfl
  | cons b l ih =>
    have h : hexL (b :: l) = hexB b ++ hexL l := rfl
    rw [h, List.length_append, ih, List.length_cons]
    simp [hexB]; omega
theorem hexOf_length (x : Id32) : (hexOf x).length = 64 := by unfold hexOf; rw [hexL_length, x.2]
def byteCells (l : List UInt8) : List Value := l.map fun b => .int .u8 b.toNat
theorem byteCells_length (l : List UInt8) : (byteCells l).length = l.length := by simp [byteCells]
theorem hexL_snoc (l : List UInt8) (k : Nat) (h : k < l.length) : hexL (l.take (k + 1)) = hexL (l.take k) ++ hexB l[k] := by
  unfold hexL
  rw [List.take_succ_eq_append_getElem h, List.flatMap_append]
  simp

theorem ownsRow_below {w w' : World} {base : Nat} {e : TypeId} {size n : Nat} {v : Value} {xs : List Value} (h : w.ownsRow base e size v n xs) (hb : Below w.heap.size w w') : w'.ownsRow base e size v n xs :=
  h.kept (row := none) ⟨hb.os, hb.tape, hb.output, hb.size, fun k hk _ => hb.block k hk⟩ (by cases v.ownBlock <;> simp)

theorem hexConst (n : Nat) (h : n < 16) (h' : n < (⟨#[48, 49, 50, 51, 52, 53, 54, 55, 56, 57, 97, 98, 99, 100, 101, 102]⟩ : ByteArray).size) :
    (⟨#[48, 49, 50, 51, 52, 53, 54, 55, 56, 57, 97, 98, 99, 100, 101, 102]⟩ : ByteArray)[n]'h' = hexDig n := by
  have : n = 0 ∨ n = 1 ∨ n = 2 ∨ n = 3 ∨ n = 4 ∨ n = 5 ∨ n = 6 ∨ n = 7 ∨ n = 8 ∨ n = 9 ∨ n = 10 ∨ n = 11 ∨ n = 12 ∨ n = 13 ∨ n = 14 ∨ n = 15 := by omega
  rcases this with rfl | rfl | rfl | rfl | rfl | rfl | rfl | rfl | rfl | rfl | rfl | rfl | rfl | rfl | rfl | rfl <;> rfl

theorem run_index_id (x : Id32) (k : Nat) (h : k < 32) (w : World) : Sem.run Tryz.prog (Instr.index 23 (.agg (encId x).toArray) (.int .i64 k)) w = .ok (.int .u8 (x.1[k]'(by rw [x.2]; exact h)).toNat) w := by
  have hu : Tryz.prog.underlying 23 = some (.array 32 5) := by kernel_rfl
  have hp := part_u8 x.1 k (by rw [x.2]; exact h) w
  simp only [Instr.index, asIntOf, Sem.run_bind, Sem.run_pure, Result.andThen_ok, run_underlying hu]
  rw [if_pos ⟨by omega, by omega⟩]
  simp only [Sem.run_bind, Tryz.sizeOf5, Result.andThen_ok, Nat.mul_one, Int.toNat_natCast]
  exact hp

theorem Tryz.info_u8 : (Tryz.prog.info? 5).map (fun i => (i.zero, i.size, i.bytes)) = some (some (.int .u8 0), 1, 1) := by kernel_rfl

set_option maxRecDepth 100000 in
set_option maxHeartbeats 1000000 in
theorem idText_any (x : Id32) (w : World) :
    Calls Tryz.prog 92 #[.agg (encId x).toArray] w fun r w' => r = .returned (.string (str (hexOf x))) ∧ Below w.heap.size w w' := by
  obtain ⟨i0, hi, hz0, hz1, hz2⟩ := info_parts Tryz.info_u8
  go_enter Tryz.func92, Tryz.ntmps92
  go_wp2
  go_loopw [3, 5, 7] (fun t _ i wr => ∃ k : Nat, k ≤ 32 ∧ i = .int .i64 k ∧ wr.ownsRow w.heap.size 5 1 t (2 * k) (byteCells (hexL (x.1.take k))) ∧ Below w.heap.size w wr) (fun _ _ i _ => 32 - (intOf i).toNat)
  case atStart => exact ⟨0, by omega, rfl, World.ownsRow_nil _ _ _ _, (Below.refl _ _).alloc (Nat.le_refl _) _⟩
  case round =>
    obtain ⟨k, hk, rfl, hown, hb⟩ := hrel
    by_cases hlt : k < 32
    · have hltz : (k : Int) < 32 := by omega
      have hx := run_index_id x k hlt
      generalize hby : x.1[k]'(by rw [x.2]; exact hlt) = b at hx
      have HB := Lib.hid hby
      clear hby
      have hb255 : (b.toNat : Int) < 256 := by have := b.toNat_lt; omega
      have hq1 : (0 : Int) ≤ (b.toNat : Int) / 16 := by omega
      have hq2 : (b.toNat : Int) / 16 < 16 := by omega
      have hq3 : (0 : Int) ≤ (b.toNat : Int) % 16 := by omega
      have hq4 : (b.toNat : Int) % 16 < 16 := by omega
      go_wp2
      refine wp_region_mix [0, 1, 2, 3, 4, 5, 6] [7, 8, 9] (fun w' => ∃ z : Later wr, w' = z.1) (by kernel_rfl) (by kernel_rfl) ⟨⟨_, (Below.refl _ _).drew⟩, rfl⟩ ?_
      simp only [opsAt, List.map_cons, List.map_nil, Array.getD_eq_getD_getElem?, List.getElem?_toArray, List.getElem?_cons_zero, List.getElem?_cons_succ, Option.getD_some]
      repeat (go_big_quiet_step (fail))
      refine wpQuiet_nil ?_
      rintro _ ⟨z, rfl⟩
      have hz := z.2
      generalize z.1 = wz at hz ⊢
      refine wpR_cons true rfl (by kernel_rfl) ?_
      go_wp2_with fail
      have hownz := (ownsRow_below hown hz).alloc (.cells #[.int .u8 (hexDig (b.toNat / 16)).toNat, .int .u8 (hexDig (b.toNat % 16)).toNat] 5)
      have hbz : Below w.heap.size w wz := hb.trans (hz.mono hb.size)
      rw [hexConst (b.toNat / 16) (by omega), hexConst (b.toNat % 16) (by omega)]
      refine ⟨fun _ => ⟨⟨_, hz.alloc hz.size _⟩, rfl⟩, wpR_list [8, 9] _ _ (by kernel_rfl) ?_⟩
      simp only [opsAt, List.map_cons, List.map_nil, Array.getD_eq_getD_getElem?, List.getElem?_toArray, List.getElem?_cons_zero, List.getElem?_cons_succ, Option.getD_some]
      clear hx hq1 hq2 hq3 hq4
      go_wp2_with (at_builtin; refine wpList_append_own _ rfl (.tmp 10) (.tmp 17) 124 rfl w.heap.size 5 i0 (.int .u8 0) 1 1 Tryz.underlying124 hi hz0 hz1 hz2 rfl (by decide) _ _ _ rfl hownz ⟨wz.heap.size, 0, none⟩ 2 2 [.int .u8 (hexDig (b.toNat / 16)).toNat, .int .u8 (hexDig (b.toNat % 16)).toNat] rfl rfl ?c1 ?c2 ?c3 ?c4 ?c5 ?_)
      case c1 =>
        intro j u hj
        rw [Addr.add_lit, cells_new]
        match j, hj with
        | 0, hj => simpa using hj
        | 1, hj => simpa using hj
      case c2 => intro u hu; simp at hu; rcases hu with rfl | rfl <;> rfl
      case c3 => unfold maxLen; omega
      case c4 => omega
      case c5 => have := hbz.size; simp; omega
      intro v' w1 hown' hgrow _
      have hb1 : Below w.heap.size w w1 := (hbz.alloc hbz.size _).grown hgrow (by have := hbz.size; simp; omega) (fun j hj => (hown.lt j hj).1)
      clear hownz hgrow hown
      go_wp2
      refine NoPanic.normal ?_
      go_wp2
      go_roundw
      case rel =>
        refine ⟨k + 1, by omega, by go_num, ?_, hb1⟩
        have e1 : 2 * (k + 1) = 2 * k + 2 := by omega
        have e2 : byteCells (hexL (x.1.take (k + 1))) = byteCells (hexL (x.1.take k)) ++ [.int .u8 (hexDig (b.toNat / 16)).toNat, .int .u8 (hexDig (b.toNat % 16)).toNat] := by
          rw [hexL_snoc _ _ (by rw [x.2]; exact hlt), HB.out]
          simp [byteCells, hexB]
        rw [e1, e2]; exact hown'
      case measure => simp [intOf]; omega
    · obtain rfl : k = 32 := by omega
      rcases hown.2 with ⟨_, h0⟩ | ⟨g, cap, cur, rfl, hg, hcur, hle, hmx, hcs, htk⟩
      · omega
      · have hcv := run_convert_bytes_back (P := Tryz.prog) wr 124 9 5 ⟨g, 0, none⟩ cap (hexOf x) Tryz.underlying124 Tryz.underlying5 Tryz.underlying9 (fun j hj => by
          have hj2 : j < 64 := by rw [hexOf_length] at hj; exact hj
          have h1 := hown.cellAt j (by omega)
          rw [Addr.add_lit, Nat.zero_add, h1]
          have : x.1.take 32 = x.1 := List.take_of_length_le (by rw [x.2]; omega)
          rw [this]
          show (byteCells (hexOf x))[j]? = _
          simp [byteCells, hj])
        rw [hexOf_length] at hcv
        have hres := Lib.hid (show (Value.string ⟨(hexOf x).toArray⟩) = .string (str (hexOf x)) from rfl)
        clear hown hcur htk hcs
        go_wp2
        go_ret
        exact ⟨rfl, hb⟩

theorem ret_str {a b : ByteArray} (h : a = b) : Ending.returned (.string a) = .returned (.string b) := by rw [h]
theorem str_append (a b : List UInt8) : str a ++ str b = str (a ++ b) := by
  apply ByteArray.ext
  simp [str]
theorem str_append' (a : List UInt8) (s : ByteArray) : str a ++ s = str (a ++ s.data.toList) := by
  rw [← str_append]; rfl
theorem hexCut (n : Nat) (h : n < 16) : (⟨#[48, 49, 50, 51, 52, 53, 54, 55, 56, 57, 97, 98, 99, 100, 101, 102]⟩ : ByteArray).extract n (n + 1) = str [hexDig n] := by
  have : n = 0 ∨ n = 1 ∨ n = 2 ∨ n = 3 ∨ n = 4 ∨ n = 5 ∨ n = 6 ∨ n = 7 ∨ n = 8 ∨ n = 9 ∨ n = 10 ∨ n = 11 ∨ n = 12 ∨ n = 13 ∨ n = 14 ∨ n = 15 := by omega
  rcases this with rfl | rfl | rfl | rfl | rfl | rfl | rfl | rfl | rfl | rfl | rfl | rfl | rfl | rfl | rfl | rfl <;> (apply ByteArray.ext; simp [str, hexDig])
theorem and15 : ∀ n : Nat, n < 256 → bits BinOp.and IntKind.i64 (n : Int) 15 = ((n % 16 : Nat) : Int) := by decide +kernel

set_option maxRecDepth 100000 in
set_option maxHeartbeats 1000000 in
theorem hex_any (x : Id32) (w : World) :
    Calls Tryz.prog 61 #[.agg (encId x).toArray] w fun r w' => r = .returned (.string (str (hexOf x))) ∧ Below w.heap.size w w' := by
  have hbw : Below w.heap.size w (w.alloc (.cells (encId x).toArray 23)) := (Below.refl _ _).alloc (Nat.le_refl _) _
  have hcell : ∀ k, (h : k < 32) → (w.alloc (.cells (encId x).toArray 23)).cell? ⟨w.heap.size, k, none⟩ = some (.int .u8 (x.1[k]'(by rw [x.2]; exact h)).toNat) := fun k h => by
    rw [cells_new]
    have := encId_get x k h
    simpa using this
  have HC := Lib.hid hcell
  have HBW := Lib.hid hbw
  clear hcell hbw
  go_enter Tryz.func61, Tryz.ntmps61
  go_wp2
  go_loop [3, 4, 5, 6] (fun s i _ _ => ∃ k : Nat, k ≤ 32 ∧ i = .int .i64 k ∧ s = .string (str (hexL (x.1.take k)))) (fun _ i _ _ => 32 - (intOf i).toNat)
  case atStart => exact ⟨0, by omega, rfl, rfl⟩
  case round =>
    obtain ⟨k, hk, rfl, rfl⟩ := hrel
    by_cases hlt : k < 32
    · have hltz : (k : Int) < 32 := by omega
      have hc := HC.out k hlt
      generalize hby : x.1[k]'(by rw [x.2]; exact hlt) = b at hc
      have HB := Lib.hid hby
      clear hby
      have hb255 : (b.toNat : Int) < 256 := by have := b.toNat_lt; omega
      go_wp2
      go_loop [3, 5, 6] (fun s j _ => ∃ m : Nat, m ≤ 2 ∧ j = .int .i64 m ∧ s = .string (str (hexL (x.1.take k) ++ (hexB b).take m))) (fun _ j _ => 2 - (intOf j).toNat)
      case atStart => exact ⟨0, by omega, rfl, by simp⟩
      case round =>
        obtain ⟨m, hm, rfl, rfl⟩ := hrel
        have h3 : m = 0 ∨ m = 1 ∨ m = 2 := by omega
        rcases h3 with rfl | rfl | rfl
        · rw [show ((0 : Nat) : Int) = 0 from rfl]
          obtain ⟨n0, hn0⟩ : ∃ n0 : Nat, n0 = b.toNat / 16 := ⟨_, rfl⟩
          have ha : bits BinOp.and IntKind.i64 ((b.toNat : Int) / 16) 15 = (n0 : Int) := by
            have h := and15 (b.toNat / 16) (by omega)
            rw [show (b.toNat / 16) % 16 = b.toNat / 16 by omega] at h
            rw [hn0]; exact_mod_cast h
          have h16 : n0 < 16 := by omega
          have HN := Lib.hid hn0
          clear hn0
          have hsz : (str (hexL (List.take k x.1))).size ≤ 64 := by rw [str_size, hexL_length, List.length_take]; omega
          go_wp2
          go_round
          case rel => exact ⟨1, by omega, rfl, by rw [hexCut _ h16, str_append, HN.out]; simp [hexB]⟩
          case measure => simp [intOf]
        · rw [show ((1 : Nat) : Int) = 1 from rfl]
          obtain ⟨n0, hn0⟩ : ∃ n0 : Nat, n0 = b.toNat % 16 := ⟨_, rfl⟩
          have ha : bits BinOp.and IntKind.i64 (b.toNat : Int) 15 = (n0 : Int) := by
            rw [hn0]; exact and15 b.toNat (by omega)
          have h16 : n0 < 16 := by omega
          have HN := Lib.hid hn0
          clear hn0
          have hsz : (str (hexL (List.take k x.1) ++ List.take 1 (hexB b))).size ≤ 66 := by rw [str_size, List.length_append, hexL_length, List.length_take]; simp [hexB]; omega
          go_wp2
          go_round
          case rel => exact ⟨2, by omega, rfl, by rw [hexCut _ h16, str_append, HN.out]; simp [hexB]⟩
          case measure => simp [intOf]
        · rw [show ((2 : Nat) : Int) = 2 from rfl]
          have hn := Lib.hid (show hexL (x.1.take k) ++ List.take 2 (hexB b) = hexL (x.1.take (k + 1)) by rw [hexL_snoc _ _ (by rw [x.2]; exact hlt), HB.out]; rfl)
          go_wp2
          go_round
          case rel => exact ⟨k + 1, by omega, by go_num, by rw [← hn.out]⟩
          case measure => simp [intOf]; omega
    · have hf := Lib.hid (show hexL (x.1.take k) = hexOf x by rw [List.take_of_length_le (by rw [x.2]; omega)]; rfl)
      go_wp2
      go_ret
      exact ⟨ret_str (by rw [hf.out]), HBW.out⟩

end Go.Proofs.YtdjaphcelpchaaaGreatDoor

/- Numbers in decimal and joined texts: bulletinref28.Decimal, bulletinref12.Text, and the library's Itoa and Join. -/
namespace Go.Proofs.YtdjaphcelpchaaaGreatDoor
open Go Go.RowKit Go.Proofs

theorem decDigits_small {u : Nat} (h : u < 10) : Lib.decDigits u = [UInt8.ofNat (48 + u)] := by rw [Lib.decDigits, dif_pos h]
theorem decDigits_big {u : Nat} (h : ¬ u < 10) : Lib.decDigits u = Lib.decDigits (u / 10) ++ [UInt8.ofNat (48 + u % 10)] := by rw [Lib.decDigits, dif_neg h]
theorem decDigits_bound : ∀ (k u : Nat), u < 10 ^ (k + 1) → (Lib.decDigits u).length ≤ k + 1
  | 0, u, h => by rw [decDigits_small (by simpa using h)]; simp
  | k + 1, u, h => by
    by_cases hs : u < 10
    · rw [decDigits_small hs]; simp
    · rw [decDigits_big hs, List.length_append]
      have := decDigits_bound k (u / 10) (by rw [Nat.pow_succ] at h; omega)
      simp; omega
theorem decDigits_len (u : Nat) (h : u ≤ 9223372036854775807) : (Lib.decDigits u).length ≤ 20 := decDigits_bound 19 u (by omega)

set_option maxHeartbeats 1000000 in
theorem decimal_any : ∀ (n : Nat) (w : World), n ≤ 9223372036854775807 →
    Calls Tryz.prog 63 #[.int .i64 n] w fun r w' => r = .returned (.string (str (Lib.decDigits n))) ∧ Below w.heap.size w w' := by
  intro n
  induction n using Nat.strongRecOn with
  | _ n ih =>
    intro w hn
    have IH := Lib.hid ih
    clear ih
    by_cases hs : n < 10
    · have hsz : (n : Int) < 10 := by omega
      have hcv : Sem.run Tryz.prog (convert 124 9 (.slice (some ⟨w.heap.size, 0, none⟩) 1 1)) (w.alloc (.cells #[.int .u8 (48 + (n : Int))] 5)) = .ok (.string (str (Lib.decDigits n))) (w.alloc (.cells #[.int .u8 (48 + (n : Int))] 5)) := by
        rw [decDigits_small hs]
        refine run_convert_bytes_back (P := Tryz.prog) _ 124 9 5 ⟨w.heap.size, 0, none⟩ 1 [UInt8.ofNat (48 + n)] Tryz.underlying124 Tryz.underlying5 Tryz.underlying9 (fun j hj => ?_)
        have : j = 0 := by simp at hj; omega
        subst this
        rw [Addr.add_lit, cells_new]
        simp only [List.getElem_cons_zero]
        have : (UInt8.ofNat (48 + n)).toNat = 48 + n := by rw [UInt8.toNat_ofNat']; omega
        rw [this]; simp
      go_enter Tryz.func63, Tryz.ntmps63
      go_wp2
      go_ret
      exact ⟨rfl, (Below.refl _ _).alloc (Nat.le_refl _) _⟩
    · have hsz : ¬ (n : Int) < 10 := by omega
      have hd1 := decDigits_len (n / 10) (by omega)
      have hd2 := decDigits_len (n % 10) (by omega)
      have s1 : (str (Lib.decDigits (n / 10))).size ≤ 20 := by rw [str_size]; exact hd1
      have s2 : (str (Lib.decDigits (n % 10))).size ≤ 20 := by rw [str_size]; exact hd2
      clear hd1 hd2
      have hf := Lib.hid (show str (Lib.decDigits (n / 10)) ++ str (Lib.decDigits (n % 10)) = str (Lib.decDigits n) by rw [str_append, decDigits_big hs, decDigits_small (Nat.mod_lt n (by omega))])
      go_enter Tryz.func63, Tryz.ntmps63
      go_wp2_with fail
      have h1 := IH.out (n / 10) (by omega) w (by omega)
      rw [show ((n / 10 : Nat) : Int) = (n : Int) / 10 by omega] at h1
      refine h1.mono ?_
      rintro e w1 ⟨rfl, hb1⟩
      clear h1
      go_wp2_with fail
      have h2 := IH.out (n % 10) (by omega) w1 (by omega)
      rw [show ((n % 10 : Nat) : Int) = (n : Int) % 10 by omega] at h2
      refine h2.mono ?_
      rintro e w2 ⟨rfl, hb2⟩
      clear h2
      go_wp2
      go_ret
      exact ⟨ret_str hf.out, hb1.trans (hb2.mono hb1.size)⟩

/-! ## Texts joined -/

theorem join_snoc (xs : List (List UInt8)) (x sep : List UInt8) : Lib.join (xs ++ [x]) sep = if xs = [] then x else Lib.join xs sep ++ sep ++ x := by
  cases xs with
  | nil => simp [Lib.join_one]
  | cons y r =>
    rw [List.cons_append, Lib.join_cons, Lib.join_cons, if_neg (by simp)]
    simp [Lib.joinTail]
theorem join_take_le (xs : List (List UInt8)) (sep : List UInt8) (k : Nat) : (Lib.join (xs.take k) sep).length ≤ (Lib.join xs sep).length := by
  have step : ∀ (ys : List (List UInt8)) (n : Nat), (Lib.join (ys.take n) sep).length ≤ (Lib.join (ys.take (n + 1)) sep).length := by
    intro ys n
    by_cases h : n < ys.length
    · rw [List.take_succ_eq_append_getElem h, join_snoc]
      split
      · rename_i h0; rw [h0]; simp [Lib.join_nil]
      · simp
    · rw [List.take_of_length_le (by omega), List.take_of_length_le (by omega)]; exact Nat.le_refl _
  have all : ∀ d, (Lib.join (xs.take k) sep).length ≤ (Lib.join (xs.take (k + d)) sep).length := by
    intro d
    induction d with
    | zero => exact Nat.le_refl _
    | succ d ih => exact Nat.le_trans ih (step xs (k + d))
  have h := all xs.length
  have e : xs.take (k + xs.length) = xs := List.take_of_length_le (by omega)
  rwa [e] at h

/-- The cells of a row of strings. -/
def StrRow (w : World) (b off : Nat) (xs : List ByteArray) : Prop := ∀ (j : Nat) (x : ByteArray), xs[j]? = some x → w.cell? ⟨b, off + j, none⟩ = some (.string x)
def joinS (xs : List ByteArray) (sep : List UInt8) : List UInt8 := Lib.join (xs.map fun x => x.data.toList) sep
theorem joinS_take_le (xs : List ByteArray) (sep : List UInt8) (k : Nat) : (joinS (xs.take k) sep).length ≤ (joinS xs sep).length := by
  unfold joinS; rw [List.map_take]; exact join_take_le _ _ _
theorem joinS_snoc (xs : List ByteArray) (sep : List UInt8) (k : Nat) (h : k < xs.length) : joinS (xs.take (k + 1)) sep = if k = 0 then xs[k].data.toList else joinS (xs.take k) sep ++ sep ++ xs[k].data.toList := by
  unfold joinS
  rw [List.take_succ_eq_append_getElem h, List.map_append, List.map_cons, List.map_nil, join_snoc]
  by_cases hk : k = 0
  · subst hk; simp
  · rw [if_neg hk, if_neg (by intro e; have h1 := congrArg List.length e; rw [List.length_map, List.length_take, List.length_nil] at h1; omega)]

theorem text_le (xs : List ByteArray) (sep : ByteArray) (k : Nat) (h : k < xs.length) (hk : k ≠ 0) : (joinS (xs.take k) sep.data.toList).length + sep.size + xs[k].size ≤ (joinS xs sep.data.toList).length := by
  have := joinS_take_le xs sep.data.toList (k + 1)
  rw [joinS_snoc _ _ _ h, if_neg hk] at this
  simp only [List.length_append, size_list] at this
  omega

set_option maxHeartbeats 1000000 in
theorem text12_any (b off c : Nat) (xs : List ByteArray) (sep : ByteArray) (w : World) (hrow : StrRow w b off xs) (hlen : (joinS xs sep.data.toList).length ≤ 140737488355328) (hn : xs.length ≤ 140737488355328) :
    Calls Tryz.prog 62 #[.slice (some ⟨b, off, none⟩) xs.length c, .string sep] w fun r w' => r = .returned (.string (str (joinS xs sep.data.toList))) ∧ w = w' := by
  have H := Lib.hid hrow
  clear hrow
  go_enter Tryz.func62, Tryz.ntmps62
  go_wp2
  go_loop [5, 6] (fun s i => ∃ k : Nat, k ≤ xs.length ∧ i = .int .i64 k ∧ s = .string (str (joinS (xs.take k) sep.data.toList))) (fun _ i => xs.length - (intOf i).toNat)
  case atStart => exact ⟨0, by omega, rfl, rfl⟩
  case round =>
    obtain ⟨k, hk, rfl, rfl⟩ := hrel
    by_cases hlt : k < xs.length
    · have hltz : (k : Int) < (xs.length : Int) := by omega
      have hc := H.out k xs[k] (List.getElem?_eq_getElem hlt)
      have hst := joinS_snoc xs sep.data.toList k hlt
      generalize hx : xs[k] = x at hc hst
      by_cases hk0 : k = 0
      · subst hk0
        rw [if_pos rfl] at hst
        have HS := Lib.hid hst
        have hxl : x.size ≤ 140737488355328 := by
          have h1 := joinS_take_le xs sep.data.toList 1
          rw [hst, size_list] at h1
          omega
        have e0 : str (joinS (List.take 0 xs) sep.data.toList) = ⟨#[]⟩ := rfl
        have E0 := Lib.hid e0
        clear hst hx e0
        rw [E0.out, show ((0 : Nat) : Int) = 0 from rfl]
        rw [Nat.add_zero] at hc
        go_wp2
        go_round
        case rel => exact ⟨1, by omega, rfl, by rw [HS.out]; exact congrArg Value.string (str_append' [] x)⟩
        case measure => simp [intOf]; omega
      · rw [if_neg hk0] at hst
        have HS := Lib.hid hst
        have hle := text_le xs sep k hlt hk0
        rw [hx, ← str_size] at hle
        clear hst hx
        have hkz : (0 : Int) < (k : Int) := by omega
        go_wp2
        go_round
        case rel => exact ⟨k + 1, by omega, by go_num, by rw [HS.out, ← str_append, ← str_append]; rfl⟩
        case measure => simp [intOf]; omega
    · have hf := Lib.hid (show xs.take k = xs from List.take_of_length_le (by omega))
      go_wp2
      go_ret
      exact ⟨ret_str (by rw [hf.out]), rfl⟩

/-! ## The variables of Go's library -/

/-- What is known of the package-level variables: the table of powers of ten, and that bytealg.MaxLen holds some number. -/
structure Gl (w : World) : Prop where
  tab : Lib.TabIs Tryz.prog w "internal/strconv.uint64pow10" .u64 Lib.pow10Tab
  len : ∃ m : Int, w.cell? ⟨0, 0, none⟩ = some (.int .i64 m)
  size : Tryz.prog.globals.size ≤ w.heap.size

theorem globals_size : Tryz.prog.globals.size = 6 := by kernel_rfl
theorem Gl.below {w w' : World} (h : Gl w) {B : Nat} (hb : Below B w w') (hB : Tryz.prog.globals.size ≤ B) : Gl w' where
  tab := by
    have hg : Tryz.prog.globalNamed "internal/strconv.uint64pow10" = some 1 := by kernel_rfl
    unfold Lib.TabIs
    refine var?_below hb hg ?_ h.tab
    rw [globals_size] at hB
    omega
  len := by
    obtain ⟨m, hm⟩ := h.len
    refine ⟨m, (hb.cell (p := ⟨0, 0, none⟩) ?_).trans hm⟩
    rw [globals_size] at hB
    show 0 < B
    omega
  size := Nat.le_trans h.size hb.size
theorem Gl.later {w w' : World} (h : Gl w) (hb : Below w.heap.size w w') : Gl w' := h.below hb h.size

theorem itoa_any (n : Nat) (w : World) (hn : n ≤ 9223372036854775807) (hG : Gl w) :
    Calls Tryz.prog 81 #[.int .i64 n] w fun r w' => r = .returned (.string (str (Lib.decDigits n))) ∧ Below w.heap.size w w' := by
  refine (Tryz.strconv_Itoa n (by omega) (by omega) w hG.tab).mono ?_
  rintro e w' ⟨rfl, k, os, rfl⟩
  refine ⟨?_, rfl, rfl, rfl, ?_, fun j hj => ?_⟩
  rotate_left
  · show w.heap.size ≤ (w.heap ++ os).size
    simp
  · show (w.heap ++ os)[j]? = _
    rw [Array.getElem?_append_left hj]
  have : Lib.itoa (n : Int) = Lib.decDigits n := by unfold Lib.itoa; rw [if_neg (by omega), Int.toNat_natCast]
  rw [this]; rfl

/-- strings.Join of a slice value that reads as strings. -/
theorem join_any (v : Value) (xs : List ByteArray) (sep : ByteArray) (w : World) (hv : (∃ a c, v = .slice a 0 c ∧ xs = []) ∨ ∃ b off c, v = .slice (some ⟨b, off, none⟩) xs.length c ∧ xs.length ≤ c ∧ b < w.heap.size ∧ StrRow w b off xs)
    (hlen : (joinS xs sep.data.toList).length ≤ 140737488355328) (hn : xs.length ≤ 140737488355328) :
    Calls Tryz.prog 93 #[v, .string sep] w fun r w' => r = .returned (.string (str (joinS xs sep.data.toList))) ∧ Below w.heap.size w w' := by
  rcases hv with ⟨a, c, rfl, rfl⟩ | ⟨b, off, c, rfl, hc, hb, hrow⟩
  · refine (Any.strings_Join_none Tryz.lays156 Tryz.Builder_Extra_156 a c sep w).mono ?_
    rintro e w' ⟨rfl, rfl⟩
    exact ⟨rfl, Below.refl _ _⟩
  · refine (Tryz.strings_Join b off c xs sep w hrow hb hn hc hlen).mono ?_
    rintro e w' ⟨rfl, hb'⟩
    exact ⟨rfl, hb'⟩

end Go.Proofs.YtdjaphcelpchaaaGreatDoor
