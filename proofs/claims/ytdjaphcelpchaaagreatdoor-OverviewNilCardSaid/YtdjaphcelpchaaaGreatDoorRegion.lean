/- A region that draws its order: its first n operations only read, or call functions that answer one value in every world of a class and leave a world of the class; the others come behind all of these, one after the other. Then one walk in the order of the text serves every order. Conditions: three closed checks over the region. -/
import Derived.StillTail
import Derived.Deep.Quiet
import Derived.Below
import Derived.WalkKit
import Derived.BigQuiet
namespace Go.Proofs.YtdjaphcelpchaaaGreatDoor
open Go Go.RowKit

section
variable {P : Program}

/-- The first n operations wait for earlier ones alone, and are guarded by such alone. -/
def headB (ops : Array Oper) (n : Nat) : Bool :=
  (List.range n).all fun i => match ops[i]? with
    | some o => (o.after.all fun e => !Region.binds .any e || decide (e.on < i)) && (match o.guard with | none => true | some (j, _) => decide (j < n))
    | none => false

theorem wpAny_fuel {md : Region.Mode} {ops : Array Oper} {Q : Exit → Act → World → Prop} : ∀ (f : Nat) (listed : Array Bool) (a : Act) (w : World), wpAny P md ops Q f listed a w → wpAny P md ops Q (f + 1) listed a w
  | 0, _, _, _, h => ⟨fun _ => h.2, fun i hi => by rw [h.1] at hi; cases hi⟩
  | f + 1, _, _, _, h => ⟨h.1, fun i hi => wpOp_mono (fun a' w' h' => wpAny_fuel f _ a' w' h') (h.2 i hi)⟩

theorem wpAny_more {md : Region.Mode} {ops : Array Oper} {Q : Exit → Act → World → Prop} {listed : Array Bool} {a : Act} {w : World} {f : Nat} (h : wpAny P md ops Q f listed a w) : ∀ k, wpAny P md ops Q (k + f) listed a w
  | 0 => by simpa using h
  | k + 1 => by rw [show k + 1 + f = (k + f) + 1 by omega]; exact wpAny_fuel _ _ _ _ (wpAny_more h k)

theorem headB_spec {ops : Array Oper} {n i : Nat} (h : headB ops n = true) (hi : i < n) : ∃ o, ops[i]? = some o ∧ (∀ e ∈ o.after, Region.binds .any e = true → e.on < i) ∧ (∀ j b, o.guard = some (j, b) → j < n) := by
  have h1 := List.all_eq_true.1 h i (List.mem_range.2 hi)
  split at h1
  · rename_i o ho
    simp only [Bool.and_eq_true, Array.all_eq_true_iff_forall_mem, Bool.or_eq_true, Bool.not_eq_true', decide_eq_true_eq] at h1
    refine ⟨o, ho, fun e he hb => ?_, fun j b hg => ?_⟩
    · rcases h1.1 e he with h2 | h2
      · rw [hb] at h2; cases h2
      · exact h2
    · have h2 := h1.2
      rw [hg] at h2
      simpa using h2
  · cases h1

theorem getD_of_eq {x y : Array Bool} {i : Nat} {d : Bool} (h : x[i]? = y[i]?) : x.getD i d = y.getD i d := by simp [h]

theorem least_ready {ops : Array Oper} {n : Nat} {listed : Array Bool} (hB : headB ops n = true) (hsz : listed.size = n) : ∀ (m : Nat), m < n → listed.getD m true = false → ∃ i, i < n ∧ i ∈ Region.ready .any ops listed := by
  intro m
  induction m using Nat.strongRecOn with
  | _ m ih =>
    intro hm hun
    obtain ⟨o, ho, he, _⟩ := headB_spec hB hm
    by_cases hall : ∀ e ∈ o.after, Region.binds .any e = true → listed.getD e.on false = true
    · exact ⟨m, hm, mem_ready.2 ⟨hun, o, ho, hall⟩⟩
    · obtain ⟨e, hx⟩ := Classical.not_forall.1 hall
      obtain ⟨hin, hx⟩ := Classical.not_imp.1 hx
      obtain ⟨hb, hx⟩ := Classical.not_imp.1 hx
      have hlt := he e hin hb
      refine ih e.on hlt (by omega) (getD_in (by omega) (by simpa using hx))

variable {C : World → Prop}

theorem ready_head {l : List Oper} {n i : Nat} {listed listed' : Array Bool} (hB : headB l.toArray n = true) (hag : ∀ j, j < n → listed'[j]? = listed[j]?) (hi : i < n) :
    i ∈ Region.ready .any (l.take n).toArray listed' ↔ i ∈ Region.ready .any l.toArray listed := by
  have e1 : (l.take n).toArray[i]? = l.toArray[i]? := by simp [hi]
  have e2 : listed'.getD i true = listed.getD i true := getD_of_eq (hag i hi)
  rw [mem_ready, mem_ready, e1, e2]
  obtain ⟨o, ho, he, _⟩ := headB_spec hB hi
  constructor
  · rintro ⟨h1, o', ho', hall⟩
    refine ⟨h1, o', ho', fun e hin hb => ?_⟩
    have : o' = o := Option.some.inj (ho'.symm.trans ho)
    subst this
    rw [← getD_of_eq (hag e.on (by have := he e hin hb; omega))]
    exact hall e hin hb
  · rintro ⟨h1, o', ho', hall⟩
    refine ⟨h1, o', ho', fun e hin hb => ?_⟩
    have : o' = o := Option.some.inj (ho'.symm.trans ho)
    subst this
    rw [getD_of_eq (hag e.on (by have := he e hin hb; omega))]
    exact hall e hin hb

theorem wanted_head {l : List Oper} {n i : Nat} {o : Oper} (hB : headB l.toArray n = true) (hi : i < n) (ho : l.toArray[i]? = some o) (t : Array Value) :
    Region.wanted o (yielded (l.take n).toArray t) = Region.wanted o (yielded l.toArray t) := by
  obtain ⟨o', ho', _, hg⟩ := headB_spec hB hi
  have : o' = o := Option.some.inj (ho'.symm.trans ho)
  subst this
  unfold Region.wanted
  cases hq : o'.guard with
  | none => rfl
  | some x =>
    obtain ⟨j, b⟩ := x
    have hj := hg j b hq
    have e1 : (l.take n).toArray[j]? = l.toArray[j]? := by simp [hj]
    simp only [yielded, e1]

theorem ht_aux {l : List Oper} {n : Nat} {Q : Exit → Act → World → Prop} (hn : n < l.length) (hs : Region.sinkB .any l.toArray n = true) (hc : Region.chainB .any l.toArray n = true) (hB : headB l.toArray n = true)
    (hseq : Region.seqB .any l.toArray (l.length - n) n ((Array.replicate n true) ++ (Array.replicate (l.length - n) false)) = true) :
    ∀ (f : Nat) (listed listed' : Array Bool) (a : Act) (w : World), HeadInv .any l.toArray n listed → listed'.size = n → (∀ j, j < n → listed'[j]? = listed[j]?) → C w →
      wpAnyQ P .any (l.take n).toArray C (fun a' => ∀ w', C w' → wpList P l.toArray Q (l.drop n) a' w') f listed' a → wpAny P .any l.toArray Q (f + (l.length - n)) listed a w := by
  have done : ∀ (listed listed' : Array Bool) (a : Act) (w : World), HeadInv .any l.toArray n listed → listed'.size = n → (∀ j, j < n → listed'[j]? = listed[j]?) → Region.ready .any (l.take n).toArray listed' = [] →
      wpList P l.toArray Q (l.drop n) a w → wpAny P .any l.toArray Q (l.length - n) listed a w := by
    intro listed listed' a w inv hsz hag hr h
    have hB' : headB (l.take n).toArray n = true := by
      refine List.all_eq_true.2 fun i hi => ?_
      have hi' : i < n := List.mem_range.1 hi
      have h1 := List.all_eq_true.1 hB i hi
      have e1 : (l.take n).toArray[i]? = l.toArray[i]? := by simp [hi']
      rw [e1]; exact h1
    have hall : ∀ i, i < n → listed[i]? = some true := by
      intro i hi
      have hlt : i < listed.size := by rw [inv.size]; simp; omega
      cases hv : listed[i] with
      | true => rw [Array.getElem?_eq_getElem hlt, hv]
      | false =>
        have hun : listed'.getD i true = false := by rw [getD_of_eq (hag i hi)]; simp [hlt, hv]
        obtain ⟨j, _, hj⟩ := least_ready hB' hsz i hi hun
        rw [hr] at hj; cases hj
    have heq : listed = (Array.replicate n true) ++ (Array.replicate (l.length - n) false) := by
      apply Array.ext_getElem?
      intro i
      by_cases hi : i < n
      · rw [hall i hi, Array.getElem?_append_left (by simpa using hi)]; simp [hi]
      · by_cases hi2 : i < l.length
        · have h1 := inv.tail i (by omega) (by simpa using hi2)
          have hlt : i < listed.size := by rw [inv.size]; simpa using hi2
          have h2 : listed[i] = false := by simpa [hlt] using h1
          rw [Array.getElem?_append_right (by simp; omega), Array.getElem?_eq_getElem hlt, h2, Array.size_replicate, Array.getElem?_eq_getElem (by simp; omega)]
          simp
        · rw [Array.getElem?_eq_none (by rw [inv.size]; simp; omega), Array.getElem?_eq_none (by simp; omega)]
    have := wpAny_of_seq (P := P) (md := .any) (ops := l.toArray) (Q' := Q) (l.drop n) n listed a w (fun j => by simp [List.getElem?_drop]) (by rw [List.length_drop, heq]; exact hseq) h
    rwa [List.length_drop] at this
  intro f
  induction f with
  | zero =>
    intro listed listed' a w inv hsz hag hw h
    rw [Nat.zero_add]
    exact done listed listed' a w inv hsz hag h.1 (h.2 w hw)
  | succ f ih =>
    intro listed listed' a w inv hsz hag hw h
    by_cases hr : Region.ready .any (l.take n).toArray listed' = []
    · exact wpAny_more (done listed listed' a w inv hsz hag hr (h.1 hr w hw)) (f + 1)
    · obtain ⟨i0, hi0⟩ := List.exists_mem_of_ne_nil _ hr
      have hi0n : i0 < n := by
        obtain ⟨_, o, ho, _⟩ := mem_ready.1 hi0
        have := (Array.getElem?_eq_some_iff.1 ho).1
        simp at this; omega
      have hmem := (ready_head hB hag hi0n).1 hi0
      rw [show f + 1 + (l.length - n) = (f + (l.length - n)) + 1 by omega]
      refine ⟨fun he => (by rw [he] at hmem; cases hmem), fun i hi => ?_⟩
      have hin : i < n := by
        rcases Nat.lt_or_ge i n with h1 | h1
        · exact h1
        · exact absurd hi (tail_waits hs hc (by simpa using hn) inv (n - i0) i0 rfl hi0n (mem_ready.1 hmem).1 i h1)
      have hq := h.2 i ((ready_head hB hag hin).2 hi)
      obtain ⟨o, ho, _, _⟩ := headB_spec hB hin
      have e1 : (l.take n).toArray[i]? = some o := by rw [← ho]; simp [hin]
      unfold qOp at hq
      unfold wpOp
      simp only [e1] at hq
      simp only [ho]
      rw [wanted_head hB hin ho] at hq
      have next : ∀ (a' : Act) (w' : World), C w' → wpAnyQ P .any (l.take n).toArray C (fun a' => ∀ w', C w' → wpList P l.toArray Q (l.drop n) a' w') f (listed'.setIfInBounds i true) a' →
          wpAny P .any l.toArray Q (f + (l.length - n)) (listed.setIfInBounds i true) a' w' := fun a' w' hw' h' =>
        ih (listed.setIfInBounds i true) (listed'.setIfInBounds i true) a' w' (inv.set hi hin) (by simpa using hsz) (fun j hj => by
          have h1 := hag j hj
          have s1 : i < listed'.size := by omega
          have s2 : i < listed.size := by rw [inv.size]; simp; omega
          simp only [Array.getElem?_setIfInBounds, s1, s2, if_true, h1]) hw' h'
      split
      · rename_i hwant
        rw [if_pos hwant] at hq
        exact .inl (Oper.wp_of_quiet hw next hq)
      · rename_i hwant
        rw [if_neg hwant] at hq
        exact next _ _ hw hq

/-- The checks over a region, in one. -/
def htB (l : List Oper) (n : Nat) : Bool :=
  decide (n < l.length) && Region.sinkB .any l.toArray n && Region.chainB .any l.toArray n && headB l.toArray n && Region.lexB .any (l.take n).toArray
    && Region.seqB .any l.toArray (l.length - n) n ((Array.replicate n true) ++ (Array.replicate (l.length - n) false))

theorem wp_region_ht {id : Nat} {Q : Exit → Act → World → Prop} {a : Act} {w : World} {l : List Oper} (n : Nat) (C : World → Prop) (hm : P.follows .mixedOrders = true) (hB : htB l n = true) (hC : C w.drew)
    (h : wpQuiet P (l.take n).toArray C (fun a' => ∀ w', C w' → wpList P l.toArray Q (l.drop n) a' w') (l.take n) a) : (Code.region id l.toArray true).wp P Q a w := by
  simp only [htB, Bool.and_eq_true, decide_eq_true_eq] at hB
  obtain ⟨⟨⟨⟨⟨hn, hs⟩, hc⟩, hh⟩, hl⟩, hq⟩ := hB
  simp only [Region.lexB, Bool.and_eq_true] at hl
  have hlen : (l.take n).length = n := by simp; omega
  refine wp_region_any hm ?_
  have h1 := wpAnyQ_lex (P := P) (C := C) (md := .any) hl.1 (l.take n) 0 (Array.replicate (l.take n).toArray.size false) a (by simp) (by simpa using hl.2) h
  have h2 := ht_aux (P := P) (C := C) (Q := Q) hn hs hc hh hq (l.take n).length (Array.replicate l.toArray.size false) (Array.replicate (l.take n).toArray.size false) a w.drew
    ⟨by simp, fun j oj _ hl => (by rw [getD_replicate_false] at hl; cases hl), fun t _ ht => getD_in (by simpa using ht) (getD_replicate_false _ _)⟩
    (by simp; omega) (fun j hj => by simp [show j < min n l.length by omega, show j < l.length by omega]) hC h1
  rw [hlen, show n + (l.length - n) = l.toArray.size by simp; omega] at h2
  exact h2

end

/-- A world that agrees with w on all that lay in w. -/
def Later (w : World) : Type := { w' : World // Below w.heap.size w w' }
instance {w : World} : CoeOut (Later w) World := ⟨Subtype.val⟩
instance {w : World} : Nonempty (Later w) := ⟨⟨w, Below.refl _ _⟩⟩
def isLater (w : World) (w' : World) : Prop := ∃ z : Later w, w' = z.1
theorem isLater_iff {w w' : World} : isLater w w' ↔ Below w.heap.size w w' := ⟨fun ⟨z, h⟩ => h ▸ z.2, fun h => ⟨⟨w', h⟩, rfl⟩⟩

theorem Later.cell {w : World} {a : Addr} {v : Value} (h : w.cell? a = some v) (z : Later w) : z.1.cell? a = some v := (z.2.cell (block_lt_of_cell h)).trans h

theorem Later.call {P : Program} {f : FuncId} {args : Array Value} {w : World} {z : Later w} {v : Value}
    (h : Calls P f args z.1 fun e w' => e = .returned v ∧ Below z.1.heap.size z.1 w') : Calls P f args z.1 fun e w'' => e = .returned v ∧ ∃ z' : Later w, w'' = z'.1 :=
  h.mono fun _ _ ⟨he, hb⟩ => ⟨he, ⟨⟨_, z.2.trans (hb.mono z.2.size)⟩, rfl⟩⟩
theorem Later.call_same {P : Program} {f : FuncId} {args : Array Value} {w : World} {z : Later w} {v : Value}
    (h : Calls P f args z.1 fun e w' => e = .returned v ∧ z.1 = w') : Calls P f args z.1 fun e w'' => e = .returned v ∧ ∃ z' : Later w, w'' = z'.1 :=
  h.mono fun _ _ ⟨he, hb⟩ => ⟨he, z, hb.symm⟩
theorem Later.call_drew {P : Program} {f : FuncId} {args : Array Value} {w : World} {z : Later w} {v : Value}
    (h : Calls P f args z.1 fun e w' => e = .returned v ∧ ∃ q, w' = z.1.drewN q) : Calls P f args z.1 fun e w'' => e = .returned v ∧ ∃ z' : Later w, w'' = z'.1 :=
  h.mono fun _ _ ⟨he, q, hb⟩ => ⟨he, ⟨⟨_, z.2.trans ⟨by rw [hb]; rfl, by rw [hb]; rfl, by rw [hb]; rfl, by rw [hb]; exact Nat.le_refl _, fun _ _ => by rw [hb]; rfl⟩⟩, rfl⟩⟩

end Go.Proofs.YtdjaphcelpchaaaGreatDoor
