/- Parts of the proofs about bulletinlaw28: Stage, Round, GroupsA, Groups, Where, Rel, RemoveId, Ref, Ref2, Ref2b. -/
import Derived.Test.YtdjaphcelpchaaaGreatDoorShelf
import Derived.Test.YtdjaphcelpchaaaGreatDoorK1
import Derived.Test.YtdjaphcelpchaaaGreatDoorK2
import Derived.Test.YtdjaphcelpchaaaGreatDoorK3
import Derived.Test.YtdjaphcelpchaaaGreatDoorK4
import Derived.Test.YtdjaphcelpchaaaGreatDoorK5
import Derived.Test.YtdjaphcelpchaaaGreatDoorK6
import Derived.Test.YtdjaphcelpchaaaGreatDoorShelf2
import Derived.RangeFuncNested
import Derived.RangeFuncBound
import Derived.RangeFuncCalls
import Derived.RangeFuncLeaves
import Derived.OwnWalkIn
import Derived.TacticsInMore
import Derived.LoopNIn
import Derived.LoopIn

/- A region that draws its order, taken in stages: each stage has quiet operations (E) and acting ones in a forced order (R); whatever belongs to no stage yet waits for the stage's last acting operation. -/
namespace Go.Proofs.YtdjaphcelpchaaaGreatDoor
open Go Go.RowKit

section
variable {P : Program} {ops : Array Oper} {C : World → Prop} {Q : Exit → Act → World → Prop}

/-- Which operations have come up. -/
def doneL (n : Nat) (S : List Nat) : Array Bool := ((List.range n).map fun i => S.contains i).toArray
theorem doneL_size (n : Nat) (S : List Nat) : (doneL n S).size = n := by simp [doneL]
theorem doneL_get (n : Nat) (S : List Nat) (i : Nat) (h' : i < (doneL n S).size) : (doneL n S)[i] = S.contains i := by simp [doneL]
theorem doneL_getD (n : Nat) (S : List Nat) (i : Nat) (h : i < n) (b : Bool) : (doneL n S).getD i b = S.contains i := by
  have h' : i < (doneL n S).size := by rw [doneL_size]; exact h
  simp [h', doneL_get n S i h']
theorem doneL_true {n : Nat} {S : List Nat} {i : Nat} (h : (doneL n S).getD i false = true) : i < n ∧ i ∈ S := by
  rcases Nat.lt_or_ge i n with hi | hi
  · rw [doneL_getD n S i hi] at h
    exact ⟨hi, by simpa using h⟩
  · simp [Array.getElem?_eq_none (by rw [doneL_size]; exact hi : (doneL n S).size ≤ i)] at h

/-- The post of a stage: what stands behind it, and the region's own for every other way out. -/
def QS (fin : Act → World → Prop) (Q : Exit → Act → World → Prop) : Exit → Act → World → Prop
  | .normal, a, w => fin a w
  | e, a, w => Q e a w

theorem wpOp_QS {fin : Act → World → Prop} {i : Nat} {K : Act → World → Prop} {a : Act} {w : World} (h : wpOp P ops (NoPanic (QS fin Q)) i K a w) : wpOp P ops (NoPanic Q) i K a w := by
  have hl : LetsOut (NoPanic (QS fin Q)) → LetsOut (NoPanic Q) := fun ⟨a, w, h⟩ => ⟨a, w, h⟩
  unfold wpOp at *
  cases ho : ops[i]? with
  | none => simp only [ho] at h ⊢; exact h
  | some o =>
    simp only [ho] at h ⊢
    split
    · rename_i hw
      rw [if_pos hw] at h
      rcases h with h | ⟨h1, h2⟩
      · refine .inl ?_
        unfold Oper.wp at *
        generalize (execOp a.eval o).run P w = r at *
        cases r with
        | ok n w' =>
          cases n <;> simp only [Oper.upon] at h ⊢ <;> exact h
        | halt x w' => cases x <;> simp only [Oper.upon] at h ⊢ <;> first | exact h | exact hl h
      · exact .inr ⟨h1, hl h2⟩
    · rename_i hw
      rw [if_neg hw] at h
      exact h

/-- r waits, through others or not, for e; operations that have come up are not followed. -/
def ancD (ops : Array Oper) (D : List Nat) : Nat → Nat → Nat → Bool
  | 0, _, _ => false
  | f + 1, r, e => match ops[r]? with
    | some o => o.after.any fun x => Region.binds .any x && !D.contains x.on && (x.on == e || ancD ops D f x.on e)
    | none => false
theorem ancD_ancB {D : List Nat} : ∀ {f r e : Nat}, ancD ops D f r e = true → ancB ops f r e = true
  | 0, _, _, h => by simp [ancD] at h
  | f + 1, r, e, h => by
    unfold ancD at h
    unfold ancB
    split at h
    · rename_i o ho
      simp only [ho]
      obtain ⟨x, hx, hb⟩ := Array.any_eq_true'.1 h
      refine Array.any_eq_true'.2 ⟨x, hx, ?_⟩
      simp only [Bool.and_eq_true, Bool.or_eq_true] at hb ⊢
      exact ⟨hb.1.1, hb.2.imp id ancD_ancB⟩
    · cases h
def needD (ops : Array Oper) (D E : List Nat) (r : Nat) : Bool := !(E.all fun e => ancD ops D ops.size r e)

/-- The acting operations of a stage, one after the other. -/
def wpN (P : Program) (ops : Array Oper) (Q : Exit → Act → World → Prop) (C : World → Prop) (D E : List Nat) : List Nat → Act → World → Prop
  | [], a, w => Q .normal a w
  | r :: rest, a, w => wpOp P ops (NoPanic Q) r (fun a' w' => (needD ops D E r = true → C w') ∧ wpN P ops Q C D E rest a' w') a w
def Zd (P : Program) (ops : Array Oper) (Q : Exit → Act → World → Prop) (C : World → Prop) (D E : List Nat) (ph : Bool) (w : World) (R : List Nat) (a : Act) : Prop :=
  if ph = true then wpN P ops Q C D E R a w else ∀ w', C w' → wpN P ops Q C D E R a w'

def tailB (ops : Array Oper) (D E R : List Nat) (i : Nat) : Bool := match ops[i]? with
  | some o => o.after.any fun x => Region.binds .any x && (R.getLast? == some x.on || !(D ++ E ++ R).contains x.on)
  | none => false
/-- The closed checks of a stage. -/
def stageB (ops : Array Oper) (D E R : List Nat) : Bool :=
  Region.noSelect ops && decide ((D ++ E ++ R).Nodup) && ((List.range ops.size).all fun i => D.contains i || E.contains i || R.contains i || tailB ops D E R i)
  && E.all (predsB ops (D ++ E)) && pairB (fun y e => !Region.waitsFor .any ops y e && apartB ops y e) E
  && R.all (predsB ops (D ++ E ++ R)) && pairB (fun r s => !Region.waitsFor .any ops r s) R && chainR ops R
  && (R.all fun r => E.all fun y => apartB ops y r)
  && (E.all fun e => match ops[e]? with | some o => !isCall o || (match R with | r :: _ => ancB ops ops.size r e | [] => true) | none => false)
  && (match R.getLast? with | some b => !needD ops D E b | none => false)
  && D.all (fun d => decide (d < ops.size))

theorem stage_main {D E R : List Nat} {m : Nat} {fin : Act → World → Prop} (hB : stageB ops D E R = true) (hfin : ∀ a w, fin a w → wpAny P .any ops (NoPanic Q) m (doneL ops.size (D ++ E ++ R)) a w) : ∀ (n : Nat) (L : Array Bool) (Rd R' : List Nat) (a : Act) (w : World) (ph : Bool), R = Rd ++ R' → L.size = ops.size → Closed ops L → (∀ i, i < ops.size → (L.getD i true = true → i ∈ D ++ E ++ R) ∧ (i ∈ D → L.getD i true = true)) → (R' = [] → E.filter (unl L) = []) → (∀ r ∈ Rd, L.getD r true = true) → (∀ r ∈ R', L.getD r true = false) →
    (E.filter (unl L)).length + R'.length = n → (E.filter (unl L) ≠ [] → C w) → (ph = false → C w ∧ Rd = []) → (ph = true → ∀ e ∈ E.filter (unl L), ∀ o, ops[e]? = some o → isCall o = false) →
    wpQuiet P ops C (Zd P ops (QS fin Q) C D E ph w R') (opsAt ops (E.filter (unl L))) a → wpAny P .any ops (NoPanic Q) (n + m) L a w := by
  simp only [stageB, Bool.and_eq_true, decide_eq_true_eq, List.all_eq_true] at hB
  obtain ⟨⟨⟨⟨⟨⟨⟨⟨⟨⟨⟨hns, hndD⟩, htail⟩, hpE⟩, hpair⟩, hpR⟩, hpairR⟩, hchain⟩, hapR⟩, hcalls⟩, hlast⟩, hDlt⟩ := hB
  have hnd : (E ++ R).Nodup := by rw [List.append_assoc] at hndD; exact (List.nodup_append.1 hndD).2.1
  have hsel := Region.noSelect_spec hns
  have hpair' := pairB_spec hpair
  have hpairR' := pairB_spec hpairR
  have hndE : E.Nodup := (List.nodup_append.1 hnd).1
  have hdis : ∀ x, x ∈ E → x ∈ R → False := fun x h1 h2 => (List.nodup_append.1 hnd).2.2 x h1 x h2 rfl
  have hget : ∀ (l : List Nat) (e : Nat), predsB ops l e = true → ∃ o, ops[e]? = some o ∧ ∀ x ∈ o.after, Region.binds .any x = true → x.on ∈ l ∧ x.on ≠ e := by
    intro l e h
    unfold predsB at h
    split at h
    · rename_i o ho
      refine ⟨o, ho, fun x hx hb => ?_⟩
      have h1 := (Array.all_eq_true_iff_forall_mem.1 h) x hx
      simp only [hb, Bool.not_true, Bool.false_or, Bool.and_eq_true, List.contains_iff_mem, bne_iff_ne] at h1
      exact h1
    · cases h
  have hDl : ∀ d, d ∈ D → d < ops.size := fun d hd => by simpa using hDlt d hd
  have hEl : ∀ e, e ∈ E → e < ops.size := fun e he => by
    obtain ⟨o, ho, _⟩ := hget (D ++ E) e (hpE e he)
    exact (Array.getElem?_eq_some_iff.1 ho).1
  have hRl : ∀ e, e ∈ R → e < ops.size := fun e he => by
    obtain ⟨o, ho, _⟩ := hget (D ++ E ++ R) e (hpR e he)
    exact (Array.getElem?_eq_some_iff.1 ho).1
  have hapart : ∀ y e, apartB ops y e = true → Region.waitsFor .any ops e y = false → ∃ oy oe, ops[y]? = some oy ∧ ops[e]? = some oe ∧ oy.apart ops oe = true := by
    intro y e h hw
    unfold apartB at h
    rw [hw, Bool.false_or] at h
    split at h
    · rename_i oy oe h1 h2
      exact ⟨oy, oe, h1, h2, h⟩
    · cases h
  intro n
  induction n with
  | zero =>
    intro L Rd R' a w ph hR hsz hcl hinv hRE hRd hR' hn _ hphC _ h
    have hE0 : E.filter (unl L) = [] := List.eq_nil_of_length_eq_zero (by omega)
    have hR0 : R' = [] := List.eq_nil_of_length_eq_zero (by omega)
    subst hR0
    rw [List.append_nil] at hR
    subst hR
    rw [hE0] at h
    rw [Nat.zero_add]
    have hL : L = doneL ops.size (D ++ E ++ R) := by
      apply Array.ext
      · rw [hsz, doneL_size]
      · intro i h1 h2
        have hi : i < ops.size := by rw [← hsz]; exact h1
        rw [doneL_get _ _ _ h2]
        have hg : L.getD i true = L[i] := by simp [h1]
        rw [← hg]
        cases hx : (D ++ E ++ R).contains i with
        | true =>
          rw [List.contains_iff_mem, List.append_assoc, List.mem_append, List.mem_append] at hx
          rcases hx with hx | hx | hx
          · exact (hinv i hi).2 hx
          · cases hy : L.getD i true with
            | true => rfl
            | false =>
              have : i ∈ E.filter (unl L) := List.mem_filter.2 ⟨hx, by simp only [unl, hy, Bool.not_false]⟩
              rw [hE0] at this; cases this
          · exact hRd i hx
        | false =>
          cases hy : L.getD i true with
          | false => rfl
          | true =>
            have := (hinv i hi).1 hy
            rw [← List.contains_iff_mem, hx] at this
            cases this
    rw [hL]
    refine hfin a w ?_
    have h' : Zd P ops (QS fin Q) C D E ph w [] a := h
    unfold Zd at h'
    split at h'
    · exact h'
    · rename_i hf
      exact h' w (hphC (by simpa using hf)).1
  | succ n ih =>
    intro L Rd R' a w ph hR hsz hcl hinv hRE hRd hR' hn hCw hphC hphE h
    have hR'ne : R' ≠ [] := fun h0 => by rw [hRE h0, h0] at hn; simp at hn
    have hunE : ∀ x, x ∈ E.filter (unl L) ↔ x ∈ E ∧ L.getD x true = false := fun x => by
      rw [List.mem_filter]; simp only [unl, Bool.not_eq_true']
    -- something may come up
    have hsome : Region.ready .any ops L ≠ [] := by
      cases hE' : E.filter (unl L) with
      | cons e T =>
        have he := (hunE e).1 (by rw [hE']; simp)
        obtain ⟨o, ho, hpre⟩ := hget (D ++ E) e (hpE e he.1)
        have hpw := hpair'.filter (p := unl L)
        rw [hE'] at hpw
        have : e ∈ Region.ready .any ops L := mem_ready.2 ⟨he.2, o, ho, fun x hx hb => by
          obtain ⟨hxE, hxe⟩ := hpre x hx hb
          cases hlx : L.getD x.on false with
          | true => rfl
          | false =>
            exfalso
            rcases List.mem_append.1 hxE with hxD | hxE
            · have h9 := (hinv x.on (hDl _ hxD)).2 hxD
              rw [getD_in (by rw [hsz]; exact hDl _ hxD) hlx] at h9
              cases h9
            have hin : x.on < L.size := by rw [hsz]; exact hEl _ hxE
            have hxm : x.on ∈ E.filter (unl L) := (hunE _).2 ⟨hxE, getD_in hin hlx⟩
            rw [hE'] at hxm
            rcases List.mem_cons.1 hxm with h1 | h1
            · exact hxe h1
            · have h2 := (List.pairwise_cons.1 hpw).1 _ h1
              simp only [Bool.and_eq_true, Bool.not_eq_true'] at h2
              rw [waitsFor_of ho hx hb rfl] at h2
              cases h2.1⟩
        intro h0; rw [h0] at this; cases this
      | nil =>
        cases R' with
        | nil => rw [hE'] at hn; simp at hn
        | cons r rest =>
          have hrR : r ∈ R := by rw [hR]; simp
          obtain ⟨o, ho, hpre⟩ := hget (D ++ E ++ R) r (hpR r hrR)
          have : r ∈ Region.ready .any ops L := mem_ready.2 ⟨hR' r (by simp), o, ho, fun x hx hb => by
            obtain ⟨hxE, hxe⟩ := hpre x hx hb
            cases hlx : L.getD x.on false with
            | true => rfl
            | false =>
              exfalso
              rw [List.append_assoc] at hxE
              rcases List.mem_append.1 hxE with hxD | hxE
              · have h9 := (hinv x.on (hDl _ hxD)).2 hxD
                rw [getD_in (by rw [hsz]; exact hDl _ hxD) hlx] at h9
                cases h9
              rcases List.mem_append.1 hxE with h1 | h1
              · have hin : x.on < L.size := by rw [hsz]; exact hEl _ h1
                have : x.on ∈ E.filter (unl L) := (hunE _).2 ⟨h1, getD_in hin hlx⟩
                rw [hE'] at this; cases this
              · have hin : x.on < L.size := by rw [hsz]; exact hRl _ h1
                rw [hR] at h1
                rcases List.mem_append.1 h1 with h2 | h2
                · have := hRd _ h2
                  rw [getD_in hin hlx] at this; cases this
                · rcases List.mem_cons.1 h2 with h3 | h3
                  · exact hxe h3
                  · rw [hR] at hpairR'
                    have h4 := (List.pairwise_cons.1 (List.pairwise_append.1 hpairR').2.1).1 _ h3
                    simp only [Bool.not_eq_true'] at h4
                    rw [waitsFor_of ho hx hb rfl] at h4
                    cases h4⟩
          intro h0; rw [h0] at this; cases this
    rw [show n + 1 + m = (n + m) + 1 by omega]
    refine ⟨fun h0 => absurd h0 hsome, fun i hi => ?_⟩
    obtain ⟨hiu, oi, hoi, hall⟩ := mem_ready.1 hi
    have hilt := (Array.getElem?_eq_some_iff.1 hoi).1
    have hcl' : Closed ops (L.setIfInBounds i true) := fun j oj hj hl e he hb => by
      by_cases hij : i = j
      · subst hij
        have : oj = oi := Option.some.inj (hj.symm.trans hoi)
        subst this
        exact getD_set_true (hall e he hb)
      · rw [getD_set_ne false hij] at hl
        exact getD_set_true (hcl j oj hj hl e he hb)
    have hinv' : i ∈ E ++ R → ∀ j, j < ops.size → ((L.setIfInBounds i true).getD j true = true → j ∈ D ++ E ++ R) ∧ (j ∈ D → (L.setIfInBounds i true).getD j true = true) := fun hiER j hj => by
      by_cases hij : i = j
      · subst hij
        exact ⟨fun _ => by rw [List.append_assoc]; exact List.mem_append_right _ hiER, fun _ => by rw [← hsz] at hj; simp [hj]⟩
      · rw [getD_set_ne true hij]
        exact hinv j hj
    have hc : i ∈ E ∨ i ∈ R := by
      have hc := htail i (List.mem_range.2 hilt)
      rw [Bool.or_eq_true, Bool.or_eq_true, Bool.or_eq_true, List.contains_iff_mem, List.contains_iff_mem, List.contains_iff_mem] at hc
      rcases hc with ((hc | hc) | hc) | hc
      · rw [(hinv i hilt).2 hc] at hiu; cases hiu
      · exact .inl hc
      · exact .inr hc
      · exfalso
        unfold tailB at hc
        rw [hoi] at hc
        obtain ⟨x, hx, hb⟩ := Array.any_eq_true'.1 hc
        rw [Bool.and_eq_true, Bool.or_eq_true] at hb
        have hlx := hall x hx hb.1
        rcases hb.2 with h1 | h1
        · rw [beq_iff_eq] at h1
          have hlast' : R.getLast? = R'.getLast? := by
            rw [hR, List.getLast?_append]
            cases hz : R'.getLast? with
            | none => exact absurd (List.getLast?_eq_none_iff.1 hz) hR'ne
            | some z => rfl
          have hm : x.on ∈ R' := List.mem_of_getLast? (by rw [← hlast', ← h1])
          rw [getD_both (hR' _ hm)] at hlx
          cases hlx
        · rw [Bool.not_eq_true'] at h1
          have hlt : x.on < ops.size := by
            rcases Nat.lt_or_ge x.on L.size with h2 | h2
            · rw [← hsz]; exact h2
            · simp [Array.getElem?_eq_none h2] at hlx
          have h3 := (hinv x.on hlt).1 (by
            cases h4 : L.getD x.on true with
            | true => rfl
            | false => rw [getD_both h4] at hlx; cases hlx)
          rw [← List.contains_iff_mem] at h3
          rw [h3] at h1
          cases h1
    rcases hc with hc | hc
    · -- a quiet one
      have himem : i ∈ E.filter (unl L) := (hunE i).2 ⟨hc, hiu⟩
      obtain ⟨E1, E2, hsplit⟩ := List.append_of_mem himem
      have hiR : i ∉ R := fun h' => hdis i hc h'
      have hpw := hpair'.filter (p := unl L)
      rw [hsplit] at hpw h
      have hap : ∀ x ∈ E1, ∃ ox, ops[x]? = some ox ∧ ox.apart ops oi = true := by
        intro x hx
        have h2 := (List.pairwise_append.1 hpw).2.2 x hx i (by simp)
        simp only [Bool.and_eq_true, Bool.not_eq_true'] at h2
        have hxu : L.getD x true = false := ((hunE x).1 (by rw [hsplit]; simp [hx])).2
        obtain ⟨oy, oe, h3, h4, h5⟩ := hapart x i h2.2 (not_waits_of_ready hi hxu)
        have : oe = oi := Option.some.inj (h4.symm.trans hoi)
        subst this
        exact ⟨oy, h3, h5⟩
      have hq := quiet_front hoi hsel E1 E2 a hap h
      have hfs := filter_set (by rw [hsz]; exact hilt) hndE hsplit
      have next : ∀ (a' : Act) (w' : World), (ph = true → w' = w) → C w' → wpQuiet P ops C (Zd P ops (QS fin Q) C D E ph w R') (opsAt ops (E1 ++ E2)) a' → wpAny P .any ops (NoPanic Q) (n + m) (L.setIfInBounds i true) a' w' := by
        intro a' w' hw' hC' h'
        refine ih (L.setIfInBounds i true) Rd R' a' w' ph hR (by simpa using hsz) hcl' (hinv' (List.mem_append_left _ hc)) (fun h0 => absurd h0 hR'ne) (fun r hr => ?_) (fun r hr => ?_) ?_ (fun _ => hC') (fun hp => ⟨hC', (hphC hp).2⟩) (fun hp e he o ho => ?_) ?_
        · rw [getD_set_ne true (by rintro rfl; exact hiR (by rw [hR]; simp [hr]))]; exact hRd r hr
        · rw [getD_set_ne true (by rintro rfl; exact hiR (by rw [hR]; simp [hr]))]; exact hR' r hr
        · rw [hfs]; rw [hsplit] at hn; simp only [List.length_append, List.length_cons] at hn ⊢; omega
        · rw [hfs] at he
          exact hphE hp e (by rw [hsplit]; simp at he ⊢; rcases he with he | he <;> simp [he]) o ho
        · rw [hfs]
          refine wpQuiet_mono (fun a'' h'' => ?_) _ _ h'
          unfold Zd at *
          split
          · rename_i hp
            rw [if_pos hp] at h''
            rw [hw' hp]; exact h''
          · rename_i hp
            rw [if_neg hp] at h''
            exact h''
      have hCw' : C w := hCw (by rw [hsplit]; simp)
      cases ph with
      | false => exact wpOp_of_qOp hCw' (fun a' w' hC' h' => next a' w' (by simp) hC' h') hq
      | true =>
        exact still_of_quiet hoi (hphE rfl i himem oi hoi) hCw' (fun a' h' => next a' w (fun _ => rfl) hCw' h') hq
    · -- the next acting one
      have hiE : i ∉ E := fun h' => hdis i h' hc
      have hiR' : i ∈ R' := by
        rw [hR] at hc
        rcases List.mem_append.1 hc with h1 | h1
        · rw [hRd i h1] at hiu; cases hiu
        · exact h1
      cases R' with
      | nil => cases hiR'
      | cons r rest =>
        have hir : i = r := by
          rcases List.mem_cons.1 hiR' with h1 | h1
          · exact h1
          · exfalso
            have hch := chain_suffix Rd (r :: rest) (by rw [← hR]; exact hchain)
            obtain ⟨p, hp, hw⟩ := chain_pred hch i h1
            rw [not_waits_of_ready hi (hR' p hp)] at hw
            cases hw
        subst hir
        have hap : ∀ x ∈ E.filter (unl L), ∃ ox, ops[x]? = some ox ∧ ox.apart ops oi = true := by
          intro x hx
          have hx' := (hunE x).1 hx
          have h2 := hapR i hc x hx'.1
          obtain ⟨oy, oe, h3, h4, h5⟩ := hapart x i h2 (not_waits_of_ready hi hx'.2)
          have : oe = oi := Option.some.inj (h4.symm.trans hoi)
          subst this
          exact ⟨oy, h3, h5⟩
        have h1 : wpQuiet P ops C (fun a' => wpOp P ops (NoPanic Q) i (fun a' w' => (needD ops D E i = true → C w') ∧ wpN P ops (QS fin Q) C D E rest a' w') a' w) (opsAt ops (E.filter (unl L))) a := by
          refine wpQuiet_mono (fun a'' h'' => ?_) _ _ h
          unfold Zd at h''
          split at h''
          · exact wpOp_QS h''
          · rename_i hp
            exact wpOp_QS (h'' w (hphC (by simpa using hp)).1)
        have h2 := act_front hoi hsel (E.filter (unl L)) a hap h1
        have hfs := filter_set_not (L := L) hiE
        have hneed : E.filter (unl L) ≠ [] → needD ops D E i = true := by
          intro hne
          cases hq : needD ops D E i with
          | true => rfl
          | false =>
            exfalso
            unfold needD at hq
            simp only [Bool.not_eq_false', List.all_eq_true] at hq
            obtain ⟨e, he⟩ := List.exists_mem_of_ne_nil _ hne
            have he' := (hunE e).1 he
            have h4 := anc_listed hcl ops.size i e (fun o ho => by
              have : o = oi := Option.some.inj (ho.symm.trans hoi)
              subst this; exact hall) (ancD_ancB (hq e he'.1))
            rw [getD_both he'.2] at h4
            cases h4
        refine wpOp_mono (fun a' w' h3 => ?_) h2
        refine ih (L.setIfInBounds i true) (Rd ++ [i]) rest a' w' true (by rw [hR]; simp) (by simpa using hsz) hcl' (hinv' (List.mem_append_right _ hc)) (fun h0 => by
          rw [hfs]
          subst h0
          by_cases hne : E.filter (unl L) = []
          · exact hne
          · exfalso
            have h5 := hneed hne
            rw [hR, List.getLast?_append] at hlast
            simp only [List.getLast?_singleton, Option.some_or, Bool.not_eq_true'] at hlast
            rw [h5] at hlast
            cases hlast) (fun r hr => ?_) (fun r hr => ?_) ?_ (fun hne => ?_) (by simp) (fun _ e he o ho => ?_) ?_
        · by_cases hri : i = r
          · subst hri; rw [hsz.symm] at hilt; simp [hilt]
          · rw [getD_set_ne true hri]
            rcases List.mem_append.1 hr with h4 | h4
            · exact hRd r h4
            · simp at h4; exact absurd h4.symm hri
        · have hri : i ≠ r := by
            rintro rfl
            have : (Rd ++ i :: rest).Nodup := hR ▸ (List.nodup_append.1 hnd).2.1
            exact (List.nodup_cons.1 (List.nodup_append.1 this).2.1).1 hr
          rw [getD_set_ne true hri]; exact hR' r (by simp [hr])
        · rw [hfs]; simp only [List.length_cons] at hn; omega
        · rw [hfs] at hne
          exact (quiet_const _ _ h3) (hneed hne)
        · rw [hfs] at he
          cases ph with
          | true => exact hphE rfl e he o ho
          | false =>
            have he' := (hunE e).1 he
            have h4 := hcalls e he'.1
            rw [ho] at h4
            simp only [Bool.or_eq_true, Bool.not_eq_true'] at h4
            rcases h4 with h4 | h4
            · exact h4
            · exfalso
              have hRd0 := (hphC rfl).2
              subst hRd0
              rw [List.nil_append] at hR
              rw [hR] at h4
              have h5 := anc_listed hcl ops.size i e (fun o ho => by
                have : o = oi := Option.some.inj (ho.symm.trans hoi)
                subst this; exact hall) h4
              rw [getD_both he'.2] at h5
              cases h5
        · rw [hfs]
          refine wpQuiet_mono (fun a'' h'' => ?_) _ _ h3
          unfold Zd
          rw [if_pos rfl]
          exact h''.2


/-- The region where the operations of S have come up, m are left. -/
def wpSt (P : Program) (ops : Array Oper) (Q : Exit → Act → World → Prop) (S : List Nat) (m : Nat) (a : Act) (w : World) : Prop := wpAny P .any ops (NoPanic Q) m (doneL ops.size S) a w

theorem wpSt_end {S : List Nat} {a : Act} {w : World} (hS : ((List.range ops.size).all fun i => S.contains i) = true) (h : Q .normal a w) : wpSt P ops Q S 0 a w := by
  refine ⟨?_, h⟩
  rw [List.eq_nil_iff_forall_not_mem]
  intro i hi
  obtain ⟨h1, o, ho, _⟩ := mem_ready.1 hi
  have hlt := (Array.getElem?_eq_some_iff.1 ho).1
  rw [doneL_getD _ _ _ hlt, List.all_eq_true.1 hS i (List.mem_range.2 hlt)] at h1
  cases h1

theorem closed_done {D : List Nat} (hD : D.all (predsB ops D) = true) : Closed ops (doneL ops.size D) := by
  intro j oj hj hl e he hb
  have hjD := (doneL_true hl).2
  have h1 := List.all_eq_true.1 hD j hjD
  unfold predsB at h1
  rw [hj] at h1
  have h2 := (Array.all_eq_true_iff_forall_mem.1 h1) e he
  simp only [hb, Bool.not_true, Bool.false_or, Bool.and_eq_true, List.contains_iff_mem, bne_iff_ne] at h2
  have h3 := List.all_eq_true.1 hD e.on h2.1
  unfold predsB at h3
  split at h3
  · rename_i o ho
    rw [doneL_getD _ _ _ (Array.getElem?_eq_some_iff.1 ho).1]
    simpa using h2.1
  · cases h3

/-- One stage: first the quiet ones, none of them a call, then the acting ones. -/
theorem wp_stage {D S : List Nat} {k : Nat} {a : Act} {w : World} (E R : List Nat) (m : Nat) (C : World → Prop) (hB : stageB ops D E R = true) (hD : D.all (predsB ops D) = true) (hE : (E.all fun e => match ops[e]? with | some o => !isCall o | none => false) = true)
    (hS : D ++ E ++ R = S) (hk : E.length + R.length + m = k) (hC : C w) (h : wpQuiet P ops C (fun a' => wpN P ops (QS (wpSt P ops Q S m) Q) C D E R a' w) (opsAt ops E) a) : wpSt P ops Q D k a w := by
  subst hS
  subst hk
  have hB' := hB
  simp only [stageB, Bool.and_eq_true, decide_eq_true_eq, List.all_eq_true] at hB'
  obtain ⟨⟨⟨⟨⟨⟨⟨⟨⟨⟨⟨_, hndD⟩, _⟩, hpE⟩, _⟩, hpR⟩, _⟩, _⟩, _⟩, _⟩, hlast⟩, hDlt⟩ := hB'
  have hlt : ∀ (l : List Nat) (e : Nat), predsB ops l e = true → e < ops.size := fun l e h => by
    unfold predsB at h
    split at h
    · rename_i o ho; exact (Array.getElem?_eq_some_iff.1 ho).1
    · cases h
  rw [List.append_assoc] at hndD
  have hnd := List.nodup_append.1 hndD
  have hfresh : ∀ e, e ∈ E ++ R → e < ops.size → (doneL ops.size D).getD e true = false := fun e he hl => by
    rw [doneL_getD _ _ _ hl]
    cases hx : D.contains e with
    | false => rfl
    | true => exact absurd rfl (hnd.2.2 e (by simpa using hx) e he)
  have hall : E.filter (unl (doneL ops.size D)) = E := by
    rw [List.filter_eq_self]
    intro e he
    simp only [unl, hfresh e (List.mem_append_left _ he) (hlt _ _ (hpE e he)), Bool.not_false]
  have hRne : R ≠ [] := by rintro rfl; simp at hlast
  refine stage_main hB (fun a w h => h) (E.length + R.length) (doneL ops.size D) [] R a w true rfl (doneL_size _ _) (closed_done hD) (fun i hi => ⟨fun h1 => ?_, fun h1 => ?_⟩) (fun h0 => absurd h0 hRne) (fun r hr => by cases hr)
    (fun r hr => hfresh r (List.mem_append_right _ hr) (hlt _ _ (hpR r hr))) (by rw [hall]) (fun _ => hC) (fun h => by cases h) (fun _ e he o ho => ?_) ?_
  · rw [doneL_getD _ _ _ hi] at h1
    rw [List.append_assoc]
    exact List.mem_append_left _ (by simpa using h1)
  · rw [doneL_getD _ _ _ hi]
    simpa using h1
  · rw [hall] at he
    have h1 := List.all_eq_true.1 hE e he
    rw [ho] at h1
    simpa using h1
  · rw [hall]
    exact wpQuiet_mono (fun a' h' => by unfold Zd; rw [if_pos rfl]; exact h') _ _ h

theorem wp_region_stages {id : Nat} {a : Act} {w : World} (hm : P.follows .mixedOrders = true) (h : wpSt P ops Q [] ops.size a w.drew) : (Code.region id ops true).wp P Q a w := by
  refine wp_region_noPanic (wp_region_any hm ?_)
  have e : doneL ops.size [] = Array.replicate ops.size false := by
    apply Array.ext
    · simp [doneL_size]
    · intro i h1 h2
      rw [doneL_get]
      simp
  unfold wpSt at h
  rw [e] at h
  exact h

/-- What stands behind one acting operation. -/
def QnD (P : Program) (ops : Array Oper) (Q : Exit → Act → World → Prop) (C : World → Prop) (D E rest : List Nat) (b : Bool) : Exit → Act → World → Prop
  | .normal, a, w => (b = true → C w) ∧ wpN P ops Q C D E rest a w
  | .panic _, _, _ => False
  | e, a, w => Q e a w
theorem QnD_normal {D E rest : List Nat} {b : Bool} {a : Act} {w : World} : QnD P ops Q C D E rest b .normal a w = ((b = true → C w) ∧ wpN P ops Q C D E rest a w) := rfl

theorem wpN_nil {D E : List Nat} {a : Act} {w : World} (h : Q .normal a w) : wpN P ops Q C D E [] a w := h
theorem wpN_cons {D E rest : List Nat} {r : Nat} {o : Oper} {a : Act} {w : World} (b : Bool) (hr : ops[r]? = some o) (hb : needD ops D E r = b) (h : wpList P ops (QnD P ops Q C D E rest b) [o] a w) : wpN P ops Q C D E (r :: rest) a w := by
  unfold wpN wpOp
  simp only [hr]
  unfold wpList at h
  have hl : LetsOut (QnD P ops Q C D E rest b) → LetsOut (NoPanic Q) := fun ⟨a, w, h⟩ => ⟨a, w, h⟩
  have hk : ∀ a' w', wpList P ops (QnD P ops Q C D E rest b) [] a' w' → (needD ops D E r = true → C w') ∧ wpN P ops Q C D E rest a' w' := fun a' w' h' => by
    rw [hb]; exact h'
  split
  · rename_i hw
    rw [if_pos hw] at h
    rcases h with h | ⟨h1, h2⟩
    · refine .inl ?_
      unfold Oper.wp at *
      generalize (execOp a.eval o).run P w = r at *
      cases r with
      | ok n w' =>
        cases n <;> simp only [Oper.upon] at h ⊢
        case value u => exact hk _ _ h
        case skip => exact hk _ _ h
        case defer d => exact hk _ _ h
        case enter f args =>
          refine Calls.mono h fun e w'' he => ?_
          cases e with
          | returned u => exact hk _ _ he
          | panicked c => exact he
          | outgrown => exact hl he
        case row row args => exact Rows.mono h fun u w'' he => hk _ _ he
      | halt x w' => cases x <;> simp only [Oper.upon] at h ⊢ <;> exact h
    · exact .inr ⟨h1, hl h2⟩
  · rename_i hw
    rw [if_neg hw] at h
    exact hk _ _ h

/-- The last acting operations in one walk, where the class is not asked any more. -/
theorem wpN_list {D E : List Nat} : ∀ (R : List Nat) (a : Act) (w : World), (R.all fun r => !needD ops D E r && decide (r < ops.size)) = true → wpList P ops (NoPanic Q) (opsAt ops R) a w → wpN P ops Q C D E R a w
  | [], _, _, _, h => h
  | r :: R, a, w, hn, h => by
    rw [List.all_cons, Bool.and_eq_true] at hn
    obtain ⟨hn1, hn2⟩ := hn
    rw [Bool.and_eq_true, Bool.not_eq_true', decide_eq_true_eq] at hn1
    have hr : ops[r]? = some (ops.getD r default) := by simp [hn1.2]
    unfold wpN wpOp
    simp only [hr]
    unfold opsAt at h
    rw [List.map_cons] at h
    unfold wpList at h
    have hk : ∀ a' w', wpList P ops (NoPanic Q) (opsAt ops R) a' w' → (needD ops D E r = true → C w') ∧ wpN P ops Q C D E R a' w' := fun a' w' h' =>
      ⟨(fun h1 => by rw [hn1.1] at h1; cases h1), wpN_list R a' w' hn2 h'⟩
    split
    · rename_i hw
      rw [if_pos hw] at h
      exact h.imp (fun h => Oper.wp_mono hk h) id
    · rename_i hw
      rw [if_neg hw] at h
      exact hk _ _ h


theorem QS_normal {fin : Act → World → Prop} {a : Act} {w : World} : QS fin Q .normal a w = fin a w := rfl

end
end Go.Proofs.YtdjaphcelpchaaaGreatDoor

/- A range over a function whose iterator lays memory of its own: the law of the statement where a guard ties what is yielded to the world; drawn regions and marks within it. Over any program. -/
namespace Go.Proofs.YtdjaphcelpchaaaGreatDoor
open Go Go.RowKit Go.Proofs

/-- What an iterator may do between two rounds: all but the blocks from A to B stays. -/
structure Beside (A B : Nat) (X Y : World) : Prop where
  os : Y.os = X.os
  tape : Y.tape = X.tape
  output : Y.output = X.output
  size : X.heap.size ≤ Y.heap.size
  block : ∀ k, k < X.heap.size → (k < A ∨ B ≤ k) → Y.heap[k]? = X.heap[k]?
theorem Beside.refl (A B : Nat) (X : World) : Beside A B X X := ⟨rfl, rfl, rfl, Nat.le_refl _, fun _ _ _ => rfl⟩
theorem Beside.trans {A B : Nat} {X Y Z : World} (h : Beside A B X Y) (k : Beside A B Y Z) : Beside A B X Z :=
  ⟨k.os.trans h.os, k.tape.trans h.tape, k.output.trans h.output, Nat.le_trans h.size k.size, fun i hi hn => (k.block i (Nat.lt_of_lt_of_le hi h.size) hn).trans (h.block i hi hn)⟩
theorem Beside.mono {A A' B B' : Nat} {X Y : World} (h : Beside A B X Y) (hA : A' ≤ A) (hB : B ≤ B') : Beside A' B' X Y :=
  ⟨h.os, h.tape, h.output, h.size, fun k hk hn => h.block k hk (by rcases hn with hn | hn; exact .inl (by omega); exact .inr (by omega))⟩
theorem Beside.of_below {A B : Nat} {X Y : World} (h : Below X.heap.size X Y) : Beside A B X Y := ⟨h.os, h.tape, h.output, h.size, fun k hk _ => h.block k hk⟩
theorem Beside.below {A B : Nat} {X Y : World} (h : Beside A B X Y) (hA : A ≤ X.heap.size) : Below A X Y := ⟨h.os, h.tape, h.output, h.size, fun k hk => h.block k (by omega) (.inl hk)⟩
theorem Beside.grown {A B : Nat} {X Y Z : World} {row : Option Nat} (h : Beside A B X Y) (hg : Y.grownBy Z row) (hr : ∀ k, row = some k → (A ≤ k ∧ k < B) ∨ X.heap.size ≤ k) : Beside A B X Z :=
  ⟨hg.os.trans h.os, hg.tape.trans h.tape, hg.output.trans h.output, Nat.le_trans h.size hg.size, fun k hk hn => (hg.block k (Nat.lt_of_lt_of_le hk h.size) (fun e => by rcases hr k e.symm with h1 | h1 <;> omega)).trans (h.block k hk hn)⟩
theorem Beside.putObj {A B : Nat} (X : World) (l : Nat) (o : Obj) (h : A ≤ l ∧ l < B) : Beside A B X (X.putObj l o) := (Beside.refl A B X).grown (grownBy_putObj' X l o) (fun k e => by cases e; exact .inl h)

section
variable {F : Fence} {n : Nat} {P : Program}

/-- An iterator against whatever its caller keeps: J between rounds, Jx behind a round that has ended the loop; B: where the heap ended at the first round; Gd: what holds of what is yielded; Kp: what a round keeps for the iterator. -/
def SeqG {α : Type} (F : Fence) (n : Nat) (P : Program) (g : Nat) (lb : Array Value) (encs : α → Array Value) (Gd : Nat → Nat → List α → α → World → Prop) (Kp : Nat → Nat → α → World → World → Prop) (S : List α → Prop) (W : World) : Prop :=
  ∀ (l : Nat) (J Jx : Nat → List α → World → Prop),
    (∀ B pre X Y, J B pre X → W.heap.size ≤ B → B ≤ X.heap.size → Beside W.heap.size B X Y → J B pre Y) → (∀ B pre X Y, Jx B pre X → W.heap.size ≤ B → B ≤ X.heap.size → Beside W.heap.size B X Y → Jx B pre Y) →
    (∀ X, Below W.heap.size W X → J X.heap.size [] X) →
    (∀ B pre x X, J B pre X → W.heap.size ≤ B → B ≤ X.heap.size → Gd W.heap.size B pre x X → YieldAt F (n - 1) P l (encs x) X fun e X' =>
      (e = .returned (.bool true) ∧ J B (pre ++ [x]) X' ∧ Kp W.heap.size B x X X') ∨ (e = .returned (.bool false) ∧ Jx B (pre ++ [x]) X')) →
    CallsIn F n P g (#[.func (.yield l) #[] #[]] ++ lb) W fun e W' => (∃ v, e = .returned v) ∧ ((∃ B xs, W.heap.size ≤ B ∧ B ≤ W'.heap.size ∧ S xs ∧ J B xs W') ∨ (∃ B pre, W.heap.size ≤ B ∧ Jx B pre W'))

/-- What a round must leave of the loop's own two blocks. -/
def Keeps2 (A : Nat) (W W' : World) : Prop := W.heap.size ≤ W'.heap.size ∧ ∀ k, A ≤ k → k < A + 2 → W'.heap[k]? = W.heap[k]?
/-- How the body of a round may be left. -/
def postG {α : Type} (A : Nat) (Kp : Nat → Nat → α → World → World → Prop) (I : Nat → List α → World → Prop) (Ix : Code → Nat → List α → World → Prop) (B : Nat) (pre : List α) (x : α) (W : World) : Exit → Act → World → Prop
  | .normal, _, W' => Keeps2 A W W' ∧ Kp (A + 2) B x W W' ∧ I B (pre ++ [x]) W'
  | .ret, _, W' => Keeps2 A W W' ∧ Ix .ret B (pre ++ [x]) W'
  | .exit id, _, W' => Keeps2 A W W' ∧ Ix (.exit id) B (pre ++ [x]) W'
  | .goto t, _, W' => Keeps2 A W W' ∧ Ix (.goto t) B (pre ++ [x]) W'
  | .panic _, _, _ => False
  | .outgrown, _, _ => False

theorem wpIn_rangeFunc_guard {α : Type} {g : Operand} {ps : Array Tmp} {assign body : Code} {Q : Exit → Act → World → Prop} {a : Act} {w : World}
    (hro : F.round = none) (h1 : 1 ≤ n) {gf : Nat} {lb : Array Value} (hg : a.eval g = .func (.func gf) #[] lb) (hFg : F.fn gf) (eg : ∀ args w, (callFunc gf args).run P w = .ok (.enter gf args) w)
    {encs : α → Array Value} {Gd : Nat → Nat → List α → α → World → Prop} {Kp : Nat → Nat → α → World → World → Prop} {S : List α → Prop}
    (hseq : ∀ W, Below w.heap.size w W → W.heap.size = w.heap.size + 2 → SeqG F (n - 1) P gf lb encs Gd Kp S W)
    (hKl : ∀ B x X Y Z l o, w.heap.size ≤ l → l < w.heap.size + 2 → Kp (w.heap.size + 2) B x Y Z → Y = X.putObj l o → Kp (w.heap.size + 2) B x X Z)
    (hKr : ∀ B x X Y l o, w.heap.size ≤ l → l < w.heap.size + 2 → Kp (w.heap.size + 2) B x X Y → Kp (w.heap.size + 2) B x X (Y.putObj l o))
    (hps : ∀ x, (encs x).size = ps.size)
    (I : Nat → List α → World → Prop) (Ix : Code → Nat → List α → World → Prop) (hI : ∀ B pre X Y, I B pre X → w.heap.size + 2 ≤ B → B ≤ X.heap.size → Beside w.heap.size B X Y → I B pre Y) (hIx : ∀ c B pre X Y, Ix c B pre X → w.heap.size + 2 ≤ B → B ≤ X.heap.size → Beside w.heap.size B X Y → Ix c B pre Y)
    (h0 : ∀ X, Below w.heap.size w X → w.heap.size + 2 ≤ X.heap.size → I X.heap.size [] X)
    (Ax : Nat → List α → α → Act → World → Prop)
    (hassign : ∀ (l : Nat) (B : Nat) (pre : List α) (x : α) (W : World) (K : Act → World → Prop), I B pre W → w.heap.size + 2 ≤ B → B ≤ W.heap.size → Gd (w.heap.size + 2) B pre x W →
      (∀ a' W', Ax B pre x a' W' → Below W.heap.size W W' → K a' W') →
      assign.wpIn (F.inRound l) (n - 1 - 1) P (Exit.then K (fun _ _ _ => False)) { tmps := (ps.zip (encs x)).foldl (fun t (p, v) => t.setIfInBounds p v) a.tmps, defers := [] } W)
    (hAx : ∀ B pre x a' X l o, Ax B pre x a' X → w.heap.size ≤ l → l < w.heap.size + 2 → Ax B pre x a' (X.putObj l o))
    (hKa : ∀ B x X Y Z, Below X.heap.size X Y → B ≤ X.heap.size → Kp (w.heap.size + 2) B x Y Z → Kp (w.heap.size + 2) B x X Z)
    (hbody : ∀ (l B : Nat) (pre : List α) (x : α) (a' : Act) (W : World), l = w.heap.size + 1 → w.heap.size + 2 ≤ B → B ≤ W.heap.size → Ax B pre x a' W → body.wpIn (F.inRound l) (n - 1 - 1) P (postG w.heap.size Kp I Ix B pre x W) a' W)
    (hdone : ∀ (B : Nat) (xs : List α) (W : World), w.heap.size + 2 ≤ B → B ≤ W.heap.size → S xs → I B xs W → W.heap[w.heap.size]? = some (.deferred (some [])) → Q .normal { a with defers := { target := .collected w.heap.size, args := #[] } :: a.defers } W)
    (hstop : ∀ (c : Code) (B : Nat) (pre : List α) (W : World), w.heap.size + 2 ≤ B → Ix c B pre W → W.heap[w.heap.size]? = some (.deferred (some [])) → c.wpIn F n P Q { a with defers := { target := .collected w.heap.size, args := #[] } :: a.defers } W)
    (hsz : ∀ c B pre W, Ix c B pre W → B ≤ W.heap.size) :
    (Code.rangeFunc g ps assign body).wpIn F n P Q a w := by
  refine wpIn_rangeFunc ?_
  intro fn hfn
  rw [hro]
  obtain ⟨rec, hrec⟩ : ∃ rec : LoopState → Option Code → Loop, rec = fun st pe => { state := st, pending := pe, fn, tmps := a.tmps, params := ps, assign, body, defers := w.heap.size } := ⟨_, rfl⟩
  obtain ⟨W1, hW1⟩ : ∃ W1, (w.alloc (.deferred (some []))).alloc (.loop (rec .ready none)) = W1 := ⟨_, rfl⟩
  have hs1 : W1.heap.size = w.heap.size + 2 := by rw [← hW1]; simp
  have hL1 : W1.heap[w.heap.size + 1]? = some (.loop (rec .ready none)) := by
    rw [← hW1]; have := World.alloc_heap_new (w.alloc (.deferred (some []))) (.loop (rec .ready none)); rwa [World.size_alloc] at this
  have hK1 : W1.heap[w.heap.size]? = some (.deferred (some [])) := by
    rw [← hW1]; exact (Below.heap_alloc _ _ _ (by simp)).trans (World.alloc_heap_new w _)
  have hb1 : Below w.heap.size w W1 := by
    rw [← hW1]; exact ((Below.refl _ w).alloc (Nat.le_refl _) _).alloc (by simp) _
  refine ⟨w.heap.size + 1, [{ target := .collected w.heap.size, args := #[] }], W1, { target := .fn (.func gf) lb, args := #[.func (.yield (w.heap.size + 1)) #[] #[]] }, W1, gf,
    #[.func (.yield (w.heap.size + 1)) #[] #[]] ++ lb, W1, ?_, ?_, ?_, ?_, fun _ => h1, ?_⟩
  · rw [← hW1, hrec]; exact run_enterLoop_outer _ _ _ _ _
  · simp only [resolve, hg]
    simp [go_sem]
  · intro f' hf'; simp [Target.leads] at hf'; subst hf'; exact hFg
  · simp [invoke, go_sem, eg]
  · refine (hseq W1 hb1 hs1 (w.heap.size + 1)
      (fun B pre W => I B pre W ∧ W.heap[w.heap.size + 1]? = some (.loop (rec .ready none)) ∧ W.heap[w.heap.size]? = some (.deferred (some [])))
      (fun B pre W => ∃ c, Ix c B pre W ∧ W.heap[w.heap.size + 1]? = some (.loop (rec .done (some c))) ∧ W.heap[w.heap.size]? = some (.deferred (some [])))
      ?_ ?_ ?_ ?_).mono ?_
    · rintro B pre X Y ⟨hi, hl, hk⟩ hB hX hst
      rw [hs1] at hB hst
      exact ⟨hI B pre X Y hi hB hX (hst.mono (by omega) (Nat.le_refl _)), (hst.block _ (Array.getElem?_eq_some_iff.1 hl).1 (.inl (by omega))).trans hl, (hst.block _ (Array.getElem?_eq_some_iff.1 hk).1 (.inl (by omega))).trans hk⟩
    · rintro B pre X Y ⟨c, hi, hl, hk⟩ hB hX hst
      rw [hs1] at hB hst
      exact ⟨c, hIx c B pre X Y hi hB hX (hst.mono (by omega) (Nat.le_refl _)), (hst.block _ (Array.getElem?_eq_some_iff.1 hl).1 (.inl (by omega))).trans hl, (hst.block _ (Array.getElem?_eq_some_iff.1 hk).1 (.inl (by omega))).trans hk⟩
    · intro X hX
      rw [hs1] at hX
      exact ⟨h0 X (hb1.trans (hX.mono (by omega))) (by have := hX.size; omega), (hX.block _ (by omega)).trans hL1, (hX.block _ (by omega)).trans hK1⟩
    · -- one round
      rintro B pre x W ⟨hi, hl, hk⟩ hB hBW hgd
      rw [hs1] at hB hgd ⊢
      have hy := run_yield (P := P) (args := encs x) hl (by rw [hrec]; exact hps x)
      rw [hrec] at hy
      refine ⟨fn, _, assign, body, hy, roundIn_of_wpIn hfn (hassign _ B pre x W _ hi hB hBW hgd ?_)⟩
      clear hy
      intro a' Wa hax hba
      have hla := (hba.block _ (Array.getElem?_eq_some_iff.1 hl).1).trans hl
      have hka := (hba.block _ (Array.getElem?_eq_some_iff.1 hk).1).trans hk
      have hlt : w.heap.size + 1 < Wa.heap.size := (Array.getElem?_eq_some_iff.1 hla).1
      refine ⟨_, run_beginRound hla (by rw [hrec]), ?_⟩
      have hl2 : (Wa.putObj (w.heap.size + 1) (.loop { rec .ready none with state := .busy })).heap[w.heap.size + 1]? = some (.loop { rec .ready none with state := .busy }) := World.putObj_heap_same hlt
      have hk2 : (Wa.putObj (w.heap.size + 1) (.loop { rec .ready none with state := .busy })).heap[w.heap.size]? = some (.deferred (some [])) := (World.putObj_heap_other (by omega)).trans hka
      have hszp : (Wa.putObj (w.heap.size + 1) (.loop { rec .ready none with state := .busy })).heap.size = Wa.heap.size := by simp [World.putObj]
      refine wpIn_mono (hbody _ B pre x a' _ rfl hB (by rw [hszp]; have := hba.size; omega) (hAx B pre x a' Wa _ _ hax (by omega) (by omega))) ?_
      have fin : ∀ (jump : Option Code) (W3 : World), Keeps2 w.heap.size (Wa.putObj (w.heap.size + 1) (.loop { rec .ready none with state := .busy })) W3 →
          (Instr.endRound (w.heap.size + 1) jump).run P W3 = .ok (.bool jump.isNone) (W3.putObj (w.heap.size + 1) (.loop (rec (if jump.isNone then .ready else .done) jump))) ∧
          (W3.putObj (w.heap.size + 1) (.loop (rec (if jump.isNone then .ready else .done) jump))).heap[w.heap.size + 1]? = some (.loop (rec (if jump.isNone then .ready else .done) jump)) ∧
          (W3.putObj (w.heap.size + 1) (.loop (rec (if jump.isNone then .ready else .done) jump))).heap[w.heap.size]? = some (.deferred (some [])) ∧ B ≤ W3.heap.size := fun jump W3 hk3 => by
        have hl3 := (hk3.2 _ (by omega) (by omega)).trans hl2
        have := run_endRound (P := P) jump hl3
        rw [hrec] at this ⊢
        exact ⟨this, World.putObj_heap_same (Array.getElem?_eq_some_iff.1 hl3).1, (World.putObj_heap_other (by omega)).trans ((hk3.2 _ (Nat.le_refl _) (by omega)).trans hk2), by have h7 := hk3.1; rw [hszp] at h7; have := hba.size; omega⟩
      rintro e a3 W3 hp
      cases e with
      | normal =>
        obtain ⟨hk3, hkp3, hi3⟩ := hp
        obtain ⟨hr, hl4, hk4, hB3⟩ := fin none W3 hk3
        refine ⟨_, _, hr, .inl ⟨rfl, ⟨hI B _ _ _ hi3 hB hB3 (Beside.putObj _ _ _ ⟨by omega, by omega⟩), hl4, hk4⟩, ?_⟩⟩
        exact hKr B x W W3 _ _ (by omega) (by omega) (hKa B x W Wa W3 hba hBW (hKl B x Wa _ W3 _ _ (by omega) (by omega) hkp3 rfl))
      | ret =>
        obtain ⟨hk3, hi3⟩ := hp
        obtain ⟨hr, hl4, hk4, hB3⟩ := fin (some .ret) W3 hk3
        exact ⟨_, _, hr, .inr ⟨rfl, .ret, hIx _ B _ _ _ hi3 hB hB3 (Beside.putObj _ _ _ ⟨by omega, by omega⟩), hl4, hk4⟩⟩
      | exit id =>
        obtain ⟨hk3, hi3⟩ := hp
        obtain ⟨hr, hl4, hk4, hB3⟩ := fin (some (.exit id)) W3 hk3
        exact ⟨_, _, hr, .inr ⟨rfl, .exit id, hIx _ B _ _ _ hi3 hB hB3 (Beside.putObj _ _ _ ⟨by omega, by omega⟩), hl4, hk4⟩⟩
      | goto t =>
        obtain ⟨hk3, hi3⟩ := hp
        obtain ⟨hr, hl4, hk4, hB3⟩ := fin (some (.goto t)) W3 hk3
        exact ⟨_, _, hr, .inr ⟨rfl, .goto t, hIx _ B _ _ _ hi3 hB hB3 (Beside.putObj _ _ _ ⟨by omega, by omega⟩), hl4, hk4⟩⟩
      | panic ch => exact hp.elim
      | outgrown => exact hp.elim
    · -- behind the iterator
      rintro e W2 ⟨⟨v, rfl⟩, (⟨B, xs, hB, hBW, hS, hi, hl, hk⟩ | ⟨B, pre, hB, c, hi, hl, hk⟩)⟩
      · rw [hs1] at hB
        refine ⟨none, _, by have := run_endLoop (P := P) hl (by rw [hrec]; simp); rw [hrec] at this; exact this, hdone B xs _ hB (by simpa [World.putObj] using hBW) hS (hI B xs _ _ hi hB hBW (Beside.putObj _ _ _ ⟨by omega, by omega⟩)) ((World.putObj_heap_other (by omega)).trans hk)⟩
      · rw [hs1] at hB
        exact ⟨some c, _, by have := run_endLoop (P := P) hl (by rw [hrec]; simp); rw [hrec] at this; exact this, hstop c B pre _ hB (hIx c B pre _ _ hi hB (hsz c B pre _ hi) (Beside.putObj _ _ _ ⟨by omega, by omega⟩)) ((World.putObj_heap_other (by omega)).trans hk)⟩

/-- A drawn region within a round: out of the walk elsewhere. -/
theorem wpOpIn_round {ops : Array Oper} {l m : Nat} {Q : Exit → Act → World → Prop} (hd : ∀ (j : Nat) (o : Oper) c, ops[j]? = some o → o.op ≠ .defer c) {i : Nat} {K K' : Act → World → Prop} {a : Act} {w : World} (hlo : ¬ LetsOut Q) (hK : ∀ a w, K a w → K' a w) (h : wpOp P ops Q i K a w) : wpOpIn (Fence.wide.inRound l) m P ops Q i K' a w := by
  unfold wpOp at h
  unfold wpOpIn
  split at h
  · rename_i ho; simp only [ho]; exact hK _ _ h
  · rename_i o ho
    simp only [ho]
    split at h
    · rename_i hw
      simp only [hw, if_true]
      unfold Oper.wp at h
      refine ⟨fun _ _ => trivial, ?_⟩
      have e : o.semAt (Fence.wide.inRound l).round a.eval = execOp a.eval o := Oper.semAt_some l _ _ (fun c => hd i o c ho)
      rw [e]
      replace h := h.resolve_right fun hx => hlo hx.2
      generalize (execOp a.eval o).run P w = r at h ⊢
      unfold Oper.upon at h
      unfold Oper.uponIn
      split at h
      · exact hK _ _ h
      · exact hK _ _ h
      · exact hK _ _ h
      · refine ⟨fun hx => (by cases hx), CallsIn.inRound l (callsIn_wide.2 (h.mono fun e w' he => ?_))⟩
        cases e with
        | returned v => exact hK _ _ he
        | panicked c => exact he
        | outgrown => exact he
      · exact ⟨fun hx => (by cases hx), fun c cs _ => let ⟨v, w', hr, hs⟩ := h c cs; ⟨v, w', hK _ _ hr, stepsIn_wide.2 hs⟩⟩
      · exact h
      · exact h.elim
    · rename_i hw
      simp only [hw]
      exact ⟨fun _ _ => trivial, hK _ _ h⟩
theorem wpAnyIn_round {ops : Array Oper} {l m : Nat} {md : Region.Mode} {Q : Exit → Act → World → Prop} (hd : ∀ (j : Nat) (o : Oper) c, ops[j]? = some o → o.op ≠ .defer c) (hlo : ¬ LetsOut Q) : ∀ (fuel : Nat) (L : Array Bool) (a : Act) (w : World), wpAny P md ops Q fuel L a w → wpAnyIn (Fence.wide.inRound l) m P md ops Q fuel L a w
  | 0, _, _, _, h => h
  | fuel + 1, _, _, _, h => ⟨h.1, fun i hi => wpOpIn_round hd hlo (wpAnyIn_round hd hlo fuel _) (h.2 i hi)⟩
def noDefer (ops : Array Oper) : Bool := ops.all fun o => match o.op with | .defer _ => false | _ => true
theorem noDefer_spec {ops : Array Oper} (h : noDefer ops = true) : ∀ (j : Nat) (o : Oper) c, ops[j]? = some o → o.op ≠ .defer c := fun j o c ho e => by
  unfold noDefer at h
  rw [Array.all_eq_true] at h
  obtain ⟨hj, rfl⟩ := Array.getElem?_eq_some_iff.1 ho
  have := h j hj
  rw [e] at this
  cases this
/-- A drawn region in stages, within a round. -/
theorem wpIn_region_stages {ops : Array Oper} {l m id : Nat} {Q : Exit → Act → World → Prop} {a : Act} {w : World} (hd : noDefer ops = true) (hlo : ¬ LetsOut (NoPanic Q)) (hm : P.follows .mixedOrders = true) (h : wpSt P ops Q [] ops.size a w.drew) : (Code.region id ops true).wpIn (Fence.wide.inRound l) m P Q a w := by
  refine wpIn_mono (wpIn_region_any (Q := NoPanic Q) hm (wpAnyIn_round (noDefer_spec hd) hlo _ _ _ _ ?_)) NoPanic.imp
  have e : doneL ops.size [] = Array.replicate ops.size false := by
    apply Array.ext
    · simp [doneL_size]
    · intro i h1 h2
      rw [doneL_get]
      simp
  unfold wpSt at h
  rw [e] at h
  exact h
/-- Marks at a function's end. -/
theorem leaves_marks {fn : Func} {tmps : Array Value} {R : Ending → World → Prop} : ∀ (Ds : List Nat) (w : World), Ds.Nodup → (∀ D ∈ Ds, w.heap[D]? = some (.deferred (some []))) → (∀ w', w'.os = w.os → w'.tape = w.tape → w'.output = w.output → w'.heap.size = w.heap.size → (∀ k, k ∉ Ds → w'.heap[k]? = w.heap[k]?) → LeavesIn F n P fn tmps R [] .returning w') → LeavesInM F n P fn tmps R (Ds.map fun D => { target := .collected D, args := #[] }) .returning w
  | [], w, _, _, h => h w rfl rfl rfl rfl (fun _ _ => rfl)
  | D :: Ds, w, hn, hd, h => by
    rw [List.nodup_cons] at hn
    refine ⟨by simp, .inl ⟨D, _, rfl, run_takeDeferred (hd D (by simp)), leaves_marks Ds _ hn.2 (fun E hE => ?_) (fun w' e1 e2 e3 e4 e5 => ?_)⟩⟩
    · exact (World.putObj_heap_other (by intro e; subst e; exact hn.1 hE)).trans (hd E (by simp [hE]))
    · refine h w' e1 e2 e3 (by simpa [World.putObj] using e4) fun k hk => ?_
      rw [List.mem_cons, not_or] at hk
      exact (e5 k hk.2).trans (World.putObj_heap_other hk.1)
end

end Go.Proofs.YtdjaphcelpchaaaGreatDoor

/- (*overview.Index).Groups: the names, each once, in order. -/
namespace Go.Proofs.YtdjaphcelpchaaaGreatDoor
open Go Go.RowKit Go.Proofs

/-- A slice of strings in memory: nil, or the head of a block at or beyond B. -/
def StrsAt (B : Nat) (w : World) (v : Value) (xs : List ByteArray) : Prop := (xs = [] ∧ v = .slice none 0 0) ∨ ∃ b c, v = .slice (some ⟨b, 0, none⟩) xs.length c ∧ xs.length ≤ c ∧ StrRow w b 0 xs ∧ B ≤ b ∧ b < w.heap.size
theorem StrsAt.below {B : Nat} {w w' : World} {v : Value} {xs : List ByteArray} (h : StrsAt B w v xs) (hb : Below w.heap.size w w') : StrsAt B w' v xs := by
  rcases h with h | ⟨b, c, e, hc, hr, hB, hl⟩
  · exact .inl h
  · exact .inr ⟨b, c, e, hc, hr.below' hb hl, hB, Nat.lt_of_lt_of_le hl hb.size⟩
theorem StrsAt.slice {B : Nat} {w : World} {v : Value} {xs : List ByteArray} (h : StrsAt B w v xs) : ∃ a c, v = .slice a xs.length c := by
  rcases h with ⟨e, h⟩ | ⟨b, c, e, _⟩
  · exact ⟨none, 0, by rw [h, e]; rfl⟩
  · exact ⟨_, _, e⟩

/-- A name that is not too long. -/
def SName : Type := { s : ByteArray // s.size ≤ 100000 }
instance : Inhabited SName := ⟨⟨⟨#[]⟩, by decide⟩⟩
def mkN (s : ByteArray) (h : s.size ≤ 100000) : SName := ⟨s, h⟩
def encN (x : SName) : Value := .string x.1
def cfN (x y : SName) : Int := cmpN x.1 y.1
theorem swoN : Go.Sort.SWO (ltOf cfN) where
  irrefl x := by unfold ltOf cfN; rw [cmpN_refl]; rfl
  trans x y z h1 h2 := by
    unfold ltOf cfN at *
    rw [decide_eq_true_eq] at *
    exact cmpN_trans h1 h2
  ntrans x y z h1 h2 := by
    unfold ltOf cfN at *
    rw [decide_eq_false_iff_not] at *
    intro h3
    by_cases h : cmpN y.1 x.1 < 0
    · exact h2 (cmpN_trans h h3)
    · exact h2 (cmpN_total h1 h ▸ h3)

theorem below_sortWorld (w : World) (blk off m : Nat) (dk : Array SName) (os : Array Obj) (hb : blk ≤ w.heap.size) : Below blk w (sortWorld encN w blk off m dk os) where
  os := rfl
  tape := rfl
  output := rfl
  size := by simp [sortWorld]
  block k hk := by
    unfold sortWorld
    rw [Go.Sort.heap_grow_old _ _ (by simp; omega)]
    unfold Go.Sort.putRow Go.Sort.mapBlock
    simp only [Array.getElem?_modify]
    rw [if_neg (by omega)]
    rfl

theorem cmpLays (w : World) (hG : Gl w) (blk off n : Nat) (hb : Tryz.prog.globals.size ≤ blk) (hbl : blk ≤ w.heap.size) : CmpLays1 Tryz.prog 86 #[] encN cfN blk off n w := fun m os dk _ x y => by
  refine (compare_any x.1 y.1 (sortWorld encN w blk off m dk os) (hG.below (below_sortWorld w blk off m dk os hbl) hb) x.2 y.2).mono ?_
  rintro e w' ⟨rfl, _, rfl⟩
  refine ⟨rfl, 0, #[.cells ((splitS 46 x.1).map Value.string).toArray 9, .cells ((splitS 46 y.1).map Value.string).toArray 9], ?_⟩
  rw [Go.Sort.alloc_eq_grow, Go.Sort.alloc_eq_grow, Go.Sort.grow_grow]
  rfl

/-- The map of the groups, as the shelf's contracts speak of it. -/
def anyElem (_ : Value) : Option (DataW Unit × List MemPlace) := some (.nil, [])
def datumP (P : Program) (gs : List MG) : DataW Unit := .map (((gs.map fun G => enE ekS G.e).map (Go.WideElems.rg P 9 anyElem)).foldr DataW.insert [])
theorem name_size {s : ByteArray} (h : nameErr s = 0) : s.size ≤ 80 := by
  unfold nameErr at h
  split at h
  · cases h
  · omega
theorem rg_name (G : MG) (h : nameErr G.name = 0) : Go.WideElems.rd Tryz.prog 9 anyElem (enE ekS G.e) = some (.string G.name.data.toList, .nil) := by
  have hs := name_size h
  have hk : Go.keyOf Tryz.prog 9 (.string G.name) = some (.string G.name.data.toList) := Go.WideMaps.keyOf_string_mk Tryz.underlying9 (by unfold maxLen; omega)
  unfold Go.WideElems.rd
  show (Go.keyOf Tryz.prog 9 (.string G.name)).bind _ = _
  rw [hk]
  rfl
theorem IdxAt.owns {B : Nat} {w : World} {ib M mc : Nat} {gs : List MG} (h : IdxAt B w ib M gs mc) (hn : gs.length ≤ 65536) : w.ownsMap Tryz.prog 9 anyElem M gs.length (datumP Tryz.prog gs) := by
  refine ⟨_, mc, h.map, ⟨?_, ⟨?_, ?_, ?_⟩, ?_⟩, by simp, ?_⟩
  · simp; unfold maxLen; omega
  · intro x hx
    simp only [List.map_map, List.mem_map, Function.comp] at hx
    obtain ⟨G, hG, rfl⟩ := hx
    exact h.young G hG
  · simp only [List.map_map]
    exact h.born
  · simp only [List.map_map]
    have : (gs.map fun G => Value.string G.name).Nodup := by
      have := h.names
      unfold List.Nodup at *
      rw [List.pairwise_map] at *
      exact this.imp fun hne e => hne (Value.string.inj e)
    exact this
  · intro x hx
    simp only [List.map_map, List.mem_map, Function.comp] at hx
    obtain ⟨G, hG, rfl⟩ := hx
    exact ⟨_, rg_name G (h.grps G hG).named⟩
  · unfold datumP
    simp [List.map_map, Function.comp_def]
theorem strKeys_datum {B : Nat} {w : World} {ib M mc : Nat} {gs : List MG} (h : IdxAt B w ib M gs mc) : (Go.strKeys (datumP Tryz.prog gs)).Perm (gs.map fun G => G.name.data.toList) := by
  unfold datumP Go.strKeys
  refine ((Go.WideShapes.sorted_perm _).map _).trans ?_
  rw [List.map_map, List.map_map]
  refine List.Perm.of_eq (List.map_congr_left fun G hG => ?_)
  simp only [Function.comp]
  unfold Go.WideElems.rg
  rw [rg_name G (h.grps G hG).named]
  rfl
theorem size_datum (gs : List MG) : Go.Maps.size (datumP Tryz.prog gs) = gs.length := by
  unfold datumP
  rw [Go.Maps.size_eq, length_sorted]
  simp
theorem length_le_total' : ∀ {gs : List MG}, (∀ G ∈ gs, G.ms ≠ []) → gs.length ≤ total gs
  | [], _ => Nat.zero_le _
  | G :: gs, h => by
    have h1 := length_le_total' (gs := gs) (fun K hK => h K (by simp [hK]))
    have h2 : 0 < G.ms.length := List.length_pos_iff.2 (h G (by simp))
    unfold total at *
    rw [List.map_cons, List.sum_cons, List.length_cons]
    omega
theorem IdxAt.groups {B : Nat} {w : World} {ib M mc : Nat} {gs : List MG} (h : IdxAt B w ib M gs mc) : gs.length ≤ 65536 :=
  Nat.le_trans (length_le_total' fun G hG => (h.grps G hG).some') h.few

/-- What Groups answers. -/
def GroupsPost (gs : List MG) (w : World) (r : Ending) (w' : World) : Prop := ∃ v ns, r = .returned v ∧ StrsAt w.heap.size w' v ns ∧ ordN ns ∧ (∀ t, t ∈ ns ↔ ∃ G ∈ gs, G.name = t) ∧ Below w.heap.size w w'

theorem pmap_mkN : ∀ (ss : List ByteArray) (hd : ∀ s ∈ ss, s.size ≤ 100000), ss.pmap (fun a h => (mkN a h).1) hd = ss
  | [], _ => rfl
  | s :: ss, hd => by
    rw [List.pmap_cons, pmap_mkN ss]
    rfl
/-- A row of strings sorted. -/
theorem sorted_row {w w' : World} {blk : Nat} {ss : List ByteArray} (hd : ∀ s ∈ ss, s.size ≤ 100000) (hn : ss.Nodup) (_hr : StrRow w blk 0 ss) (hb : blk < w.heap.size) (d' : Array SName) (n : Nat) (os : Array Obj)
    (hH : Go.Sort.Holds encN w blk 0 (ss.pmap mkN hd).toArray)
    (hp : Go.Sort.PermIn 0 (ss.pmap mkN hd).toArray.size (ss.pmap mkN hd).toArray d') (hs : Go.Sort.SortedIn (ltOf cfN) 0 (ss.pmap mkN hd).toArray.size d') (hw : w' = sortWorld encN w blk 0 n d' os) :
    ∃ ns : List ByteArray, ns.length = ss.length ∧ StrRow w' blk 0 ns ∧ ordN ns ∧ ∀ t, t ∈ ns ↔ t ∈ ss := by
  obtain ⟨hsz, _, hperm⟩ := hp
  have hsz' : d'.size = ss.length := by rw [hsz]; simp
  have e1 : d'.extract 0 ((ss.pmap mkN hd).toArray).size = d' := by rw [← hsz]; exact Array.extract_size
  rw [e1, Array.extract_size] at hperm
  have hpn : (d'.toList.map (·.1)).Perm ss := by
    have := hperm.map (fun x : SName => x.1)
    rw [List.toList_toArray, List.map_pmap] at this
    exact pmap_mkN ss hd ▸ this
  refine ⟨d'.toList.map (·.1), by simp [hsz'], ?_, ?_, fun t => hpn.mem_iff⟩
  · intro k x hx
    have hk : k < d'.size := by
      have := (List.getElem?_eq_some_iff.1 hx).1
      simpa using this
    have h1 := (Go.Proofs.holds_sortWorld encN w blk 0 n _ d' os hb hH hsz) k hk
    rw [hw, h1.1]
    rw [List.getElem?_map, Array.getElem?_toList, Array.getElem?_eq_getElem hk] at hx
    simp only [Option.map_some, Option.some.injEq] at hx
    rw [getElem!_pos d' k hk]
    unfold encN
    rw [hx]
  · unfold ordN
    have hnd : (d'.toList.map (·.1)).Nodup := hpn.nodup_iff.2 hn
    rw [List.pairwise_iff_getElem]
    intro i j hi hj hij
    simp only [List.length_map, Array.length_toList] at hi hj
    have h1 := hs i j (Nat.zero_le _) hij (by rw [← hsz]; exact hj)
    rw [getElem!_pos d' i hi, getElem!_pos d' j hj] at h1
    unfold ltOf cfN at h1
    rw [decide_eq_false_iff_not] at h1
    simp only [List.getElem_map, Array.getElem_toList]
    refine Classical.byContradiction fun h2 => ?_
    have e := cmpN_total h2 h1
    have h3 := List.pairwise_iff_getElem.1 hnd i j (by simpa using hi) (by simpa using hj) hij
    simp only [List.getElem_map, Array.getElem_toList] at h3
    exact h3 e

theorem pmap_size (bs : List ByteArray) (hbz : ∀ s ∈ bs, s.size ≤ 100000) : (bs.pmap mkN hbz).toArray.size = bs.length := by simp
theorem sort_any (g cap : Nat) (bs : List ByteArray) (w2 : World) (hG2 : Gl w2) (hbz : ∀ s ∈ bs, s.size ≤ 100000) (hglt : g < w2.heap.size) (hg : Tryz.prog.globals.size ≤ g) (hHo : Go.Sort.Holds encN w2 g 0 (bs.pmap mkN hbz).toArray) (hlen : bs.length ≤ 65536) :
    Calls Tryz.prog (Tryz.sortA_ren.f 6) #[.slice (some ⟨g, 0, none⟩) (bs.pmap mkN hbz).toArray.size cap, .func (.func 86) #[] #[]] w2 fun e w' =>
          e = .returned (.tuple #[]) ∧ ∃ d' n os, Go.Sort.PermIn 0 (bs.pmap mkN hbz).toArray.size (bs.pmap mkN hbz).toArray d' ∧ Go.Sort.SortedIn (ltOf cfN) 0 (bs.pmap mkN hbz).toArray.size d' ∧ w' = sortWorld encN w2 g 0 n d' os :=
  Any.slices_SortFunc Tryz.sortA encN (fun _ => rfl) cfN swoN 86 #[] g 0 cap (bs.pmap mkN hbz).toArray w2 (enters_of Tryz.func86 (by kernel_rfl) rfl) (cmpLays w2 hG2 g 0 _ hg (by omega)) hHo hglt (by rw [pmap_size]; omega)
theorem sort_fn : Tryz.sortA_ren.f 6 = 118 := rfl
theorem sort_any' (g cap n : Nat) (bs : List ByteArray) (w2 : World) (hG2 : Gl w2) (hbz : ∀ s ∈ bs, s.size ≤ 100000) (hglt : g < w2.heap.size) (hg : Tryz.prog.globals.size ≤ g) (hHo : Go.Sort.Holds encN w2 g 0 (bs.pmap mkN hbz).toArray) (hlen : bs.length ≤ 65536) (hn : n = bs.length) :
    Calls Tryz.prog 118 #[.slice (some ⟨g, 0, none⟩) n cap, .func (.func 86) #[] #[]] w2 fun e w' =>
          e = .returned (.tuple #[]) ∧ ∃ d' n os, Go.Sort.PermIn 0 (bs.pmap mkN hbz).toArray.size (bs.pmap mkN hbz).toArray d' ∧ Go.Sort.SortedIn (ltOf cfN) 0 (bs.pmap mkN hbz).toArray.size d' ∧ w' = sortWorld encN w2 g 0 n d' os := by
  have h := sort_any g cap bs w2 hG2 hbz hglt hg hHo hlen
  rw [sort_fn] at h
  have e : (n : Nat) = (bs.pmap mkN hbz).toArray.size := by rw [pmap_size, hn]
  rw [e]
  exact h

end Go.Proofs.YtdjaphcelpchaaaGreatDoor

/- (*overview.Index).Groups: the walk. -/
namespace Go.Proofs.YtdjaphcelpchaaaGreatDoor
open Go Go.RowKit Go.Proofs

set_option maxRecDepth 100000 in
set_option maxHeartbeats 4000000 in
theorem groups_any (B ib M mc : Nat) (gs : List MG) (w : World) (hG : Gl w) (h : IdxAt B w ib M gs mc) :
    Calls Tryz.prog 47 #[.pointer (some ⟨ib, 0, none⟩)] w fun r w' => GroupsPost gs w r w' := by
  have hc := h.cell0
  obtain ⟨W1, hW1⟩ : ∃ W1, W1 = w.alloc (.cells #[.map (some M)] 102) := ⟨_, rfl⟩
  have hb1 : Below w.heap.size w W1 := by rw [hW1]; exact (Below.refl _ _).alloc (Nat.le_refl _) _
  have hX1 := h.below hb1
  have hs1 : W1.heap.size = w.heap.size + 1 := by rw [hW1]; simp
  have hm1 : W1.cell? ⟨w.heap.size, 0, none⟩ = some (.map (some M)) := by rw [hW1]; exact cells_new w _ _ 0
  have hown := hX1.owns h.groups
  have hseq : SeqGives Fence.wide 2 Tryz.prog 119 #[.pointer (some ⟨w.heap.size, 0, none⟩)] encStr (fun ss => ss.Perm (Go.strKeys (datumP Tryz.prog gs))) (Go.Maps.size (datumP Tryz.prog gs)) W1 :=
    AnyZ.keys_gives (ρ := Tryz.keysA_ren) { Tryz.keysA with } Fence.wide _ trivial rfl (by omega) w.heap.size M gs.length _ _ (by omega) hm1 hown
  have hK : Calls Tryz.prog 85 #[.map (some M)] w fun e w' => e = .returned (.func (.func 119) #[] #[.pointer (some ⟨w.heap.size, 0, none⟩)]) ∧ w' = W1 := by
    rw [hW1]
    exact (callsIn_wide (n := 5)).1 (AnyZ.keys_in Tryz.keysA Fence.wide 5 trivial rfl (some M) w)
  have hgl := h.groups
  have hC : Calls Tryz.prog 117 #[.func (.func 119) #[] #[.pointer (some ⟨w.heap.size, 0, none⟩)]] W1 fun e w' => ∃ (v : Value) (ss : List (List UInt8)), e = .returned v ∧ ss.Perm (Go.strKeys (datumP Tryz.prog gs)) ∧ w'.ownsRow W1.heap.size 9 1 v ss.length (ss.map encStr) ∧ (v = .slice none 0 0 ↔ ss = []) ∧ Below W1.heap.size W1 w' :=
    (callsIn_wide (n := 4)).1 (AnyZ.collect_in Tryz.collectA Fence.wide 4 trivial trivial rfl (by omega) 119 _ trivial (enters_of Tryz.func119 (by kernel_rfl) rfl) _ _ (by rw [size_datum]; unfold maxLen; omega) (by rw [size_datum]; omega) W1 hseq)
  have hkeys := strKeys_datum h
  have hnames : ∀ G ∈ gs, G.name.size ≤ 80 := fun G hG => name_size (h.grps G hG).named
  have hnd := h.names
  have HS : Hid (Calls Tryz.prog 84 #[.func (.func 119) #[] #[.pointer (some ⟨w.heap.size, 0, none⟩)], .func (.func 86) #[] #[]] W1 fun r w' => GroupsPost gs w r w') := Lib.hid (by
    have HC := Lib.hid hC
    have HG := Lib.hid (hG.later hb1)
    have HB1 := Lib.hid hb1
    clear hC hK hseq hown hX1 hc h hG hb1 hm1 hW1
    go_enter Tryz.func84, Tryz.ntmps84
    go_wp2_with fail
    refine HC.out.mono ?_
    rintro r w2 ⟨v, ss, rfl, hp, hrow, hnil, hb2⟩
    have hB2 := HB1.out.trans (hb2.mono (by omega))
    have hpn : ss.Perm (gs.map fun G => G.name.data.toList) := hp.trans hkeys
    have hG2 := HG.out.later hb2
    have HB2 := Lib.hid hB2
    rcases hrow.2 with ⟨rfl, h0⟩ | ⟨g, cap, cur, rfl, hg, hcur, hle, hmx, hcs, htk⟩
    · have hss : ss = [] := List.length_eq_zero_iff.1 h0
      have hgs : gs = [] := by
        rw [hss] at hpn
        have := hpn.symm.eq_nil
        simpa using this
      clear hrow hnil hb2 hB2 hp hpn hG2 HG HC HB1 hkeys h0 hnames hnd hs1 hgl
      go_wp2_with fail
      refine (AnyF.slices_SortFunc_none (L := { Tryz.sortA with }) none 0 _ w2).mono ?_
      rintro r w' ⟨rfl, rfl⟩
      go_wp2
      go_ret
      exact ⟨_, [], rfl, .inl ⟨rfl, rfl⟩, .nil, fun t => by rw [hgs]; simp, HB2.out⟩
    · obtain ⟨bs, hbs⟩ : ∃ bs : List ByteArray, bs = ss.map str := ⟨_, rfl⟩
      have hbl : bs.length = ss.length := by rw [hbs]; simp
      have hbp : bs.Perm (gs.map fun G => G.name) := by
        rw [hbs]
        refine (hpn.map str).trans ?_
        rw [List.map_map]
        refine List.Perm.of_eq (List.map_congr_left fun G _ => ?_)
        rfl
      have hbn : bs.Nodup := hbp.nodup_iff.2 hnd
      have hbz : ∀ s ∈ bs, s.size ≤ 100000 := fun s hs => by
        obtain ⟨G, hG, e⟩ := List.mem_map.1 (hbp.mem_iff.1 hs)
        have := hnames G hG
        rw [← e]; omega
      have hlen : ss.length = gs.length := by
        have := hpn.length_eq
        simpa using this
      have hglt := (Array.getElem?_eq_some_iff.1 hcur).1
      have hsr : StrRow w2 g 0 bs := fun k x hx => by
        have := World.ownsRow.cells hrow (g := g) rfl k (.string x) (by
          rw [hbs, List.getElem?_map] at hx
          rw [List.getElem?_map]
          cases hk : ss[k]? with
          | none => rw [hk] at hx; cases hx
          | some l => rw [hk] at hx; cases hx; rfl)
        rwa [Addr.add_lit] at this
      have hHo : Go.Sort.Holds encN w2 g 0 (bs.pmap mkN hbz).toArray := fun j hj => by
        have hj' : j < bs.length := by simpa using hj
        refine ⟨?_, ?_⟩
        · rw [hsr j bs[j] (List.getElem?_eq_getElem hj'), getElem!_pos _ j hj]
          simp only [List.getElem_toArray, List.getElem_pmap]
          rfl
        · unfold World.frozen?
          rw [hcur]
          simp
      have hsz : (bs.pmap mkN hbz).toArray.size = ss.length := by simp [hbl]
      have HSO := Lib.hid (sort_any' g cap ss.length bs w2 hG2 hbz hglt (Nat.le_trans (HG.out.size) hg) hHo (by omega) hbl.symm)
      have HFIN := Lib.hid (fun (w' : World) (d' : Array SName) n os hp hs hw => sorted_row (w := w2) (w' := w') hbz hbn hsr hglt d' n os hHo hp hs hw)
      have HMEM : Hid (∀ t, t ∈ bs ↔ ∃ G ∈ gs, G.name = t) := Lib.hid (fun t => by rw [hbp.mem_iff, List.mem_map])
      have HBL := Lib.hid hbl
      have HLEN := Lib.hid hlen
      clear hHo hsr hrow hnil hb2 hB2 hp hpn hG2 HC hkeys hnames hnd hcs htk hbn hbp hbs hcur hbl hlen hsz
      clear HG HB1
      go_wp2_with fail
      refine HSO.out.mono ?_
      rintro r w3 ⟨rfl, d', n, os, hp, hs, hw⟩
      obtain ⟨ns, hnl, hr3, ho3, hm3⟩ := HFIN.out w3 d' n os hp hs hw
      have hB3 : Below g w2 w3 := by rw [hw]; exact below_sortWorld w2 g 0 n d' os (by omega)
      have HB3 := Lib.hid (HB2.out.trans (hB3.mono (by omega)))
      have hl3 : g < w3.heap.size := Nat.lt_of_lt_of_le hglt hB3.size
      clear hp hs hw HFIN HSO hB3
      have hnl' := Lib.hid (show ns.length = ss.length by rw [hnl, HBL.out])
      clear hnl
      go_wp2
      go_ret
      exact ⟨_, ns, rfl, .inr ⟨g, cap, by rw [hnl'.out]; rfl, by rw [hnl'.out]; exact hle, hr3, by omega, hl3⟩, ho3, fun t => (hm3 t).trans (HMEM.out t), HB3.out⟩)
  have HK := Lib.hid hK
  clear hC hK hseq hown hX1 h hG hb1 hm1 hkeys hnames hnd hs1 hgl
  clear hW1
  go_enter Tryz.func47, Tryz.ntmps47
  go_wp2_with fail
  refine HK.out.mono ?_
  rintro r w' ⟨rfl, rfl⟩
  go_wp2_with fail
  refine HS.out.mono ?_
  rintro r w' ⟨v, ns, rfl, hpost⟩
  have HP := Lib.hid hpost
  obtain ⟨va, vc, rfl⟩ := hpost.1.slice
  clear hpost
  go_wp2
  go_ret
  exact ⟨_, ns, rfl, HP.out⟩

end Go.Proofs.YtdjaphcelpchaaaGreatDoor

/- (*overview.Index).Where and RemoveId. -/
namespace Go.Proofs.YtdjaphcelpchaaaGreatDoor
open Go Go.RowKit Go.Proofs

attribute [local go_sem ↓] ex_load_id ex_store_id ex_load_line ex_store_line ex_alloc_line ex_build_line
attribute [local go_sem] ld_id st_id ld_line st_line guard_id okCells_drew rdCells_drew okCells_drewN rdCells_drewN rowOk_drew rowOk_cells okCells_cells rdCells_cells setRow_drew setRow_new setRow_past

/-- A group with the number that an article has in it. -/
abbrev PL : Type := ByteArray × Int
def flatP (ps : List PL) : List Value := ps.flatMap fun p => [.string p.1, .int .i64 p.2]
theorem flatP_length (ps : List PL) : (flatP ps).length = ps.length * 2 := by
  induction ps with
  | nil => rfl
  | cons p ps ih => simp [flatP] at ih ⊢; omega
theorem flatP_snoc (ps : List PL) (p : PL) : flatP (ps ++ [p]) = flatP ps ++ [.string p.1, .int .i64 p.2] := by simp [flatP]
theorem flatP_get : ∀ (ps : List PL) (j : Nat) (hj : j < ps.length), (flatP ps)[j * 2]? = some (.string ps[j].1) ∧ (flatP ps)[j * 2 + 1]? = some (.int .i64 ps[j].2)
  | p :: ps, 0, _ => ⟨rfl, rfl⟩
  | p :: ps, j + 1, hj => by
    have := flatP_get ps j (by simpa using hj)
    have e : flatP (p :: ps) = .string p.1 :: .int .i64 p.2 :: flatP ps := rfl
    rw [e, show (j + 1) * 2 = j * 2 + 1 + 1 by omega]
    exact this
/-- Where an article is. -/
def placeIn (gs : List MG) (x : Id32) (t : ByteArray) : Option PL := ((linesIn gs t).find? fun m => decide (m.p.id = x)).map fun m => (t, m.p.number)
def whereAt (gs : List MG) (ns : List ByteArray) (x : Id32) : List PL := ns.filterMap (placeIn gs x)
theorem whereAt_snoc (gs : List MG) (ns : List ByteArray) (x : Id32) (t : ByteArray) : whereAt gs (ns ++ [t]) x = whereAt gs ns x ++ (placeIn gs x t).toList := by
  unfold whereAt
  rw [List.filterMap_append]
  cases h : placeIn gs x t <;> simp [h]

theorem Tryz.info_place : (Tryz.prog.info? 76).map (fun i => (i.zero, i.size, i.bytes)) = some (some (.agg #[.string ⟨#[]⟩, .int .i64 0]), 2, 24) := by kernel_rfl

/-- What Where answers. -/
def WherePost (gs : List MG) (x : Id32) (w : World) (r : Ending) (w' : World) : Prop := ∃ v ns, r = .returned v ∧ w'.ownsRow w.heap.size 76 2 v (whereAt gs ns x).length (flatP (whereAt gs ns x)) ∧ ordN ns ∧ (∀ t, t ∈ ns ↔ ∃ G ∈ gs, G.name = t) ∧ Below w.heap.size w w'

theorem groupOf_of {gs : List MG} (hn : (gs.map fun G => G.name).Nodup) {G : MG} (hG : G ∈ gs) : groupOf gs G.name = some G := by
  unfold groupOf
  cases h : gs.find? fun H => decide (H.name = G.name) with
  | none =>
    rw [List.find?_eq_none] at h
    exact absurd (h G hG) (by simp)
  | some H =>
    have h1 := List.mem_of_find?_eq_some h
    have h2 : H.name = G.name := by simpa using List.find?_some h
    rw [name_inj hn H h1 G hG h2]
theorem find_unique {ms : List ML} {x : Id32} (hn : (ms.map fun m => m.p.id).Nodup) {m : ML} (hm : m ∈ ms) (he : m.p.id = x) : (ms.find? fun m => decide (m.p.id = x)) = some m := by
  induction ms with
  | nil => cases hm
  | cons a ms ih =>
    rw [List.map_cons, List.nodup_cons] at hn
    rw [List.find?_cons]
    rcases List.mem_cons.1 hm with rfl | hm'
    · rw [decide_eq_true he]
    · have : ¬ a.p.id = x := fun e => hn.1 (by rw [e, ← he]; exact List.mem_map.2 ⟨m, hm', rfl⟩)
      rw [decide_eq_false this]
      exact ih hn.2 hm'

theorem own_slice {w : World} {B t s n : Nat} {v : Value} {xs : List Value} (h : w.ownsRow B t s v n xs) : ∃ a n c, v = .slice a n c := by
  rcases h.2 with ⟨e, _⟩ | ⟨g, cap, cur, e, _⟩
  · exact ⟨_, _, _, e⟩
  · exact ⟨_, _, _, e⟩
theorem ownsRow_base {W : World} {B B' t s n : Nat} {v : Value} {xs : List Value} (h : W.ownsRow B t s v n xs) (hb : B' ≤ B) : W.ownsRow B' t s v n xs := by
  refine ⟨h.1, ?_⟩
  rcases h.2 with hn | ⟨g, cap, cur, hv, hbg, rest⟩
  · exact .inl hn
  · exact .inr ⟨g, cap, cur, hv, Nat.le_trans hb hbg, rest⟩
theorem rd_of_block {w : World} {b : Nat} {x : Id32} {t : TypeId} (h : w.heap[b]? = some (.cells (encId x).toArray t (0, 0))) : okCells w ⟨b, 0, none⟩ 32 = true ∧ rdCells w ⟨b, 0, none⟩ 32 = (encId x).toArray := by
  have := rd_of_cells (w := w) (a := ⟨b, 0, none⟩) (cs := encId x) (fun j v hj => by
    rw [Addr.add_lit, cell_of_row w b (0 + j) _ _ _ h, Nat.zero_add, List.getElem?_toArray]; exact hj)
  rwa [encId_length] at this

set_option maxRecDepth 100000 in
set_option maxHeartbeats 4000000 in
theorem where_any (B ib M mc : Nat) (gs : List MG) (x : Id32) (w : World) (hG : Gl w) (h : IdxAt B w ib M gs mc) :
    Calls Tryz.prog 42 #[.pointer (some ⟨ib, 0, none⟩), .agg (encId x).toArray] w fun r w' => WherePost gs x w r w' := by
  obtain ⟨i0, hi, hz0, hz1, hz2⟩ := info_parts Tryz.info_place
  obtain ⟨W, hW⟩ : ∃ W, W = w.alloc (.cells (encId x).toArray 23) := ⟨_, rfl⟩
  have hb0 : Below w.heap.size w W := by rw [hW]; exact (Below.refl _ _).alloc (Nat.le_refl _) _
  have hs0 : W.heap.size = w.heap.size + 1 := by rw [hW]; simp
  have hid : W.heap[w.heap.size]? = some (.cells (encId x).toArray 23 (0, 0)) := by rw [hW]; exact heap_alloc_new _ _
  have HGR := Lib.hid (groups_any B ib M mc gs W (hG.later hb0) (h.below hb0))
  have HB := Lib.hid hb0
  have HID := Lib.hid hid
  have HX := Lib.hid h
  clear hid hb0 h hG
  go_enter Tryz.func42, Tryz.ntmps42
  go_wp2_with fail
  rw [← hW]
  clear hW
  refine HGR.out.mono ?_
  rintro r w1 ⟨v, ns, rfl, hns, hord, hmem, hb1⟩
  have hB1 : Below w.heap.size w w1 := HB.out.trans (hb1.mono HB.out.size)
  have hid1 := (hb1.block w.heap.size (by omega)).trans HID.out
  have hs1 : w.heap.size < w1.heap.size := by have := hb1.size; omega
  have HB1 := Lib.hid hB1
  have HID1 := Lib.hid hid1
  have HX1 := Lib.hid (HX.out.below hB1)
  have HM := Lib.hid hmem
  have HO := Lib.hid hord
  clear hB1 hid1 hb1 HB HID HX HGR hmem hord hs0
  have hnl : ns.length ≤ 65536 := by
    have h1 : ns.Nodup := HO.out.imp fun {a b} hab e => by rw [e, cmpN_refl] at hab; omega
    have h2 : ns.length ≤ (gs.map fun G => G.name).length := h1.length_le_of_subset fun t ht => by
      obtain ⟨G, hG, e⟩ := (HM.out t).1 ht
      exact List.mem_map.2 ⟨G, hG, e⟩
    rw [List.length_map] at h2
    exact Nat.le_trans h2 HX1.out.groups
  rcases hns with ⟨rfl, rfl⟩ | ⟨b, c, rfl, hc, hrow, hbB, hbl⟩
  · go_wp2
    go_loop [5, 13] (fun p i => p = .slice none 0 0 ∧ i = .int .i64 0) (fun _ _ => 0)
    case atStart => exact ⟨rfl, rfl⟩
    case round =>
      obtain ⟨rfl, rfl⟩ := hrel
      go_wp2
      go_ret
      exact ⟨_, [], rfl, World.ownsRow_nil _ _ _ _, HO.out, HM.out, HB1.out⟩
  · have HR := Lib.hid hrow
    clear hrow
    go_wp2
    go_loopw [5, 13] (fun p i wr => ∃ k : Nat, k ≤ ns.length ∧ i = .int .i64 k ∧ wr.ownsRow w1.heap.size 76 2 p (whereAt gs (ns.take k) x).length (flatP (whereAt gs (ns.take k) x)) ∧ Below w1.heap.size w1 wr) (fun _ i _ => ns.length - (intOf i).toNat)
    case atStart => exact ⟨0, by omega, rfl, World.ownsRow_nil _ _ _ _, Below.refl _ _⟩
    case round =>
      obtain ⟨k, hk, rfl, hown, hb⟩ := hrel
      by_cases hlt : k < ns.length
      · have hltz : (k : Int) < (ns.length : Int) := by omega
        have hcell : wr.cell? ⟨b, k, none⟩ = some (.string ns[k]) := by
          have := HR.out k _ (List.getElem?_eq_getElem hlt)
          rw [Nat.zero_add] at this
          exact (hb.cell (p := ⟨b, k, none⟩) hbl).trans this
        have HTK : Hid (whereAt gs (ns.take (k + 1)) x = whereAt gs (ns.take k) x ++ (placeIn gs x ns[k]).toList) := Lib.hid (by
          rw [List.take_succ_eq_append_getElem hlt, whereAt_snoc])
        obtain ⟨G, hGm, hGn⟩ := (HM.out ns[k]).1 (List.getElem_mem hlt)
        have hXr := HX1.out.below hb
        have hgo : groupOf gs ns[k] = some G := by rw [← hGn]; exact groupOf_of hXr.names hGm
        have hli : linesIn gs ns[k] = G.ms := by unfold linesIn; rw [hgo]
        have hgr := hXr.grps G hGm
        have hidr := (hb.block w.heap.size hs1).trans HID1.out
        generalize ns[k] = t at hcell HTK hGn hgo hli
        have q1 : ∀ n, (wr.drewN n).cell? ⟨ib, 0, none⟩ = some (.map (some M)) := fun n => by rw [World.cell?_drewN]; exact hXr.cell0
        have q2 : ∀ n, (Instr.lookup 102 (.map (some M)) (.string t) false).run Tryz.prog (wr.drewN n) = .ok (.pointer (some ⟨G.gb, 0, none⟩)) (wr.drewN n) := fun n => by
          have := (hXr.below (below_drewN' (Below.refl _ _) n)).look t
          rw [hgo] at this
          exact this
        have q3 : ∀ n, (wr.drewN n).cell? ⟨G.gb, 1, none⟩ = some (.map (some G.nb)) := fun n => by rw [World.cell?_drewN]; exact cell_of_row wr G.gb 1 _ _ _ hgr.blk
        have q4 : ∀ n, (Instr.lookup 113 (.map (some G.nb)) (.agg (encId x).toArray) true).run Tryz.prog (wr.drewN n) = .ok (.tuple #[((findK x G.nl 0).map (·.2)).getD (.int .i64 0), .bool (findK x G.nl 0).isSome]) (wr.drewN n) := fun n =>
          look_ok keyI Tryz.underlying113 (.int .i64 0) zero_int (wr.drewN n) G.nb G.nl G.nc hgr.nums x
        have hrd : okCells wr ⟨w.heap.size, 0, none⟩ 32 = true ∧ rdCells wr ⟨w.heap.size, 0, none⟩ 32 = (encId x).toArray := rd_of_block hidr
        have q5 : ∀ n, okCells (wr.drewN n) ⟨w.heap.size, 0, none⟩ 32 = true := fun n => by rw [okCells_drewN]; exact hrd.1
        have q6 : ∀ n, rdCells (wr.drewN n) ⟨w.heap.size, 0, none⟩ 32 = (encId x).toArray := fun n => by rw [rdCells_drewN]; exact hrd.2
        by_cases hin : ∃ m ∈ G.ms, m.p.id = x
        · obtain ⟨m, hm, hmx⟩ := hin
          obtain ⟨j, hj, _⟩ := hgr.find_yes hm
          rw [hmx] at hj
          rw [hj] at q4
          have HPL : Hid (placeIn gs x t = some (t, m.p.number)) := Lib.hid (by unfold placeIn; rw [hli, find_unique hgr.ids hm hmx]; rfl)
          have HOWN := Lib.hid hown
          have HBr := Lib.hid hb
          clear hj hgr hXr hrd hown hb hidr hgo hli hGn hm hmx
          go_wp2_with fail
          go_quiet (fail)
          clear q1 q2 q3 q4 q5 q6 hcell
          have hown1 : (wr.drewN nq).ownsRow w1.heap.size 76 2 u5 (whereAt gs (ns.take k) x).length (flatP (whereAt gs (ns.take k) x)) := HOWN.out
          have hBr1 : Below w1.heap.size w1 (wr.drewN nq) := below_drewN' HBr.out nq
          generalize wr.drewN nq = W2 at hown1 hBr1 ⊢
          have HBr1 := Lib.hid hBr1
          have hownA := hown1.alloc (.cells #[.string t, .int .i64 m.p.number] 76)
          clear HOWN HBr hBr1
          have hlen2 : (whereAt gs (ns.take k) x).length ≤ k := by
            unfold whereAt
            exact Nat.le_trans (List.length_filterMap_le _ _) (by rw [List.length_take]; omega)
          have hlt2 := Lib.hid (fun j hj => (hown1.lt j hj).1)
          clear hown1
          obtain ⟨nn, hnn⟩ : ∃ nn, nn = (whereAt gs (ns.take k) x).length := ⟨_, rfl⟩
          rw [← hnn] at hownA hlen2
          have HNN := Lib.hid hnn
          clear hnn
          go_wp2_with (at_builtin; refine wpList_append_own _ rfl (.tmp 32) (.tmp 36) 73 rfl w1.heap.size 76 i0 (.agg #[.string ⟨#[]⟩, .int .i64 0]) 2 24 Tryz.underlying73 hi hz0 hz1 hz2 rfl (by decide) _ _ _ rfl hownA ⟨W2.heap.size, 0, none⟩ 1 1 [.string t, .int .i64 m.p.number] rfl rfl ?c1 ?c2 ?c3 ?c4 ?c5 ?_)
          case c1 =>
            intro j u hj
            rw [Addr.add_lit, Nat.zero_add, cells_new]
            match j, hj with
            | 0, hj => simpa using hj
            | 1, hj => simpa using hj
          case c2 => intro u hu; simp at hu; rcases hu with rfl | rfl <;> rfl
          case c3 => unfold maxLen; omega
          case c4 => omega
          case c5 => have := HBr1.out.size; simp; omega
          intro v' w3 hown' hgrow _
          have hb3 : Below w1.heap.size w1 w3 := (HBr1.out.alloc HBr1.out.size _).grown hgrow (by have := HBr1.out.size; simp; omega) (fun j hj => hlt2.out j hj)
          clear hownA hgrow
          go_wp2
          go_roundw
          case rel => exact ⟨k + 1, by omega, by go_num, by rw [HTK.out, HPL.out, Option.toList_some, flatP_snoc, List.length_append, ← HNN.out]; exact hown', hb3⟩
          case measure => simp [intOf]; omega
        · have hno : ∀ m ∈ G.ms, m.p.id ≠ x := fun m hm e => hin ⟨m, hm, e⟩
          rw [hgr.find_no hno] at q4
          have HPL : Hid (placeIn gs x t = none) := Lib.hid (by
            unfold placeIn
            rw [hli, Option.map_eq_none_iff, List.find?_eq_none]
            intro m hm hx
            exact hno m hm (by simpa using hx))
          have HOWN := Lib.hid hown
          have HBr := Lib.hid hb
          clear hgr hXr hrd hown hb hidr hgo hli hGn hin hno
          go_wp2_with fail
          go_quiet (fail)
          clear q1 q2 q3 q4 q5 q6 hcell
          go_wp2
          go_roundw
          case rel => exact ⟨k + 1, by omega, by go_num, by rw [HTK.out, HPL.out, Option.toList_none, List.append_nil]; exact HOWN.out, below_drewN' HBr.out _⟩
          case measure => simp [intOf]; omega
      · have HE : Hid (ns.take k = ns) := Lib.hid (List.take_of_length_le (by omega))
        obtain ⟨pa, pn, pc, hp⟩ : ∃ a n c, u5 = .slice a n c := own_slice hown
        have HOWN := Lib.hid hown
        subst hp
        clear hown
        go_wp2
        go_ret
        refine ⟨_, ns, rfl, ?_, HO.out, HM.out, HB1.out.trans (hb.mono HB1.out.size)⟩
        have := HOWN.out
        rw [HE.out] at this
        exact ownsRow_base this HB1.out.size

end Go.Proofs.YtdjaphcelpchaaaGreatDoor

/- How the index and the reference's list belong together (no program). -/
namespace Go.Proofs.YtdjaphcelpchaaaGreatDoor
open Go Go.RowKit Go.Proofs

/-- The index holds the lines of the reference. -/
def RelR (gs : List MG) (rs : List MR) : Prop := ∀ t p, (∃ m ∈ linesIn gs t, m.p = p) ↔ ∃ r ∈ rs, r.s = t ∧ r.m.p = p

theorem RelR.nil : RelR [] [] := fun t p => ⟨fun ⟨m, hm, _⟩ => (by cases hm), fun ⟨r, hr, _⟩ => (by cases hr)⟩

theorem ofR_ord {rs : List MR} (ho : ordR rs) (t : ByteArray) : (ofR rs t).Pairwise fun a b => a.m.p.number < b.m.p.number := by
  refine List.Pairwise.imp_of_mem ?_ (ho.sublist List.filter_sublist)
  intro a b ha hb h
  rcases h with h | ⟨_, h⟩
  · have ea := (ofR_mem.1 ha).2
    have eb := (ofR_mem.1 hb).2
    rw [ea, eb, cmpN_refl] at h
    omega
  · exact h
theorem rel_lines {B : Nat} {w : World} {ib M mc : Nat} {gs : List MG} (h : IdxAt B w ib M gs mc) {rs : List MR} (hr : RelR gs rs) (ho : ordR rs) (t : ByteArray) : (linesIn gs t).map (·.p) = (ofR rs t).map (·.m.p) := by
  refine sorted_ext (R := fun a b : PLine => a.number < b.number) (fun a ha => by omega) (fun a b c h1 h2 => by omega) ?_ ?_ ?_
  · have := h.sorted t
    unfold nums at this
    rw [List.pairwise_map] at this ⊢
    exact this
  · rw [List.pairwise_map]
    exact ofR_ord ho t
  · intro p
    rw [List.mem_map, List.mem_map]
    constructor
    · intro hm
      obtain ⟨r, h1, h2, h3⟩ := (hr t p).1 hm
      exact ⟨r, ofR_mem.2 ⟨h1, h2⟩, h3⟩
    · rintro ⟨r, h1, h3⟩
      exact (hr t p).2 ⟨r, (ofR_mem.1 h1).1, (ofR_mem.1 h1).2, h3⟩
theorem linesIn_of {B : Nat} {w : World} {ib M mc : Nat} {gs : List MG} (h : IdxAt B w ib M gs mc) {G : MG} (hG : G ∈ gs) : linesIn gs G.name = G.ms := by
  unfold linesIn
  rw [groupOf_of h.names hG]
theorem rel_names {B : Nat} {w : World} {ib M mc : Nat} {gs : List MG} (h : IdxAt B w ib M gs mc) {rs : List MR} (hr : RelR gs rs) (ho : ordR rs) {ns : List ByteArray} (hn : ordN ns) (hm : ∀ t, t ∈ ns ↔ ∃ G ∈ gs, G.name = t) : ns = groupsR rs := by
  obtain ⟨h1, h2, _⟩ := groupsR_ok rs ho
  refine ordN_ext hn h1 fun t => ?_
  rw [hm, h2]
  constructor
  · rintro ⟨G, hG, rfl⟩
    have hne := (h.grps G hG).some'
    obtain ⟨m, hmm⟩ := List.exists_mem_of_ne_nil _ hne
    obtain ⟨r, k1, k2, _⟩ := (hr G.name m.p).1 ⟨m, by rw [linesIn_of h hG]; exact hmm, rfl⟩
    exact ⟨r, k1, k2⟩
  · rintro ⟨r, k1, k2⟩
    obtain ⟨m, hmm, _⟩ := (hr t r.m.p).2 ⟨r, k1, k2, rfl⟩
    have hne : linesIn gs t ≠ [] := fun e => by rw [e] at hmm; cases hmm
    obtain ⟨G, hG, _, _⟩ := linesIn_ne hne
    exact ⟨G, groupOf_mem hG⟩
theorem ids_in {B : Nat} {w : World} {ib M mc : Nat} {gs : List MG} (h : IdxAt B w ib M gs mc) (t : ByteArray) : ((linesIn gs t).map fun m => m.p.id).Nodup := by
  by_cases hne : linesIn gs t = []
  · rw [hne]; exact .nil
  · obtain ⟨G, hG, e, _⟩ := linesIn_ne hne
    rw [e]
    exact (h.grps G (groupOf_mem hG).1).ids
theorem rel_add {gs gs' : List MG} {rs : List MR} (hr : RelR gs rs) {s : ByteArray} {p : PLine} {v v' : Value} {i : Nat} (hl : ∀ t, linesIn gs' t = if t = s then addMs (linesIn gs s) i ⟨p, v⟩ else linesIn gs t) : RelR gs' (addR rs ⟨s, ⟨p, v'⟩⟩) := by
  intro t q
  rw [hl]
  by_cases ht : t = s
  · subst ht
    simp only [if_true, addMs_mem, addR_mem]
    constructor
    · rintro ⟨m, rfl | hm, rfl⟩
      · exact ⟨_, .inl rfl, rfl, rfl⟩
      · obtain ⟨r, h1, h2, h3⟩ := (hr t m.p).1 ⟨m, hm, rfl⟩
        exact ⟨r, .inr h1, h2, h3⟩
    · rintro ⟨r, rfl | h1, h2, h3⟩
      · exact ⟨_, .inl rfl, h3⟩
      · obtain ⟨m, hm, e⟩ := (hr t q).2 ⟨r, h1, h2, h3⟩
        exact ⟨m, .inr hm, e⟩
  · simp only [ht, if_false, addR_mem]
    rw [hr t q]
    constructor
    · rintro ⟨r, h1, h2⟩; exact ⟨r, .inr h1, h2⟩
    · rintro ⟨r, rfl | h1, h2, h3⟩
      · exact absurd h2.symm ht
      · exact ⟨r, h1, h2, h3⟩
theorem mem_erase_key {α β : Type} (K : α → β) {R : α → α → Prop} (hne : ∀ x y, R x y → K x ≠ K y) : ∀ {l : List α} {i : Nat} {a : α}, l.Pairwise R → l[i]? = some a → ∀ x, x ∈ l.eraseIdx i ↔ x ∈ l ∧ K x ≠ K a
  | b :: l, 0, a, hp, hi, x => by
    rw [List.pairwise_cons] at hp
    rw [List.getElem?_cons_zero, Option.some.injEq] at hi
    subst hi
    rw [List.eraseIdx_zero, List.tail_cons, List.mem_cons]
    constructor
    · intro hx; exact ⟨.inr hx, fun e => hne _ _ (hp.1 x hx) e.symm⟩
    · rintro ⟨rfl | hx, hk⟩
      · exact absurd rfl hk
      · exact hx
  | b :: l, i + 1, a, hp, hi, x => by
    rw [List.pairwise_cons] at hp
    rw [List.getElem?_cons_succ] at hi
    rw [List.eraseIdx_cons_succ, List.mem_cons, List.mem_cons, mem_erase_key K hne hp.2 hi x]
    have hb : K b ≠ K a := hne _ _ (hp.1 a (List.mem_of_getElem? hi))
    constructor
    · rintro (rfl | ⟨h1, h2⟩)
      · exact ⟨.inl rfl, hb⟩
      · exact ⟨.inr h1, h2⟩
    · rintro ⟨rfl | h1, h2⟩
      · exact .inl rfl
      · exact .inr ⟨h1, h2⟩
theorem ltR_key (a b : MR) (h : ltR a b) : (a.s, a.m.p.number) ≠ (b.s, b.m.p.number) := by
  intro e
  rw [Prod.mk.injEq] at e
  rcases h with h | ⟨_, h⟩
  · rw [e.1, cmpN_refl] at h; omega
  · omega
theorem rel_remove {B : Nat} {w : World} {ib M mc : Nat} {gs gs' : List MG} (h : IdxAt B w ib M gs mc) {rs : List MR} (hr : RelR gs rs) (ho : ordR rs) {s : ByteArray} {n : Int} {i j : Nat} {m : ML} {r : MR} (hi : (linesIn gs s)[i]? = some m) (hm : m.p.number = n) (hj : rs[j]? = some r) (hs : r.s = s) (hn : r.m.p.number = n)
    (hl : ∀ t, linesIn gs' t = if t = s then (linesIn gs s).eraseIdx i else linesIn gs t) : RelR gs' (rs.eraseIdx j) := by
  intro t p
  have hsort := h.sorted s
  unfold nums at hsort
  rw [List.pairwise_map] at hsort
  have e1 := mem_erase_key (fun m : ML => m.p.number) (fun x y hxy => by omega) hsort hi
  have e2 := mem_erase_key (fun r : MR => (r.s, r.m.p.number)) ltR_key ho hj
  rw [hl]
  by_cases ht : t = s
  · subst ht
    simp only [if_true]
    constructor
    · rintro ⟨m', h1, rfl⟩
      rw [e1] at h1
      obtain ⟨r', k1, k2, k3⟩ := (hr t m'.p).1 ⟨m', h1.1, rfl⟩
      refine ⟨r', (e2 r').2 ⟨k1, fun e => h1.2 ?_⟩, k2, k3⟩
      rw [Prod.mk.injEq] at e
      rw [hm, ← k3, e.2, hn]
    · rintro ⟨r', h1, k2, rfl⟩
      rw [e2] at h1
      obtain ⟨m', k1, k3⟩ := (hr t r'.m.p).2 ⟨r', h1.1, k2, rfl⟩
      refine ⟨m', (e1 m').2 ⟨k1, fun e => h1.2 ?_⟩, k3⟩
      rw [k2, hs, ← k3, e, hm, hn]
  · simp only [ht, if_false]
    rw [hr t p]
    constructor
    · rintro ⟨r', h1, h2, h3⟩
      exact ⟨r', (e2 r').2 ⟨h1, fun e => ht (by rw [Prod.mk.injEq] at e; rw [← h2, e.1, hs])⟩, h2, h3⟩
    · rintro ⟨r', h1, h2, h3⟩
      exact ⟨r', ((e2 r').1 h1).1, h2, h3⟩
/-- What stays when an article is removed. -/
def outId (ms : List ML) (x : Id32) : List ML := ms.filter fun m => decide (m.p.id ≠ x)
def outR (rs : List MR) (x : Id32) : List MR := rs.filter fun r => decide (r.m.p.id ≠ x)
theorem rel_removeId {gs gs' : List MG} {rs : List MR} (hr : RelR gs rs) {x : Id32} (hl : ∀ t, linesIn gs' t = outId (linesIn gs t) x) : RelR gs' (outR rs x) := by
  intro t p
  rw [hl]
  unfold outId outR
  simp only [List.mem_filter, decide_eq_true_eq]
  constructor
  · rintro ⟨m, ⟨h1, h2⟩, rfl⟩
    obtain ⟨r, k1, k2, k3⟩ := (hr t m.p).1 ⟨m, h1, rfl⟩
    exact ⟨r, ⟨k1, by rw [k3]; exact h2⟩, k2, k3⟩
  · rintro ⟨r, ⟨h1, h2⟩, k2, rfl⟩
    obtain ⟨m, k1, k3⟩ := (hr t r.m.p).2 ⟨r, h1, k2, rfl⟩
    exact ⟨m, ⟨k1, by rw [k3]; exact h2⟩, k3⟩
theorem outR_ord {rs : List MR} (ho : ordR rs) (x : Id32) : ordR (outR rs x) := ho.sublist List.filter_sublist
theorem erase_ord {rs : List MR} (ho : ordR rs) (j : Nat) : ordR (rs.eraseIdx j) := ho.sublist (List.eraseIdx_sublist rs j)
theorem erase_id : ∀ {ms : List ML} {i : Nat} {m : ML}, (ms.map fun m => m.p.id).Nodup → ms[i]? = some m → ms.eraseIdx i = outId ms m.p.id
  | a :: ms, 0, m, hn, hi => by
    rw [List.getElem?_cons_zero, Option.some.injEq] at hi
    subst hi
    rw [List.map_cons, List.nodup_cons] at hn
    unfold outId
    rw [List.filter_cons_of_neg (by simp), List.eraseIdx_zero, List.tail_cons, List.filter_eq_self.2]
    intro b hb
    rw [decide_eq_true_eq]
    exact fun e => hn.1 (e ▸ List.mem_map.2 ⟨b, hb, rfl⟩)
  | a :: ms, i + 1, m, hn, hi => by
    rw [List.map_cons, List.nodup_cons] at hn
    rw [List.getElem?_cons_succ] at hi
    have : a.p.id ≠ m.p.id := fun e => hn.1 (e ▸ List.mem_map.2 ⟨m, List.mem_of_getElem? hi, rfl⟩)
    unfold outId
    rw [List.eraseIdx_cons_succ, List.filter_cons_of_pos (by simpa using this), erase_id hn.2 hi]
    rfl
/-- Where tells of the reference's list. -/
theorem rel_where {B : Nat} {w : World} {ib M mc : Nat} {gs : List MG} (h : IdxAt B w ib M gs mc) {rs : List MR} (hr : RelR gs rs) (ho : ordR rs) (x : Id32) :
    whereAt gs (groupsR rs) x = (rs.filter fun r => decide (r.m.p.id = x)).map fun r => (r.s, r.m.p.number) := by
  conv => rhs; rw [flat_groups ho]
  unfold whereAt
  have key : ∀ t, (placeIn gs x t).toList = ((ofR rs t).filter fun r => decide (r.m.p.id = x)).map fun r => (r.s, r.m.p.number) := by
    intro t
    have hl := rel_lines h hr ho t
    have hn := ids_in h t
    have hall : ∀ r ∈ ofR rs t, r.s = t := fun r hr => (ofR_mem.1 hr).2
    unfold placeIn
    generalize ofR rs t = l at hl hall
    generalize linesIn gs t = ms at hl hn
    induction ms generalizing l with
    | nil =>
      cases l with
      | nil => rfl
      | cons r l => cases hl
    | cons m ms ih =>
      cases l with
      | nil => cases hl
      | cons r l =>
        rw [List.map_cons, List.map_cons, List.cons.injEq] at hl
        rw [List.map_cons, List.nodup_cons] at hn
        by_cases hx : m.p.id = x
        · have hx2 : r.m.p.id = x := by rw [← hl.1]; exact hx
          have hno : l.filter (fun r => decide (r.m.p.id = x)) = [] := by
            rw [List.filter_eq_nil_iff]
            intro a ha hax
            rw [decide_eq_true_eq] at hax
            have : a.m.p ∈ ms.map (·.p) := by rw [hl.2]; exact List.mem_map.2 ⟨a, ha, rfl⟩
            obtain ⟨m', hm', e⟩ := List.mem_map.1 this
            exact hn.1 (List.mem_map.2 ⟨m', hm', by rw [e, hax, hx]⟩)
          rw [List.find?_cons_of_pos (by simpa using hx), List.filter_cons_of_pos (by simpa using hx2), hno]
          simp [hall r (by simp), hl.1]
        · have hx2 : ¬ r.m.p.id = x := by rw [← hl.1]; exact hx
          rw [List.find?_cons_of_neg (by simpa using hx), List.filter_cons_of_neg (by simpa using hx2)]
          exact ih l (fun r hr => hall r (List.mem_cons_of_mem _ hr)) hl.2 hn.2
  have hf : ∀ l : List ByteArray, l.filterMap (placeIn gs x) = ((l.flatMap (ofR rs)).filter fun r => decide (r.m.p.id = x)).map fun r => (r.s, r.m.p.number) := by
    intro l
    induction l with
    | nil => rfl
    | cons t l ih =>
      rw [List.flatMap_cons, List.filter_append, List.map_append, ← ih, ← key t]
      cases hp : placeIn gs x t with
      | none => rw [List.filterMap_cons_none hp]; rfl
      | some a => rw [List.filterMap_cons_some hp]; rfl
  exact hf _
/-- What the reference's Add finds. -/
def clashR (rs : List MR) (s : ByteArray) (p : PLine) : Bool := rs.any fun r => decide (r.s = s) && (decide (r.m.p.number = p.number) || decide (r.m.p.id = p.id))
theorem rel_clash {gs : List MG} {rs : List MR} (hr : RelR gs rs) (s : ByteArray) (p : PLine) : (hasNum (linesIn gs s) p.number || hasId (linesIn gs s) p.id) = clashR rs s p := by
  rw [Bool.eq_iff_iff]
  unfold hasNum hasId clashR nums
  simp only [Bool.or_eq_true, List.contains_iff_mem, List.mem_map, List.any_eq_true, decide_eq_true_eq, Bool.and_eq_true]
  constructor
  · rintro (⟨m, h1, h2⟩ | ⟨m, h1, h2⟩)
    · obtain ⟨r, k1, k2, k3⟩ := (hr s m.p).1 ⟨m, h1, rfl⟩
      exact ⟨r, k1, k2, .inl (by rw [k3]; exact h2)⟩
    · obtain ⟨r, k1, k2, k3⟩ := (hr s m.p).1 ⟨m, h1, rfl⟩
      exact ⟨r, k1, k2, .inr (by rw [k3]; exact h2)⟩
  · rintro ⟨r, k1, k2, k3⟩
    obtain ⟨m, h1, h2⟩ := (hr s r.m.p).2 ⟨r, k1, k2, rfl⟩
    rcases k3 with k3 | k3
    · exact .inl ⟨m, h1, by rw [h2]; exact k3⟩
    · exact .inr ⟨m, h1, by rw [h2]; exact k3⟩
/-- The place of a number. -/
def findR (rs : List MR) (s : ByteArray) (n : Int) : Option Nat := rs.findIdx? fun r => decide (r.s = s) && decide (r.m.p.number = n)
theorem rel_find_none {gs : List MG} {rs : List MR} (hr : RelR gs rs) {s : ByteArray} {n : Int} (hf : findR rs s n = none) : hasNum (linesIn gs s) n = false := by
  unfold findR at hf
  rw [List.findIdx?_eq_none_iff] at hf
  rw [Bool.eq_false_iff]
  intro h
  unfold hasNum nums at h
  rw [List.contains_iff_mem, List.mem_map] at h
  obtain ⟨m, h1, h2⟩ := h
  obtain ⟨r, k1, k2, k3⟩ := (hr s m.p).1 ⟨m, h1, rfl⟩
  have := hf r k1
  simp [k2, k3, h2] at this
theorem find_some_at {rs : List MR} {s : ByteArray} {n : Int} {j : Nat} (hf : findR rs s n = some j) : ∃ r, rs[j]? = some r ∧ r.s = s ∧ r.m.p.number = n := by
  unfold findR at hf
  rw [List.findIdx?_eq_some_iff_getElem] at hf
  obtain ⟨h1, h2, _⟩ := hf
  rw [Bool.and_eq_true, decide_eq_true_eq, decide_eq_true_eq] at h2
  exact ⟨_, List.getElem?_eq_getElem h1, h2⟩
theorem rel_has {gs : List MG} {rs : List MR} (hr : RelR gs rs) {s : ByteArray} {n : Int} {r : MR} (h1 : r ∈ rs) (h2 : r.s = s) (h3 : r.m.p.number = n) : hasNum (linesIn gs s) n = true := by
  obtain ⟨m, k1, k2⟩ := (hr s r.m.p).2 ⟨r, h1, h2, rfl⟩
  unfold hasNum nums
  rw [List.contains_iff_mem, List.mem_map]
  exact ⟨m, k1, by rw [k2]; exact h3⟩

end Go.Proofs.YtdjaphcelpchaaaGreatDoor

/- (*overview.Index).RemoveId. -/
namespace Go.Proofs.YtdjaphcelpchaaaGreatDoor
open Go Go.RowKit Go.Proofs

attribute [local go_sem ↓] ex_load_id ex_store_id ex_load_line ex_store_line ex_alloc_line ex_build_line
attribute [local go_sem] ld_id st_id ld_line st_line guard_id okCells_drew rdCells_drew okCells_drewN rdCells_drewN rowOk_drew rowOk_cells okCells_cells rdCells_cells setRow_drew setRow_new setRow_past

theorem where_fst (gs : List MG) (ns : List ByteArray) (x : Id32) : (whereAt gs ns x).map Prod.fst = ns.filter fun t => (placeIn gs x t).isSome := by
  unfold whereAt
  induction ns with
  | nil => rfl
  | cons t ns ih =>
    cases hp : placeIn gs x t with
    | none => rw [List.filterMap_cons_none hp, List.filter_cons_of_neg (by simp [hp])]; exact ih
    | some a =>
      have : a.1 = t := by
        unfold placeIn at hp
        obtain ⟨m, _, rfl⟩ := Option.map_eq_some_iff.1 hp
        rfl
      rw [List.filterMap_cons_some hp, List.filter_cons_of_pos (by simp [hp]), List.map_cons, ih, this]
theorem where_mem {gs : List MG} {ns : List ByteArray} {x : Id32} {a : PL} (ha : a ∈ whereAt gs ns x) : ∃ m ∈ linesIn gs a.1, m.p.id = x ∧ m.p.number = a.2 := by
  unfold whereAt at ha
  obtain ⟨t, _, hp⟩ := List.mem_filterMap.1 ha
  unfold placeIn at hp
  obtain ⟨m, hm, rfl⟩ := Option.map_eq_some_iff.1 hp
  exact ⟨m, List.mem_of_find?_eq_some hm, by simpa using List.find?_some hm, rfl⟩
theorem where_not {gs : List MG} {ns : List ByteArray} {x : Id32} {t : ByteArray} (hm : ∀ t, t ∈ ns ↔ ∃ G ∈ gs, G.name = t) (ht : t ∉ (whereAt gs ns x).map Prod.fst) : outId (linesIn gs t) x = linesIn gs t := by
  rw [where_fst, List.mem_filter, not_and] at ht
  unfold outId
  rw [List.filter_eq_self]
  intro m hmm
  rw [decide_eq_true_eq]
  intro e
  have hne : linesIn gs t ≠ [] := fun e => by rw [e] at hmm; cases hmm
  obtain ⟨G, hG, _, _⟩ := linesIn_ne hne
  refine ht ((hm t).2 ⟨G, groupOf_mem hG⟩) ?_
  unfold placeIn
  rw [Option.isSome_map, List.find?_isSome]
  exact ⟨m, hmm, by simpa using e⟩
theorem where_nodup {gs : List MG} {ns : List ByteArray} (x : Id32) (hn : ordN ns) : ((whereAt gs ns x).map Prod.fst).Nodup := by
  rw [where_fst]
  refine (List.Pairwise.imp ?_ hn : ns.Nodup).sublist List.filter_sublist
  intro a b hab e
  rw [e, cmpN_refl] at hab
  omega

/-- What a round of RemoveId keeps. -/
structure IdRound (B ib M : Nat) (gs : List MG) (x : Id32) (ps : List PL) (w1 : World) (k : Nat) (gsk : List MG) (mck : Nat) (wr : World) : Prop where
  idx : IdxAt B wr ib M gsk mck
  kept : Kept (foot ib M gs) w1 wr
  foot : FootOk (Go.Proofs.YtdjaphcelpchaaaGreatDoor.foot ib M gs) (Go.Proofs.YtdjaphcelpchaaaGreatDoor.foot ib M gsk) w1
  lines : ∀ t, (t ∈ (ps.take k).map Prod.fst → linesIn gsk t = outId (linesIn gs t) x) ∧ (t ∉ (ps.take k).map Prod.fst → linesIn gsk t = linesIn gs t)
  tot : total gsk ≤ total gs
theorem IdRound.later {B ib M : Nat} {gs : List MG} {x : Id32} {ps : List PL} {w1 : World} {k : Nat} {gsk : List MG} {mck : Nat} {wr w2 : World} (h : IdRound B ib M gs x ps w1 k gsk mck wr) (hb : Below wr.heap.size wr w2) : IdRound B ib M gs x ps w1 k gsk mck w2 :=
  ⟨h.idx.below hb, h.kept.trans (Kept.of_below (F := []) hb) (fun _ hk => by cases hk), h.foot, h.lines, h.tot⟩
theorem IdRound.next {B ib M : Nat} {gs : List MG} {x : Id32} {ps : List PL} {w1 : World} {k : Nat} {gsk : List MG} {mck : Nat} {wr w3 : World} {h0 : World} {mc0 : Nat} (h : IdRound B ib M gs x ps w1 k gsk mck wr) (hX : IdxAt B h0 ib M gs mc0) (hk : k < ps.length) (hnd : (ps.map Prod.fst).Nodup)
    (hm : ∃ m ∈ linesIn gs ps[k].1, m.p.id = x ∧ m.p.number = ps[k].2) {r : Ending} (hp : RemovePost B ib M gsk ps[k].1 ps[k].2 wr r w3) : ∃ gsn mcn, IdRound B ib M gs x ps w1 (k + 1) gsn mcn w3 := by
  obtain ⟨m, hm1, hm2, hm3⟩ := hm
  have htk : ps.take (k + 1) = ps.take k ++ [ps[k]] := List.take_succ_eq_append_getElem hk
  have hnot : ps[k].1 ∉ (ps.take k).map Prod.fst := by
    have h1 := hnd.sublist ((List.take_sublist (k + 1) ps).map Prod.fst)
    rw [htk, List.map_append, List.nodup_append] at h1
    intro h2
    exact h1.2.2 _ h2 _ (by simp) rfl
  have hl := (h.lines ps[k].1).2 hnot
  rcases hp with ⟨hno, _, _⟩ | ⟨i, m', hi, hn, _, gsn, mcn, hr⟩
  · exfalso
    rw [hl] at hno
    have : hasNum (linesIn gs ps[k].1) ps[k].2 = true := by
      unfold hasNum nums
      rw [List.contains_iff_mem, List.mem_map]
      exact ⟨m, hm1, hm3⟩
    rw [this] at hno
    cases hno
  · rw [hl] at hi
    have hsort := hX.sorted ps[k].1
    have hmm : m' = m := by
      obtain ⟨j, hj⟩ := List.mem_iff_getElem?.1 hm1
      unfold nums at hsort
      rw [List.pairwise_map] at hsort
      obtain ⟨i1, i2⟩ := List.getElem?_eq_some_iff.1 hi
      obtain ⟨j1, j2⟩ := List.getElem?_eq_some_iff.1 hj
      rw [List.pairwise_iff_getElem] at hsort
      rcases Nat.lt_trichotomy i j with hlt | heq | hlt
      · have := hsort i j i1 j1 hlt
        rw [i2, j2] at this
        omega
      · subst heq; rw [← i2, ← j2]
      · have := hsort j i j1 i1 hlt
        rw [i2, j2] at this
        omega
    subst hmm
    have her := erase_id (ids_in hX ps[k].1) hi
    rw [hm2] at her
    refine ⟨gsn, mcn, hr.idx, h.kept.trans hr.kept h.foot, fun j hj => ?_, fun t => ?_, by have := hr.tot; have := h.tot; omega⟩
    · rcases hr.foot j hj with h1 | h1
      · exact h.foot j h1
      · exact .inr (Nat.le_trans h.kept.size h1)
    · rw [hr.lines t, htk, List.map_append]
      by_cases ht : t = ps[k].1
      · subst ht
        rw [if_pos rfl, hl, her]
        exact ⟨fun _ => rfl, fun hn => absurd (by simp) hn⟩
      · rw [if_neg ht]
        have : (t ∈ (ps.take k).map Prod.fst ++ [ps[k]].map Prod.fst) = (t ∈ (ps.take k).map Prod.fst) := by simp [ht]
        rw [this]
        exact h.lines t

/-- What RemoveId does. -/
def RemoveIdPost (B ib M : Nat) (gs : List MG) (x : Id32) (w : World) (r : Ending) (w' : World) : Prop := ∃ ns gs' mc', ordN ns ∧ (∀ t, t ∈ ns ↔ ∃ G ∈ gs, G.name = t) ∧ r = .returned (.int .i64 (whereAt gs ns x).length) ∧
  IdxAt B w' ib M gs' mc' ∧ Kept (foot ib M gs) w w' ∧ FootOk (foot ib M gs) (foot ib M gs') w ∧ (∀ t, linesIn gs' t = outId (linesIn gs t) x) ∧ total gs' ≤ total gs

set_option maxRecDepth 100000 in
set_option maxHeartbeats 4000000 in
theorem removeId_any (B ib M mc : Nat) (gs : List MG) (x : Id32) (w : World) (hG : Gl w) (h : IdxAt B w ib M gs mc) :
    Calls Tryz.prog 46 #[.pointer (some ⟨ib, 0, none⟩), .agg (encId x).toArray] w fun r w' => RemoveIdPost B ib M gs x w r w' := by
  obtain ⟨W, hW⟩ : ∃ W, W = w.alloc (.cells (encId x).toArray 23) := ⟨_, rfl⟩
  have hb0 : Below w.heap.size w W := by rw [hW]; exact (Below.refl _ _).alloc (Nat.le_refl _) _
  have hs0 : W.heap.size = w.heap.size + 1 := by rw [hW]; simp
  have hq := rd_of_block (w := w.alloc (.cells (encId x).toArray 23)) (b := w.heap.size) (x := x) (heap_alloc_new _ _)
  obtain ⟨hq1, hq2⟩ := hq
  have HWH := Lib.hid (where_any B ib M mc gs x W (hG.later hb0) (h.below hb0))
  have HB := Lib.hid hb0
  have HX := Lib.hid h
  clear hb0 h hG
  go_enter Tryz.func46, Tryz.ntmps46
  go_wp2_with fail
  rw [← hW]
  clear hW hq1 hq2
  refine HWH.out.mono ?_
  rintro r w1 ⟨v, ns, rfl, hrow, hord, hmem, hb1⟩
  have HB1 := Lib.hid (HB.out.trans (hb1.mono HB.out.size) : Below w.heap.size w w1)
  have HO := Lib.hid hord
  have HM := Lib.hid hmem
  obtain ⟨ps, hps⟩ : ∃ ps, ps = whereAt gs ns x := ⟨_, rfl⟩
  rw [← hps] at hrow
  have HPS := Lib.hid hps
  clear hord hmem hps HWH hb1
  rcases hrow.2 with ⟨rfl, h0⟩ | ⟨b, cap, cur, rfl, hbB, hcur, hle, hmx, hcs, htk⟩
  · have HP0 : Hid (ps = []) := Lib.hid (List.length_eq_zero_iff.1 h0)
    clear hrow h0
    go_wp2
    go_loop [13] (fun i => i = .int .i64 0) (fun _ => 0)
    case atStart => exact rfl
    case round =>
      obtain rfl := hrel
      go_wp2
      go_ret
      have he : whereAt gs ns x = [] := by rw [← HPS.out]; exact HP0.out
      refine ⟨ns, gs, mc, HO.out, HM.out, by rw [he]; rfl, HX.out.below HB1.out, Kept.of_below HB1.out, fun k hk => .inl hk, fun t => (where_not HM.out (by rw [he]; simp)).symm, Nat.le_refl _⟩
  · have HROW := Lib.hid hrow
    have HCUR := Lib.hid hcur
    have hbl : b < w1.heap.size := (Array.getElem?_eq_some_iff.1 hcur).1
    have hbw : w.heap.size < b := by omega
    have hps2 : ps.length ≤ 65536 := by
      have h1 := where_nodup (gs := gs) x HO.out
      have h2 : ((whereAt gs ns x).map Prod.fst).length ≤ (gs.map fun G => G.name).length := h1.length_le_of_subset fun t ht => by
        rw [where_fst, List.mem_filter] at ht
        obtain ⟨G, hG, e⟩ := (HM.out t).1 ht.1
        exact List.mem_map.2 ⟨G, hG, e⟩
      rw [List.length_map, List.length_map, ← HPS.out] at h2
      exact Nat.le_trans h2 HX.out.groups
    clear hrow hcur hcs htk
    go_wp2
    go_loopw [13] (fun i wr => ∃ k gsk mck, k ≤ ps.length ∧ i = .int .i64 (k : Nat) ∧ IdRound B ib M gs x ps w1 k gsk mck wr) (fun i _ => ps.length - (intOf i).toNat)
    case atStart => exact ⟨0, gs, mc, by omega, rfl, HX.out.below HB1.out, Kept.of_below (Below.refl _ _), fun k hk => .inl hk, fun t => ⟨fun h => by simp at h, fun _ => rfl⟩, Nat.le_refl _⟩
    case round =>
      obtain ⟨k, gsk, mck, hk, rfl, hrd⟩ := hrel
      by_cases hlt : k < ps.length
      · have hltz : (k : Int) < (ps.length : Int) := by omega
        have hblk : wr.heap[b]? = some (.cells cur 76 (0, 0)) := (hrd.kept.block b hbl (fun hf => by have := (HX.out.foot_lt b hf).2; omega)).trans HCUR.out
        have hcell : ∀ j u, (flatP ps)[j]? = some u → wr.cell? ⟨b, j, none⟩ = some u := fun j u hu => by
          have h1 := World.ownsRow.cells HROW.out (g := b) rfl j u hu
          rw [Addr.add_lit, Nat.zero_add] at h1
          exact (cell_of_row wr b j _ _ _ hblk).trans ((cell_of_row w1 b j _ _ _ HCUR.out).symm.trans h1)
        have hg := flatP_get ps k hlt
        have hc0 := hcell _ _ hg.1
        have hc1 := hcell _ _ hg.2
        obtain ⟨t, ht⟩ : ∃ t, t = ps[k].1 := ⟨_, rfl⟩
        obtain ⟨n, hn⟩ : ∃ n, n = ps[k].2 := ⟨_, rfl⟩
        rw [← ht] at hc0
        rw [← hn] at hc1
        have HT := Lib.hid ht
        have HN := Lib.hid hn
        have HRD := Lib.hid hrd
        clear hcell hg hblk ht hn hrd
        obtain ⟨W2, hW2⟩ : ∃ W2, W2 = wr.alloc (.cells #[.string t, .int .i64 n] 76) := ⟨_, rfl⟩
        have hb2 : Below wr.heap.size wr W2 := by rw [hW2]; exact (Below.refl _ _).alloc (Nat.le_refl _) _
        have HRM := Lib.hid (remove_any B ib M mck gsk t n W2 (HRD.out.idx.below hb2))
        have HRD2 := Lib.hid (HRD.out.later hb2)
        clear hb2
        have hall : ∀ a ∈ ps, ∃ m ∈ linesIn gs a.1, m.p.id = x ∧ m.p.number = a.2 := fun a ha => where_mem (ns := ns) (by rw [← HPS.out]; exact ha)
        have HME := Lib.hid (hall _ (List.getElem_mem hlt))
        have HND : Hid ((ps.map Prod.fst).Nodup) := Lib.hid (by rw [HPS.out]; exact where_nodup x HO.out)
        clear hall
        go_wp2_with fail
        rw [← hW2]
        clear hW2
        refine HRM.out.mono ?_
        intro r w3 hp
        obtain ⟨e, rfl⟩ : ∃ e, r = .returned e := by
          rcases hp with ⟨_, e, _⟩ | ⟨_, _, _, _, e, _⟩
          · exact ⟨_, e⟩
          · exact ⟨_, e⟩
        rw [HT.out, HN.out] at hp
        obtain ⟨gsn, mcn, hnext⟩ := HRD2.out.next HX.out hlt HND.out HME.out hp
        have HNX := Lib.hid hnext
        clear hnext hp
        go_wp2
        go_roundw
        case rel => exact ⟨k + 1, gsn, mcn, by omega, by go_num, HNX.out⟩
        case measure => simp [intOf]; omega
      · have HE : Hid (ps.take k = ps) := Lib.hid (List.take_of_length_le (by omega))
        have HRD := Lib.hid hrd
        clear hrd
        go_wp2
        go_ret
        refine ⟨ns, gsk, mck, HO.out, HM.out, by rw [← HPS.out]; rfl, HRD.out.idx, (Kept.of_below (F := foot ib M gs) HB1.out).trans HRD.out.kept (fun k hk => .inl hk), fun k hk => ?_, fun t => ?_, HRD.out.tot⟩
        · rcases HRD.out.foot k hk with h1 | h1
          · exact .inl h1
          · exact .inr (Nat.le_trans HB1.out.size h1)
        · have h2 := HRD.out.lines t
          rw [HE.out] at h2
          by_cases h1 : t ∈ ps.map Prod.fst
          · exact h2.1 h1
          · rw [h2.2 h1]
            rw [HPS.out] at h1
            exact (where_not HM.out h1).symm

end Go.Proofs.YtdjaphcelpchaaaGreatDoor

/- The reference's lists in memory; before, Find, Without, Of, Groups. -/
namespace Go.Proofs.YtdjaphcelpchaaaGreatDoor
open Go Go.RowKit Go.Proofs

def rList (r : MR) : List Value := .string r.s :: lineList r.m.g
def flatR (rs : List MR) : List Value := rs.flatMap rList
theorem rList_length (r : MR) : (rList r).length = 39 := by simp [rList, lineList_length]
theorem rList_cells (r : MR) : rlineCells r.s r.m.g = (rList r).toArray := rfl
theorem flatR_length (rs : List MR) : (flatR rs).length = rs.length * 39 := by
  induction rs with
  | nil => rfl
  | cons m ms ih => simp [flatR, rList_length] at ih ⊢; omega
theorem flatR_get : ∀ (rs : List MR) (j i : Nat) (hj : j < rs.length), i < 39 → (flatR rs)[j * 39 + i]? = (rList rs[j])[i]?
  | m :: ms, 0, i, _, hi => by
    show ((rList m) ++ flatR ms)[0 * 39 + i]? = _
    rw [Nat.zero_mul, Nat.zero_add, List.getElem?_append_left (by rw [rList_length]; exact hi)]
    rfl
  | m :: ms, j + 1, i, hj, hi => by
    show ((rList m) ++ flatR ms)[(j + 1) * 39 + i]? = _
    rw [List.getElem?_append_right (by rw [rList_length]; omega), rList_length, show (j + 1) * 39 + i - 39 = j * 39 + i by omega]
    exact flatR_get ms j i (by simpa using hj) hi
theorem flatR_append (a b : List MR) : flatR (a ++ b) = flatR a ++ flatR b := by simp [flatR]
theorem flatR_one (r : MR) : flatR [r] = rList r := by simp [flatR]
theorem flatR_take (rs : List MR) (i : Nat) : (flatR rs).take (i * 39) = flatR (rs.take i) := by
  induction rs generalizing i with
  | nil => simp [flatR]
  | cons m ms ih =>
    cases i with
    | zero => simp [flatR]
    | succ i =>
      show ((rList m) ++ flatR ms).take ((i + 1) * 39) = _
      rw [List.take_append, rList_length, show (i + 1) * 39 - 39 = i * 39 by omega, ih, List.take_of_length_le (by rw [rList_length]; omega)]
      rfl
theorem flatR_drop (rs : List MR) (i : Nat) : (flatR rs).drop (i * 39) = flatR (rs.drop i) := by
  induction rs generalizing i with
  | nil => simp [flatR]
  | cons m ms ih =>
    cases i with
    | zero => simp
    | succ i =>
      show ((rList m) ++ flatR ms).drop ((i + 1) * 39) = _
      rw [List.drop_append, rList_length, show (i + 1) * 39 - 39 = i * 39 by omega, ih, List.drop_of_length_le (by rw [rList_length]; omega)]
      rfl
theorem rList_one {r : MR} (h : r.m.v.oneCell' = true) : ∀ u ∈ rList r, u.oneCell' = true := by
  intro u hu
  rcases List.mem_cons.1 hu with rfl | hu
  · rfl
  · exact flat_cells (ms := [r.m]) (fun m hm => by rw [List.mem_singleton.1 hm]; exact h) u (by simpa [flatLines] using hu)
theorem flatR_cells {rs : List MR} (h : ∀ r ∈ rs, r.m.v.oneCell' = true) : ∀ u ∈ flatR rs, u.oneCell' = true := by
  intro u hu
  obtain ⟨r, hr, hu⟩ := List.mem_flatMap.1 hu
  exact rList_one (h r hr) u hu

theorem Tryz.info_rline : (Tryz.prog.info? 26).map (fun i => (i.zero, i.size, i.bytes)) = some (some (.agg (rlineCells ⟨#[]⟩ zeroLine)), 39, 128) := by kernel_rfl
theorem ex_bs_rline (ρ : Operand → Value) (d : Option Tmp) (x : Operand) (ty : TypeId) (pos : String) (af : Array Edge) (g : Option (Nat × Bool)) (w : World) :
    Sem.run Tryz.prog (execOp ρ ⟨d, .buildSlice 49 1 #[(0, x)], ty, pos, af, g⟩) w = bsRes Tryz.prog 49 w (ρ x) := by kernel_rfl
theorem bs_rline (w : World) (s : ByteArray) (g : GLine) : bsRes Tryz.prog 49 w (.agg (rlineCells s g)) = .ok (.value (.slice (some ⟨w.heap.size, 0, none⟩) 1 1)) (w.alloc (.cells (rlineCells s g) 26)) := by
  obtain ⟨i0, hi, hz0, hz1, hz2⟩ := info_parts Tryz.info_rline
  unfold bsRes
  rw [Sem.run_bind, run_buildSlice w 49 26 1 _ (rlineCells s g) i0 _ Tryz.underlying49 hi hz0 (by rw [hz1]; decide) (by rw [hz1]; decide) (by
    rw [hz1]
    exact fill_one _ _ 39 (rlineCells_size s g) (by simp))]
  rfl

attribute [local go_sem ↓] ex_load_id ex_store_id ex_load_line ex_store_line ex_load_rline ex_store_rline ex_alloc_line ex_build_line ex_alloc_rline ex_build_rline ex_bs_rline
attribute [local go_sem] ld_id st_id ld_line st_line ld_rline st_rline guard_id okCells_drew rdCells_drew okCells_drewN rdCells_drewN rowOk_drew rowOk_cells okCells_cells rdCells_cells setRow_drew setRow_new setRow_past bs_rline

/-- A list of the reference in memory. -/
structure RefsAt (B : Nat) (w : World) (v : Value) (rs : List MR) : Prop where
  row : w.ownsRow B 26 39 v rs.length (flatR rs)
  one : ∀ r ∈ rs, r.m.v.oneCell' = true
  names : ∀ r ∈ rs, r.s.size ≤ 100000
  few : rs.length ≤ 100000
theorem RefsAt.nil (B : Nat) (w : World) : RefsAt B w (.slice none 0 0) [] := ⟨World.ownsRow_nil _ _ _ _, fun _ h => (by cases h), fun _ h => (by cases h), Nat.zero_le _⟩
theorem RefsAt.head {B : Nat} {w : World} {v : Value} {rs : List MR} (h : RefsAt B w v rs) : (v = .slice none 0 0 ∧ rs = []) ∨ ∃ g cap cur, v = .slice (some ⟨g, 0, none⟩) rs.length cap ∧ B ≤ g ∧ g < w.heap.size ∧ rs.length ≤ cap ∧ cap ≤ maxLen ∧ w.heap[g]? = some (.cells cur 26 (0, 0)) ∧
    ∀ j u, (flatR rs)[j]? = some u → w.cell? ⟨g, j, none⟩ = some u := by
  rcases h.row.2 with ⟨rfl, h0⟩ | ⟨g, cap, cur, rfl, hg, hcur, hle, hmx, hcs, htk⟩
  · exact .inl ⟨rfl, List.length_eq_zero_iff.1 h0⟩
  · refine .inr ⟨g, cap, cur, rfl, hg, (Array.getElem?_eq_some_iff.1 hcur).1, hle, hmx, hcur, fun j u hu => ?_⟩
    have := World.ownsRow.cells h.row (g := g) rfl j u hu
    rwa [Addr.add_lit, Nat.zero_add] at this
theorem rAt_cell {w : World} {g : Nat} {rs : List MR} (h : ∀ j u, (flatR rs)[j]? = some u → w.cell? ⟨g, j, none⟩ = some u) {k : Nat} (hk : k < rs.length) {i : Nat} {u : Value} (hu : (rList rs[k])[i]? = some u) : w.cell? ⟨g, k * 39 + i, none⟩ = some u := by
  have hi : i < 39 := by have := (List.getElem?_eq_some_iff.1 hu).1; rwa [rList_length] at this
  exact h _ _ (by rw [flatR_get rs k i hk hi]; exact hu)
theorem rAt_rd {w : World} {g : Nat} {rs : List MR} (h : ∀ j u, (flatR rs)[j]? = some u → w.cell? ⟨g, j, none⟩ = some u) {k : Nat} (hk : k < rs.length) : okCells w ⟨g, k * 39, none⟩ 39 = true ∧ rdCells w ⟨g, k * 39, none⟩ 39 = rlineCells rs[k].s rs[k].m.g := by
  have := rd_of_cells (w := w) (a := ⟨g, k * 39, none⟩) (cs := rList rs[k]) (fun j v hj => by rw [Addr.add_lit]; exact rAt_cell h hk hj)
  rw [rList_length] at this
  exact this
theorem rAt_id {w : World} {g : Nat} {rs : List MR} (h : ∀ j u, (flatR rs)[j]? = some u → w.cell? ⟨g, j, none⟩ = some u) {k : Nat} (hk : k < rs.length) : okCells w ⟨g, k * 39 + 2, none⟩ 32 = true ∧ rdCells w ⟨g, k * 39 + 2, none⟩ 32 = (encId rs[k].m.p.id).toArray := by
  have := rd_of_cells (w := w) (a := ⟨g, k * 39 + 2, none⟩) (cs := encId rs[k].m.p.id) (fun j v hj => by
    have hj32 : j < 32 := by have := (List.getElem?_eq_some_iff.1 hj).1; rwa [encId_length] at this
    rw [Addr.add_lit, Nat.add_assoc]
    refine rAt_cell h hk ?_
    rw [← hj, show 2 + j = (j + 1) + 1 by omega]
    unfold rList lineList
    rw [List.getElem?_cons_succ, List.getElem?_cons_succ, List.getElem?_append_left (by rw [encId_length]; exact hj32)]
    rfl)
  rwa [encId_length] at this

set_option maxRecDepth 100000 in
set_option maxHeartbeats 2000000 in
theorem before_any (a b : MR) (w : World) (ha : a.s.size ≤ 100000) (hb : b.s.size ≤ 100000) :
    Calls Tryz.prog 75 #[.agg (rlineCells a.s a.m.g), .agg (rlineCells b.s b.m.g)] w fun r w' => r = .returned (.bool (beforeB a b)) ∧ Below w.heap.size w w' := by
  obtain ⟨W, hW⟩ : ∃ W, W = (w.alloc (.cells (rlineCells a.s a.m.g) 26)).alloc (.cells (rlineCells b.s b.m.g) 26) := ⟨_, rfl⟩
  have hb0 : Below w.heap.size w W := by rw [hW]; exact ((Below.refl _ _).alloc (Nat.le_refl _) _).alloc (by simp) _
  have hs0 : W.heap.size = w.heap.size + 2 := by rw [hW]; simp
  have hA : RVar W w.heap.size a.s a.m.g := by
    unfold RVar
    rw [hW, heap_alloc_old _ _ (by simp), heap_alloc_new]
  have hB : RVar W (w.heap.size + 1) b.s b.m.g := by
    unfold RVar
    have := heap_alloc_new (w.alloc (.cells (rlineCells a.s a.m.g) 26)) (.cells (rlineCells b.s b.m.g) 26)
    rw [hW]
    simpa using this
  have a0 := (hA.cell 0).trans (rc0 a.s a.m.g)
  have b0 := (hB.cell 0).trans (rc0 b.s b.m.g)
  have HA := Lib.hid hA
  have HB := Lib.hid hB
  have HC := Lib.hid (rcompare_any a.s b.s W ha hb)
  have HB0 := Lib.hid hb0
  clear hA hB hb0
  rw [hW] at a0 b0
  go_enter Tryz.func75, Tryz.ntmps75
  go_wp2_with fail
  rw [← hW]
  clear hW a0 b0
  refine HC.out.mono ?_
  rintro r w1 ⟨rfl, hb1⟩
  have hA1 : RVar w1 w.heap.size a.s a.m.g := (hb1.block _ (by omega)).trans HA.out
  have hB1 : RVar w1 (w.heap.size + 1) b.s b.m.g := (hb1.block _ (by omega)).trans HB.out
  have a1 := (hA1.cell 1).trans (rc1 a.s a.m.g)
  have b1 := (hB1.cell 1).trans (rc1 b.s b.m.g)
  have HBB := Lib.hid (HB0.out.trans (hb1.mono HB0.out.size) : Below w.heap.size w w1)
  clear hA1 hB1 HA HB HC HB0 hb1
  have HE : Hid (beforeB a b = (decide (cmpN a.s b.s < 0) || (decide (cmpN a.s b.s = 0) && decide (a.m.g.number < b.m.g.number)))) := Lib.hid rfl
  generalize cmpN a.s b.s = c at HE
  generalize a.m.g.number = na at HE a1
  generalize b.m.g.number = nb at HE b1
  by_cases hc : c < 0
  · have he : beforeB a b = true := by rw [HE.out]; simp [hc]
    go_wp2
    go_ret
    exact ⟨by rw [he]; rfl, HBB.out⟩
  · by_cases hc0 : c = 0
    · subst hc0
      have he : beforeB a b = decide (na < nb) := by rw [HE.out]; simp
      by_cases hn : na < nb
      · go_wp2
        go_ret
        exact ⟨by rw [he, decide_eq_true hn]; rfl, HBB.out⟩
      · go_wp2
        go_ret
        exact ⟨by rw [he]; rfl, HBB.out⟩
    · have he : beforeB a b = decide (c < 0) := by rw [HE.out]; simp [hc0]
      go_wp2
      go_ret
      exact ⟨by rw [he]; rfl, HBB.out⟩

/-- The answer of Find. -/
def findN (rs : List MR) (s : ByteArray) (n : Int) : Int := match findR rs s n with | some j => j | none => -1
theorem findN_at {rs : List MR} {s : ByteArray} {n : Int} {k : Nat} (hk : k < rs.length) (h1 : rs[k].s = s) (h2 : rs[k].m.p.number = n) (h3 : ∀ j (hj : j < rs.length), j < k → ¬ (rs[j].s = s ∧ rs[j].m.p.number = n)) : findN rs s n = k := by
  have : findR rs s n = some k := by
    unfold findR
    rw [List.findIdx?_eq_some_iff_getElem]
    refine ⟨hk, by simp [h1, h2], fun j hj => ?_⟩
    have := h3 j (by omega) hj
    rw [Bool.and_eq_true, decide_eq_true_eq, decide_eq_true_eq]
    exact this
  unfold findN
  rw [this]
theorem findN_no {rs : List MR} {s : ByteArray} {n : Int} (h3 : ∀ j (hj : j < rs.length), ¬ (rs[j].s = s ∧ rs[j].m.p.number = n)) : findN rs s n = -1 := by
  have : findR rs s n = none := by
    unfold findR
    rw [List.findIdx?_eq_none_iff]
    intro r hr
    obtain ⟨j, hj, rfl⟩ := List.getElem_of_mem hr
    have := h3 j hj
    rw [Bool.eq_false_iff, ne_eq, Bool.and_eq_true, decide_eq_true_eq, decide_eq_true_eq]
    exact this
  unfold findN
  rw [this]

set_option maxRecDepth 100000 in
set_option maxHeartbeats 2000000 in
theorem find_ref (B : Nat) (v : Value) (rs : List MR) (s : ByteArray) (n : Int) (w : World) (h : RefsAt B w v rs) :
    Calls Tryz.prog 36 #[v, .string s, .int .i64 n] w fun r w' => r = .returned (.int .i64 (findN rs s n)) ∧ w = w' := by
  have hfew := h.few
  rcases h.head with ⟨rfl, rfl⟩ | ⟨g, cap, cur, rfl, hB, hlt, hle, hmx, hcur, hcell⟩
  · clear h
    go_enter Tryz.func36, Tryz.ntmps36
    go_wp2
    go_loop [7] (fun i => i = .int .i64 0) (fun _ => 0)
    case atStart => exact rfl
    case round =>
      obtain rfl := hrel
      go_wp2
      go_ret
      exact ⟨rfl, rfl⟩
  · have HC := Lib.hid hcell
    clear hcell h hcur
    go_enter Tryz.func36, Tryz.ntmps36
    go_wp2
    go_loop [7] (fun i => ∃ k : Nat, k ≤ rs.length ∧ i = .int .i64 k ∧ Hid (∀ j (hj : j < rs.length), j < k → ¬ (rs[j].s = s ∧ rs[j].m.p.number = n))) (fun i => rs.length - (intOf i).toNat)
    case atStart => exact ⟨0, by omega, rfl, Lib.hid fun j _ h => by omega⟩
    case round =>
      obtain ⟨k, hk, rfl, HN⟩ := hrel
      by_cases hlt : k < rs.length
      · have hltz : (k : Int) < (rs.length : Int) := by omega
        have c0 : w.cell? ⟨g, k * 39, none⟩ = some (.string rs[k].s) := rAt_cell HC.out hlt (i := 0) rfl
        have c1 : w.cell? ⟨g, k * 39 + 1, none⟩ = some (.int .i64 rs[k].m.p.number) := rAt_cell HC.out hlt (i := 1) rfl
        have HF : Hid (rs[k].s = s → rs[k].m.p.number = n → findN rs s n = k) := Lib.hid fun h1 h2 => findN_at hlt h1 h2 HN.out
        have HN2 : Hid (¬ (rs[k].s = s ∧ rs[k].m.p.number = n) → ∀ j (hj : j < rs.length), j < k + 1 → ¬ (rs[j].s = s ∧ rs[j].m.p.number = n)) := Lib.hid fun h1 j hj hjk => by
          by_cases he : j = k
          · subst he; exact h1
          · exact HN.out j hj (by omega)
        clear HN
        generalize rs[k].s = t0 at c0 HF HN2
        generalize rs[k].m.p.number = n0 at c1 HF HN2
        by_cases ht : t0 = s
        · subst ht
          by_cases hn : n0 = n
          · subst hn
            have HF1 := Lib.hid (HF.out rfl rfl)
            clear HF HN2
            go_wp2
            go_ret
            exact ⟨by rw [HF1.out]; rfl, rfl⟩
          · have HN3 := Lib.hid (HN2.out fun h => hn h.2)
            clear HF HN2
            go_wp2
            go_round
            case rel => exact ⟨k + 1, by omega, by go_num, HN3⟩
            case measure => simp [intOf]; omega
        · have hte : (t0.toList == s.toList) = false := by rw [str_eq_iff, decide_eq_false ht]
          have HN3 := Lib.hid (HN2.out fun h => ht h.1)
          clear HF HN2
          go_wp2
          go_round
          case rel => exact ⟨k + 1, by omega, by go_num, HN3⟩
          case measure => simp [intOf]; omega
      · have HE : Hid (findN rs s n = -1) := Lib.hid (findN_no fun j hj => HN.out j hj (by omega))
        go_wp2
        go_ret
        exact ⟨by rw [HE.out]; rfl, rfl⟩

end Go.Proofs.YtdjaphcelpchaaaGreatDoor

/- The reference's Without, Of, Groups. -/
namespace Go.Proofs.YtdjaphcelpchaaaGreatDoor
open Go Go.RowKit Go.Proofs

attribute [local go_sem ↓] ex_load_id ex_store_id ex_load_line ex_store_line ex_load_rline ex_store_rline ex_alloc_line ex_build_line ex_alloc_rline ex_build_rline ex_bs_rline
attribute [local go_sem] ld_id st_id ld_line st_line ld_rline st_rline guard_id okCells_drew rdCells_drew okCells_drewN rdCells_drewN rowOk_drew rowOk_cells okCells_cells rdCells_cells setRow_drew setRow_new setRow_past bs_rline

theorem own_empty (w : World) (t s : Nat) : (w.alloc (.cells #[] t)).ownsRow w.heap.size t s (.slice (some ⟨w.heap.size, 0, none⟩) 0 0) 0 [] :=
  ⟨by simp, .inr ⟨w.heap.size, 0, #[], rfl, Nat.le_refl _, heap_alloc_new _ _, Nat.le_refl _, by unfold maxLen; omega, by simp, by simp⟩⟩
theorem eraseIdx_split (rs : List MR) (j : Nat) : rs.eraseIdx j = rs.take j ++ rs.drop (j + 1) := List.eraseIdx_eq_take_drop_succ rs j
theorem erase_length {rs : List MR} {j : Nat} (h : j < rs.length) : (rs.eraseIdx j).length = j + (rs.length - (j + 1)) := by
  rw [eraseIdx_split, List.length_append, List.length_take, List.length_drop]; omega

set_option maxRecDepth 100000 in
set_option maxHeartbeats 2000000 in
theorem without_any (B : Nat) (v : Value) (rs : List MR) (j : Nat) (w : World) (h : RefsAt B w v rs) (hj : j < rs.length) :
    Calls Tryz.prog 65 #[v, .int .i64 j] w fun r w' => ∃ v', r = .returned v' ∧ RefsAt w.heap.size w' v' (rs.eraseIdx j) ∧ Below w.heap.size w w' := by
  obtain ⟨i0, hi, hz0, hz1, hz2⟩ := info_parts Tryz.info_rline
  have hfew := h.few
  have HX := Lib.hid h
  rcases h.head with ⟨rfl, rfl⟩ | ⟨g, cap, cur, rfl, hB, hlt, hle, hmx, hcur, hcell⟩
  · cases hj
  · have HC := Lib.hid hcell
    have hjz : (j : Int) ≤ (rs.length : Int) := by omega
    have hjz2 : (j : Int) + 1 ≤ (rs.length : Int) := by omega
    clear hcell h hcur
    go_enter Tryz.func65, Tryz.ntmps65
    go_wp2
    refine wp_region_mix0 [1, 2, 3, 5, 6, 7, 8] [0, 4, 9, 10] (fun _ => True) (by kernel_rfl) (by kernel_rfl) (by kernel_rfl) trivial ?_
    simp only [opsAt, List.map_cons, List.map_nil, Array.getD_eq_getD_getElem?, List.getElem?_toArray, List.getElem?_cons_zero, List.getElem?_cons_succ, Option.getD_some]
    repeat (go_big_quiet_step (fail))
    refine wpQuiet_nil ?_
    have hNoG : g ≠ w.heap.size := by omega
    obtain ⟨ad, hadb, had, hdc⟩ : ∃ ad : Addr, (∀ i, (ad.add i).block < w.heap.size) ∧ (if cap = j + 1 then some (⟨g, 0, none⟩ : Addr) else some ⟨g, (j + 1) * 39, none⟩) = some ad ∧ ∀ i u, (flatR (rs.drop (j + 1)))[i]? = some u → w.cell? (ad.add i) = some u := by
      by_cases hc : cap = j + 1
      · refine ⟨⟨g, 0, none⟩, fun i => by rw [Addr.add_lit]; exact hlt, if_pos hc, fun i u hu => ?_⟩
        rw [List.drop_of_length_le (by omega)] at hu
        cases hu
      · refine ⟨⟨g, (j + 1) * 39, none⟩, fun i => by rw [Addr.add_lit]; exact hlt, if_neg hc, fun i u hu => ?_⟩
        rw [Addr.add_lit]
        refine HC.out _ _ ?_
        rw [← flatR_drop, List.getElem?_drop] at hu
        exact hu
    rw [had]
    clear had
    have HDC := Lib.hid hdc
    have HADB := Lib.hid hadb
    clear hdc hadb
    have hl1 : ((flatR rs).take (j * 39)).length = j * 39 := by rw [List.length_take, flatR_length]; omega
    have hl2 : (flatR (rs.drop (j + 1))).length = (rs.length - (j + 1)) * 39 := by rw [flatR_length, List.length_drop]
    have HO1 : Hid (∀ u ∈ (flatR rs).take (j * 39), u.oneCell' = true) := Lib.hid fun u hu => flatR_cells HX.out.one u (List.mem_of_mem_take hu)
    have HO2 : Hid (∀ u ∈ flatR (rs.drop (j + 1)), u.oneCell' = true) := Lib.hid (flatR_cells fun r hr => HX.out.one r (List.mem_of_mem_drop hr))
    have HEMP := Lib.hid (own_empty w.drew 26 39)
    refine wpR_cons true rfl (by kernel_rfl) ?_
    go_wp2_with fail
    refine ⟨fun _ => trivial, wpR_cons true rfl (by kernel_rfl) ?_⟩
    refine wpList_append_own _ rfl (.tmp 5) (.tmp 8) 49 rfl w.heap.size 26 i0 (.agg (rlineCells ⟨#[]⟩ zeroLine)) 39 128 Tryz.underlying49 hi hz0 hz1 hz2 (rlineCells_size _ _) (by decide) _ _ _ rfl HEMP.out ⟨g, 0, none⟩ j cap ((flatR rs).take (j * 39)) rfl hl1 ?c1 HO1.out ?c3 ?c4 ?c5 ?_
    case c1 =>
      intro i u hu
      rw [Addr.add_lit, Nat.zero_add, ← HC.out i u ((by rw [List.getElem?_take] at hu; split at hu; exact hu; cases hu))]
      exact ((Below.refl w.heap.size w).drew.alloc (Nat.le_refl _) _).cell (p := ⟨g, i, none⟩) hlt
    case c3 => unfold maxLen; omega
    case c4 => omega
    case c5 => simp
    intro v1 w1 hown1 hgr1 _
    have hb1 : Below w.heap.size w w1 := ((Below.refl w.heap.size w).drew.alloc (Nat.le_refl _) _).grown hgr1 (by simp) (fun k e => by have e' : w.heap.size = k := Option.some.inj e; omega)
    have HLT1 := Lib.hid (fun j hj => (hown1.lt j hj).1)
    have HB1 := Lib.hid hb1
    clear hgr1 hb1 HEMP
    rw [Nat.zero_add, List.nil_append] at hown1
    go_wp2_with fail
    refine ⟨fun _ => trivial, wpR_list [9, 10] _ _ (by kernel_rfl) ?_⟩
    simp only [opsAt, List.map_cons, List.map_nil, Array.getD_eq_getD_getElem?, List.getElem?_toArray, List.getElem?_cons_zero, List.getElem?_cons_succ, Option.getD_some]
    refine wpList_append_own _ rfl (.tmp 9) (.tmp 13) 49 rfl w.heap.size 26 i0 (.agg (rlineCells ⟨#[]⟩ zeroLine)) 39 128 Tryz.underlying49 hi hz0 hz1 hz2 (rlineCells_size _ _) (by decide) _ _ _ rfl hown1 ad (rs.length - (j + 1)) (cap - (j + 1)) (flatR (rs.drop (j + 1))) rfl hl2 ?d1 HO2.out ?d3 ?d4 ?d5 ?_
    case d1 =>
      intro i u hu
      have h1 := HDC.out i u hu
      exact (HB1.out.cell (p := ad.add i) (HADB.out i)).trans h1
    case d3 => unfold maxLen; omega
    case d4 => omega
    case d5 => exact HB1.out.size
    intro v2 w2 hown2 hgr2 _
    have hb2 : Below w.heap.size w w2 := HB1.out.grown hgr2 HB1.out.size (fun k e => HLT1.out k e)
    have HOWN := Lib.hid hown2
    have HB2 := Lib.hid hb2
    clear hown1 hown2 hgr2 hb2
    go_wp2
    refine NoPanic.normal ?_
    go_wp2
    go_ret
    refine ⟨v2, rfl, ⟨?_, fun r hr => HX.out.one r (List.mem_of_mem_eraseIdx hr), fun r hr => HX.out.names r (List.mem_of_mem_eraseIdx hr), by rw [erase_length hj]; omega⟩, HB2.out⟩
    rw [erase_length hj, eraseIdx_split, flatR_append, ← flatR_take]
    exact HOWN.out

set_option maxRecDepth 100000 in
set_option maxHeartbeats 2000000 in
theorem of_any (B : Nat) (v : Value) (rs : List MR) (s : ByteArray) (w : World) (h : RefsAt B w v rs) :
    Calls Tryz.prog 29 #[v, .string s] w fun r w' => ∃ v', r = .returned v' ∧ RefsAt w.heap.size w' v' (ofR rs s) ∧ Below w.heap.size w w' := by
  obtain ⟨i0, hi, hz0, hz1, hz2⟩ := info_parts Tryz.info_rline
  have hfew := h.few
  have HX := Lib.hid h
  rcases h.head with ⟨rfl, rfl⟩ | ⟨g, cap, cur, rfl, hB, hlt, hle, hmx, hcur, hcell⟩
  · clear h
    go_enter Tryz.func29, Tryz.ntmps29
    go_wp2
    go_loop [5, 6] (fun p i => p = .slice none 0 0 ∧ i = .int .i64 0) (fun _ _ => 0)
    case atStart => exact ⟨rfl, rfl⟩
    case round =>
      obtain ⟨rfl, rfl⟩ := hrel
      go_wp2
      go_ret
      exact ⟨_, rfl, RefsAt.nil _ _, Below.refl _ _⟩
  · have HC := Lib.hid hcell
    clear hcell h hcur
    go_enter Tryz.func29, Tryz.ntmps29
    go_wp2
    go_loopw [5, 6] (fun p i wr => ∃ k : Nat, k ≤ rs.length ∧ i = .int .i64 k ∧ wr.ownsRow w.heap.size 26 39 p (ofR (rs.take k) s).length (flatR (ofR (rs.take k) s)) ∧ Below w.heap.size w wr) (fun _ i _ => rs.length - (intOf i).toNat)
    case atStart => exact ⟨0, by omega, rfl, World.ownsRow_nil _ _ _ _, Below.refl _ _⟩
    case round =>
      obtain ⟨k, hk, rfl, hown, hb⟩ := hrel
      by_cases hltk : k < rs.length
      · have hltz : (k : Int) < (rs.length : Int) := by omega
        have hcw : ∀ j u, (flatR rs)[j]? = some u → wr.cell? ⟨g, j, none⟩ = some u := fun j u hu => (hb.cell (p := ⟨g, j, none⟩) hlt).trans (HC.out j u hu)
        have c0 : wr.cell? ⟨g, k * 39, none⟩ = some (.string rs[k].s) := rAt_cell hcw hltk (i := 0) rfl
        obtain ⟨c1, c2⟩ := rAt_rd hcw hltk
        have HTK : Hid (ofR (rs.take (k + 1)) s = ofR (rs.take k) s ++ (if rs[k].s = s then [rs[k]] else [])) := Lib.hid (by
          rw [List.take_succ_eq_append_getElem hltk]
          unfold ofR
          rw [List.filter_append]
          by_cases he : rs[k].s = s <;> simp [he])
        have hone := HX.out.one rs[k] (List.getElem_mem hltk)
        generalize rs[k] = r0 at c0 c1 c2 HTK hone
        have HOWN := Lib.hid hown
        have HBr := Lib.hid hb
        have hlen2 : (ofR (rs.take k) s).length ≤ k := by
          unfold ofR
          exact Nat.le_trans (List.length_filter_le _ _) (by rw [List.length_take]; omega)
        clear hown hb hcw
        by_cases ht : r0.s = s
        · have HTK1 : Hid (ofR (rs.take (k + 1)) s = ofR (rs.take k) s ++ [r0]) := Lib.hid (by rw [HTK.out, if_pos ht])
          have hte : (r0.s.toList == s.toList) = true := by rw [str_eq_iff, decide_eq_true ht]
          clear HTK
          have HONE := Lib.hid (rList_one hone)
          have hownA := HOWN.out.alloc (.cells (rlineCells r0.s r0.m.g) 26)
          have hlt2 := Lib.hid (fun j hj => (HOWN.out.lt j hj).1)
          obtain ⟨nn, hnn⟩ : ∃ nn, nn = (ofR (rs.take k) s).length := ⟨_, rfl⟩
          rw [← hnn] at hownA hlen2
          have HNN := Lib.hid hnn
          clear hnn HOWN hone
          clear ht
          go_wp2_with (at_builtin; refine wpList_append_own _ rfl (.tmp 20) (.tmp 25) 49 rfl w.heap.size 26 i0 (.agg (rlineCells ⟨#[]⟩ zeroLine)) 39 128 Tryz.underlying49 hi hz0 hz1 hz2 (rlineCells_size _ _) (by decide) _ _ _ rfl hownA ⟨wr.heap.size, 0, none⟩ 1 1 (rList r0) rfl (rList_length r0) ?c1 HONE.out ?c3 ?c4 ?c5 ?_)
          case c1 =>
            intro j u hj
            rw [Addr.add_lit, Nat.zero_add, cells_new, rList_cells]
            simpa using hj
          case c3 => unfold maxLen; omega
          case c4 => omega
          case c5 => have := HBr.out.size; simp; omega
          intro v' w3 hown' hgrow _
          have hb3 : Below w.heap.size w w3 := (HBr.out.alloc HBr.out.size _).grown hgrow (by have := HBr.out.size; simp; omega) (fun j hj => hlt2.out j hj)
          clear hownA hgrow
          go_wp2
          go_roundw
          case rel => exact ⟨k + 1, by omega, by go_num, by rw [HTK1.out, flatR_append, flatR_one, List.length_append, ← HNN.out]; exact hown', hb3⟩
          case measure => simp [intOf]; omega
        · have HTK1 : Hid (ofR (rs.take (k + 1)) s = ofR (rs.take k) s) := Lib.hid (by rw [HTK.out, if_neg ht, List.append_nil])
          have hte : (r0.s.toList == s.toList) = false := by rw [str_eq_iff, decide_eq_false ht]
          clear HTK
          go_wp2
          go_roundw
          case rel => exact ⟨k + 1, by omega, by go_num, by rw [HTK1.out]; exact HOWN.out, HBr.out⟩
          case measure => simp [intOf]; omega
      · have HE : Hid (rs.take k = rs) := Lib.hid (List.take_of_length_le (by omega))
        have HBr := Lib.hid hb
        rw [HE.out] at hown
        obtain ⟨pa, pn, pc, hp⟩ : ∃ a n c, u5 = .slice a n c := own_slice hown
        have HOWN := Lib.hid hown
        subst hp
        clear hown hb
        go_wp2
        go_ret
        exact ⟨_, rfl, ⟨HOWN.out, fun r hr => HX.out.one r (ofR_mem.1 hr).1, fun r hr => HX.out.names r (ofR_mem.1 hr).1, Nat.le_trans (List.length_filter_le _ _) HX.out.few⟩, HBr.out⟩

end Go.Proofs.YtdjaphcelpchaaaGreatDoor

/- The reference's Groups. -/
namespace Go.Proofs.YtdjaphcelpchaaaGreatDoor
open Go Go.RowKit Go.Proofs

attribute [local go_sem ↓] ex_load_id ex_store_id ex_load_line ex_store_line ex_load_rline ex_store_rline ex_alloc_line ex_build_line ex_alloc_rline ex_build_rline ex_bs_rline
attribute [local go_sem] ld_id st_id ld_line st_line ld_rline st_rline guard_id okCells_drew rdCells_drew okCells_drewN rdCells_drewN rowOk_drew rowOk_cells okCells_cells rdCells_cells setRow_drew setRow_new setRow_past bs_rline

theorem stepG_last (o : List ByteArray) (t s : ByteArray) : stepG (o ++ [t]) s = if t = s then o ++ [t] else o ++ [t] ++ [s] := by
  unfold stepG
  rw [List.getLast?_concat]
  by_cases h : t = s <;> simp [h]
theorem stepG_nil (s : ByteArray) : stepG [] s = [s] := rfl
theorem groups_length (rs : List MR) : (groupsR rs).length ≤ rs.length := by
  refine snoc_ind (p := fun rs => (groupsR rs).length ≤ rs.length) (Nat.le_refl _) ?_ rs
  intro l a ih
  rw [groupsR_snoc]
  unfold stepG
  split
  · simp; omega
  · simp; omega
theorem strs_length (ns : List ByteArray) : (ns.map Value.string).length = ns.length * 1 := by simp

set_option maxRecDepth 100000 in
set_option maxHeartbeats 2000000 in
theorem groupsRef_any (B : Nat) (v : Value) (rs : List MR) (w : World) (h : RefsAt B w v rs) :
    Calls Tryz.prog 66 #[v] w fun r w' => ∃ v', r = .returned v' ∧ w'.ownsRow w.heap.size 9 1 v' (groupsR rs).length ((groupsR rs).map Value.string) ∧ Below w.heap.size w w' := by
  obtain ⟨i0, hi, hz0, hz1, hz2⟩ := info_parts Tryz.info_str
  have hfew := h.few
  have HX := Lib.hid h
  rcases h.head with ⟨rfl, rfl⟩ | ⟨g, cap, cur, rfl, hB, hlt, hle, hmx, hcur, hcell⟩
  · clear h
    go_enter Tryz.func66, Tryz.ntmps66
    go_wp2
    go_loop [3, 4] (fun p i => p = .slice none 0 0 ∧ i = .int .i64 0) (fun _ _ => 0)
    case atStart => exact ⟨rfl, rfl⟩
    case round =>
      obtain ⟨rfl, rfl⟩ := hrel
      go_wp2
      go_ret
      exact ⟨_, rfl, World.ownsRow_nil _ _ _ _, Below.refl _ _⟩
  · have HC := Lib.hid hcell
    clear hcell h hcur
    go_enter Tryz.func66, Tryz.ntmps66
    go_wp2
    go_loopw [3, 4] (fun p i wr => ∃ k : Nat, k ≤ rs.length ∧ i = .int .i64 k ∧ wr.ownsRow w.heap.size 9 1 p (groupsR (rs.take k)).length ((groupsR (rs.take k)).map Value.string) ∧ Below w.heap.size w wr) (fun _ i _ => rs.length - (intOf i).toNat)
    case atStart => exact ⟨0, by omega, rfl, World.ownsRow_nil _ _ _ _, Below.refl _ _⟩
    case round =>
      obtain ⟨k, hk, rfl, hown, hb⟩ := hrel
      by_cases hltk : k < rs.length
      · have hltz : (k : Int) < (rs.length : Int) := by omega
        have hcw : ∀ j u, (flatR rs)[j]? = some u → wr.cell? ⟨g, j, none⟩ = some u := fun j u hu => (hb.cell (p := ⟨g, j, none⟩) hlt).trans (HC.out j u hu)
        have c0 : wr.cell? ⟨g, k * 39, none⟩ = some (.string rs[k].s) := rAt_cell hcw hltk (i := 0) rfl
        have HTK : Hid (groupsR (rs.take (k + 1)) = stepG (groupsR (rs.take k)) rs[k].s) := Lib.hid (by
          rw [List.take_succ_eq_append_getElem hltk, groupsR_snoc])
        have hlen2 : (groupsR (rs.take k)).length ≤ k := Nat.le_trans (groups_length _) (by rw [List.length_take]; omega)
        generalize rs[k].s = t at c0 HTK
        generalize groupsR (rs.take k) = o at hown HTK hlen2
        have HBr := Lib.hid hb
        clear hb hcw
        have hq0 : ∀ n, (wr.drewN n).cell? ⟨g, k * 39, none⟩ = some (.string t) := fun n => by rw [World.cell?_drewN]; exact c0
        clear c0
        -- whether the name is new
        by_cases hnew : stepG o t = o
        · have hne : o ≠ [] := fun e => by rw [e, stepG_nil] at hnew; cases hnew
          have hla : o.getLast hne = t := by
            have h1 := List.dropLast_concat_getLast hne
            rw [← h1, stepG_last] at hnew
            split at hnew
            · assumption
            · have := congrArg List.length hnew; simp at this
          obtain ⟨ol, hol⟩ : ∃ ol, o.length = ol + 1 := ⟨o.length - 1, by have := List.length_pos_iff.2 hne; omega⟩
          rw [hol] at hown hlen2
          obtain ⟨pb, pcap, rfl, hpb, hpc⟩ : ∃ pb pcap, u3 = .slice (some ⟨pb, 0, none⟩) (ol + 1) pcap ∧ pb < wr.heap.size ∧ ol + 1 ≤ pcap := by
            rcases hown.2 with ⟨_, h0⟩ | ⟨g', cap', cur', e, hg', hcur', hle', _⟩
            · omega
            · exact ⟨g', cap', e, (Array.getElem?_eq_some_iff.1 hcur').1, hle'⟩
          have hlc : wr.cell? ⟨pb, ol, none⟩ = some (.string t) := by
            have := World.ownsRow.cells hown (g := pb) rfl ol (.string t) (by
              rw [List.getElem?_map, show ol = o.length - 1 by omega, ← List.getLast?_eq_getElem?, List.getLast?_eq_some_getLast hne, hla]; rfl)
            rwa [Addr.add_lit, Nat.zero_add] at this
          have hq1 : ∀ n, (wr.drewN n).cell? ⟨pb, ol, none⟩ = some (.string t) := fun n => by rw [World.cell?_drewN]; exact hlc
          have hd1 : ((ol : Int) + 1 == 0) = false := by rw [beq_eq_false_iff_ne]; omega
          have hwr : IntKind.i64.wrap (ol : Int) = ol := by rw [IntKind.wrap_i64]; omega
          have hd2 : (ol : Int) < (ol : Int) + 1 := by omega
          have hd3 : (t.toList == t.toList) = true := by simp
          have HOWN := Lib.hid hown
          have HNEW := Lib.hid hnew
          have HOL := Lib.hid hol
          clear hlc hown hnew hla hne hol
          go_wp2_with fail
          go_quiet (fail)
          clear hq0 hq1
          go_wp2
          go_roundw
          case rel => exact ⟨k + 1, by omega, by go_num, by rw [HTK.out, HNEW.out, HOL.out]; exact HOWN.out, below_drewN' HBr.out _⟩
          case measure => simp [intOf]; omega
        · have hst : stepG o t = o ++ [t] := by
            unfold stepG at hnew ⊢
            split at hnew
            · exact absurd rfl hnew
            · rename_i h; rw [if_neg h]
          have HST : Hid (groupsR (rs.take (k + 1)) = o ++ [t]) := Lib.hid (HTK.out.trans hst)
          have hlast : ∀ u, o.getLast? = some u → u ≠ t := fun u hu e => hnew (by unfold stepG; rw [hu, e, if_pos rfl])
          clear HTK hst hnew
          have hown0 := hown
          have hlt2 := Lib.hid (fun j hj => (hown0.lt j hj).1)
          obtain ⟨nn, hnn⟩ : ∃ nn, nn = o.length := ⟨_, rfl⟩
          rw [← hnn] at hown hlen2
          have HNN := Lib.hid hnn
          obtain ⟨pa, pc, hpe, hcase⟩ : ∃ pa pc, u3 = .slice pa nn pc ∧ (nn = 0 ∨ ∃ pb ol u, pa = some ⟨pb, 0, none⟩ ∧ nn = ol + 1 ∧ ol + 1 ≤ pc ∧ u ≠ t ∧ wr.cell? ⟨pb, ol, none⟩ = some (.string u)) := by
            rcases hown.2 with ⟨e, h0⟩ | ⟨g', cap', cur', e, hg', hcur', hle', _⟩
            · exact ⟨none, 0, by rw [e, h0], .inl h0⟩
            · refine ⟨_, _, e, ?_⟩
              rcases Nat.eq_zero_or_pos nn with h0 | h0
              · exact .inl h0
              · have hne : o ≠ [] := fun e => by rw [e] at hnn; simp at hnn; omega
                have hl := List.getLast?_eq_some_getLast hne
                refine .inr ⟨g', nn - 1, o.getLast hne, rfl, by omega, by omega, hlast _ hl, ?_⟩
                have := World.ownsRow.cells hown (g := g') (by rw [e]; rfl) (nn - 1) (.string (o.getLast hne)) (by
                  rw [List.getElem?_map, hnn, ← List.getLast?_eq_getElem?, hl]; rfl)
                rwa [Addr.add_lit, Nat.zero_add] at this
          have HOWN := Lib.hid hown
          clear hown hown0 hlast hnn
          subst hpe
          have fin : ∀ (n : Nat), (wr.drewN n).ownsRow w.heap.size 9 1 (.slice pa nn pc) nn (o.map Value.string) := fun n => HOWN.out
          have finB : ∀ n, Below w.heap.size w (wr.drewN n) := fun n => below_drewN' HBr.out n
          have finL : ∀ n, (wr.drewN n).heap.size = wr.heap.size := fun n => rfl
          have FIN := Lib.hid fin
          have FINB := Lib.hid finB
          clear fin finB
          rcases hcase with h0 | ⟨pb, ol, u, hpa, hol, hpc, hut, hlc⟩
          · subst h0
            go_wp2_with fail
            go_quiet (fail)
            clear HOWN HBr
            have hown1 := FIN.out nq
            have hBr1 := FINB.out nq
            have hc0 := hq0 nq
            clear hq0 FIN FINB
            generalize wr.drewN nq = W2 at hown1 hBr1 hc0 ⊢
            have HBr1 := Lib.hid hBr1
            have hownA := hown1.alloc (.cells #[.string t] 9)
            clear hown1 hBr1
            go_wp2_with (at_builtin; refine wpList_append_own _ rfl (.tmp 28) (.tmp 34) 78 rfl w.heap.size 9 i0 (.string ⟨#[]⟩) 1 16 Tryz.underlying78 hi hz0 hz1 hz2 rfl (by decide) _ _ _ rfl hownA ⟨W2.heap.size, 0, none⟩ 1 1 [.string t] rfl rfl ?c1 ?c2 ?c3 ?c4 ?c5 ?_)
            case c1 =>
              intro j u hj
              rw [Addr.add_lit, Nat.zero_add, cells_new]
              match j, hj with
              | 0, hj => simpa using hj
            case c2 => intro u hu; simp at hu; subst hu; rfl
            case c3 => unfold maxLen; omega
            case c4 => omega
            case c5 => have := HBr1.out.size; simp; omega
            intro v' w3 hown' hgrow _
            have hb3 : Below w.heap.size w w3 := (HBr1.out.alloc HBr1.out.size _).grown hgrow (by have := HBr1.out.size; simp; omega) (fun j hj => hlt2.out j hj)
            clear hownA hgrow
            go_wp2
            go_roundw
            case rel => exact ⟨k + 1, by omega, by go_num, by rw [HST.out, List.map_append, List.length_append, ← HNN.out]; exact hown', hb3⟩
            case measure => simp [intOf]; omega
          · subst hpa
            subst hol
            have hd1 : ((ol : Int) + 1 == 0) = false := by rw [beq_eq_false_iff_ne]; omega
            have hwr : IntKind.i64.wrap (ol : Int) = ol := by rw [IntKind.wrap_i64]; omega
            have hd2 : (ol : Int) < (ol : Int) + 1 := by omega
            have hq1 : ∀ n, (wr.drewN n).cell? ⟨pb, ol, none⟩ = some (.string u) := fun n => by rw [World.cell?_drewN]; exact hlc
            have hte : (u.toList == t.toList) = false := by rw [str_eq_iff, decide_eq_false hut]
            clear hlc hut
            go_wp2_with fail
            go_quiet (fail)
            clear hq1
            clear HOWN HBr
            have hown1 := FIN.out nq
            have hBr1 := FINB.out nq
            have hc0 := hq0 nq
            clear hq0 FIN FINB
            generalize wr.drewN nq = W2 at hown1 hBr1 hc0 ⊢
            have HBr1 := Lib.hid hBr1
            have hownA := hown1.alloc (.cells #[.string t] 9)
            clear hown1 hBr1
            go_wp2_with (at_builtin; refine wpList_append_own _ rfl (.tmp 28) (.tmp 34) 78 rfl w.heap.size 9 i0 (.string ⟨#[]⟩) 1 16 Tryz.underlying78 hi hz0 hz1 hz2 rfl (by decide) _ _ _ rfl hownA ⟨W2.heap.size, 0, none⟩ 1 1 [.string t] rfl rfl ?c1 ?c2 ?c3 ?c4 ?c5 ?_)
            case c1 =>
              intro j u hj
              rw [Addr.add_lit, Nat.zero_add, cells_new]
              match j, hj with
              | 0, hj => simpa using hj
            case c2 => intro u hu; simp at hu; subst hu; rfl
            case c3 => unfold maxLen; omega
            case c4 => omega
            case c5 => have := HBr1.out.size; simp; omega
            intro v' w3 hown' hgrow _
            have hb3 : Below w.heap.size w w3 := (HBr1.out.alloc HBr1.out.size _).grown hgrow (by have := HBr1.out.size; simp; omega) (fun j hj => hlt2.out j hj)
            clear hownA hgrow
            go_wp2
            go_roundw
            case rel => exact ⟨k + 1, by omega, by go_num, by rw [HST.out, List.map_append, List.length_append, ← HNN.out]; exact hown', hb3⟩
            case measure => simp [intOf]; omega
      · have HE : Hid (rs.take k = rs) := Lib.hid (List.take_of_length_le (by omega))
        have HBr := Lib.hid hb
        rw [HE.out] at hown
        obtain ⟨pa, pn, pc, hp⟩ : ∃ a n c, u3 = .slice a n c := own_slice hown
        have HOWN := Lib.hid hown
        subst hp
        clear hown hb
        go_wp2
        go_ret
        exact ⟨_, rfl, HOWN.out, HBr.out⟩

end Go.Proofs.YtdjaphcelpchaaaGreatDoor
