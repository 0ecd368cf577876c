/- A region that draws its order, taken in stages: each stage has quiet operations (E) and acting ones in a forced order (R); whatever belongs to no stage yet waits for the stage's last acting operation. -/
import Derived.Test.YtdjaphcelpchaaaGreatDoorMix
namespace Go.Proofs.YtdjaphcelpchaaaGreatDoor
open Go Go.RowKit

section
variable {P : Program} {ops : Array Oper} {C : World → Prop} {Q : Exit → Act → World → Prop}

/-- Which operations have come up. -/
def doneL (n : Nat) (S : List Nat) : Array Bool := ((List.range n).map fun i => S.contains i).toArray
theorem doneL_size (n : Nat) (S : List Nat) : (doneL n S).size = n := by simp [doneL]
theorem doneL_get (n : Nat) (S : List Nat) (i : Nat) (h' : i < (doneL n S).size) : (doneL n S)[i] = S.contains i := by simp [doneL]
theorem doneL_getD (n : Nat) (S : List Nat) (i : Nat) (h : i < n) (b : Bool) : (doneL n S).getD i b = S.contains i := by
  have h' : i < (doneL n S).size := by rw [doneL_size]; exact h
  simp [h', doneL_get n S i h']
theorem doneL_true {n : Nat} {S : List Nat} {i : Nat} (h : (doneL n S).getD i false = true) : i < n ∧ i ∈ S := by
  rcases Nat.lt_or_ge i n with hi | hi
  · rw [doneL_getD n S i hi] at h
    exact ⟨hi, by simpa using h⟩
  · simp [Array.getElem?_eq_none (by rw [doneL_size]; exact hi : (doneL n S).size ≤ i)] at h

/-- The post of a stage: what stands behind it, and the region's own for every other way out. -/
def QS (fin : Act → World → Prop) (Q : Exit → Act → World → Prop) : Exit → Act → World → Prop
  | .normal, a, w => fin a w
  | e, a, w => Q e a w

theorem wpOp_QS {fin : Act → World → Prop} {i : Nat} {K : Act → World → Prop} {a : Act} {w : World} (h : wpOp P ops (NoPanic (QS fin Q)) i K a w) : wpOp P ops (NoPanic Q) i K a w := by
  have hl : LetsOut (NoPanic (QS fin Q)) → LetsOut (NoPanic Q) := fun ⟨a, w, h⟩ => ⟨a, w, h⟩
  unfold wpOp at *
  cases ho : ops[i]? with
  | none => simp only [ho] at h ⊢; exact h
  | some o =>
    simp only [ho] at h ⊢
    split
    · rename_i hw
      rw [if_pos hw] at h
      rcases h with h | ⟨h1, h2⟩
      · refine .inl ?_
        unfold Oper.wp at *
        generalize (execOp a.eval o).run P w = r at *
        cases r with
        | ok n w' =>
          cases n <;> simp only [Oper.upon] at h ⊢ <;> exact h
        | halt x w' => cases x <;> simp only [Oper.upon] at h ⊢ <;> first | exact h | exact hl h
      · exact .inr ⟨h1, hl h2⟩
    · rename_i hw
      rw [if_neg hw] at h
      exact h

/-- r waits, through others or not, for e; operations that have come up are not followed. -/
def ancD (ops : Array Oper) (D : List Nat) : Nat → Nat → Nat → Bool
  | 0, _, _ => false
  | f + 1, r, e => match ops[r]? with
    | some o => o.after.any fun x => Region.binds .any x && !D.contains x.on && (x.on == e || ancD ops D f x.on e)
    | none => false
theorem ancD_ancB {D : List Nat} : ∀ {f r e : Nat}, ancD ops D f r e = true → ancB ops f r e = true
  | 0, _, _, h => by simp [ancD] at h
  | f + 1, r, e, h => by
    unfold ancD at h
    unfold ancB
    split at h
    · rename_i o ho
      simp only [ho]
      obtain ⟨x, hx, hb⟩ := Array.any_eq_true'.1 h
      refine Array.any_eq_true'.2 ⟨x, hx, ?_⟩
      simp only [Bool.and_eq_true, Bool.or_eq_true] at hb ⊢
      exact ⟨hb.1.1, hb.2.imp id ancD_ancB⟩
    · cases h
def needD (ops : Array Oper) (D E : List Nat) (r : Nat) : Bool := !(E.all fun e => ancD ops D ops.size r e)

/-- The acting operations of a stage, one after the other. -/
def wpN (P : Program) (ops : Array Oper) (Q : Exit → Act → World → Prop) (C : World → Prop) (D E : List Nat) : List Nat → Act → World → Prop
  | [], a, w => Q .normal a w
  | r :: rest, a, w => wpOp P ops (NoPanic Q) r (fun a' w' => (needD ops D E r = true → C w') ∧ wpN P ops Q C D E rest a' w') a w
def Zd (P : Program) (ops : Array Oper) (Q : Exit → Act → World → Prop) (C : World → Prop) (D E : List Nat) (ph : Bool) (w : World) (R : List Nat) (a : Act) : Prop :=
  if ph = true then wpN P ops Q C D E R a w else ∀ w', C w' → wpN P ops Q C D E R a w'

def tailB (ops : Array Oper) (D E R : List Nat) (i : Nat) : Bool := match ops[i]? with
  | some o => o.after.any fun x => Region.binds .any x && (R.getLast? == some x.on || !(D ++ E ++ R).contains x.on)
  | none => false
/-- The closed checks of a stage. -/
def stageB (ops : Array Oper) (D E R : List Nat) : Bool :=
  Region.noSelect ops && decide ((D ++ E ++ R).Nodup) && ((List.range ops.size).all fun i => D.contains i || E.contains i || R.contains i || tailB ops D E R i)
  && E.all (predsB ops (D ++ E)) && pairB (fun y e => !Region.waitsFor .any ops y e && apartB ops y e) E
  && R.all (predsB ops (D ++ E ++ R)) && pairB (fun r s => !Region.waitsFor .any ops r s) R && chainR ops R
  && (R.all fun r => E.all fun y => apartB ops y r)
  && (E.all fun e => match ops[e]? with | some o => !isCall o || (match R with | r :: _ => ancB ops ops.size r e | [] => true) | none => false)
  && (match R.getLast? with | some b => !needD ops D E b | none => false)
  && D.all (fun d => decide (d < ops.size))

theorem stage_main {D E R : List Nat} {m : Nat} {fin : Act → World → Prop} (hB : stageB ops D E R = true) (hfin : ∀ a w, fin a w → wpAny P .any ops (NoPanic Q) m (doneL ops.size (D ++ E ++ R)) a w) : ∀ (n : Nat) (L : Array Bool) (Rd R' : List Nat) (a : Act) (w : World) (ph : Bool), R = Rd ++ R' → L.size = ops.size → Closed ops L → (∀ i, i < ops.size → (L.getD i true = true → i ∈ D ++ E ++ R) ∧ (i ∈ D → L.getD i true = true)) → (R' = [] → E.filter (unl L) = []) → (∀ r ∈ Rd, L.getD r true = true) → (∀ r ∈ R', L.getD r true = false) →
    (E.filter (unl L)).length + R'.length = n → (E.filter (unl L) ≠ [] → C w) → (ph = false → C w ∧ Rd = []) → (ph = true → ∀ e ∈ E.filter (unl L), ∀ o, ops[e]? = some o → isCall o = false) →
    wpQuiet P ops C (Zd P ops (QS fin Q) C D E ph w R') (opsAt ops (E.filter (unl L))) a → wpAny P .any ops (NoPanic Q) (n + m) L a w := by
  simp only [stageB, Bool.and_eq_true, decide_eq_true_eq, List.all_eq_true] at hB
  obtain ⟨⟨⟨⟨⟨⟨⟨⟨⟨⟨⟨hns, hndD⟩, htail⟩, hpE⟩, hpair⟩, hpR⟩, hpairR⟩, hchain⟩, hapR⟩, hcalls⟩, hlast⟩, hDlt⟩ := hB
  have hnd : (E ++ R).Nodup := by rw [List.append_assoc] at hndD; exact (List.nodup_append.1 hndD).2.1
  have hsel := Region.noSelect_spec hns
  have hpair' := pairB_spec hpair
  have hpairR' := pairB_spec hpairR
  have hndE : E.Nodup := (List.nodup_append.1 hnd).1
  have hdis : ∀ x, x ∈ E → x ∈ R → False := fun x h1 h2 => (List.nodup_append.1 hnd).2.2 x h1 x h2 rfl
  have hget : ∀ (l : List Nat) (e : Nat), predsB ops l e = true → ∃ o, ops[e]? = some o ∧ ∀ x ∈ o.after, Region.binds .any x = true → x.on ∈ l ∧ x.on ≠ e := by
    intro l e h
    unfold predsB at h
    split at h
    · rename_i o ho
      refine ⟨o, ho, fun x hx hb => ?_⟩
      have h1 := (Array.all_eq_true_iff_forall_mem.1 h) x hx
      simp only [hb, Bool.not_true, Bool.false_or, Bool.and_eq_true, List.contains_iff_mem, bne_iff_ne] at h1
      exact h1
    · cases h
  have hDl : ∀ d, d ∈ D → d < ops.size := fun d hd => by simpa using hDlt d hd
  have hEl : ∀ e, e ∈ E → e < ops.size := fun e he => by
    obtain ⟨o, ho, _⟩ := hget (D ++ E) e (hpE e he)
    exact (Array.getElem?_eq_some_iff.1 ho).1
  have hRl : ∀ e, e ∈ R → e < ops.size := fun e he => by
    obtain ⟨o, ho, _⟩ := hget (D ++ E ++ R) e (hpR e he)
    exact (Array.getElem?_eq_some_iff.1 ho).1
  have hapart : ∀ y e, apartB ops y e = true → Region.waitsFor .any ops e y = false → ∃ oy oe, ops[y]? = some oy ∧ ops[e]? = some oe ∧ oy.apart ops oe = true := by
    intro y e h hw
    unfold apartB at h
    rw [hw, Bool.false_or] at h
    split at h
    · rename_i oy oe h1 h2
      exact ⟨oy, oe, h1, h2, h⟩
    · cases h
  intro n
  induction n with
  | zero =>
    intro L Rd R' a w ph hR hsz hcl hinv hRE hRd hR' hn _ hphC _ h
    have hE0 : E.filter (unl L) = [] := List.eq_nil_of_length_eq_zero (by omega)
    have hR0 : R' = [] := List.eq_nil_of_length_eq_zero (by omega)
    subst hR0
    rw [List.append_nil] at hR
    subst hR
    rw [hE0] at h
    rw [Nat.zero_add]
    have hL : L = doneL ops.size (D ++ E ++ R) := by
      apply Array.ext
      · rw [hsz, doneL_size]
      · intro i h1 h2
        have hi : i < ops.size := by rw [← hsz]; exact h1
        rw [doneL_get _ _ _ h2]
        have hg : L.getD i true = L[i] := by simp [h1]
        rw [← hg]
        cases hx : (D ++ E ++ R).contains i with
        | true =>
          rw [List.contains_iff_mem, List.append_assoc, List.mem_append, List.mem_append] at hx
          rcases hx with hx | hx | hx
          · exact (hinv i hi).2 hx
          · cases hy : L.getD i true with
            | true => rfl
            | false =>
              have : i ∈ E.filter (unl L) := List.mem_filter.2 ⟨hx, by simp only [unl, hy, Bool.not_false]⟩
              rw [hE0] at this; cases this
          · exact hRd i hx
        | false =>
          cases hy : L.getD i true with
          | false => rfl
          | true =>
            have := (hinv i hi).1 hy
            rw [← List.contains_iff_mem, hx] at this
            cases this
    rw [hL]
    refine hfin a w ?_
    have h' : Zd P ops (QS fin Q) C D E ph w [] a := h
    unfold Zd at h'
    split at h'
    · exact h'
    · rename_i hf
      exact h' w (hphC (by simpa using hf)).1
  | succ n ih =>
    intro L Rd R' a w ph hR hsz hcl hinv hRE hRd hR' hn hCw hphC hphE h
    have hR'ne : R' ≠ [] := fun h0 => by rw [hRE h0, h0] at hn; simp at hn
    have hunE : ∀ x, x ∈ E.filter (unl L) ↔ x ∈ E ∧ L.getD x true = false := fun x => by
      rw [List.mem_filter]; simp only [unl, Bool.not_eq_true']
    -- something may come up
    have hsome : Region.ready .any ops L ≠ [] := by
      cases hE' : E.filter (unl L) with
      | cons e T =>
        have he := (hunE e).1 (by rw [hE']; simp)
        obtain ⟨o, ho, hpre⟩ := hget (D ++ E) e (hpE e he.1)
        have hpw := hpair'.filter (p := unl L)
        rw [hE'] at hpw
        have : e ∈ Region.ready .any ops L := mem_ready.2 ⟨he.2, o, ho, fun x hx hb => by
          obtain ⟨hxE, hxe⟩ := hpre x hx hb
          cases hlx : L.getD x.on false with
          | true => rfl
          | false =>
            exfalso
            rcases List.mem_append.1 hxE with hxD | hxE
            · have h9 := (hinv x.on (hDl _ hxD)).2 hxD
              rw [getD_in (by rw [hsz]; exact hDl _ hxD) hlx] at h9
              cases h9
            have hin : x.on < L.size := by rw [hsz]; exact hEl _ hxE
            have hxm : x.on ∈ E.filter (unl L) := (hunE _).2 ⟨hxE, getD_in hin hlx⟩
            rw [hE'] at hxm
            rcases List.mem_cons.1 hxm with h1 | h1
            · exact hxe h1
            · have h2 := (List.pairwise_cons.1 hpw).1 _ h1
              simp only [Bool.and_eq_true, Bool.not_eq_true'] at h2
              rw [waitsFor_of ho hx hb rfl] at h2
              cases h2.1⟩
        intro h0; rw [h0] at this; cases this
      | nil =>
        cases R' with
        | nil => rw [hE'] at hn; simp at hn
        | cons r rest =>
          have hrR : r ∈ R := by rw [hR]; simp
          obtain ⟨o, ho, hpre⟩ := hget (D ++ E ++ R) r (hpR r hrR)
          have : r ∈ Region.ready .any ops L := mem_ready.2 ⟨hR' r (by simp), o, ho, fun x hx hb => by
            obtain ⟨hxE, hxe⟩ := hpre x hx hb
            cases hlx : L.getD x.on false with
            | true => rfl
            | false =>
              exfalso
              rw [List.append_assoc] at hxE
              rcases List.mem_append.1 hxE with hxD | hxE
              · have h9 := (hinv x.on (hDl _ hxD)).2 hxD
                rw [getD_in (by rw [hsz]; exact hDl _ hxD) hlx] at h9
                cases h9
              rcases List.mem_append.1 hxE with h1 | h1
              · have hin : x.on < L.size := by rw [hsz]; exact hEl _ h1
                have : x.on ∈ E.filter (unl L) := (hunE _).2 ⟨h1, getD_in hin hlx⟩
                rw [hE'] at this; cases this
              · have hin : x.on < L.size := by rw [hsz]; exact hRl _ h1
                rw [hR] at h1
                rcases List.mem_append.1 h1 with h2 | h2
                · have := hRd _ h2
                  rw [getD_in hin hlx] at this; cases this
                · rcases List.mem_cons.1 h2 with h3 | h3
                  · exact hxe h3
                  · rw [hR] at hpairR'
                    have h4 := (List.pairwise_cons.1 (List.pairwise_append.1 hpairR').2.1).1 _ h3
                    simp only [Bool.not_eq_true'] at h4
                    rw [waitsFor_of ho hx hb rfl] at h4
                    cases h4⟩
          intro h0; rw [h0] at this; cases this
    rw [show n + 1 + m = (n + m) + 1 by omega]
    refine ⟨fun h0 => absurd h0 hsome, fun i hi => ?_⟩
    obtain ⟨hiu, oi, hoi, hall⟩ := mem_ready.1 hi
    have hilt := (Array.getElem?_eq_some_iff.1 hoi).1
    have hcl' : Closed ops (L.setIfInBounds i true) := fun j oj hj hl e he hb => by
      by_cases hij : i = j
      · subst hij
        have : oj = oi := Option.some.inj (hj.symm.trans hoi)
        subst this
        exact getD_set_true (hall e he hb)
      · rw [getD_set_ne false hij] at hl
        exact getD_set_true (hcl j oj hj hl e he hb)
    have hinv' : i ∈ E ++ R → ∀ j, j < ops.size → ((L.setIfInBounds i true).getD j true = true → j ∈ D ++ E ++ R) ∧ (j ∈ D → (L.setIfInBounds i true).getD j true = true) := fun hiER j hj => by
      by_cases hij : i = j
      · subst hij
        exact ⟨fun _ => by rw [List.append_assoc]; exact List.mem_append_right _ hiER, fun _ => by rw [← hsz] at hj; simp [hj]⟩
      · rw [getD_set_ne true hij]
        exact hinv j hj
    have hc : i ∈ E ∨ i ∈ R := by
      have hc := htail i (List.mem_range.2 hilt)
      rw [Bool.or_eq_true, Bool.or_eq_true, Bool.or_eq_true, List.contains_iff_mem, List.contains_iff_mem, List.contains_iff_mem] at hc
      rcases hc with ((hc | hc) | hc) | hc
      · rw [(hinv i hilt).2 hc] at hiu; cases hiu
      · exact .inl hc
      · exact .inr hc
      · exfalso
        unfold tailB at hc
        rw [hoi] at hc
        obtain ⟨x, hx, hb⟩ := Array.any_eq_true'.1 hc
        rw [Bool.and_eq_true, Bool.or_eq_true] at hb
        have hlx := hall x hx hb.1
        rcases hb.2 with h1 | h1
        · rw [beq_iff_eq] at h1
          have hlast' : R.getLast? = R'.getLast? := by
            rw [hR, List.getLast?_append]
            cases hz : R'.getLast? with
            | none => exact absurd (List.getLast?_eq_none_iff.1 hz) hR'ne
            | some z => rfl
          have hm : x.on ∈ R' := List.mem_of_getLast? (by rw [← hlast', ← h1])
          rw [getD_both (hR' _ hm)] at hlx
          cases hlx
        · rw [Bool.not_eq_true'] at h1
          have hlt : x.on < ops.size := by
            rcases Nat.lt_or_ge x.on L.size with h2 | h2
            · rw [← hsz]; exact h2
            · simp [Array.getElem?_eq_none h2] at hlx
          have h3 := (hinv x.on hlt).1 (by
            cases h4 : L.getD x.on true with
            | true => rfl
            | false => rw [getD_both h4] at hlx; cases hlx)
          rw [← List.contains_iff_mem] at h3
          rw [h3] at h1
          cases h1
    rcases hc with hc | hc
    · -- a quiet one
      have himem : i ∈ E.filter (unl L) := (hunE i).2 ⟨hc, hiu⟩
      obtain ⟨E1, E2, hsplit⟩ := List.append_of_mem himem
      have hiR : i ∉ R := fun h' => hdis i hc h'
      have hpw := hpair'.filter (p := unl L)
      rw [hsplit] at hpw h
      have hap : ∀ x ∈ E1, ∃ ox, ops[x]? = some ox ∧ ox.apart ops oi = true := by
        intro x hx
        have h2 := (List.pairwise_append.1 hpw).2.2 x hx i (by simp)
        simp only [Bool.and_eq_true, Bool.not_eq_true'] at h2
        have hxu : L.getD x true = false := ((hunE x).1 (by rw [hsplit]; simp [hx])).2
        obtain ⟨oy, oe, h3, h4, h5⟩ := hapart x i h2.2 (not_waits_of_ready hi hxu)
        have : oe = oi := Option.some.inj (h4.symm.trans hoi)
        subst this
        exact ⟨oy, h3, h5⟩
      have hq := quiet_front hoi hsel E1 E2 a hap h
      have hfs := filter_set (by rw [hsz]; exact hilt) hndE hsplit
      have next : ∀ (a' : Act) (w' : World), (ph = true → w' = w) → C w' → wpQuiet P ops C (Zd P ops (QS fin Q) C D E ph w R') (opsAt ops (E1 ++ E2)) a' → wpAny P .any ops (NoPanic Q) (n + m) (L.setIfInBounds i true) a' w' := by
        intro a' w' hw' hC' h'
        refine ih (L.setIfInBounds i true) Rd R' a' w' ph hR (by simpa using hsz) hcl' (hinv' (List.mem_append_left _ hc)) (fun h0 => absurd h0 hR'ne) (fun r hr => ?_) (fun r hr => ?_) ?_ (fun _ => hC') (fun hp => ⟨hC', (hphC hp).2⟩) (fun hp e he o ho => ?_) ?_
        · rw [getD_set_ne true (by rintro rfl; exact hiR (by rw [hR]; simp [hr]))]; exact hRd r hr
        · rw [getD_set_ne true (by rintro rfl; exact hiR (by rw [hR]; simp [hr]))]; exact hR' r hr
        · rw [hfs]; rw [hsplit] at hn; simp only [List.length_append, List.length_cons] at hn ⊢; omega
        · rw [hfs] at he
          exact hphE hp e (by rw [hsplit]; simp at he ⊢; rcases he with he | he <;> simp [he]) o ho
        · rw [hfs]
          refine wpQuiet_mono (fun a'' h'' => ?_) _ _ h'
          unfold Zd at *
          split
          · rename_i hp
            rw [if_pos hp] at h''
            rw [hw' hp]; exact h''
          · rename_i hp
            rw [if_neg hp] at h''
            exact h''
      have hCw' : C w := hCw (by rw [hsplit]; simp)
      cases ph with
      | false => exact wpOp_of_qOp hCw' (fun a' w' hC' h' => next a' w' (by simp) hC' h') hq
      | true =>
        exact still_of_quiet hoi (hphE rfl i himem oi hoi) hCw' (fun a' h' => next a' w (fun _ => rfl) hCw' h') hq
    · -- the next acting one
      have hiE : i ∉ E := fun h' => hdis i h' hc
      have hiR' : i ∈ R' := by
        rw [hR] at hc
        rcases List.mem_append.1 hc with h1 | h1
        · rw [hRd i h1] at hiu; cases hiu
        · exact h1
      cases R' with
      | nil => cases hiR'
      | cons r rest =>
        have hir : i = r := by
          rcases List.mem_cons.1 hiR' with h1 | h1
          · exact h1
          · exfalso
            have hch := chain_suffix Rd (r :: rest) (by rw [← hR]; exact hchain)
            obtain ⟨p, hp, hw⟩ := chain_pred hch i h1
            rw [not_waits_of_ready hi (hR' p hp)] at hw
            cases hw
        subst hir
        have hap : ∀ x ∈ E.filter (unl L), ∃ ox, ops[x]? = some ox ∧ ox.apart ops oi = true := by
          intro x hx
          have hx' := (hunE x).1 hx
          have h2 := hapR i hc x hx'.1
          obtain ⟨oy, oe, h3, h4, h5⟩ := hapart x i h2 (not_waits_of_ready hi hx'.2)
          have : oe = oi := Option.some.inj (h4.symm.trans hoi)
          subst this
          exact ⟨oy, h3, h5⟩
        have h1 : wpQuiet P ops C (fun a' => wpOp P ops (NoPanic Q) i (fun a' w' => (needD ops D E i = true → C w') ∧ wpN P ops (QS fin Q) C D E rest a' w') a' w) (opsAt ops (E.filter (unl L))) a := by
          refine wpQuiet_mono (fun a'' h'' => ?_) _ _ h
          unfold Zd at h''
          split at h''
          · exact wpOp_QS h''
          · rename_i hp
            exact wpOp_QS (h'' w (hphC (by simpa using hp)).1)
        have h2 := act_front hoi hsel (E.filter (unl L)) a hap h1
        have hfs := filter_set_not (L := L) hiE
        have hneed : E.filter (unl L) ≠ [] → needD ops D E i = true := by
          intro hne
          cases hq : needD ops D E i with
          | true => rfl
          | false =>
            exfalso
            unfold needD at hq
            simp only [Bool.not_eq_false', List.all_eq_true] at hq
            obtain ⟨e, he⟩ := List.exists_mem_of_ne_nil _ hne
            have he' := (hunE e).1 he
            have h4 := anc_listed hcl ops.size i e (fun o ho => by
              have : o = oi := Option.some.inj (ho.symm.trans hoi)
              subst this; exact hall) (ancD_ancB (hq e he'.1))
            rw [getD_both he'.2] at h4
            cases h4
        refine wpOp_mono (fun a' w' h3 => ?_) h2
        refine ih (L.setIfInBounds i true) (Rd ++ [i]) rest a' w' true (by rw [hR]; simp) (by simpa using hsz) hcl' (hinv' (List.mem_append_right _ hc)) (fun h0 => by
          rw [hfs]
          subst h0
          by_cases hne : E.filter (unl L) = []
          · exact hne
          · exfalso
            have h5 := hneed hne
            rw [hR, List.getLast?_append] at hlast
            simp only [List.getLast?_singleton, Option.some_or, Bool.not_eq_true'] at hlast
            rw [h5] at hlast
            cases hlast) (fun r hr => ?_) (fun r hr => ?_) ?_ (fun hne => ?_) (by simp) (fun _ e he o ho => ?_) ?_
        · by_cases hri : i = r
          · subst hri; rw [hsz.symm] at hilt; simp [hilt]
          · rw [getD_set_ne true hri]
            rcases List.mem_append.1 hr with h4 | h4
            · exact hRd r h4
            · simp at h4; exact absurd h4.symm hri
        · have hri : i ≠ r := by
            rintro rfl
            have : (Rd ++ i :: rest).Nodup := hR ▸ (List.nodup_append.1 hnd).2.1
            exact (List.nodup_cons.1 (List.nodup_append.1 this).2.1).1 hr
          rw [getD_set_ne true hri]; exact hR' r (by simp [hr])
        · rw [hfs]; simp only [List.length_cons] at hn; omega
        · rw [hfs] at hne
          exact (quiet_const _ _ h3) (hneed hne)
        · rw [hfs] at he
          cases ph with
          | true => exact hphE rfl e he o ho
          | false =>
            have he' := (hunE e).1 he
            have h4 := hcalls e he'.1
            rw [ho] at h4
            simp only [Bool.or_eq_true, Bool.not_eq_true'] at h4
            rcases h4 with h4 | h4
            · exact h4
            · exfalso
              have hRd0 := (hphC rfl).2
              subst hRd0
              rw [List.nil_append] at hR
              rw [hR] at h4
              have h5 := anc_listed hcl ops.size i e (fun o ho => by
                have : o = oi := Option.some.inj (ho.symm.trans hoi)
                subst this; exact hall) h4
              rw [getD_both he'.2] at h5
              cases h5
        · rw [hfs]
          refine wpQuiet_mono (fun a'' h'' => ?_) _ _ h3
          unfold Zd
          rw [if_pos rfl]
          exact h''.2


/-- The region where the operations of S have come up, m are left. -/
def wpSt (P : Program) (ops : Array Oper) (Q : Exit → Act → World → Prop) (S : List Nat) (m : Nat) (a : Act) (w : World) : Prop := wpAny P .any ops (NoPanic Q) m (doneL ops.size S) a w

theorem wpSt_end {S : List Nat} {a : Act} {w : World} (hS : ((List.range ops.size).all fun i => S.contains i) = true) (h : Q .normal a w) : wpSt P ops Q S 0 a w := by
  refine ⟨?_, h⟩
  rw [List.eq_nil_iff_forall_not_mem]
  intro i hi
  obtain ⟨h1, o, ho, _⟩ := mem_ready.1 hi
  have hlt := (Array.getElem?_eq_some_iff.1 ho).1
  rw [doneL_getD _ _ _ hlt, List.all_eq_true.1 hS i (List.mem_range.2 hlt)] at h1
  cases h1

theorem closed_done {D : List Nat} (hD : D.all (predsB ops D) = true) : Closed ops (doneL ops.size D) := by
  intro j oj hj hl e he hb
  have hjD := (doneL_true hl).2
  have h1 := List.all_eq_true.1 hD j hjD
  unfold predsB at h1
  rw [hj] at h1
  have h2 := (Array.all_eq_true_iff_forall_mem.1 h1) e he
  simp only [hb, Bool.not_true, Bool.false_or, Bool.and_eq_true, List.contains_iff_mem, bne_iff_ne] at h2
  have h3 := List.all_eq_true.1 hD e.on h2.1
  unfold predsB at h3
  split at h3
  · rename_i o ho
    rw [doneL_getD _ _ _ (Array.getElem?_eq_some_iff.1 ho).1]
    simpa using h2.1
  · cases h3

/-- One stage: first the quiet ones, none of them a call, then the acting ones. -/
theorem wp_stage {D S : List Nat} {k : Nat} {a : Act} {w : World} (E R : List Nat) (m : Nat) (C : World → Prop) (hB : stageB ops D E R = true) (hD : D.all (predsB ops D) = true) (hE : (E.all fun e => match ops[e]? with | some o => !isCall o | none => false) = true)
    (hS : D ++ E ++ R = S) (hk : E.length + R.length + m = k) (hC : C w) (h : wpQuiet P ops C (fun a' => wpN P ops (QS (wpSt P ops Q S m) Q) C D E R a' w) (opsAt ops E) a) : wpSt P ops Q D k a w := by
  subst hS
  subst hk
  have hB' := hB
  simp only [stageB, Bool.and_eq_true, decide_eq_true_eq, List.all_eq_true] at hB'
  obtain ⟨⟨⟨⟨⟨⟨⟨⟨⟨⟨⟨_, hndD⟩, _⟩, hpE⟩, _⟩, hpR⟩, _⟩, _⟩, _⟩, _⟩, hlast⟩, hDlt⟩ := hB'
  have hlt : ∀ (l : List Nat) (e : Nat), predsB ops l e = true → e < ops.size := fun l e h => by
    unfold predsB at h
    split at h
    · rename_i o ho; exact (Array.getElem?_eq_some_iff.1 ho).1
    · cases h
  rw [List.append_assoc] at hndD
  have hnd := List.nodup_append.1 hndD
  have hfresh : ∀ e, e ∈ E ++ R → e < ops.size → (doneL ops.size D).getD e true = false := fun e he hl => by
    rw [doneL_getD _ _ _ hl]
    cases hx : D.contains e with
    | false => rfl
    | true => exact absurd rfl (hnd.2.2 e (by simpa using hx) e he)
  have hall : E.filter (unl (doneL ops.size D)) = E := by
    rw [List.filter_eq_self]
    intro e he
    simp only [unl, hfresh e (List.mem_append_left _ he) (hlt _ _ (hpE e he)), Bool.not_false]
  have hRne : R ≠ [] := by rintro rfl; simp at hlast
  refine stage_main hB (fun a w h => h) (E.length + R.length) (doneL ops.size D) [] R a w true rfl (doneL_size _ _) (closed_done hD) (fun i hi => ⟨fun h1 => ?_, fun h1 => ?_⟩) (fun h0 => absurd h0 hRne) (fun r hr => by cases hr)
    (fun r hr => hfresh r (List.mem_append_right _ hr) (hlt _ _ (hpR r hr))) (by rw [hall]) (fun _ => hC) (fun h => by cases h) (fun _ e he o ho => ?_) ?_
  · rw [doneL_getD _ _ _ hi] at h1
    rw [List.append_assoc]
    exact List.mem_append_left _ (by simpa using h1)
  · rw [doneL_getD _ _ _ hi]
    simpa using h1
  · rw [hall] at he
    have h1 := List.all_eq_true.1 hE e he
    rw [ho] at h1
    simpa using h1
  · rw [hall]
    exact wpQuiet_mono (fun a' h' => by unfold Zd; rw [if_pos rfl]; exact h') _ _ h

theorem wp_region_stages {id : Nat} {a : Act} {w : World} (hm : P.follows .mixedOrders = true) (h : wpSt P ops Q [] ops.size a w.drew) : (Code.region id ops true).wp P Q a w := by
  refine wp_region_noPanic (wp_region_any hm ?_)
  have e : doneL ops.size [] = Array.replicate ops.size false := by
    apply Array.ext
    · simp [doneL_size]
    · intro i h1 h2
      rw [doneL_get]
      simp
  unfold wpSt at h
  rw [e] at h
  exact h

/-- What stands behind one acting operation. -/
def QnD (P : Program) (ops : Array Oper) (Q : Exit → Act → World → Prop) (C : World → Prop) (D E rest : List Nat) (b : Bool) : Exit → Act → World → Prop
  | .normal, a, w => (b = true → C w) ∧ wpN P ops Q C D E rest a w
  | .panic _, _, _ => False
  | e, a, w => Q e a w
theorem QnD_normal {D E rest : List Nat} {b : Bool} {a : Act} {w : World} : QnD P ops Q C D E rest b .normal a w = ((b = true → C w) ∧ wpN P ops Q C D E rest a w) := rfl

theorem wpN_nil {D E : List Nat} {a : Act} {w : World} (h : Q .normal a w) : wpN P ops Q C D E [] a w := h
theorem wpN_cons {D E rest : List Nat} {r : Nat} {o : Oper} {a : Act} {w : World} (b : Bool) (hr : ops[r]? = some o) (hb : needD ops D E r = b) (h : wpList P ops (QnD P ops Q C D E rest b) [o] a w) : wpN P ops Q C D E (r :: rest) a w := by
  unfold wpN wpOp
  simp only [hr]
  unfold wpList at h
  have hl : LetsOut (QnD P ops Q C D E rest b) → LetsOut (NoPanic Q) := fun ⟨a, w, h⟩ => ⟨a, w, h⟩
  have hk : ∀ a' w', wpList P ops (QnD P ops Q C D E rest b) [] a' w' → (needD ops D E r = true → C w') ∧ wpN P ops Q C D E rest a' w' := fun a' w' h' => by
    rw [hb]; exact h'
  split
  · rename_i hw
    rw [if_pos hw] at h
    rcases h with h | ⟨h1, h2⟩
    · refine .inl ?_
      unfold Oper.wp at *
      generalize (execOp a.eval o).run P w = r at *
      cases r with
      | ok n w' =>
        cases n <;> simp only [Oper.upon] at h ⊢
        case value u => exact hk _ _ h
        case skip => exact hk _ _ h
        case defer d => exact hk _ _ h
        case enter f args =>
          refine Calls.mono h fun e w'' he => ?_
          cases e with
          | returned u => exact hk _ _ he
          | panicked c => exact he
          | outgrown => exact hl he
        case row row args => exact Rows.mono h fun u w'' he => hk _ _ he
      | halt x w' => cases x <;> simp only [Oper.upon] at h ⊢ <;> exact h
    · exact .inr ⟨h1, hl h2⟩
  · rename_i hw
    rw [if_neg hw] at h
    exact hk _ _ h

/-- The last acting operations in one walk, where the class is not asked any more. -/
theorem wpN_list {D E : List Nat} : ∀ (R : List Nat) (a : Act) (w : World), (R.all fun r => !needD ops D E r && decide (r < ops.size)) = true → wpList P ops (NoPanic Q) (opsAt ops R) a w → wpN P ops Q C D E R a w
  | [], _, _, _, h => h
  | r :: R, a, w, hn, h => by
    rw [List.all_cons, Bool.and_eq_true] at hn
    obtain ⟨hn1, hn2⟩ := hn
    rw [Bool.and_eq_true, Bool.not_eq_true', decide_eq_true_eq] at hn1
    have hr : ops[r]? = some (ops.getD r default) := by simp [hn1.2]
    unfold wpN wpOp
    simp only [hr]
    unfold opsAt at h
    rw [List.map_cons] at h
    unfold wpList at h
    have hk : ∀ a' w', wpList P ops (NoPanic Q) (opsAt ops R) a' w' → (needD ops D E r = true → C w') ∧ wpN P ops Q C D E R a' w' := fun a' w' h' =>
      ⟨(fun h1 => by rw [hn1.1] at h1; cases h1), wpN_list R a' w' hn2 h'⟩
    split
    · rename_i hw
      rw [if_pos hw] at h
      exact h.imp (fun h => Oper.wp_mono hk h) id
    · rename_i hw
      rw [if_neg hw] at h
      exact hk _ _ h


theorem QS_normal {fin : Act → World → Prop} {a : Act} {w : World} : QS fin Q .normal a w = fin a w := rfl

end
end Go.Proofs.YtdjaphcelpchaaaGreatDoor
