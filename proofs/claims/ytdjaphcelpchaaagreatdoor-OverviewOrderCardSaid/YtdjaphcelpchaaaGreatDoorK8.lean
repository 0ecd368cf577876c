/- Parts of the proofs about bulletinlaw28: Fork, Ref3, Own2, Do, InOps. -/
import Derived.Test.YtdjaphcelpchaaaGreatDoorShelf
import Derived.Test.YtdjaphcelpchaaaGreatDoorK1
import Derived.Test.YtdjaphcelpchaaaGreatDoorK2
import Derived.Test.YtdjaphcelpchaaaGreatDoorK3
import Derived.Test.YtdjaphcelpchaaaGreatDoorK4
import Derived.Test.YtdjaphcelpchaaaGreatDoorK5
import Derived.Test.YtdjaphcelpchaaaGreatDoorK6
import Derived.Test.YtdjaphcelpchaaaGreatDoorShelf2
import Derived.Test.YtdjaphcelpchaaaGreatDoorK7

/- A drawn region whose acting operations may come up in more than one order: first the quiet ones, then every order of the others. Over any program. -/
namespace Go.Proofs.YtdjaphcelpchaaaGreatDoor
open Go Go.RowKit Go.Proofs

section
variable {P : Program} {ops : Array Oper} {Q : Exit → Act → World → Prop} {C : World → Prop}

/-- Which of the acting operations may come next. -/
def readyF (ops : Array Oper) (R : List Nat) : List Nat := R.filter fun r => R.all fun s => !Region.waitsFor .any ops r s
/-- The acting operations, in every order. -/
def wpF (P : Program) (ops : Array Oper) (Q : Exit → Act → World → Prop) (C : World → Prop) (E : List Nat) : Nat → List Nat → Act → World → Prop
  | 0, _, a, w => Q .normal a w
  | n + 1, R, a, w => ∀ r ∈ readyF ops R, wpOp P ops (NoPanic Q) r (fun a' w' => (needB ops E r = true → C w') ∧ wpF P ops Q C E n (R.erase r) a' w') a w

/-- The closed checks. -/
def forkB (ops : Array Oper) (E R : List Nat) : Bool :=
  Region.noSelect ops && decide ((E ++ R).Nodup) && decide (E.length + R.length = ops.size) && ((List.range ops.size).all fun i => E.contains i || R.contains i)
  && E.all (predsB ops E) && pairB (fun y e => !Region.waitsFor .any ops y e && apartB ops y e) E
  && R.all (predsB ops (E ++ R)) && pairB (fun r s => !Region.waitsFor .any ops r s) R
  && (R.all fun r => E.all fun y => apartB ops y r)
  && (E.all fun e => match ops[e]? with | some o => !isCall o | none => false)

theorem erase_split {R1 R2 : List Nat} {r : Nat} (h : (R1 ++ r :: R2).Nodup) : (R1 ++ r :: R2).erase r = R1 ++ R2 := by
  have h1 : r ∉ R1 := fun h' => (List.nodup_append.1 h).2.2 r h' r (by simp) rfl
  rw [List.erase_append_right _ h1, List.erase_cons_head]

theorem fork_main {E R : List Nat} (hB : forkB ops E R = true) : ∀ (n : Nat) (L : Array Bool) (a : Act) (w : World), L.size = ops.size → Closed ops L →
    (E.filter (unl L)).length + (R.filter (unl L)).length = n → (E.filter (unl L) ≠ [] → C w) →
    wpQuiet P ops C (fun a' => wpF P ops Q C E (R.filter (unl L)).length (R.filter (unl L)) a' w) (opsAt ops (E.filter (unl L))) a → wpAny P .any ops (NoPanic Q) n L a w := by
  simp only [forkB, Bool.and_eq_true, decide_eq_true_eq, List.all_eq_true] at hB
  obtain ⟨⟨⟨⟨⟨⟨⟨⟨⟨hns, hnd⟩, hlen⟩, hcov⟩, hpE⟩, hpair⟩, hpR⟩, hpairR⟩, hapR⟩, hcalls⟩ := hB
  have hsel := Region.noSelect_spec hns
  have hpair' := pairB_spec hpair
  have hpairR' := pairB_spec hpairR
  have hndE : E.Nodup := (List.nodup_append.1 hnd).1
  have hndR : R.Nodup := (List.nodup_append.1 hnd).2.1
  have hdis : ∀ x, x ∈ E → x ∈ R → False := fun x h1 h2 => (List.nodup_append.1 hnd).2.2 x h1 x h2 rfl
  have hget : ∀ (l : List Nat) (e : Nat), predsB ops l e = true → ∃ o, ops[e]? = some o ∧ ∀ x ∈ o.after, Region.binds .any x = true → x.on ∈ l ∧ x.on ≠ e := by
    intro l e h
    unfold predsB at h
    split at h
    · rename_i o ho
      refine ⟨o, ho, fun x hx hb => ?_⟩
      have h1 := (Array.all_eq_true_iff_forall_mem.1 h) x hx
      simp only [hb, Bool.not_true, Bool.false_or, Bool.and_eq_true, List.contains_iff_mem, bne_iff_ne] at h1
      exact h1
    · cases h
  have hapart : ∀ y e, apartB ops y e = true → Region.waitsFor .any ops e y = false → ∃ oy oe, ops[y]? = some oy ∧ ops[e]? = some oe ∧ oy.apart ops oe = true := by
    intro y e h hw
    unfold apartB at h
    rw [hw, Bool.false_or] at h
    split at h
    · rename_i oy oe h1 h2
      exact ⟨oy, oe, h1, h2, h⟩
    · cases h
  have hinE : ∀ x, x ∈ E → x < ops.size := fun x hx => by
    obtain ⟨ox, hox, _⟩ := hget E x (hpE _ hx)
    exact (Array.getElem?_eq_some_iff.1 hox).1
  have hinR : ∀ x, x ∈ R → x < ops.size := fun x hx => by
    obtain ⟨ox, hox, _⟩ := hget (E ++ R) x (hpR _ hx)
    exact (Array.getElem?_eq_some_iff.1 hox).1
  have hun : ∀ (L : Array Bool) (l : List Nat) (x : Nat), x ∈ l.filter (unl L) ↔ x ∈ l ∧ L.getD x true = false := fun L l x => by
    rw [List.mem_filter]; simp only [unl, Bool.not_eq_true']
  intro n
  induction n with
  | zero =>
    intro L a w hsz hcl hn _ h
    have hE0 : E.filter (unl L) = [] := List.eq_nil_of_length_eq_zero (by omega)
    have hR0 : R.filter (unl L) = [] := List.eq_nil_of_length_eq_zero (by omega)
    rw [hE0, hR0] at h
    refine ⟨?_, ?_⟩
    · rw [List.eq_nil_iff_forall_not_mem]
      intro i hi
      obtain ⟨h1, o, ho, _⟩ := mem_ready.1 hi
      have hlt := (Array.getElem?_eq_some_iff.1 ho).1
      have hc := hcov i (List.mem_range.2 hlt)
      simp only [Bool.or_eq_true, List.contains_iff_mem] at hc
      rcases hc with hc | hc
      · have : i ∈ E.filter (unl L) := (hun L E i).2 ⟨hc, h1⟩
        rw [hE0] at this; cases this
      · have : i ∈ R.filter (unl L) := (hun L R i).2 ⟨hc, h1⟩
        rw [hR0] at this; cases this
    · exact h
  | succ n ih =>
    intro L a w hsz hcl hn hCw h
    -- something may come up
    have hsome : Region.ready .any ops L ≠ [] := by
      cases hE' : E.filter (unl L) with
      | cons e T =>
        have he := (hun L E e).1 (by rw [hE']; simp)
        obtain ⟨o, ho, hpre⟩ := hget E e (hpE e he.1)
        have hpw := hpair'.filter (p := unl L)
        rw [hE'] at hpw
        have : e ∈ Region.ready .any ops L := mem_ready.2 ⟨he.2, o, ho, fun x hx hb => by
          obtain ⟨hxE, hxe⟩ := hpre x hx hb
          cases hlx : L.getD x.on false with
          | true => rfl
          | false =>
            exfalso
            have hxm : x.on ∈ E.filter (unl L) := (hun L E _).2 ⟨hxE, getD_in (by rw [hsz]; exact hinE _ hxE) hlx⟩
            rw [hE'] at hxm
            rcases List.mem_cons.1 hxm with h1 | h1
            · exact hxe h1
            · have h2 := (List.pairwise_cons.1 hpw).1 _ h1
              simp only [Bool.and_eq_true, Bool.not_eq_true'] at h2
              rw [waitsFor_of ho hx hb rfl] at h2
              cases h2.1⟩
        intro h0; rw [h0] at this; cases this
      | nil =>
        cases hR' : R.filter (unl L) with
        | nil => rw [hE', hR'] at hn; simp at hn
        | cons r rest =>
          have hr := (hun L R r).1 (by rw [hR']; simp)
          obtain ⟨o, ho, hpre⟩ := hget (E ++ R) r (hpR r hr.1)
          have hpw := hpairR'.filter (p := unl L)
          rw [hR'] at hpw
          have : r ∈ Region.ready .any ops L := mem_ready.2 ⟨hr.2, o, ho, fun x hx hb => by
            obtain ⟨hxE, hxe⟩ := hpre x hx hb
            cases hlx : L.getD x.on false with
            | true => rfl
            | false =>
              exfalso
              rcases List.mem_append.1 hxE with h1 | h1
              · have : x.on ∈ E.filter (unl L) := (hun L E _).2 ⟨h1, getD_in (by rw [hsz]; exact hinE _ h1) hlx⟩
                rw [hE'] at this; cases this
              · have hxm : x.on ∈ R.filter (unl L) := (hun L R _).2 ⟨h1, getD_in (by rw [hsz]; exact hinR _ h1) hlx⟩
                rw [hR'] at hxm
                rcases List.mem_cons.1 hxm with h3 | h3
                · exact hxe h3
                · have h4 := (List.pairwise_cons.1 hpw).1 _ h3
                  simp only [Bool.not_eq_true'] at h4
                  rw [waitsFor_of ho hx hb rfl] at h4
                  cases h4⟩
          intro h0; rw [h0] at this; cases this
    refine ⟨fun h0 => absurd h0 hsome, fun i hi => ?_⟩
    obtain ⟨hiu, oi, hoi, hall⟩ := mem_ready.1 hi
    have hilt := (Array.getElem?_eq_some_iff.1 hoi).1
    have hcl' : Closed ops (L.setIfInBounds i true) := fun j oj hj hl e he hb => by
      by_cases hij : i = j
      · subst hij
        have : oj = oi := Option.some.inj (hj.symm.trans hoi)
        subst this
        exact getD_set_true (hall e he hb)
      · rw [getD_set_ne false hij] at hl
        exact getD_set_true (hcl j oj hj hl e he hb)
    have hc := hcov i (List.mem_range.2 hilt)
    simp only [Bool.or_eq_true, List.contains_iff_mem] at hc
    rcases hc with hc | hc
    · -- a quiet one
      have himem : i ∈ E.filter (unl L) := (hun L E i).2 ⟨hc, hiu⟩
      obtain ⟨E1, E2, hsplit⟩ := List.append_of_mem himem
      have hiR : i ∉ R := fun h' => hdis i hc h'
      have hpw := hpair'.filter (p := unl L)
      rw [hsplit] at hpw h
      have hap : ∀ x ∈ E1, ∃ ox, ops[x]? = some ox ∧ ox.apart ops oi = true := by
        intro x hx
        have h2 := (List.pairwise_append.1 hpw).2.2 x hx i (by simp)
        simp only [Bool.and_eq_true, Bool.not_eq_true'] at h2
        have hxu : L.getD x true = false := ((hun L E x).1 (by rw [hsplit]; simp [hx])).2
        obtain ⟨oy, oe, h3, h4, h5⟩ := hapart x i h2.2 (not_waits_of_ready hi hxu)
        have : oe = oi := Option.some.inj (h4.symm.trans hoi)
        subst this
        exact ⟨oy, h3, h5⟩
      have hq := quiet_front hoi hsel E1 E2 a hap h
      have hfs := filter_set (by rw [hsz]; exact hilt) hndE hsplit
      have hfR := filter_set_not (L := L) hiR
      have hCw' : C w := hCw (by rw [hsplit]; simp)
      have hcall : isCall oi = false := by
        have := hcalls i hc
        rw [hoi] at this
        simpa using this
      refine still_of_quiet hoi hcall hCw' (fun a' h' => ?_) hq
      refine ih (L.setIfInBounds i true) a' w (by simpa using hsz) hcl' ?_ (fun _ => hCw') ?_
      · rw [hfs, hfR]; rw [hsplit] at hn; simp only [List.length_append, List.length_cons] at hn ⊢; omega
      · rw [hfs, hfR]; exact h'
    · -- an acting one
      have hiE : i ∉ E := fun h' => hdis i h' hc
      have himem : i ∈ R.filter (unl L) := (hun L R i).2 ⟨hc, hiu⟩
      obtain ⟨R1, R2, hsplit⟩ := List.append_of_mem himem
      have hap : ∀ x ∈ E.filter (unl L), ∃ ox, ops[x]? = some ox ∧ ox.apart ops oi = true := by
        intro x hx
        have hx' := (hun L E x).1 hx
        have h2 := hapR i hc x hx'.1
        obtain ⟨oy, oe, h3, h4, h5⟩ := hapart x i h2 (not_waits_of_ready hi hx'.2)
        have : oe = oi := Option.some.inj (h4.symm.trans hoi)
        subst this
        exact ⟨oy, h3, h5⟩
      have hrf : i ∈ readyF ops (R.filter (unl L)) := by
        unfold readyF
        rw [List.mem_filter, List.all_eq_true]
        refine ⟨himem, fun s hs => ?_⟩
        rw [not_waits_of_ready hi ((hun L R s).1 hs).2]
        rfl
      have hln : (R.filter (unl L)).length = (R1 ++ R2).length + 1 := by rw [hsplit]; simp; omega
      have her : (R.filter (unl L)).erase i = R1 ++ R2 := by
        rw [hsplit]
        exact erase_split (by rw [← hsplit]; exact hndR.filter _)
      have h1 : wpQuiet P ops C (fun a' => wpOp P ops (NoPanic Q) i (fun a' w' => (needB ops E i = true → C w') ∧ wpF P ops Q C E (R1 ++ R2).length (R1 ++ R2) a' w') a' w) (opsAt ops (E.filter (unl L))) a := by
        refine wpQuiet_mono (fun a'' h'' => ?_) _ _ h
        rw [hln] at h''
        have := h'' i hrf
        rw [her] at this
        exact this
      have h2 := act_front hoi hsel (E.filter (unl L)) a hap h1
      have hfs := filter_set_not (L := L) hiE
      have hfR := filter_set (by rw [hsz]; exact hilt) hndR hsplit
      have hneed : E.filter (unl L) ≠ [] → needB ops E i = true := by
        intro hne
        cases hq : needB ops E i with
        | true => rfl
        | false =>
          exfalso
          unfold needB at hq
          simp only [Bool.not_eq_false', List.all_eq_true] at hq
          obtain ⟨e, he⟩ := List.exists_mem_of_ne_nil _ hne
          have he' := (hun L E e).1 he
          have h4 := anc_listed hcl ops.size i e (fun o ho => by
            have : o = oi := Option.some.inj (ho.symm.trans hoi)
            subst this; exact hall) (hq e he'.1)
          rw [getD_both he'.2] at h4
          cases h4
      refine wpOp_mono (fun a' w' h3 => ?_) h2
      refine ih (L.setIfInBounds i true) a' w' (by simpa using hsz) hcl' ?_ (fun hne => ?_) ?_
      · rw [hfs, hfR]; rw [hln] at hn; omega
      · rw [hfs] at hne
        exact (quiet_const _ _ h3) (hneed hne)
      · rw [hfs, hfR]
        exact wpQuiet_mono (fun a'' h'' => h''.2) _ _ h3

/-- The walk over a region: first the quiet ones, then the acting ones in every order. -/
theorem wp_region_fork {id : Nat} {a : Act} {w : World} (E R : List Nat) (n : Nat) (C : World → Prop) (hm : P.follows .mixedOrders = true) (hB : forkB ops E R = true) (hn : R.length = n) (hC : C w.drew)
    (h : wpQuiet P ops C (fun a' => wpF P ops Q C E n R a' w.drew) (opsAt ops E) a) : (Code.region id ops true).wp P Q a w := by
  refine wp_region_noPanic (wp_region_any hm ?_)
  have hB0 := hB
  simp only [forkB, Bool.and_eq_true, decide_eq_true_eq, List.all_eq_true] at hB
  obtain ⟨⟨⟨⟨⟨⟨⟨⟨⟨hns, hnd⟩, hlen⟩, hcov⟩, hpE⟩, hpair⟩, hpR⟩, hpairR⟩, hapR⟩, hcalls⟩ := hB
  have hlt : ∀ l i, predsB ops l i = true → i < ops.size := by
    intro l i hcov
    unfold predsB at hcov
    split at hcov
    · rename_i o ho; exact (Array.getElem?_eq_some_iff.1 ho).1
    · cases hcov
  have hall : E.filter (unl (Array.replicate ops.size false)) = E := by
    rw [List.filter_eq_self]
    intro i hi
    simp [unl, hlt E i (hpE i hi)]
  have hallR : R.filter (unl (Array.replicate ops.size false)) = R := by
    rw [List.filter_eq_self]
    intro i hi
    simp [unl, hlt _ i (hpR i hi)]
  refine fork_main hB0 ops.size (Array.replicate ops.size false) a w.drew (by simp) (fun j oj _ hl => by rw [getD_replicate_false] at hl; cases hl) (by rw [hall, hallR]; exact hlen) (fun _ => hC) ?_
  rw [hall, hallR, hn]
  exact h

/-- A chain at the end has one order. -/
theorem wpF_chain {E : List Nat} : ∀ (R : List Nat) (a : Act) (w : World), R.Nodup → chainR ops R = true → pairB (fun r s => !Region.waitsFor .any ops r s) R = true → wpR P ops Q C E R a w → wpF P ops Q C E R.length R a w
  | [], _, _, _, _, _, h => h
  | r :: R, a, w, hnd, hc, hp, h => by
    intro i hi
    unfold readyF at hi
    rw [List.mem_filter, List.all_eq_true] at hi
    have hir : i = r := by
      rcases List.mem_cons.1 hi.1 with h1 | h1
      · exact h1
      · exfalso
        obtain ⟨p, hpm, hw⟩ := chain_pred hc i h1
        have := hi.2 p hpm
        rw [hw] at this
        cases this
    subst hir
    rw [List.erase_cons_head]
    unfold wpR at h
    rw [List.nodup_cons] at hnd
    refine wpOp_mono (fun a' w' h3 => ⟨h3.1, wpF_chain R a' w' hnd.2 (chain_suffix [i] R hc) ?_ h3.2⟩) h
    simp only [pairB, Bool.and_eq_true] at hp
    exact hp.2
theorem wpF_end {E : List Nat} {n : Nat} (R : List Nat) (hn : R.length = n) {a : Act} {w : World} (hnd : decide R.Nodup = true) (hc : chainR ops R = true) (hp : pairB (fun r s => !Region.waitsFor .any ops r s) R = true) (h : wpR P ops Q C E R a w) : wpF P ops Q C E n R a w := by
  subst hn
  exact wpF_chain R a w (of_decide_eq_true hnd) hc hp h
/-- What stands behind one acting operation. -/
def QnF (P : Program) (ops : Array Oper) (Q : Exit → Act → World → Prop) (C : World → Prop) (E : List Nat) (n : Nat) (rest : List Nat) (b : Bool) : Exit → Act → World → Prop
  | .normal, a, w => (b = true → C w) ∧ wpF P ops Q C E n rest a w
  | .panic _, _, _ => False
  | e, a, w => Q e a w
theorem wpF_op {E R rest : List Nat} {n r : Nat} {o : Oper} {a : Act} {w : World} (b : Bool) (hr : ops[r]? = some o) (hb : needB ops E r = b) (he : R.erase r = rest) (h : wpList P ops (QnF P ops Q C E n rest b) [o] a w) :
    wpOp P ops (NoPanic Q) r (fun a' w' => (needB ops E r = true → C w') ∧ wpF P ops Q C E n (R.erase r) a' w') a w := by
  subst he
  unfold wpOp
  simp only [hr]
  unfold wpList at h
  have hl : LetsOut (QnF P ops Q C E n (R.erase r) b) → LetsOut (NoPanic Q) := fun ⟨a, w, h⟩ => ⟨a, w, h⟩
  have hk : ∀ a' w', wpList P ops (QnF P ops Q C E n (R.erase r) b) [] a' w' → (needB ops E r = true → C w') ∧ wpF P ops Q C E n (R.erase r) a' w' := fun a' w' h' => by
    rw [hb]; exact h'
  split
  · rename_i hw
    rw [if_pos hw] at h
    rcases h with h | ⟨h1, h2⟩
    · refine .inl ?_
      unfold Oper.wp at *
      generalize (execOp a.eval o).run P w = r at *
      cases r with
      | ok n w' =>
        cases n <;> simp only [Oper.upon] at h ⊢
        case value u => exact hk _ _ h
        case skip => exact hk _ _ h
        case defer d => exact hk _ _ h
        case enter f args =>
          refine Calls.mono h fun e w'' he => ?_
          cases e with
          | returned u => exact hk _ _ he
          | panicked c => exact he
          | outgrown => exact hl he
        case row row args => exact Rows.mono h fun u w'' he => hk _ _ he
      | halt x w' => cases x <;> simp only [Oper.upon] at h ⊢ <;> exact h
    · exact .inr ⟨h1, hl h2⟩
  · rename_i hw
    rw [if_neg hw] at h
    exact hk _ _ h
/-- The same, the operation by its number. -/
theorem wpF_at {E R rest : List Nat} {n r : Nat} {a : Act} {w : World} (b : Bool) (hlt : decide (r < ops.size) = true) (hb : needB ops E r = b) (he : R.erase r = rest) (h : wpList P ops (QnF P ops Q C E n rest b) (opsAt ops [r]) a w) :
    wpOp P ops (NoPanic Q) r (fun a' w' => (needB ops E r = true → C w') ∧ wpF P ops Q C E n (R.erase r) a' w') a w :=
  wpF_op b (o := ops.getD r default) (by simp [of_decide_eq_true hlt]) hb he h
theorem wpR_at {E rest : List Nat} {r : Nat} {a : Act} {w : World} (b : Bool) (hlt : decide (r < ops.size) = true) (hb : needB ops E r = b) (h : wpList P ops (Qn P ops Q C E rest b) (opsAt ops [r]) a w) : wpR P ops Q C E (r :: rest) a w :=
  wpR_cons b (o := ops.getD r default) (by simp [of_decide_eq_true hlt]) hb h
/-- One may come next. -/
theorem wpF_one {E R : List Nat} {n r : Nat} {a : Act} {w : World} (hr : readyF ops R = [r])
    (h1 : wpOp P ops (NoPanic Q) r (fun a' w' => (needB ops E r = true → C w') ∧ wpF P ops Q C E n (R.erase r) a' w') a w) : wpF P ops Q C E (n + 1) R a w := by
  intro i hi
  rw [hr, List.mem_singleton] at hi
  subst hi
  exact h1
/-- Two may come next. -/
theorem wpF_two {E R : List Nat} {n r s : Nat} {a : Act} {w : World} (hr : readyF ops R = [r, s])
    (h1 : wpOp P ops (NoPanic Q) r (fun a' w' => (needB ops E r = true → C w') ∧ wpF P ops Q C E n (R.erase r) a' w') a w)
    (h2 : wpOp P ops (NoPanic Q) s (fun a' w' => (needB ops E s = true → C w') ∧ wpF P ops Q C E n (R.erase s) a' w') a w) : wpF P ops Q C E (n + 1) R a w := by
  intro i hi
  rw [hr] at hi
  rcases List.mem_cons.1 hi with rfl | hi
  · exact h1
  · rw [List.mem_singleton] at hi
    subst hi
    exact h2
end
end Go.Proofs.YtdjaphcelpchaaaGreatDoor

/- The reference's Add. -/
namespace Go.Proofs.YtdjaphcelpchaaaGreatDoor
open Go Go.RowKit Go.Proofs

attribute [local go_sem ↓] ex_load_id ex_store_id ex_load_line ex_store_line ex_load_rline ex_store_rline ex_alloc_line ex_build_line ex_alloc_rline ex_build_rline ex_bs_rline
attribute [local go_sem] ld_id st_id ld_line st_line ld_rline st_rline guard_id okCells_drew rdCells_drew okCells_drewN rdCells_drewN rowOk_drew rowOk_cells okCells_cells rdCells_cells setRow_drew setRow_new setRow_past bs_rline run_eql_id run_neq_id eqIn_id

theorem atR_snoc : ∀ (l : List MR) (a r : MR) (i k : Nat), atR (l ++ [a]) r i k = if beforeB a r then i + l.length + 1 else atR l r i k
  | [], a, r, i, k => by simp [atR]
  | b :: l, a, r, i, k => by
    rw [List.cons_append]
    unfold atR
    rw [atR_snoc l a r (i + 1) _, List.length_cons, show i + 1 + l.length + 1 = i + (l.length + 1) + 1 by omega]
/-- The error of the reference's Add. -/
def addErrR (rs : List MR) (s : ByteArray) (p : PLine) : Int := if nameErr s ≠ 0 then nameErr s else if pErr p ≠ 0 then pErr p else if clashR rs s p then 7 else 0
theorem rel_err {gs : List MG} {rs : List MR} (hr : RelR gs rs) (s : ByteArray) (p : PLine) : addErr (linesIn gs s) s p = addErrR rs s p := by
  unfold addErr addErrR
  rw [rel_clash hr]
/-- What the reference's Add does. -/
def AddRPost (v : Value) (rs : List MR) (s : ByteArray) (p : PLine) (v0 : Value) (w : World) (r : Ending) (w' : World) : Prop :=
  Below w.heap.size w w' ∧ ((addErrR rs s p ≠ 0 ∧ r = .returned (.tuple #[v, .int .i64 (addErrR rs s p)])) ∨ (addErrR rs s p = 0 ∧ ∃ v', r = .returned (.tuple #[v', .int .i64 0]) ∧ RefsAt w.heap.size w' v' (addR rs ⟨s, ⟨p, v0⟩⟩)))
theorem rvar_id {w : World} {lb : Nat} {s : ByteArray} {g : GLine} (h : RVar w lb s g) : okCells w ⟨lb, 2, none⟩ 32 = true ∧ rdCells w ⟨lb, 2, none⟩ 32 = (encId g.id).toArray := by
  have := rd_of_cells (w := w) (a := ⟨lb, 2, none⟩) (cs := encId g.id) (fun j v hj => by
    have hj32 : j < 32 := by have := (List.getElem?_eq_some_iff.1 hj).1; rwa [encId_length] at this
    rw [Addr.add_lit, h.cell, show 2 + j = (1 + j) + 1 by omega, rc_succ, ← hj]
    simp only [lineCells, lineList, List.getElem?_toArray]
    rw [show 1 + j = j + 1 by omega, List.getElem?_cons_succ, List.getElem?_append_left (by rw [encId_length]; exact hj32)])
  rwa [encId_length] at this

theorem cell_of_same {w w' : World} {a : Addr} (h : w'.heap[a.block]? = w.heap[a.block]?) : w'.cell? a = w.cell? a := by
  unfold World.cell?
  rw [h]
/-- append(s, x...) of a nil x: s itself. -/
theorem wpList_append_nilR {ops : Array Oper} {rest : List Oper} {o : Oper} {a : Act} {w : World} {Q : Exit → Act → World → Prop} (hgd : o.guard = none) (s x : Operand)
    (ho : o.op = .call { callee := .builtin .append, args := #[s, x], argTypes := #[49, 49] }) (ad : Option Addr) (n c k : Nat) (hn : n ≤ c) (hs : a.eval s = .slice ad n c) (hx : a.eval x = .slice none 0 k)
    (h : wpList Tryz.prog ops Q rest (a.put o.dst (.slice ad n c)) w) : wpList Tryz.prog ops Q (o :: rest) a w := by
  refine wpList_plain hgd fun K hK => ?_
  have hr : (Builtin.append_ #[49, 49] o.type #[.slice ad n c, .slice none 0 k]).run Tryz.prog w = .ok (.slice ad n c) w := by
    have hz := Tryz.sizeOf26
    cases ad with
    | none => simp [Builtin.append_, hz, Builtin.lenOf, Builtin.firstCells, hn]
    | some b => simp [Builtin.append_, hz, Builtin.lenOf, Builtin.firstCells, hn, storeCells]
  unfold Oper.wp execOp
  simp only [ho, resolve, invoke, builtin, Sem.run_bind, Sem.run_pure, Result.andThen_ok, List.map_toArray, List.map_cons, List.map_nil, hs, hx, hr]
  exact hK _ _ h

theorem addR_length (rs : List MR) (r : MR) : (addR rs r).length = rs.length + 1 := by
  unfold addR
  rw [List.length_append, List.length_cons, List.length_take, List.length_drop]
  omega
theorem clash_take {rs : List MR} {s : ByteArray} {p : PLine} {k : Nat} (hk : k < rs.length) (h0 : clashR (rs.take k) s p = false) (h1 : ¬ (rs[k].s = s ∧ (rs[k].m.p.number = p.number ∨ rs[k].m.p.id = p.id))) : clashR (rs.take (k + 1)) s p = false := by
  rw [List.take_succ_eq_append_getElem hk]
  unfold clashR at h0 ⊢
  rw [List.any_append, h0, Bool.false_or, List.any_cons, List.any_nil, Bool.or_false, Bool.eq_false_iff]
  simp only [ne_eq, Bool.and_eq_true, Bool.or_eq_true, decide_eq_true_eq]
  exact h1
theorem clash_at {rs : List MR} {s : ByteArray} {p : PLine} {k : Nat} (hk : k < rs.length) (h1 : rs[k].s = s ∧ (rs[k].m.p.number = p.number ∨ rs[k].m.p.id = p.id)) : clashR rs s p = true := by
  unfold clashR
  rw [List.any_eq_true]
  refine ⟨rs[k], List.getElem_mem hk, ?_⟩
  simp only [Bool.and_eq_true, Bool.or_eq_true, decide_eq_true_eq]
  exact h1

set_option maxRecDepth 100000 in
set_option maxHeartbeats 8000000 in
theorem addRef_any (B : Nat) (v : Value) (rs : List MR) (s : ByteArray) (p : PLine) (v0 : Value) (w : World) (h : RefsAt B w v rs) (ho : ordR rs) (hs : s.size ≤ 100000) (hO : LineOk w (ML.g ⟨p, v0⟩) p.ids) (hfw : rs.length < 100000) :
    Calls Tryz.prog 33 #[v, .agg (rlineCells s (ML.g ⟨p, v0⟩))] w fun r w' => AddRPost v rs s p v0 w r w' := by
  obtain ⟨i0, hi, hz0, hz1, hz2⟩ := info_parts Tryz.info_rline
  have hone0 : v0.oneCell' = true := hO.refs.one
  have HONE : Hid (∀ u ∈ rList ⟨s, ⟨p, v0⟩⟩, u.oneCell' = true) := Lib.hid (rList_one (r := ⟨s, ⟨p, v0⟩⟩) hone0)
  have HONES : Hid (∀ r ∈ addR rs ⟨s, ⟨p, v0⟩⟩, r.m.v.oneCell' = true) := Lib.hid fun r hr => by
    rcases addR_mem.1 hr with rfl | hr
    · exact hone0
    · exact h.one r hr
  have HNAMES : Hid (∀ r ∈ addR rs ⟨s, ⟨p, v0⟩⟩, r.s.size ≤ 100000) := Lib.hid fun r hr => by
    rcases addR_mem.1 hr with rfl | hr
    · exact hs
    · exact h.names r hr
  have HFEW : Hid ((addR rs ⟨s, ⟨p, v0⟩⟩).length ≤ 100000) := Lib.hid (by rw [addR_length]; omega)
  obtain ⟨g, hg⟩ : ∃ g, g = ML.g ⟨p, v0⟩ := ⟨_, rfl⟩
  have HG := Lib.hid hg
  have hgn : g.number = p.number := by rw [hg]; rfl
  have hgi : g.id = p.id := by rw [hg]; rfl
  have hge : lineErr g p.ids = pErr p := by rw [hg]; rfl
  have HBF : Hid (∀ (a : MR) (wx : World), a.s.size ≤ 100000 → Calls Tryz.prog 75 #[.agg (rlineCells a.s a.m.g), .agg (rlineCells s g)] wx fun r w' => r = .returned (.bool (beforeB a ⟨s, ⟨p, v0⟩⟩)) ∧ Below wx.heap.size wx w') := Lib.hid fun a wx ha => by
    rw [hg]
    exact before_any a ⟨s, ⟨p, v0⟩⟩ wx ha hs
  rw [← hg] at hO ⊢
  clear hg hone0
  obtain ⟨W, hW⟩ : ∃ W, W = w.alloc (.cells (rlineCells s g) 26) := ⟨_, rfl⟩
  have hb0 : Below w.heap.size w W := by rw [hW]; exact (Below.refl _ _).alloc (Nat.le_refl _) _
  have hR0 : RVar W w.heap.size s g := by rw [hW]; exact heap_alloc_new _ _
  have c0 := (hR0.cell 0).trans (rc0 s g)
  have HCK := Lib.hid (rcheck_any s W hs)
  have HR0 := Lib.hid hR0
  have HB0 := Lib.hid hb0
  have hss : w.heap.size < W.heap.size := hR0.lt
  have HO := Lib.hid hO
  have HX := Lib.hid h
  have HORD := Lib.hid ho
  rw [hW] at c0
  clear hR0 hb0 hO h ho
  obtain ⟨va, vn, vc, hv⟩ : ∃ a n c, v = .slice a n c := own_slice HX.out.row
  have HE0 : Hid (addErrR rs s p = if nameErr s ≠ 0 then nameErr s else if pErr p ≠ 0 then pErr p else if clashR rs s p then 7 else 0) := Lib.hid rfl
  subst hv
  go_enter Tryz.func33, Tryz.ntmps33
  go_wp2_with fail
  rw [← hW]
  clear hW c0
  refine HCK.out.mono ?_
  rintro r w1 ⟨rfl, hb1⟩
  have HB1 := Lib.hid (HB0.out.trans (hb1.mono HB0.out.size) : Below w.heap.size w w1)
  have HR1 : Hid (RVar w1 w.heap.size s g) := Lib.hid ((hb1.block _ hss).trans HR0.out)
  clear hb1 HR0 HB0 HCK hss
  by_cases hne : nameErr s = 0
  · rw [hne]
    obtain ⟨q1, q2⟩ := HR1.out.rd
    have HRC := Lib.hid (refCheck_any s g p.ids w1 (HO.out.below HB1.out))
    rw [hge] at HRC
    go_wp2_with fail
    refine HRC.out.mono ?_
    rintro r w2 ⟨rfl, hb2⟩
    have HB2 := Lib.hid (HB1.out.trans (hb2.mono HB1.out.size) : Below w.heap.size w w2)
    have HR2 : Hid (RVar w2 w.heap.size s g) := Lib.hid ((hb2.block _ HR1.out.lt).trans HR1.out)
    clear hb2 HR1 HB1 HRC q1 q2
    by_cases hpe : pErr p = 0
    · rw [hpe]
      have HEC : Hid (addErrR rs s p = if clashR rs s p then 7 else 0) := Lib.hid (by rw [HE0.out, if_neg (by rw [hne]; simp), if_neg (by rw [hpe]; simp)])
      clear HE0
      have HHD := Lib.hid HX.out.head
      rcases HHD.out with ⟨hvn, hrs⟩ | ⟨gb, cap, cur, hve, hBg, hgb, hle, hmx, _, hcell⟩
      · cases hvn
        have HERR : Hid (addErrR rs s p = 0) := Lib.hid (by rw [HEC.out, hrs]; rfl)
        have HADD : Hid (addR rs ⟨s, ⟨p, v0⟩⟩ = [⟨s, ⟨p, v0⟩⟩]) := Lib.hid (by rw [hrs]; rfl)
        clear hrs HHD HEC
        go_wp2
        go_loopw [8, 9] (fun a i wr => a = .int .i64 0 ∧ i = .int .i64 0 ∧ wr = w2) (fun _ _ _ => 0)
        case atStart => exact ⟨rfl, rfl, rfl⟩
        case round =>
          obtain ⟨rfl, rfl, hwe⟩ := hrel
          subst hwe
          have HBr := HB2
          have z1 : ∀ z : Later wr, okCells z.1 ⟨w.heap.size, 0, none⟩ 39 = true := fun z => (RVar.rd ((z.2.block _ HR2.out.lt).trans HR2.out)).1
          have z2 : ∀ z : Later wr, rdCells z.1 ⟨w.heap.size, 0, none⟩ 39 = rlineCells s g := fun z => (RVar.rd ((z.2.block _ HR2.out.lt).trans HR2.out)).2
          go_wp2
          refine wp_region_fork [1, 2, 3, 5, 8, 9, 10] [0, 4, 6, 7, 11, 12, 13] 7 (fun w' => ∃ z : Later wr, w' = z.1) (by kernel_rfl) (by kernel_rfl) rfl ⟨⟨_, (Below.refl _ _).drew⟩, rfl⟩ ?_
          simp only [opsAt, List.map_cons, List.map_nil, Array.getD_eq_getD_getElem?, List.getElem?_toArray, List.getElem?_cons_zero, List.getElem?_cons_succ, Option.getD_some]
          repeat (go_big_quiet_step (fail))
          refine wpQuiet_nil ?_
          clear z1 z2
          generalize hWd : wr.drew = Wd
          have HBWd : Hid (Below wr.heap.size wr Wd) := Lib.hid (by rw [← hWd]; exact (Below.refl _ _).drew)
          clear hWd
          refine wpF_two (r := 0) (s := 6) (by kernel_rfl) ?_ ?_
          · refine wpF_at true (by kernel_rfl) (by kernel_rfl) (rest := [4, 6, 7, 11, 12, 13]) rfl ?_
            simp only [opsAt, List.map_cons, List.map_nil, Array.getD_eq_getD_getElem?, List.getElem?_toArray, List.getElem?_cons_zero, Option.getD_some]
            go_wp2_with fail
            have hE := ownsRow_base (own_empty Wd 26 39) HBWd.out.size
            have hBn : Below wr.heap.size wr (Wd.alloc (.cells #[] 26)) := HBWd.out.alloc HBWd.out.size _
            have hG0 : Below Wd.heap.size Wd (Wd.alloc (.cells #[] 26)) := (Below.refl _ _).alloc (Nat.le_refl _) _
            have hs0 : (Wd.alloc (.cells #[] 26)).heap.size = Wd.heap.size + 1 := by simp
            have hb66 : wr.heap.size ≤ Wd.heap.size := HBWd.out.size
            generalize Wd.alloc (.cells #[] 26) = Wa at hE hBn hG0 hs0 ⊢
            have HS0 := Lib.hid hs0
            clear hs0
            have HBWa := Lib.hid hBn
            have HE := Lib.hid hE
            clear hE hBn hG0
            refine ⟨fun _ => ⟨⟨_, HBWa.out⟩, rfl⟩, ?_⟩
            refine wpF_two (r := 4) (s := 6) (by kernel_rfl) ?_ ?_
            · refine wpF_at true (by kernel_rfl) (by kernel_rfl) (rest := [6, 7, 11, 12, 13]) rfl ?_
              simp only [opsAt, List.map_cons, List.map_nil, Array.getD_eq_getD_getElem?, List.getElem?_toArray, List.getElem?_cons_zero, List.getElem?_cons_succ, Option.getD_some]
              refine wpList_append_nilR rfl (.tmp 66) (.tmp 69) rfl _ _ _ 0 (Nat.le_refl 0) rfl rfl ?_
              have HO70 := HE
              go_wp2_with fail
              refine ⟨fun _ => ⟨⟨_, HBWa.out⟩, rfl⟩, ?_⟩
              refine wpF_end [6, 7, 11, 12, 13] rfl rfl (by kernel_rfl) (by kernel_rfl) ?_
              refine wpR_at true (by kernel_rfl) (by kernel_rfl) ?_
              simp only [opsAt, List.map_cons, List.map_nil, Array.getD_eq_getD_getElem?, List.getElem?_toArray, List.getElem?_cons_zero, List.getElem?_cons_succ, Option.getD_some]
              go_wp2_with fail
              have c72 : ∀ j, (Wa.alloc (.cells (rlineCells s g) 26)).cell? ⟨Wa.heap.size, j, none⟩ = (rlineCells s g)[j]? := fun j => cells_new _ _ _ j
              have hBn : Below wr.heap.size wr (Wa.alloc (.cells (rlineCells s g) 26)) := HBWa.out.alloc HBWa.out.size _
              have hs6 : (Wa.alloc (.cells (rlineCells s g) 26)).heap.size = Wa.heap.size + 1 := by simp
              have hown6 := HO70.out.alloc (.cells (rlineCells s g) 26)
              obtain ⟨b72, hb72⟩ : ∃ b, b = Wa.heap.size := ⟨_, rfl⟩
              rw [← hb72] at c72 ⊢
              generalize Wa.alloc (.cells (rlineCells s g) 26) = Wc at c72 hBn hs6 hown6 ⊢
              have HBWc := Lib.hid hBn
              have C72 := Lib.hid c72
              have l72 : b72 < Wc.heap.size := by omega
              have HS6 := Lib.hid hs6
              have HB72 := Lib.hid hb72
              clear hs6 hb72
              have HO70 := Lib.hid hown6
              clear c72 hBn hown6
              refine ⟨fun _ => ⟨⟨_, HBWc.out⟩, rfl⟩, ?_⟩
              refine wpR_at true (by kernel_rfl) (by kernel_rfl) ?_
              simp only [opsAt, List.map_cons, List.map_nil, Array.getD_eq_getD_getElem?, List.getElem?_toArray, List.getElem?_cons_zero, List.getElem?_cons_succ, Option.getD_some]
              refine wpList_append_own _ rfl (.tmp 70) (.tmp 72) 49 rfl wr.heap.size 26 i0 (.agg (rlineCells ⟨#[]⟩ zeroLine)) 39 128 Tryz.underlying49 hi hz0 hz1 hz2 (rlineCells_size _ _) (by decide) _ _ _ rfl HO70.out ⟨b72, 0, none⟩ 1 1 (rList ⟨s, ⟨p, v0⟩⟩) rfl (rList_length _) ?e1 HONE.out ?e3 ?e4 ?e5 ?_
              case e1 =>
                intro j u hj
                rw [Addr.add_lit, Nat.zero_add, C72.out j]
                rw [HG.out, rList_cells ⟨s, ⟨p, v0⟩⟩]
                simpa using hj
              case e3 => unfold maxLen; omega
              case e4 => omega
              case e5 => exact HBWc.out.size
              intro v73 w3 hown3 hgr3 _
              have HB3 := Lib.hid (HBWc.out.grown hgr3 HBWc.out.size (fun k e => (HO70.out.lt k e).1) : Below wr.heap.size wr w3)
              have HO73 := Lib.hid hown3
              clear hgr3 hown3
              go_wp2_with fail
              refine ⟨fun _ => ⟨⟨_, HB3.out⟩, rfl⟩, wpR_list [11, 12, 13] _ _ (by kernel_rfl) ?_⟩
              simp only [opsAt, List.map_cons, List.map_nil, Array.getD_eq_getD_getElem?, List.getElem?_toArray, List.getElem?_cons_zero, List.getElem?_cons_succ, Option.getD_some]
              obtain ⟨g73, c73, hv73, hc73⟩ : ∃ g c, v73 = .slice g 1 c ∧ 1 ≤ c := by
                rcases HO73.out.2 with ⟨_, h0⟩ | ⟨g', cap', _, e, _, _, hle, _⟩
                · omega
                · exact ⟨_, _, e, by omega⟩
              subst hv73
              refine wpList_append_nilR rfl (.tmp 73) (.tmp 76) rfl _ _ _ 0 hc73 rfl rfl ?_
              go_wp2
              refine NoPanic.normal ?_
              go_wp2
              go_ret2
              have hBf : Below w.heap.size w w3 := HBr.out.trans (HB3.out.mono HBr.out.size)
              refine ⟨hBf, .inr ⟨HERR.out, _, rfl, ⟨?_, HONES.out, HNAMES.out, HFEW.out⟩⟩⟩
              have := ownsRow_base HO73.out HBr.out.size
              rw [HADD.out, flatR_one]
              exact this
            · refine wpF_at true (by kernel_rfl) (by kernel_rfl) (rest := [4, 7, 11, 12, 13]) rfl ?_
              simp only [opsAt, List.map_cons, List.map_nil, Array.getD_eq_getD_getElem?, List.getElem?_toArray, List.getElem?_cons_zero, List.getElem?_cons_succ, Option.getD_some]
              go_wp2_with fail
              have c72 : ∀ j, (Wa.alloc (.cells (rlineCells s g) 26)).cell? ⟨Wa.heap.size, j, none⟩ = (rlineCells s g)[j]? := fun j => cells_new _ _ _ j
              have hBn : Below wr.heap.size wr (Wa.alloc (.cells (rlineCells s g) 26)) := HBWa.out.alloc HBWa.out.size _
              have hs6 : (Wa.alloc (.cells (rlineCells s g) 26)).heap.size = Wa.heap.size + 1 := by simp
              have hown6 := HE.out.alloc (.cells (rlineCells s g) 26)
              obtain ⟨b72, hb72⟩ : ∃ b, b = Wa.heap.size := ⟨_, rfl⟩
              rw [← hb72] at c72 ⊢
              generalize Wa.alloc (.cells (rlineCells s g) 26) = Wb at c72 hBn hs6 hown6 ⊢
              have HBWb := Lib.hid hBn
              have C72 := Lib.hid c72
              have l72 : b72 < Wb.heap.size := by omega
              have HS6 := Lib.hid hs6
              have HB72 := Lib.hid hb72
              clear hs6 hb72
              have HE := Lib.hid hown6
              clear c72 hBn hown6
              refine ⟨fun _ => ⟨⟨_, HBWb.out⟩, rfl⟩, ?_⟩
              refine wpF_end [4, 7, 11, 12, 13] rfl rfl (by kernel_rfl) (by kernel_rfl) ?_
              refine wpR_at true (by kernel_rfl) (by kernel_rfl) ?_
              simp only [opsAt, List.map_cons, List.map_nil, Array.getD_eq_getD_getElem?, List.getElem?_toArray, List.getElem?_cons_zero, List.getElem?_cons_succ, Option.getD_some]
              refine wpList_append_nilR rfl (.tmp 66) (.tmp 69) rfl _ _ _ 0 (Nat.le_refl 0) rfl rfl ?_
              have HO70 := HE
              go_wp2_with fail
              refine ⟨fun _ => ⟨⟨_, HBWb.out⟩, rfl⟩, ?_⟩
              refine wpR_at true (by kernel_rfl) (by kernel_rfl) ?_
              simp only [opsAt, List.map_cons, List.map_nil, Array.getD_eq_getD_getElem?, List.getElem?_toArray, List.getElem?_cons_zero, List.getElem?_cons_succ, Option.getD_some]
              refine wpList_append_own _ rfl (.tmp 70) (.tmp 72) 49 rfl wr.heap.size 26 i0 (.agg (rlineCells ⟨#[]⟩ zeroLine)) 39 128 Tryz.underlying49 hi hz0 hz1 hz2 (rlineCells_size _ _) (by decide) _ _ _ rfl HO70.out ⟨b72, 0, none⟩ 1 1 (rList ⟨s, ⟨p, v0⟩⟩) rfl (rList_length _) ?e1 HONE.out ?e3 ?e4 ?e5 ?_
              case e1 =>
                intro j u hj
                rw [Addr.add_lit, Nat.zero_add, C72.out j]
                rw [HG.out, rList_cells ⟨s, ⟨p, v0⟩⟩]
                simpa using hj
              case e3 => unfold maxLen; omega
              case e4 => omega
              case e5 => exact HBWb.out.size
              intro v73 w3 hown3 hgr3 _
              have HB3 := Lib.hid (HBWb.out.grown hgr3 HBWb.out.size (fun k e => (HO70.out.lt k e).1) : Below wr.heap.size wr w3)
              have HO73 := Lib.hid hown3
              clear hgr3 hown3
              go_wp2_with fail
              refine ⟨fun _ => ⟨⟨_, HB3.out⟩, rfl⟩, wpR_list [11, 12, 13] _ _ (by kernel_rfl) ?_⟩
              simp only [opsAt, List.map_cons, List.map_nil, Array.getD_eq_getD_getElem?, List.getElem?_toArray, List.getElem?_cons_zero, List.getElem?_cons_succ, Option.getD_some]
              obtain ⟨g73, c73, hv73, hc73⟩ : ∃ g c, v73 = .slice g 1 c ∧ 1 ≤ c := by
                rcases HO73.out.2 with ⟨_, h0⟩ | ⟨g', cap', _, e, _, _, hle, _⟩
                · omega
                · exact ⟨_, _, e, by omega⟩
              subst hv73
              refine wpList_append_nilR rfl (.tmp 73) (.tmp 76) rfl _ _ _ 0 hc73 rfl rfl ?_
              go_wp2
              refine NoPanic.normal ?_
              go_wp2
              go_ret2
              have hBf : Below w.heap.size w w3 := HBr.out.trans (HB3.out.mono HBr.out.size)
              refine ⟨hBf, .inr ⟨HERR.out, _, rfl, ⟨?_, HONES.out, HNAMES.out, HFEW.out⟩⟩⟩
              have := ownsRow_base HO73.out HBr.out.size
              rw [HADD.out, flatR_one]
              exact this
          · refine wpF_at true (by kernel_rfl) (by kernel_rfl) (rest := [0, 4, 7, 11, 12, 13]) rfl ?_
            simp only [opsAt, List.map_cons, List.map_nil, Array.getD_eq_getD_getElem?, List.getElem?_toArray, List.getElem?_cons_zero, List.getElem?_cons_succ, Option.getD_some]
            go_wp2_with fail
            have c72 : ∀ j, (Wd.alloc (.cells (rlineCells s g) 26)).cell? ⟨Wd.heap.size, j, none⟩ = (rlineCells s g)[j]? := fun j => cells_new _ _ _ j
            have hBn : Below wr.heap.size wr (Wd.alloc (.cells (rlineCells s g) 26)) := HBWd.out.alloc HBWd.out.size _
            have hs6 : (Wd.alloc (.cells (rlineCells s g) 26)).heap.size = Wd.heap.size + 1 := by simp
            obtain ⟨b72, hb72⟩ : ∃ b, b = Wd.heap.size := ⟨_, rfl⟩
            rw [← hb72] at c72 ⊢
            generalize Wd.alloc (.cells (rlineCells s g) 26) = Wa at c72 hBn hs6 ⊢
            have HBWa := Lib.hid hBn
            have C72 := Lib.hid c72
            have l72 : b72 < Wa.heap.size := by omega
            have HS6 := Lib.hid hs6
            have HB72 := Lib.hid hb72
            clear hs6 hb72
            clear c72 hBn
            refine ⟨fun _ => ⟨⟨_, HBWa.out⟩, rfl⟩, ?_⟩
            refine wpF_end [0, 4, 7, 11, 12, 13] rfl rfl (by kernel_rfl) (by kernel_rfl) ?_
            refine wpR_at true (by kernel_rfl) (by kernel_rfl) ?_
            simp only [opsAt, List.map_cons, List.map_nil, Array.getD_eq_getD_getElem?, List.getElem?_toArray, List.getElem?_cons_zero, Option.getD_some]
            go_wp2_with fail
            have hE := ownsRow_base (own_empty Wa 26 39) HBWa.out.size
            have hBn : Below wr.heap.size wr (Wa.alloc (.cells #[] 26)) := HBWa.out.alloc HBWa.out.size _
            have hG0 : Below Wa.heap.size Wa (Wa.alloc (.cells #[] 26)) := (Below.refl _ _).alloc (Nat.le_refl _) _
            have hs0 : (Wa.alloc (.cells #[] 26)).heap.size = Wa.heap.size + 1 := by simp
            have hb66 : wr.heap.size ≤ Wa.heap.size := HBWa.out.size
            generalize Wa.alloc (.cells #[] 26) = Wb at hE hBn hG0 hs0 ⊢
            have HS0 := Lib.hid hs0
            clear hs0
            have HBWb := Lib.hid hBn
            have HE := Lib.hid hE
            have C72 : Hid (∀ j, Wb.cell? ⟨b72, j, none⟩ = (rlineCells s g)[j]?) := Lib.hid fun j => (hG0.cell (p := ⟨b72, j, none⟩) l72).trans (C72.out j)
            have n72 : b72 ≠ Wa.heap.size := Nat.ne_of_lt l72
            replace l72 : b72 < Wb.heap.size := by have := HS0.out; omega
            clear hE hBn hG0
            refine ⟨fun _ => ⟨⟨_, HBWb.out⟩, rfl⟩, ?_⟩
            refine wpR_at true (by kernel_rfl) (by kernel_rfl) ?_
            simp only [opsAt, List.map_cons, List.map_nil, Array.getD_eq_getD_getElem?, List.getElem?_toArray, List.getElem?_cons_zero, List.getElem?_cons_succ, Option.getD_some]
            refine wpList_append_nilR rfl (.tmp 66) (.tmp 69) rfl _ _ _ 0 (Nat.le_refl 0) rfl rfl ?_
            have HO70 := HE
            go_wp2_with fail
            refine ⟨fun _ => ⟨⟨_, HBWb.out⟩, rfl⟩, ?_⟩
            refine wpR_at true (by kernel_rfl) (by kernel_rfl) ?_
            simp only [opsAt, List.map_cons, List.map_nil, Array.getD_eq_getD_getElem?, List.getElem?_toArray, List.getElem?_cons_zero, List.getElem?_cons_succ, Option.getD_some]
            refine wpList_append_own _ rfl (.tmp 70) (.tmp 72) 49 rfl wr.heap.size 26 i0 (.agg (rlineCells ⟨#[]⟩ zeroLine)) 39 128 Tryz.underlying49 hi hz0 hz1 hz2 (rlineCells_size _ _) (by decide) _ _ _ rfl HO70.out ⟨b72, 0, none⟩ 1 1 (rList ⟨s, ⟨p, v0⟩⟩) rfl (rList_length _) ?e1 HONE.out ?e3 ?e4 ?e5 ?_
            case e1 =>
              intro j u hj
              rw [Addr.add_lit, Nat.zero_add, C72.out j]
              rw [HG.out, rList_cells ⟨s, ⟨p, v0⟩⟩]
              simpa using hj
            case e3 => unfold maxLen; omega
            case e4 => omega
            case e5 => exact HBWb.out.size
            intro v73 w3 hown3 hgr3 _
            have HB3 := Lib.hid (HBWb.out.grown hgr3 HBWb.out.size (fun k e => (HO70.out.lt k e).1) : Below wr.heap.size wr w3)
            have HO73 := Lib.hid hown3
            clear hgr3 hown3
            go_wp2_with fail
            refine ⟨fun _ => ⟨⟨_, HB3.out⟩, rfl⟩, wpR_list [11, 12, 13] _ _ (by kernel_rfl) ?_⟩
            simp only [opsAt, List.map_cons, List.map_nil, Array.getD_eq_getD_getElem?, List.getElem?_toArray, List.getElem?_cons_zero, List.getElem?_cons_succ, Option.getD_some]
            obtain ⟨g73, c73, hv73, hc73⟩ : ∃ g c, v73 = .slice g 1 c ∧ 1 ≤ c := by
              rcases HO73.out.2 with ⟨_, h0⟩ | ⟨g', cap', _, e, _, _, hle, _⟩
              · omega
              · exact ⟨_, _, e, by omega⟩
            subst hv73
            refine wpList_append_nilR rfl (.tmp 73) (.tmp 76) rfl _ _ _ 0 hc73 rfl rfl ?_
            go_wp2
            refine NoPanic.normal ?_
            go_wp2
            go_ret2
            have hBf : Below w.heap.size w w3 := HBr.out.trans (HB3.out.mono HBr.out.size)
            refine ⟨hBf, .inr ⟨HERR.out, _, rfl, ⟨?_, HONES.out, HNAMES.out, HFEW.out⟩⟩⟩
            have := ownsRow_base HO73.out HBr.out.size
            rw [HADD.out, flatR_one]
            exact this
      · cases hve
        have HC := Lib.hid hcell
        clear hcell HHD
        go_wp2
        go_loopw [8, 9] (fun a i wr => ∃ k m : Nat, k ≤ rs.length ∧ m ≤ k ∧ i = .int .i64 k ∧ a = .int .i64 m ∧ Hid (m = atR (rs.take k) ⟨s, ⟨p, v0⟩⟩ 0 0) ∧ Hid (clashR (rs.take k) s p = false) ∧ Hid (Below w2.heap.size w2 wr)) (fun _ i _ => rs.length - (intOf i).toNat)
        case atStart => exact ⟨0, 0, by omega, by omega, rfl, rfl, Lib.hid rfl, Lib.hid rfl, Lib.hid (Below.refl _ _)⟩
        case round =>
          obtain ⟨k, m, hk, hmk, rfl, rfl, HM, HN, HBr⟩ := hrel
          have HRr : Hid (RVar wr w.heap.size s g) := Lib.hid ((HBr.out.block _ HR2.out.lt).trans HR2.out)
          have hgb2 : gb < w2.heap.size := Nat.lt_of_lt_of_le hgb HB2.out.size
          have hcw : ∀ j u, (flatR rs)[j]? = some u → wr.cell? ⟨gb, j, none⟩ = some u := fun j u hu => (HBr.out.cell (p := ⟨gb, j, none⟩) hgb2).trans ((HB2.out.cell (p := ⟨gb, j, none⟩) hgb).trans (HC.out j u hu))
          by_cases hltk : k < rs.length
          · have hltz : (k : Int) < (rs.length : Int) := by omega
            have c0 : wr.cell? ⟨gb, k * 39, none⟩ = some (.string rs[k].s) := rAt_cell hcw hltk (i := 0) rfl
            have c1 : wr.cell? ⟨gb, k * 39 + 1, none⟩ = some (.int .i64 rs[k].m.p.number) := rAt_cell hcw hltk (i := 1) rfl
            obtain ⟨c2, c3⟩ := rAt_id hcw hltk
            have HRD := Lib.hid (rAt_rd hcw hltk)
            have HAT : Hid (rs[k].s = s ∧ (rs[k].m.p.number = p.number ∨ rs[k].m.p.id = p.id) → clashR rs s p = true) := Lib.hid fun h => clash_at hltk h
            have HN2 : Hid (¬ (rs[k].s = s ∧ (rs[k].m.p.number = p.number ∨ rs[k].m.p.id = p.id)) → clashR (rs.take (k + 1)) s p = false) := Lib.hid fun h => clash_take hltk HN.out h
            have HM2 : Hid ((beforeB rs[k] ⟨s, ⟨p, v0⟩⟩ = true → k + 1 = atR (rs.take (k + 1)) ⟨s, ⟨p, v0⟩⟩ 0 0) ∧ (beforeB rs[k] ⟨s, ⟨p, v0⟩⟩ = false → m = atR (rs.take (k + 1)) ⟨s, ⟨p, v0⟩⟩ 0 0)) := Lib.hid (by
              rw [List.take_succ_eq_append_getElem hltk, atR_snoc]
              refine ⟨fun h => ?_, fun h => ?_⟩
              · rw [if_pos h, List.length_take]; omega
              · rw [h, if_neg (by simp)]; exact HM.out)
            have hsz := HX.out.names rs[k] (List.getElem_mem hltk)
            have e0 := (HRr.out.cell 0).trans (rc0 s g)
            have e1 := (HRr.out.cell 1).trans (rc1 s g)
            obtain ⟨e2, e3⟩ := rvar_id HRr.out
            rw [hgn] at e1
            rw [hgi] at e3
            generalize rs[k] = r0 at c0 c1 c2 c3 HRD HAT HN2 HM2 hsz
            have hq0 : ∀ n, (wr.drewN n).cell? ⟨gb, k * 39, none⟩ = some (.string r0.s) := fun n => by rw [World.cell?_drewN]; exact c0
            have hq1 : ∀ n, (wr.drewN n).cell? ⟨gb, k * 39 + 1, none⟩ = some (.int .i64 r0.m.p.number) := fun n => by rw [World.cell?_drewN]; exact c1
            have hq2 : ∀ n, okCells (wr.drewN n) ⟨gb, k * 39 + 2, none⟩ 32 = true := fun n => by rw [okCells_drewN]; exact c2
            have hq3 : ∀ n, rdCells (wr.drewN n) ⟨gb, k * 39 + 2, none⟩ 32 = (encId r0.m.p.id).toArray := fun n => by rw [rdCells_drewN]; exact c3
            have hq4 : ∀ n, (wr.drewN n).cell? ⟨w.heap.size, 0, none⟩ = some (.string s) := fun n => by rw [World.cell?_drewN]; exact e0
            have hq5 : ∀ n, (wr.drewN n).cell? ⟨w.heap.size, 1, none⟩ = some (.int .i64 p.number) := fun n => by rw [World.cell?_drewN]; exact e1
            have hq6 : ∀ n, okCells (wr.drewN n) ⟨w.heap.size, 2, none⟩ 32 = true := fun n => by rw [okCells_drewN]; exact e2
            have hq7 : ∀ n, rdCells (wr.drewN n) ⟨w.heap.size, 2, none⟩ 32 = (encId p.id).toArray := fun n => by rw [rdCells_drewN]; exact e3
            clear c0 c1 c2 c3 e0 e1 e2 e3 hcw
            by_cases ht : r0.s = s
            · have hte : (r0.s.toList == s.toList) = true := by rw [str_eq_iff, decide_eq_true ht]
              by_cases hn : r0.m.p.number = p.number
              · have hnb : (r0.m.p.number == p.number) = true := by rw [beq_iff_eq]; exact hn
                have HT := Lib.hid ht
                have HNE := Lib.hid hn
                clear ht hn
                have HC7 : Hid (addErrR rs s p = 7) := Lib.hid (by rw [HEC.out, HAT.out (⟨HT.out, .inl HNE.out⟩)]; rfl)
                go_wp2_with fail
                go_quiet (fail)
                go_wp2
                go_ret2
                exact ⟨below_drewN' (HB2.out.trans (HBr.out.mono HB2.out.size)) _, .inl ⟨by rw [HC7.out]; decide, by rw [HC7.out]; rfl⟩⟩
              · have hnb : (r0.m.p.number == p.number) = false := by rw [beq_eq_false_iff_ne]; exact hn
                by_cases hx : r0.m.p.id = p.id
                · have hxd : decide (r0.m.p.id = p.id) = true := decide_eq_true hx
                  have HT := Lib.hid ht
                  have HXE := Lib.hid hx
                  clear ht hx hn
                  have HC7 : Hid (addErrR rs s p = 7) := Lib.hid (by rw [HEC.out, HAT.out (⟨HT.out, .inr HXE.out⟩)]; rfl)
                  go_wp2_with fail
                  go_quiet (fail)
                  go_wp2
                  go_ret2
                  exact ⟨below_drewN' (HB2.out.trans (HBr.out.mono HB2.out.size)) _, .inl ⟨by rw [HC7.out]; decide, by rw [HC7.out]; rfl⟩⟩
                · have hxd : decide (r0.m.p.id = p.id) = false := decide_eq_false hx
                  have HN1 := Lib.hid (HN2.out fun h => h.2.elim hn hx)
                  clear ht hx hn HN2
                  go_wp2_with fail
                  go_quiet (fail)
                  clear hq0 hq1 hq2 hq3 hq4 hq5 hq6 hq7 HAT
                  have hbW : Below w2.heap.size w2 (wr.drewN nq) := below_drewN' HBr.out nq
                  have hfW : okCells (wr.drewN nq) ⟨gb, k * 39, none⟩ 39 = true ∧ rdCells (wr.drewN nq) ⟨gb, k * 39, none⟩ 39 = rlineCells r0.s r0.m.g := ⟨by rw [okCells_drewN]; exact HRD.out.1, by rw [rdCells_drewN]; exact HRD.out.2⟩
                  have hrW : RVar (wr.drewN nq) w.heap.size s g := HRr.out
                  generalize wr.drewN nq = W2 at hbW hfW hrW ⊢
                  have z1 : ∀ z : Later W2, okCells z.1 ⟨gb, k * 39, none⟩ 39 = true := fun z => Later.ok hfW.1 z
                  have z2 : ∀ z : Later W2, rdCells z.1 ⟨gb, k * 39, none⟩ 39 = rlineCells r0.s r0.m.g := fun z => (Later.rd hfW.1 z).trans hfW.2
                  have z3 : ∀ z : Later W2, okCells z.1 ⟨w.heap.size, 0, none⟩ 39 = true := fun z => (RVar.rd ((z.2.block _ hrW.lt).trans hrW)).1
                  have z4 : ∀ z : Later W2, rdCells z.1 ⟨w.heap.size, 0, none⟩ 39 = rlineCells s g := fun z => (RVar.rd ((z.2.block _ hrW.lt).trans hrW)).2
                  have HBW := Lib.hid hbW
                  clear hbW hfW hrW HRr HBr HRD
                  go_wp2_with fail
                  refine wp_region_mix0 [0, 1, 2, 3, 4] [5] (fun w' => ∃ z : Later W2, w' = z.1) (by kernel_rfl) (by kernel_rfl) (by kernel_rfl) ⟨⟨_, (Below.refl _ _).drew⟩, rfl⟩ ?_
                  simp only [opsAt, List.map_cons, List.map_nil, Array.getD_eq_getD_getElem?, List.getElem?_toArray, List.getElem?_cons_zero, List.getElem?_cons_succ, Option.getD_some]
                  repeat (go_big_quiet_step (fail))
                  refine wpQuiet_nil ?_
                  clear z1 z2 z3 z4
                  refine wpR_list [5] _ _ (by kernel_rfl) ?_
                  simp only [opsAt, List.map_cons, List.map_nil, Array.getD_eq_getD_getElem?, List.getElem?_toArray, List.getElem?_cons_zero, List.getElem?_cons_succ, Option.getD_some]
                  go_wp2_with fail
                  refine (HBF.out r0 W2.drew hsz).mono ?_
                  rintro r w3 ⟨rfl, hb3⟩
                  have HB3 : Hid (Below w2.heap.size w2 w3) := Lib.hid ((HBW.out.drew).trans (hb3.mono (by exact HBW.out.size)))
                  clear hb3 HBW
                  cases hbb : beforeB r0 ⟨s, ⟨p, v0⟩⟩ with
                  | true =>
                    have HM1 := Lib.hid (HM2.out.1 hbb)
                    go_wp2
                    refine NoPanic.normal ?_
                    go_wp2
                    go_roundw
                    case rel => exact ⟨k + 1, k + 1, by omega, by omega, by go_num, by go_num, HM1, HN1, HB3⟩
                    case measure => simp [intOf]; omega
                  | false =>
                    have HM1 := Lib.hid (HM2.out.2 hbb)
                    go_wp2
                    refine NoPanic.normal ?_
                    go_wp2
                    go_roundw
                    case rel => exact ⟨k + 1, m, by omega, by omega, by go_num, rfl, HM1, HN1, HB3⟩
                    case measure => simp [intOf]; omega
            · have hte : (r0.s.toList == s.toList) = false := by rw [str_eq_iff, decide_eq_false ht]
              have HN1 := Lib.hid (HN2.out fun h => ht h.1)
              clear ht HN2
              go_wp2_with fail
              go_quiet (fail)
              clear hq0 hq1 hq2 hq3 hq4 hq5 hq6 hq7 HAT
              have hbW : Below w2.heap.size w2 (wr.drewN nq) := below_drewN' HBr.out nq
              have hfW : okCells (wr.drewN nq) ⟨gb, k * 39, none⟩ 39 = true ∧ rdCells (wr.drewN nq) ⟨gb, k * 39, none⟩ 39 = rlineCells r0.s r0.m.g := ⟨by rw [okCells_drewN]; exact HRD.out.1, by rw [rdCells_drewN]; exact HRD.out.2⟩
              have hrW : RVar (wr.drewN nq) w.heap.size s g := HRr.out
              generalize wr.drewN nq = W2 at hbW hfW hrW ⊢
              have z1 : ∀ z : Later W2, okCells z.1 ⟨gb, k * 39, none⟩ 39 = true := fun z => Later.ok hfW.1 z
              have z2 : ∀ z : Later W2, rdCells z.1 ⟨gb, k * 39, none⟩ 39 = rlineCells r0.s r0.m.g := fun z => (Later.rd hfW.1 z).trans hfW.2
              have z3 : ∀ z : Later W2, okCells z.1 ⟨w.heap.size, 0, none⟩ 39 = true := fun z => (RVar.rd ((z.2.block _ hrW.lt).trans hrW)).1
              have z4 : ∀ z : Later W2, rdCells z.1 ⟨w.heap.size, 0, none⟩ 39 = rlineCells s g := fun z => (RVar.rd ((z.2.block _ hrW.lt).trans hrW)).2
              have HBW := Lib.hid hbW
              clear hbW hfW hrW HRr HBr HRD
              go_wp2_with fail
              refine wp_region_mix0 [0, 1, 2, 3, 4] [5] (fun w' => ∃ z : Later W2, w' = z.1) (by kernel_rfl) (by kernel_rfl) (by kernel_rfl) ⟨⟨_, (Below.refl _ _).drew⟩, rfl⟩ ?_
              simp only [opsAt, List.map_cons, List.map_nil, Array.getD_eq_getD_getElem?, List.getElem?_toArray, List.getElem?_cons_zero, List.getElem?_cons_succ, Option.getD_some]
              repeat (go_big_quiet_step (fail))
              refine wpQuiet_nil ?_
              clear z1 z2 z3 z4
              refine wpR_list [5] _ _ (by kernel_rfl) ?_
              simp only [opsAt, List.map_cons, List.map_nil, Array.getD_eq_getD_getElem?, List.getElem?_toArray, List.getElem?_cons_zero, List.getElem?_cons_succ, Option.getD_some]
              go_wp2_with fail
              refine (HBF.out r0 W2.drew hsz).mono ?_
              rintro r w3 ⟨rfl, hb3⟩
              have HB3 : Hid (Below w2.heap.size w2 w3) := Lib.hid ((HBW.out.drew).trans (hb3.mono (by exact HBW.out.size)))
              clear hb3 HBW
              cases hbb : beforeB r0 ⟨s, ⟨p, v0⟩⟩ with
              | true =>
                have HM1 := Lib.hid (HM2.out.1 hbb)
                go_wp2
                refine NoPanic.normal ?_
                go_wp2
                go_roundw
                case rel => exact ⟨k + 1, k + 1, by omega, by omega, by go_num, by go_num, HM1, HN1, HB3⟩
                case measure => simp [intOf]; omega
              | false =>
                have HM1 := Lib.hid (HM2.out.2 hbb)
                go_wp2
                refine NoPanic.normal ?_
                go_wp2
                go_roundw
                case rel => exact ⟨k + 1, m, by omega, by omega, by go_num, rfl, HM1, HN1, HB3⟩
                case measure => simp [intOf]; omega
          · have HE : Hid (rs.take k = rs) := Lib.hid (List.take_of_length_le (by omega))
            obtain ⟨at', hat⟩ : ∃ a, a = m := ⟨_, rfl⟩
            have hale : at' ≤ rs.length := by omega
            have HAT : Hid (at' = atR rs ⟨s, ⟨p, v0⟩⟩ 0 0) := Lib.hid (by rw [hat, HM.out, HE.out])
            have HERR : Hid (addErrR rs s p = 0) := Lib.hid (by have := HN.out; rw [HE.out] at this; rw [HEC.out, this]; rfl)
            have HADD : Hid (addR rs ⟨s, ⟨p, v0⟩⟩ = rs.take at' ++ [⟨s, ⟨p, v0⟩⟩] ++ rs.drop at') := Lib.hid (by unfold addR; rw [← HAT.out, List.append_assoc]; rfl)
            have HLEN : Hid ((rs.take at' ++ [(⟨s, ⟨p, v0⟩⟩ : MR)] ++ rs.drop at').length = at' + 1 + (rs.length - at')) := Lib.hid (by
              rw [List.length_append, List.length_append, List.length_take, List.length_drop, List.length_singleton]; omega)
            rw [← hat]
            have hmz : (at' : Int) ≤ (rs.length : Int) := by omega
            clear hat HM HN HEC hmk HE
            have hgbr : gb < wr.heap.size := Nat.lt_of_lt_of_le hgb2 HBr.out.size
            obtain ⟨ad, hadb, had, hdc⟩ : ∃ ad : Addr, (∀ i, (ad.add i).block < wr.heap.size) ∧ (if vc = at' then some (⟨gb, 0, none⟩ : Addr) else some ⟨gb, at' * 39, none⟩) = some ad ∧ ∀ i u, (flatR (rs.drop at'))[i]? = some u → wr.cell? (ad.add i) = some u := by
              by_cases hc : vc = at'
              · refine ⟨⟨gb, 0, none⟩, fun i => by rw [Addr.add_lit]; exact hgbr, if_pos hc, fun i u hu => ?_⟩
                rw [List.drop_of_length_le (by omega)] at hu
                cases hu
              · refine ⟨⟨gb, at' * 39, none⟩, fun i => by rw [Addr.add_lit]; exact hgbr, if_neg hc, fun i u hu => ?_⟩
                rw [Addr.add_lit]
                refine hcw _ _ ?_
                rw [← flatR_drop, List.getElem?_drop] at hu
                exact hu
            have HDC := Lib.hid hdc
            have HADB := Lib.hid hadb
            have HC2 := HC
            have HC : Hid (∀ j u, (flatR rs)[j]? = some u → wr.cell? ⟨gb, j, none⟩ = some u) := Lib.hid hcw
            clear hdc hadb HC2 hcw
            have hl1 : ((flatR rs).take (at' * 39)).length = at' * 39 := by rw [List.length_take, flatR_length]; omega
            have hl2 : (flatR (rs.drop at')).length = (rs.length - at') * 39 := by rw [flatR_length, List.length_drop]
            have HO1 : Hid (∀ u ∈ (flatR rs).take (at' * 39), u.oneCell' = true) := Lib.hid fun u hu => flatR_cells HX.out.one u (List.mem_of_mem_take hu)
            have HO2 : Hid (∀ u ∈ flatR (rs.drop at'), u.oneCell' = true) := Lib.hid (flatR_cells fun r hr => HX.out.one r (List.mem_of_mem_drop hr))
            have HBw2 := HB2
            have HBrr := HBr
            have HBr : Hid (Below w.heap.size w wr) := Lib.hid (HBw2.out.trans (HBrr.out.mono HBw2.out.size))
            have z1 : ∀ z : Later wr, okCells z.1 ⟨w.heap.size, 0, none⟩ 39 = true := fun z => (RVar.rd ((z.2.block _ HRr.out.lt).trans HRr.out)).1
            have z2 : ∀ z : Later wr, rdCells z.1 ⟨w.heap.size, 0, none⟩ 39 = rlineCells s g := fun z => (RVar.rd ((z.2.block _ HRr.out.lt).trans HRr.out)).2
            clear HBw2 HBrr
            go_wp2
            refine wp_region_fork [1, 2, 3, 5, 8, 9, 10] [0, 4, 6, 7, 11, 12, 13] 7 (fun w' => ∃ z : Later wr, w' = z.1) (by kernel_rfl) (by kernel_rfl) rfl ⟨⟨_, (Below.refl _ _).drew⟩, rfl⟩ ?_
            simp only [opsAt, List.map_cons, List.map_nil, Array.getD_eq_getD_getElem?, List.getElem?_toArray, List.getElem?_cons_zero, List.getElem?_cons_succ, Option.getD_some]
            repeat (go_big_quiet_step (fail))
            refine wpQuiet_nil ?_
            clear z1 z2
            try rw [had]
            clear had
            generalize hWd : wr.drew = Wd
            have HBWd : Hid (Below wr.heap.size wr Wd) := Lib.hid (by rw [← hWd]; exact (Below.refl _ _).drew)
            clear hWd
            refine wpF_two (r := 0) (s := 6) (by kernel_rfl) ?_ ?_
            · refine wpF_at true (by kernel_rfl) (by kernel_rfl) (rest := [4, 6, 7, 11, 12, 13]) rfl ?_
              simp only [opsAt, List.map_cons, List.map_nil, Array.getD_eq_getD_getElem?, List.getElem?_toArray, List.getElem?_cons_zero, Option.getD_some]
              go_wp2_with fail
              have hE := ownsRow_base (own_empty Wd 26 39) HBWd.out.size
              have hBn : Below wr.heap.size wr (Wd.alloc (.cells #[] 26)) := HBWd.out.alloc HBWd.out.size _
              have hG0 : Below Wd.heap.size Wd (Wd.alloc (.cells #[] 26)) := (Below.refl _ _).alloc (Nat.le_refl _) _
              have hs0 : (Wd.alloc (.cells #[] 26)).heap.size = Wd.heap.size + 1 := by simp
              have hb66 : wr.heap.size ≤ Wd.heap.size := HBWd.out.size
              generalize Wd.alloc (.cells #[] 26) = Wa at hE hBn hG0 hs0 ⊢
              have HS0 := Lib.hid hs0
              clear hs0
              have HBWa := Lib.hid hBn
              have HE := Lib.hid hE
              clear hE hBn hG0
              refine ⟨fun _ => ⟨⟨_, HBWa.out⟩, rfl⟩, ?_⟩
              refine wpF_two (r := 4) (s := 6) (by kernel_rfl) ?_ ?_
              · refine wpF_at true (by kernel_rfl) (by kernel_rfl) (rest := [6, 7, 11, 12, 13]) rfl ?_
                simp only [opsAt, List.map_cons, List.map_nil, Array.getD_eq_getD_getElem?, List.getElem?_toArray, List.getElem?_cons_zero, List.getElem?_cons_succ, Option.getD_some]
                refine wpList_append_own _ rfl (.tmp 66) (.tmp 69) 49 rfl wr.heap.size 26 i0 (.agg (rlineCells ⟨#[]⟩ zeroLine)) 39 128 Tryz.underlying49 hi hz0 hz1 hz2 (rlineCells_size _ _) (by decide) _ _ _ rfl HE.out ⟨gb, 0, none⟩ at' vc ((flatR rs).take (at' * 39)) rfl hl1 ?c1 HO1.out ?c3 ?c4 ?c5 ?_
                case c1 =>
                  intro i u hu
                  rw [Addr.add_lit, Nat.zero_add]
                  exact (HBWa.out.cell (p := ⟨gb, i, none⟩) hgbr).trans (HC.out i u (by rw [List.getElem?_take] at hu; split at hu; exact hu; cases hu))
                case c3 => unfold maxLen; omega
                case c4 => omega
                case c5 => exact HBWa.out.size
                intro v70 Wb hown1 hgr1 _
                have HBWb := Lib.hid (HBWa.out.grown hgr1 HBWa.out.size (fun k e => by have e' : Wd.heap.size = k := Option.some.inj e; omega) : Below wr.heap.size wr Wb)
                rw [Nat.zero_add, List.nil_append] at hown1
                have HO70 := Lib.hid hown1
                clear hgr1 hown1
                go_wp2_with fail
                refine ⟨fun _ => ⟨⟨_, HBWb.out⟩, rfl⟩, ?_⟩
                refine wpF_end [6, 7, 11, 12, 13] rfl rfl (by kernel_rfl) (by kernel_rfl) ?_
                refine wpR_at true (by kernel_rfl) (by kernel_rfl) ?_
                simp only [opsAt, List.map_cons, List.map_nil, Array.getD_eq_getD_getElem?, List.getElem?_toArray, List.getElem?_cons_zero, List.getElem?_cons_succ, Option.getD_some]
                go_wp2_with fail
                have c72 : ∀ j, (Wb.alloc (.cells (rlineCells s g) 26)).cell? ⟨Wb.heap.size, j, none⟩ = (rlineCells s g)[j]? := fun j => cells_new _ _ _ j
                have hBn : Below wr.heap.size wr (Wb.alloc (.cells (rlineCells s g) 26)) := HBWb.out.alloc HBWb.out.size _
                have hs6 : (Wb.alloc (.cells (rlineCells s g) 26)).heap.size = Wb.heap.size + 1 := by simp
                have hown6 := HO70.out.alloc (.cells (rlineCells s g) 26)
                obtain ⟨b72, hb72⟩ : ∃ b, b = Wb.heap.size := ⟨_, rfl⟩
                rw [← hb72] at c72 ⊢
                generalize Wb.alloc (.cells (rlineCells s g) 26) = Wc at c72 hBn hs6 hown6 ⊢
                have HBWc := Lib.hid hBn
                have C72 := Lib.hid c72
                have l72 : b72 < Wc.heap.size := by omega
                have HS6 := Lib.hid hs6
                have HB72 := Lib.hid hb72
                clear hs6 hb72
                have HO70 := Lib.hid hown6
                clear c72 hBn hown6
                refine ⟨fun _ => ⟨⟨_, HBWc.out⟩, rfl⟩, ?_⟩
                refine wpR_at true (by kernel_rfl) (by kernel_rfl) ?_
                simp only [opsAt, List.map_cons, List.map_nil, Array.getD_eq_getD_getElem?, List.getElem?_toArray, List.getElem?_cons_zero, List.getElem?_cons_succ, Option.getD_some]
                refine wpList_append_own _ rfl (.tmp 70) (.tmp 72) 49 rfl wr.heap.size 26 i0 (.agg (rlineCells ⟨#[]⟩ zeroLine)) 39 128 Tryz.underlying49 hi hz0 hz1 hz2 (rlineCells_size _ _) (by decide) _ _ _ rfl HO70.out ⟨b72, 0, none⟩ 1 1 (rList ⟨s, ⟨p, v0⟩⟩) rfl (rList_length _) ?e1 HONE.out ?e3 ?e4 ?e5 ?_
                case e1 =>
                  intro j u hj
                  rw [Addr.add_lit, Nat.zero_add, C72.out j]
                  rw [HG.out, rList_cells ⟨s, ⟨p, v0⟩⟩]
                  simpa using hj
                case e3 => unfold maxLen; omega
                case e4 => omega
                case e5 => exact HBWc.out.size
                intro v73 w3 hown3 hgr3 _
                have HB3 := Lib.hid (HBWc.out.grown hgr3 HBWc.out.size (fun k e => (HO70.out.lt k e).1) : Below wr.heap.size wr w3)
                have HO73 := Lib.hid hown3
                clear hgr3 hown3
                go_wp2_with fail
                refine ⟨fun _ => ⟨⟨_, HB3.out⟩, rfl⟩, wpR_list [11, 12, 13] _ _ (by kernel_rfl) ?_⟩
                simp only [opsAt, List.map_cons, List.map_nil, Array.getD_eq_getD_getElem?, List.getElem?_toArray, List.getElem?_cons_zero, List.getElem?_cons_succ, Option.getD_some]
                refine wpList_append_own _ rfl (.tmp 73) (.tmp 76) 49 rfl wr.heap.size 26 i0 (.agg (rlineCells ⟨#[]⟩ zeroLine)) 39 128 Tryz.underlying49 hi hz0 hz1 hz2 (rlineCells_size _ _) (by decide) _ _ _ rfl HO73.out ad (rs.length - at') (vc - at') (flatR (rs.drop at')) rfl hl2 ?d1 HO2.out ?d3 ?d4 ?d5 ?_
                case d1 => exact fun i u hu => (HB3.out.cell (p := ad.add i) (HADB.out i)).trans (HDC.out i u hu)
                case d3 => unfold maxLen; omega
                case d4 => omega
                case d5 => exact HB3.out.size
                intro v77 w4 hown4 hgr4 _
                have HB4 := Lib.hid (HB3.out.grown hgr4 HB3.out.size (fun k e => (HO73.out.lt k e).1) : Below wr.heap.size wr w4)
                have HO77 := Lib.hid hown4
                clear hgr4 hown4
                go_wp2
                refine NoPanic.normal ?_
                go_wp2
                go_ret2
                have hBf : Below w.heap.size w w4 := HBr.out.trans (HB4.out.mono HBr.out.size)
                refine ⟨hBf, .inr ⟨HERR.out, _, rfl, ⟨?_, HONES.out, HNAMES.out, HFEW.out⟩⟩⟩
                have := ownsRow_base HO77.out HBr.out.size
                rw [HADD.out, HLEN.out, flatR_append, flatR_append, flatR_one, ← flatR_take]
                exact this
              · refine wpF_at true (by kernel_rfl) (by kernel_rfl) (rest := [4, 7, 11, 12, 13]) rfl ?_
                simp only [opsAt, List.map_cons, List.map_nil, Array.getD_eq_getD_getElem?, List.getElem?_toArray, List.getElem?_cons_zero, List.getElem?_cons_succ, Option.getD_some]
                go_wp2_with fail
                have c72 : ∀ j, (Wa.alloc (.cells (rlineCells s g) 26)).cell? ⟨Wa.heap.size, j, none⟩ = (rlineCells s g)[j]? := fun j => cells_new _ _ _ j
                have hBn : Below wr.heap.size wr (Wa.alloc (.cells (rlineCells s g) 26)) := HBWa.out.alloc HBWa.out.size _
                have hs6 : (Wa.alloc (.cells (rlineCells s g) 26)).heap.size = Wa.heap.size + 1 := by simp
                have hown6 := HE.out.alloc (.cells (rlineCells s g) 26)
                obtain ⟨b72, hb72⟩ : ∃ b, b = Wa.heap.size := ⟨_, rfl⟩
                rw [← hb72] at c72 ⊢
                generalize Wa.alloc (.cells (rlineCells s g) 26) = Wb at c72 hBn hs6 hown6 ⊢
                have HBWb := Lib.hid hBn
                have C72 := Lib.hid c72
                have l72 : b72 < Wb.heap.size := by omega
                have HS6 := Lib.hid hs6
                have HB72 := Lib.hid hb72
                clear hs6 hb72
                have HE := Lib.hid hown6
                clear c72 hBn hown6
                refine ⟨fun _ => ⟨⟨_, HBWb.out⟩, rfl⟩, ?_⟩
                refine wpF_end [4, 7, 11, 12, 13] rfl rfl (by kernel_rfl) (by kernel_rfl) ?_
                refine wpR_at true (by kernel_rfl) (by kernel_rfl) ?_
                simp only [opsAt, List.map_cons, List.map_nil, Array.getD_eq_getD_getElem?, List.getElem?_toArray, List.getElem?_cons_zero, List.getElem?_cons_succ, Option.getD_some]
                refine wpList_append_own _ rfl (.tmp 66) (.tmp 69) 49 rfl wr.heap.size 26 i0 (.agg (rlineCells ⟨#[]⟩ zeroLine)) 39 128 Tryz.underlying49 hi hz0 hz1 hz2 (rlineCells_size _ _) (by decide) _ _ _ rfl HE.out ⟨gb, 0, none⟩ at' vc ((flatR rs).take (at' * 39)) rfl hl1 ?c1 HO1.out ?c3 ?c4 ?c5 ?_
                case c1 =>
                  intro i u hu
                  rw [Addr.add_lit, Nat.zero_add]
                  exact (HBWb.out.cell (p := ⟨gb, i, none⟩) hgbr).trans (HC.out i u (by rw [List.getElem?_take] at hu; split at hu; exact hu; cases hu))
                case c3 => unfold maxLen; omega
                case c4 => omega
                case c5 => exact HBWb.out.size
                intro v70 Wc hown1 hgr1 _
                have HBWc := Lib.hid (HBWb.out.grown hgr1 HBWb.out.size (fun k e => by have e' : Wd.heap.size = k := Option.some.inj e; omega) : Below wr.heap.size wr Wc)
                rw [Nat.zero_add, List.nil_append] at hown1
                have HO70 := Lib.hid hown1
                have C72 : Hid (∀ j, Wc.cell? ⟨b72, j, none⟩ = (rlineCells s g)[j]?) := Lib.hid fun j => (cell_of_same (a := ⟨b72, j, none⟩) (hgr1.block b72 l72 (by intro e; have e' : Wd.heap.size = b72 := (Option.some.inj e).symm; have := HB72.out; have := HS0.out; omega))).trans (C72.out j)
                replace l72 : b72 < Wc.heap.size := Nat.lt_of_lt_of_le l72 hgr1.size
                clear hgr1 hown1
                go_wp2_with fail
                refine ⟨fun _ => ⟨⟨_, HBWc.out⟩, rfl⟩, ?_⟩
                refine wpR_at true (by kernel_rfl) (by kernel_rfl) ?_
                simp only [opsAt, List.map_cons, List.map_nil, Array.getD_eq_getD_getElem?, List.getElem?_toArray, List.getElem?_cons_zero, List.getElem?_cons_succ, Option.getD_some]
                refine wpList_append_own _ rfl (.tmp 70) (.tmp 72) 49 rfl wr.heap.size 26 i0 (.agg (rlineCells ⟨#[]⟩ zeroLine)) 39 128 Tryz.underlying49 hi hz0 hz1 hz2 (rlineCells_size _ _) (by decide) _ _ _ rfl HO70.out ⟨b72, 0, none⟩ 1 1 (rList ⟨s, ⟨p, v0⟩⟩) rfl (rList_length _) ?e1 HONE.out ?e3 ?e4 ?e5 ?_
                case e1 =>
                  intro j u hj
                  rw [Addr.add_lit, Nat.zero_add, C72.out j]
                  rw [HG.out, rList_cells ⟨s, ⟨p, v0⟩⟩]
                  simpa using hj
                case e3 => unfold maxLen; omega
                case e4 => omega
                case e5 => exact HBWc.out.size
                intro v73 w3 hown3 hgr3 _
                have HB3 := Lib.hid (HBWc.out.grown hgr3 HBWc.out.size (fun k e => (HO70.out.lt k e).1) : Below wr.heap.size wr w3)
                have HO73 := Lib.hid hown3
                clear hgr3 hown3
                go_wp2_with fail
                refine ⟨fun _ => ⟨⟨_, HB3.out⟩, rfl⟩, wpR_list [11, 12, 13] _ _ (by kernel_rfl) ?_⟩
                simp only [opsAt, List.map_cons, List.map_nil, Array.getD_eq_getD_getElem?, List.getElem?_toArray, List.getElem?_cons_zero, List.getElem?_cons_succ, Option.getD_some]
                refine wpList_append_own _ rfl (.tmp 73) (.tmp 76) 49 rfl wr.heap.size 26 i0 (.agg (rlineCells ⟨#[]⟩ zeroLine)) 39 128 Tryz.underlying49 hi hz0 hz1 hz2 (rlineCells_size _ _) (by decide) _ _ _ rfl HO73.out ad (rs.length - at') (vc - at') (flatR (rs.drop at')) rfl hl2 ?d1 HO2.out ?d3 ?d4 ?d5 ?_
                case d1 => exact fun i u hu => (HB3.out.cell (p := ad.add i) (HADB.out i)).trans (HDC.out i u hu)
                case d3 => unfold maxLen; omega
                case d4 => omega
                case d5 => exact HB3.out.size
                intro v77 w4 hown4 hgr4 _
                have HB4 := Lib.hid (HB3.out.grown hgr4 HB3.out.size (fun k e => (HO73.out.lt k e).1) : Below wr.heap.size wr w4)
                have HO77 := Lib.hid hown4
                clear hgr4 hown4
                go_wp2
                refine NoPanic.normal ?_
                go_wp2
                go_ret2
                have hBf : Below w.heap.size w w4 := HBr.out.trans (HB4.out.mono HBr.out.size)
                refine ⟨hBf, .inr ⟨HERR.out, _, rfl, ⟨?_, HONES.out, HNAMES.out, HFEW.out⟩⟩⟩
                have := ownsRow_base HO77.out HBr.out.size
                rw [HADD.out, HLEN.out, flatR_append, flatR_append, flatR_one, ← flatR_take]
                exact this
            · refine wpF_at true (by kernel_rfl) (by kernel_rfl) (rest := [0, 4, 7, 11, 12, 13]) rfl ?_
              simp only [opsAt, List.map_cons, List.map_nil, Array.getD_eq_getD_getElem?, List.getElem?_toArray, List.getElem?_cons_zero, List.getElem?_cons_succ, Option.getD_some]
              go_wp2_with fail
              have c72 : ∀ j, (Wd.alloc (.cells (rlineCells s g) 26)).cell? ⟨Wd.heap.size, j, none⟩ = (rlineCells s g)[j]? := fun j => cells_new _ _ _ j
              have hBn : Below wr.heap.size wr (Wd.alloc (.cells (rlineCells s g) 26)) := HBWd.out.alloc HBWd.out.size _
              have hs6 : (Wd.alloc (.cells (rlineCells s g) 26)).heap.size = Wd.heap.size + 1 := by simp
              obtain ⟨b72, hb72⟩ : ∃ b, b = Wd.heap.size := ⟨_, rfl⟩
              rw [← hb72] at c72 ⊢
              generalize Wd.alloc (.cells (rlineCells s g) 26) = Wa at c72 hBn hs6 ⊢
              have HBWa := Lib.hid hBn
              have C72 := Lib.hid c72
              have l72 : b72 < Wa.heap.size := by omega
              have HS6 := Lib.hid hs6
              have HB72 := Lib.hid hb72
              clear hs6 hb72
              clear c72 hBn
              refine ⟨fun _ => ⟨⟨_, HBWa.out⟩, rfl⟩, ?_⟩
              refine wpF_end [0, 4, 7, 11, 12, 13] rfl rfl (by kernel_rfl) (by kernel_rfl) ?_
              refine wpR_at true (by kernel_rfl) (by kernel_rfl) ?_
              simp only [opsAt, List.map_cons, List.map_nil, Array.getD_eq_getD_getElem?, List.getElem?_toArray, List.getElem?_cons_zero, Option.getD_some]
              go_wp2_with fail
              have hE := ownsRow_base (own_empty Wa 26 39) HBWa.out.size
              have hBn : Below wr.heap.size wr (Wa.alloc (.cells #[] 26)) := HBWa.out.alloc HBWa.out.size _
              have hG0 : Below Wa.heap.size Wa (Wa.alloc (.cells #[] 26)) := (Below.refl _ _).alloc (Nat.le_refl _) _
              have hs0 : (Wa.alloc (.cells #[] 26)).heap.size = Wa.heap.size + 1 := by simp
              have hb66 : wr.heap.size ≤ Wa.heap.size := HBWa.out.size
              generalize Wa.alloc (.cells #[] 26) = Wb at hE hBn hG0 hs0 ⊢
              have HS0 := Lib.hid hs0
              clear hs0
              have HBWb := Lib.hid hBn
              have HE := Lib.hid hE
              have C72 : Hid (∀ j, Wb.cell? ⟨b72, j, none⟩ = (rlineCells s g)[j]?) := Lib.hid fun j => (hG0.cell (p := ⟨b72, j, none⟩) l72).trans (C72.out j)
              have n72 : b72 ≠ Wa.heap.size := Nat.ne_of_lt l72
              replace l72 : b72 < Wb.heap.size := by have := HS0.out; omega
              clear hE hBn hG0
              refine ⟨fun _ => ⟨⟨_, HBWb.out⟩, rfl⟩, ?_⟩
              refine wpR_at true (by kernel_rfl) (by kernel_rfl) ?_
              simp only [opsAt, List.map_cons, List.map_nil, Array.getD_eq_getD_getElem?, List.getElem?_toArray, List.getElem?_cons_zero, List.getElem?_cons_succ, Option.getD_some]
              refine wpList_append_own _ rfl (.tmp 66) (.tmp 69) 49 rfl wr.heap.size 26 i0 (.agg (rlineCells ⟨#[]⟩ zeroLine)) 39 128 Tryz.underlying49 hi hz0 hz1 hz2 (rlineCells_size _ _) (by decide) _ _ _ rfl HE.out ⟨gb, 0, none⟩ at' vc ((flatR rs).take (at' * 39)) rfl hl1 ?c1 HO1.out ?c3 ?c4 ?c5 ?_
              case c1 =>
                intro i u hu
                rw [Addr.add_lit, Nat.zero_add]
                exact (HBWb.out.cell (p := ⟨gb, i, none⟩) hgbr).trans (HC.out i u (by rw [List.getElem?_take] at hu; split at hu; exact hu; cases hu))
              case c3 => unfold maxLen; omega
              case c4 => omega
              case c5 => exact HBWb.out.size
              intro v70 Wc hown1 hgr1 _
              have HBWc := Lib.hid (HBWb.out.grown hgr1 HBWb.out.size (fun k e => by have e' : Wa.heap.size = k := Option.some.inj e; omega) : Below wr.heap.size wr Wc)
              rw [Nat.zero_add, List.nil_append] at hown1
              have HO70 := Lib.hid hown1
              have C72 : Hid (∀ j, Wc.cell? ⟨b72, j, none⟩ = (rlineCells s g)[j]?) := Lib.hid fun j => (cell_of_same (a := ⟨b72, j, none⟩) (hgr1.block b72 l72 (by intro e; have e' : Wa.heap.size = b72 := (Option.some.inj e).symm; exact n72 e'.symm))).trans (C72.out j)
              replace l72 : b72 < Wc.heap.size := Nat.lt_of_lt_of_le l72 hgr1.size
              clear hgr1 hown1
              go_wp2_with fail
              refine ⟨fun _ => ⟨⟨_, HBWc.out⟩, rfl⟩, ?_⟩
              refine wpR_at true (by kernel_rfl) (by kernel_rfl) ?_
              simp only [opsAt, List.map_cons, List.map_nil, Array.getD_eq_getD_getElem?, List.getElem?_toArray, List.getElem?_cons_zero, List.getElem?_cons_succ, Option.getD_some]
              refine wpList_append_own _ rfl (.tmp 70) (.tmp 72) 49 rfl wr.heap.size 26 i0 (.agg (rlineCells ⟨#[]⟩ zeroLine)) 39 128 Tryz.underlying49 hi hz0 hz1 hz2 (rlineCells_size _ _) (by decide) _ _ _ rfl HO70.out ⟨b72, 0, none⟩ 1 1 (rList ⟨s, ⟨p, v0⟩⟩) rfl (rList_length _) ?e1 HONE.out ?e3 ?e4 ?e5 ?_
              case e1 =>
                intro j u hj
                rw [Addr.add_lit, Nat.zero_add, C72.out j]
                rw [HG.out, rList_cells ⟨s, ⟨p, v0⟩⟩]
                simpa using hj
              case e3 => unfold maxLen; omega
              case e4 => omega
              case e5 => exact HBWc.out.size
              intro v73 w3 hown3 hgr3 _
              have HB3 := Lib.hid (HBWc.out.grown hgr3 HBWc.out.size (fun k e => (HO70.out.lt k e).1) : Below wr.heap.size wr w3)
              have HO73 := Lib.hid hown3
              clear hgr3 hown3
              go_wp2_with fail
              refine ⟨fun _ => ⟨⟨_, HB3.out⟩, rfl⟩, wpR_list [11, 12, 13] _ _ (by kernel_rfl) ?_⟩
              simp only [opsAt, List.map_cons, List.map_nil, Array.getD_eq_getD_getElem?, List.getElem?_toArray, List.getElem?_cons_zero, List.getElem?_cons_succ, Option.getD_some]
              refine wpList_append_own _ rfl (.tmp 73) (.tmp 76) 49 rfl wr.heap.size 26 i0 (.agg (rlineCells ⟨#[]⟩ zeroLine)) 39 128 Tryz.underlying49 hi hz0 hz1 hz2 (rlineCells_size _ _) (by decide) _ _ _ rfl HO73.out ad (rs.length - at') (vc - at') (flatR (rs.drop at')) rfl hl2 ?d1 HO2.out ?d3 ?d4 ?d5 ?_
              case d1 => exact fun i u hu => (HB3.out.cell (p := ad.add i) (HADB.out i)).trans (HDC.out i u hu)
              case d3 => unfold maxLen; omega
              case d4 => omega
              case d5 => exact HB3.out.size
              intro v77 w4 hown4 hgr4 _
              have HB4 := Lib.hid (HB3.out.grown hgr4 HB3.out.size (fun k e => (HO73.out.lt k e).1) : Below wr.heap.size wr w4)
              have HO77 := Lib.hid hown4
              clear hgr4 hown4
              go_wp2
              refine NoPanic.normal ?_
              go_wp2
              go_ret2
              have hBf : Below w.heap.size w w4 := HBr.out.trans (HB4.out.mono HBr.out.size)
              refine ⟨hBf, .inr ⟨HERR.out, _, rfl, ⟨?_, HONES.out, HNAMES.out, HFEW.out⟩⟩⟩
              have := ownsRow_base HO77.out HBr.out.size
              rw [HADD.out, HLEN.out, flatR_append, flatR_append, flatR_one, ← flatR_take]
              exact this
    · have HER : Hid (addErrR rs s p = pErr p) := Lib.hid (by rw [HE0.out, if_neg (by rw [hne]; simp), if_pos hpe])
      generalize pErr p = e at hpe HER
      go_wp2
      go_ret2
      exact ⟨HB2.out, .inl ⟨by rw [HER.out]; exact hpe, by rw [HER.out]; rfl⟩⟩
  · have HER : Hid (addErrR rs s p = nameErr s) := Lib.hid (by rw [HE0.out, if_pos hne])
    generalize nameErr s = e at hne HER
    go_wp2
    go_ret2
    exact ⟨HB1.out, .inl ⟨by rw [HER.out]; exact hne, by rw [HER.out]; rfl⟩⟩

end Go.Proofs.YtdjaphcelpchaaaGreatDoor

/- bulletinlaw28.Own: the references lie in a block of their own. -/
namespace Go.Proofs.YtdjaphcelpchaaaGreatDoor
open Go Go.RowKit Go.Proofs

attribute [local go_sem ↓] ex_load_id ex_store_id ex_load_line ex_store_line ex_load_rline ex_store_rline ex_alloc_line ex_build_line ex_alloc_rline ex_build_rline ex_build_line7 ex_build_rline8
attribute [local go_sem] ld_id st_id ld_line st_line ld_rline st_rline guard_id okCells_drew rdCells_drew okCells_drewN rdCells_drewN rowOk_drew rowOk_cells okCells_cells rdCells_cells setRow_drew setRow_new setRow_past
attribute [local go_sem] lc0 lc33 lc34 lc35 lc36 lc37 rc0 rc1 rc34 rc35 rc36 rc37 rc38 okArr_lid rdArr_lid okArr_rid rdArr_rid
attribute [local go_sem ↓] ex_bs_zero

set_option maxRecDepth 100000 in
set_option maxHeartbeats 2000000 in
theorem own_own (s : ByteArray) (g : GLine) (ids : List Id32) (w : World) (hI : IdsAt w g.refs ids) (hn : ids.length ≤ 1000000) :
    Calls Tryz.prog 17 #[.agg (rlineCells s g)] w fun r w' => ∃ v, r = .returned (.agg (lineCells { g with refs := v })) ∧ IdsOwn w.heap.size w' v ids ∧ Below w.heap.size w w' := by
  obtain ⟨i0, hi, hz0, hz1, hz2⟩ := info_parts Tryz.info_id
  obtain ⟨ra, rc, hrefs, hrc, hrow⟩ := hI
  obtain ⟨W0, hW0⟩ : ∃ W0, W0 = (w.alloc (.cells (rlineCells s g) 26)).alloc (.cells (lineCells zeroLine) 34) := ⟨_, rfl⟩
  have hs0 : W0.heap.size = w.heap.size + 2 := by rw [hW0]; simp
  have hb0 : Below w.heap.size w W0 := by rw [hW0]; exact ((Below.refl _ _).alloc (Nat.le_refl _) _).alloc (by simp) _
  have hR : RVar W0 w.heap.size s g := by
    unfold RVar
    rw [hW0, heap_alloc_old _ _ (by simp), heap_alloc_new]
  have hV : LineVar W0 (w.heap.size + 1) zeroLine := by
    unfold LineVar
    have := heap_alloc_new (w.alloc (.cells (rlineCells s g) 26)) (.cells (lineCells zeroLine) 34)
    rw [hW0]
    simpa using this
  have hzR : ∀ z : Later W0, RVar z.1 w.heap.size s g := fun z => (z.2.block w.heap.size (by omega)).trans hR
  have q1 : ∀ z : Later W0, z.1.cell? ⟨w.heap.size, 1, none⟩ = some (.int .i64 g.number) := fun z => ((hzR z).cell 1).trans (rc1 s g)
  have q2 : ∀ z : Later W0, z.1.cell? ⟨w.heap.size, 34, none⟩ = some (.string g.name) := fun z => ((hzR z).cell 34).trans (rc34 s g)
  have q3 : ∀ z : Later W0, z.1.cell? ⟨w.heap.size, 35, none⟩ = some (.int .i64 g.date) := fun z => ((hzR z).cell 35).trans (rc35 s g)
  have q4 : ∀ z : Later W0, z.1.cell? ⟨w.heap.size, 36, none⟩ = some (.string g.subject) := fun z => ((hzR z).cell 36).trans (rc36 s g)
  have q5 : ∀ z : Later W0, z.1.cell? ⟨w.heap.size, 37, none⟩ = some (.slice ra ids.length rc) := fun z => ((hzR z).cell 37).trans ((rc37 s g).trans (by rw [hrefs]))
  have q6 : ∀ z : Later W0, z.1.cell? ⟨w.heap.size, 38, none⟩ = some (.int .i64 g.bytes) := fun z => ((hzR z).cell 38).trans (rc38 s g)
  have hid : ∀ z : Later W0, okCells z.1 ⟨w.heap.size, 2, none⟩ 32 = true ∧ rdCells z.1 ⟨w.heap.size, 2, none⟩ 32 = (encId g.id).toArray := fun z => by
    have := rd_of_cells (w := z.1) (a := ⟨w.heap.size, 2, none⟩) (cs := encId g.id) (fun j v hj => by
      have hj32 : j < 32 := by have := (List.getElem?_eq_some_iff.1 hj).1; rwa [encId_length] at this
      rw [Addr.add_lit, (hzR z).cell, show 2 + j = (1 + j) + 1 by omega, rc_succ, ← hj]
      simp only [lineCells, lineList, List.getElem?_toArray]
      rw [show 1 + j = j + 1 by omega, List.getElem?_cons_succ, List.getElem?_append_left (by rw [encId_length]; exact hj32)])
    rwa [encId_length] at this
  have q7 := fun z => (hid z).1
  have q8 := fun z => (hid z).2
  have HR := Lib.hid (show IdsAt W0 (.slice ra ids.length rc) ids from IdsAt.below (w := w) ⟨ra, rc, rfl, hrc, hrow⟩ hb0)
  clear hid hzR hR hrow hrc
  go_enter Tryz.func17, Tryz.ntmps17
  go_wp2
  rw [← hW0]
  clear hW0
  refine wp_region_mix0 [0, 1, 2, 3, 4, 5, 6, 7, 8, 9, 11, 12, 14, 15] [10, 13, 16, 17] (fun w' => ∃ z : Later W0, w' = z.1) (by kernel_rfl) (by kernel_rfl) (by kernel_rfl) ⟨⟨_, (Below.refl _ _).drew⟩, rfl⟩ ?_
  simp only [opsAt, List.map_cons, List.map_nil, Array.getD_eq_getD_getElem?, List.getElem?_toArray, List.getElem?_cons_zero, List.getElem?_cons_succ, Option.getD_some]
  repeat (go_big_quiet_step (fail))
  refine wpQuiet_nil ?_
  clear q1 q2 q3 q4 q5 q6 q7 q8
  generalize hWd : W0.drew = Wd
  have hbd : Below W0.heap.size W0 Wd := by rw [← hWd]; exact (Below.refl _ _).drew
  have hsd : Wd.heap.size = W0.heap.size := by rw [← hWd]; rfl
  have hVd : LineVar Wd (w.heap.size + 1) zeroLine := by rw [← hWd]; exact hV
  clear hWd
  refine wpR_cons true rfl (by kernel_rfl) ?_
  go_wp2_with fail
  refine ⟨fun _ => ⟨⟨_, hbd.alloc (by omega) _⟩, rfl⟩, wpR_cons true rfl (by kernel_rfl) ?_⟩
  have hsd2 : Wd.heap.size = w.heap.size + 2 := by omega
  by_cases hids : ids = []
  · subst hids
    refine wpList_append_zero rfl (.tmp 13) (.tmp 15) rfl (w.heap.size + 2) rc ra rfl rfl ?_
    have hI3 : IdsOwn (w.heap.size + 2) (Wd.alloc (.cells #[] 23)) (.slice (some ⟨(w.heap.size + 2), 0, none⟩) 0 0) [] := ⟨rfl, .inr ⟨w.heap.size + 2, 0, #[], rfl, Nat.le_refl _, by rw [← hsd2]; exact heap_alloc_new _ _, Nat.le_refl _, by unfold maxLen; omega, rfl, rfl⟩⟩
    have hb3 : Below W0.heap.size W0 (Wd.alloc (.cells #[] 23)) := hbd.alloc (by omega) _
    generalize Wd.alloc (.cells #[] 23) = w3 at hI3 hb3 ⊢
    have hbl : ∀ u, blRes Tryz.prog 34 u #[(0, .int .i64 g.number), (1, .agg (encId g.id).toArray), (2, .string g.name), (3, .int .i64 g.date), (4, .string g.subject), (5, .slice (some ⟨(w.heap.size + 2), 0, none⟩) 0 0), (6, .int .i64 g.bytes)] = .ok (.value (.agg (lineCells { g with refs := .slice (some ⟨(w.heap.size + 2), 0, none⟩) 0 0 }))) u := fun u => blRes_of (built_line { g with refs := .slice (some ⟨(w.heap.size + 2), 0, none⟩) 0 0 } rfl)
    have hft : fitsRow 38 (lineCells { g with refs := .slice (some ⟨(w.heap.size + 2), 0, none⟩) 0 0 }) = true := fits_line rfl
    have hV3 : LineVar w3 (w.heap.size + 1) zeroLine := (hb3.block (w.heap.size + 1) (by omega)).trans hV
    have hro := hV3.row
    have HV3 := Lib.hid hV3
    have HI3 := Lib.hid hI3
    have HB3 := Lib.hid hb3
    clear hV3 hI3 hb3 hV hVd hbd
    go_wp2_with fail
    refine ⟨fun _ => ⟨⟨_, HB3.out⟩, rfl⟩, wpR_list [16, 17] _ _ (by kernel_rfl) ?_⟩
    simp only [opsAt, List.map_cons, List.map_nil, Array.getD_eq_getD_getElem?, List.getElem?_toArray, List.getElem?_cons_zero, List.getElem?_cons_succ, Option.getD_some]
    go_wp2
    refine NoPanic.normal ?_
    go_wp2
    have hbf : Below w.heap.size w w3 := hb0.trans (HB3.out.mono hb0.size)
    refine bodyPost_ret (v := .agg (lineCells { g with refs := .slice (some ⟨(w.heap.size + 2), 0, none⟩) 0 0 })) ?_ rfl ⟨_, rfl, (HI3.out.mono (by omega)).block fun k hk => (grown_row _ (w.heap.size + 1) _).block k (HI3.out.lt hk).2 (by intro e; have := (HI3.out.lt hk).1; cases e; omega), below_grown hbf (grown_row _ _ _) hbf.size (by omega)⟩
    exact results_agg1 rfl Tryz.isAgg34 Tryz.sizeOf34 _ _ ⟨w.heap.size + 1, 0, none⟩ _ rfl (HV3.out.blk.setRow.rd.1) (HV3.out.blk.setRow.rd.2)
  · obtain ⟨ra', rc', e1, hrc, hrow⟩ := HR.out
    obtain ⟨rb, ro, e2, hrw⟩ := hrow hids
    cases e1
    subst e2
    have hown : (Wd.alloc (.cells #[] 23)).ownsRow (w.heap.size + 2) 23 32 (.slice (some ⟨(w.heap.size + 2), 0, none⟩) 0 0) 0 [] :=
      ⟨rfl, .inr ⟨w.heap.size + 2, 0, #[], rfl, Nat.le_refl _, by rw [← hsd2]; exact heap_alloc_new _ _, Nat.le_refl _, by unfold maxLen; omega, rfl, rfl⟩⟩
    have hrw' : IdRow (Wd.alloc (.cells #[] 23)) rb ro ids := hrw.below (hbd.alloc (by omega) (.cells #[] 23)) (hrw.lt hids)
    have hpos : 0 < ids.length := List.length_pos_iff.2 hids
    refine wpList_append_own _ rfl (.tmp 13) (.tmp 15) 24 rfl (w.heap.size + 2) 23 i0 (.agg (encId zeroId).toArray) 32 32 Tryz.underlying24 hi hz0 hz1 hz2 (encId_size zeroId) (by decide) _ _ _ rfl hown ⟨rb, ro, none⟩ ids.length rc (flatIds ids) rfl (flat_length ids) (flat_row hrw') (flat_one ids) (by unfold maxLen; omega) (by omega) (by simp; omega) ?_
    intro v' w3 hown' hgrow _
    obtain ⟨gb, cap, hv', hgb⟩ : ∃ gb cap, v' = .slice (some ⟨gb, 0, none⟩) ids.length cap ∧ (w.heap.size + 2) ≤ gb := by
      rcases hown'.2 with ⟨_, h0⟩ | ⟨g', cap', _, e, hge, _⟩
      · omega
      · exact ⟨g', cap', by rw [e, Nat.zero_add], hge⟩
    subst hv'
    have hI3 : IdsOwn (w.heap.size + 2) w3 (.slice (some ⟨gb, 0, none⟩) ids.length cap) ids := by
      rw [Nat.zero_add, List.nil_append] at hown'
      exact hown'
    have hb3 : Below W0.heap.size W0 w3 := (hbd.alloc (by omega) (.cells #[] 23)).grown hgrow (by simp; omega) (fun k e => by have e' : w.heap.size + 2 = k := Option.some.inj e; omega)
    clear hown hown' hgrow hrw hrw' hrow HR hids
    have hbl : ∀ u, blRes Tryz.prog 34 u #[(0, .int .i64 g.number), (1, .agg (encId g.id).toArray), (2, .string g.name), (3, .int .i64 g.date), (4, .string g.subject), (5, .slice (some ⟨gb, 0, none⟩) ids.length cap), (6, .int .i64 g.bytes)] = .ok (.value (.agg (lineCells { g with refs := .slice (some ⟨gb, 0, none⟩) ids.length cap }))) u := fun u => blRes_of (built_line { g with refs := .slice (some ⟨gb, 0, none⟩) ids.length cap } rfl)
    have hft : fitsRow 38 (lineCells { g with refs := .slice (some ⟨gb, 0, none⟩) ids.length cap }) = true := fits_line rfl
    have hV3 : LineVar w3 (w.heap.size + 1) zeroLine := (hb3.block (w.heap.size + 1) (by omega)).trans hV
    have hro := hV3.row
    have HV3 := Lib.hid hV3
    have HI3 := Lib.hid hI3
    have HB3 := Lib.hid hb3
    clear hV3 hI3 hb3 hV hVd hbd
    go_wp2_with fail
    refine ⟨fun _ => ⟨⟨_, HB3.out⟩, rfl⟩, wpR_list [16, 17] _ _ (by kernel_rfl) ?_⟩
    simp only [opsAt, List.map_cons, List.map_nil, Array.getD_eq_getD_getElem?, List.getElem?_toArray, List.getElem?_cons_zero, List.getElem?_cons_succ, Option.getD_some]
    go_wp2
    refine NoPanic.normal ?_
    go_wp2
    have hbf : Below w.heap.size w w3 := hb0.trans (HB3.out.mono hb0.size)
    refine bodyPost_ret (v := .agg (lineCells { g with refs := .slice (some ⟨gb, 0, none⟩) ids.length cap })) ?_ rfl ⟨_, rfl, (HI3.out.mono (by omega)).block fun k hk => (grown_row _ (w.heap.size + 1) _).block k (HI3.out.lt hk).2 (by intro e; have := (HI3.out.lt hk).1; cases e; omega), below_grown hbf (grown_row _ _ _) hbf.size (by omega)⟩
    exact results_agg1 rfl Tryz.isAgg34 Tryz.sizeOf34 _ _ ⟨w.heap.size + 1, 0, none⟩ _ rfl (HV3.out.blk.setRow.rd.1) (HV3.out.blk.setRow.rd.2)

end Go.Proofs.YtdjaphcelpchaaaGreatDoor

/- bulletinlaw28.do. -/
namespace Go.Proofs.YtdjaphcelpchaaaGreatDoor
open Go Go.RowKit Go.Proofs

attribute [local go_sem ↓] ex_load_id ex_store_id ex_load_line ex_store_line ex_load_rline ex_store_rline ex_alloc_line ex_build_line ex_alloc_rline ex_build_rline
attribute [local go_sem] ld_id st_id ld_line st_line ld_rline st_rline guard_id okCells_drew rdCells_drew okCells_drewN rdCells_drewN rowOk_drew rowOk_cells okCells_cells rdCells_cells setRow_drew setRow_new setRow_past run_eql_id run_neq_id eqIn_id

/-- An operation in memory: its kind; the line. -/
def opCells (k : Nat) (s : ByteArray) (g : GLine) : Array Value := (.int .u8 k :: .string s :: lineList g).toArray
theorem oc0 (k : Nat) (s : ByteArray) (g : GLine) : (opCells k s g)[0]? = some (.int .u8 k) := rfl
theorem oc_succ (k : Nat) (s : ByteArray) (g : GLine) (j : Nat) : (opCells k s g)[j + 1]? = (rlineCells s g)[j]? := by
  unfold opCells rlineCells
  rw [List.getElem?_toArray, List.getElem?_toArray, List.getElem?_cons_succ]
def OVar (w : World) (ob : Nat) (k : Nat) (s : ByteArray) (g : GLine) : Prop := w.heap[ob]? = some (.cells (opCells k s g) 53 (0, 0))
theorem OVar.lt {w : World} {ob k : Nat} {s : ByteArray} {g : GLine} (h : OVar w ob k s g) : ob < w.heap.size := (Array.getElem?_eq_some_iff.1 h).1
theorem OVar.cell {w : World} {ob k : Nat} {s : ByteArray} {g : GLine} (h : OVar w ob k s g) (j : Nat) : w.cell? ⟨ob, j, none⟩ = (opCells k s g)[j]? := cell_of_row w ob j _ _ _ h
theorem OVar.c0 {w : World} {ob k : Nat} {s : ByteArray} {g : GLine} (h : OVar w ob k s g) : w.cell? ⟨ob, 0, none⟩ = some (.int .u8 k) := (h.cell 0).trans (oc0 k s g)
theorem OVar.c1 {w : World} {ob k : Nat} {s : ByteArray} {g : GLine} (h : OVar w ob k s g) : w.cell? ⟨ob, 1, none⟩ = some (.string s) := (h.cell 1).trans ((oc_succ k s g 0).trans (rc0 s g))
theorem OVar.c2 {w : World} {ob k : Nat} {s : ByteArray} {g : GLine} (h : OVar w ob k s g) : w.cell? ⟨ob, 2, none⟩ = some (.int .i64 g.number) := (h.cell 2).trans ((oc_succ k s g 1).trans (rc1 s g))
theorem OVar.rd {w : World} {ob k : Nat} {s : ByteArray} {g : GLine} (h : OVar w ob k s g) : okCells w ⟨ob, 1, none⟩ 39 = true ∧ rdCells w ⟨ob, 1, none⟩ 39 = rlineCells s g := by
  have := rd_of_cells (w := w) (a := ⟨ob, 1, none⟩) (cs := .string s :: lineList g) (fun j v hj => by
    rw [Addr.add_lit, h.cell, show 1 + j = j + 1 by omega, oc_succ]
    unfold rlineCells
    rw [List.getElem?_toArray]
    exact hj)
  rw [List.length_cons, lineList_length] at this
  exact this
theorem OVar.idAt {w : World} {ob k : Nat} {s : ByteArray} {g : GLine} (h : OVar w ob k s g) : okCells w ⟨ob, 3, none⟩ 32 = true ∧ rdCells w ⟨ob, 3, none⟩ 32 = (encId g.id).toArray := by
  have := rd_of_cells (w := w) (a := ⟨ob, 3, none⟩) (cs := encId g.id) (fun j v hj => by
    have hj32 : j < 32 := by have := (List.getElem?_eq_some_iff.1 hj).1; rwa [encId_length] at this
    rw [Addr.add_lit, h.cell, show 3 + j = (j + 1) + 1 + 1 by omega, oc_succ, rc_succ, ← hj]
    simp only [lineCells, lineList, List.getElem?_toArray]
    rw [List.getElem?_cons_succ, List.getElem?_append_left (by rw [encId_length]; exact hj32)])
  rwa [encId_length] at this
theorem OVar.below {w w' : World} {ob k : Nat} {s : ByteArray} {g : GLine} (h : OVar w ob k s g) (hb : Below w.heap.size w w') : OVar w' ob k s g := (hb.block ob h.lt).trans h
theorem IdxAt.not_op {B : Nat} {w : World} {ib M mc : Nat} {gs : List MG} (h : IdxAt B w ib M gs mc) {ob : Nat} {cur : Array Value} {t : TypeId} (ht : t ≠ 104 ∧ t ≠ 115 ∧ t ≠ 34) (hk : w.heap[ob]? = some (.cells cur t (0, 0))) : ob ∉ foot ib M gs := by
  intro hf
  unfold foot at hf
  simp only [List.mem_cons, List.mem_flatMap] at hf
  rcases hf with rfl | rfl | ⟨G, hG, hf⟩
  · rw [h.blk] at hk; exact ht.1 (cells_ty hk).symm
  · have := h.map; unfold MapAt at this; rw [this] at hk; cases hk
  · have hg := h.grps G hG
    unfold MG.foot at hf
    simp only [List.mem_append, List.mem_cons, List.mem_nil_iff, or_false, Option.mem_toList] at hf
    rcases hf with (rfl | rfl) | hf
    · rw [hg.blk] at hk; exact ht.2.1 (cells_ty hk).symm
    · have := hg.nums; unfold MapAt at this; rw [this] at hk; cases hk
    · obtain ⟨c2, h2⟩ := ownsRow_typed hg.lines.row hf
      rw [h2] at hk; exact ht.2.2 (cells_ty hk).symm
theorem OVar.kept {B : Nat} {w w' : World} {ib M mc : Nat} {gs : List MG} {ob k : Nat} {s : ByteArray} {g : GLine} (h : OVar w ob k s g) (hx : IdxAt B w ib M gs mc) (hk : Kept (foot ib M gs) w w') : OVar w' ob k s g :=
  (hk.block ob h.lt (hx.not_op (by decide) h)).trans h
theorem RefsAt.kept {B B' : Nat} {w w' : World} {v : Value} {rs : List MR} (h : RefsAt B w v rs) {ib M mc : Nat} {gs : List MG} (hx : IdxAt B' w ib M gs mc) (hk : Kept (foot ib M gs) w w') : RefsAt B w' v rs := by
  refine ⟨⟨h.row.1, ?_⟩, h.one, h.names, h.few⟩
  rcases h.row.2 with h0 | ⟨g, cap, cur, e, hg, hcur, rest⟩
  · exact .inl h0
  · exact .inr ⟨g, cap, cur, e, hg, (hk.block g (Array.getElem?_eq_some_iff.1 hcur).1 (hx.not_op (by decide) hcur)).trans hcur, rest⟩
theorem RefsAt.below {B : Nat} {w w' : World} {v : Value} {rs : List MR} (h : RefsAt B w v rs) (hb : Below w.heap.size w w') : RefsAt B w' v rs := ⟨ownsRow_below h.row hb, h.one, h.names, h.few⟩
theorem RefsAt.mono {B B' : Nat} {w : World} {v : Value} {rs : List MR} (h : RefsAt B w v rs) (hb : B' ≤ B) : RefsAt B' w v rs := ⟨ownsRow_base h.row hb, h.one, h.names, h.few⟩

/-- What do answers and leaves. -/
structure DoPost (B B2 ib M : Nat) (gs : List MG) (rs : List MR) (s : ByteArray) (p : PLine) (v0 : Value) (w : World) (r : Ending) (w' : World) (gs' : List MG) (mc' : Nat) (v' : Value) (rs' : List MR) : Prop where
  ret : r = .returned (.tuple #[v', .bool true])
  idx : IdxAt B w' ib M gs' mc'
  kept : Kept (foot ib M gs) w w'
  foot : FootOk (Go.Proofs.YtdjaphcelpchaaaGreatDoor.foot ib M gs) (Go.Proofs.YtdjaphcelpchaaaGreatDoor.foot ib M gs') w
  refs : RefsAt B2 w' v' rs'
  rel : RelR gs' rs'
  ord : ordR rs'
  tot : total gs' ≤ total gs + 1
  len : rs'.length ≤ rs.length + 1
  mem : ∀ r ∈ rs', r ∈ rs ∨ (r = ⟨s, ⟨p, v0⟩⟩ ∧ pErr p = 0 ∧ nameErr s = 0)

theorem filter_count (rs : List MR) (x : Id32) : rs.length = (rs.filter fun r => decide (r.m.p.id = x)).length + (outR rs x).length := by
  unfold outR
  induction rs with
  | nil => rfl
  | cons r rs ih =>
    by_cases h : r.m.p.id = x
    · rw [List.filter_cons_of_pos (by simpa using h), List.filter_cons_of_neg (by simpa using h)]
      simp only [List.length_cons]; omega
    · rw [List.filter_cons_of_neg (by simpa using h), List.filter_cons_of_pos (by simpa using h)]
      simp only [List.length_cons]; omega
theorem outR_cons (r : MR) (rs : List MR) (x : Id32) : outR (r :: rs) x = if r.m.p.id = x then outR rs x else r :: outR rs x := by
  unfold outR
  by_cases h : r.m.p.id = x
  · rw [List.filter_cons_of_neg (by simpa using h), if_pos h]
  · rw [List.filter_cons_of_pos (by simpa using h), if_neg h]
theorem outR_mem {rs : List MR} {x : Id32} {r : MR} (h : r ∈ outR rs x) : r ∈ rs := (List.mem_filter.1 h).1
/-- A step of the removal from behind. -/
theorem out_step {rs : List MR} {j : Nat} (hj : j < rs.length) (x : Id32) : ∃ r, (rs.take (j + 1) ++ outR (rs.drop (j + 1)) x)[j]? = some r ∧ r = rs[j] ∧
    (r.m.p.id = x → (rs.take (j + 1) ++ outR (rs.drop (j + 1)) x).eraseIdx j = rs.take j ++ outR (rs.drop j) x) ∧ (r.m.p.id ≠ x → rs.take (j + 1) ++ outR (rs.drop (j + 1)) x = rs.take j ++ outR (rs.drop j) x) := by
  have e1 : rs.take (j + 1) = rs.take j ++ [rs[j]] := List.take_succ_eq_append_getElem hj
  have e2 : rs.drop j = rs[j] :: rs.drop (j + 1) := List.drop_eq_getElem_cons hj
  have e3 : (rs.take j).length = j := by rw [List.length_take]; omega
  refine ⟨rs[j], ?_, rfl, fun h => ?_, fun h => ?_⟩
  · rw [List.getElem?_append_left (by rw [List.length_take]; omega), List.getElem?_take_of_lt (by omega), List.getElem?_eq_getElem hj]
  · rw [e2, outR_cons, if_pos h, e1, List.append_assoc, List.eraseIdx_append_of_length_le (by omega), e3, Nat.sub_self]
    rfl
  · rw [e2, outR_cons, if_neg h, e1, List.append_assoc]
    rfl
theorem drewOVar {w : World} {ob k : Nat} {s : ByteArray} {g : GLine} (h : OVar w ob k s g) : OVar w.drew ob k s g := h
/-- The worlds in which an operation lies at its place. -/
def InOp (ob k : Nat) (s : ByteArray) (g : GLine) : Type := { z : World // OVar z ob k s g }

set_option maxRecDepth 100000 in
set_option maxHeartbeats 8000000 in
theorem do_any (B B2 ib M mc : Nat) (gs : List MG) (v : Value) (rs : List MR) (k : Nat) (s : ByteArray) (p : PLine) (v0 : Value) (w : World) (hk : k < 256) (hG : Gl w) (h : IdxAt B w ib M gs mc) (hv : RefsAt B2 w v rs) (hB2 : B2 ≤ w.heap.size) (hr : RelR gs rs) (ho : ordR rs) (hs : s.size ≤ 100000)
    (hO : LineOk w (ML.g ⟨p, v0⟩) p.ids) (hfew : total gs < 65536) (hlen : rs.length < 65536) (hids : p.ids.length ≤ 100000) :
    Calls Tryz.prog 26 #[.pointer (some ⟨ib, 0, none⟩), v, .agg (opCells k s (ML.g ⟨p, v0⟩))] w fun r w' => ∃ gs' mc' v' rs', DoPost B B2 ib M gs rs s p v0 w r w' gs' mc' v' rs' := by
  obtain ⟨g, hg⟩ : ∃ g, g = ML.g ⟨p, v0⟩ := ⟨_, rfl⟩
  rw [← hg]
  have HG := Lib.hid hg
  obtain ⟨W, hW⟩ : ∃ W, W = w.alloc (.cells (opCells k s g) 53) := ⟨_, rfl⟩
  have hb0 : Below w.heap.size w W := by rw [hW]; exact (Below.refl _ _).alloc (Nat.le_refl _) _
  have hV0 : OVar W w.heap.size k s g := by rw [hW]; exact heap_alloc_new _ _
  have c0 := hV0.c0
  obtain ⟨c1, c2⟩ := hV0.rd
  rw [hW] at c0 c1 c2
  obtain ⟨va, vn, vc, hve⟩ : ∃ a n c, v = .slice a n c := own_slice hv.row
  subst hve
  clear hg
  have HV0 := Lib.hid hV0
  have HB0 := Lib.hid hb0
  have HGl := Lib.hid hG
  have HX := Lib.hid h
  have HV := Lib.hid hv
  have HR := Lib.hid hr
  have HORD := Lib.hid ho
  have HO := Lib.hid hO
  have HXW := Lib.hid (h.below hb0)
  have HVW := Lib.hid (hv.below hb0)
  clear hV0 hb0 hG h hv hr ho hO
  by_cases k0 : k % 3 = 0
  · have HAR := Lib.hid (addRef_any B2 (.slice va vn vc) rs s p v0 W HVW.out HORD.out hs (HO.out.below HB0.out) (by omega))
    rw [← HG.out] at HAR
    go_enter Tryz.func26, Tryz.ntmps26
    go_wp2_with fail
    rw [← hW]
    clear hW c0 c1 c2
    refine HAR.out.mono ?_
    rintro r w1 ⟨hb1, hcase⟩
    have hcase2 : ∃ v1 rs1, r = .returned (.tuple #[v1, .int .i64 (addErrR rs s p)]) ∧ RefsAt B2 w1 v1 rs1 ∧ ((addErrR rs s p ≠ 0 ∧ rs1 = rs) ∨ (addErrR rs s p = 0 ∧ rs1 = addR rs ⟨s, ⟨p, v0⟩⟩)) := by
      rcases hcase with ⟨h1, h2⟩ | ⟨h1, v', h2, h3⟩
      · exact ⟨_, rs, h2, HVW.out.below hb1, .inl ⟨h1, rfl⟩⟩
      · exact ⟨v', _, by rw [h1]; exact h2, h3.mono (Nat.le_trans hB2 HB0.out.size), .inr ⟨h1, rfl⟩⟩
    obtain ⟨v1, rs1, rfl, hv1, hrs1⟩ := hcase2
    clear hcase HAR
    have HE : Hid (addErr (linesIn gs s) s p = addErrR rs s p) := Lib.hid (rel_err HR.out s p)
    have HCL : Hid (addErrR rs s p = 0 → clashR rs s p = false ∧ pErr p = 0 ∧ nameErr s = 0) := Lib.hid (by
      unfold addErrR
      intro h0
      split at h0
      · rename_i h1; exact absurd h0 h1
      · rename_i h1
        split at h0
        · rename_i h2; exact absurd h0 h2
        · rename_i h2
          split at h0
          · cases h0
          · rename_i h3; exact ⟨by simpa using h3, by simpa using h2, by simpa using h1⟩)
    generalize addErrR rs s p = e at hrs1 HE HCL
    obtain ⟨v1a, v1n, v1c, hv1e⟩ : ∃ a n c, v1 = .slice a n c := own_slice hv1.row
    subst hv1e
    have hV1 : OVar w1 w.heap.size k s g := HV0.out.below hb1
    have hB1 : Below w.heap.size w w1 := HB0.out.trans (hb1.mono HB0.out.size)
    have HB1 := Lib.hid hB1
    have HV1 := Lib.hid hV1
    have HR1 := Lib.hid hv1
    have HRS1 := Lib.hid hrs1
    clear hV1 hB1 hv1 hrs1 hb1 HV0 HB0
    have z1 : ∀ z : InOp w.heap.size k s g, z.1.cell? ⟨w.heap.size, 1, none⟩ = some (.string s) := fun z => z.2.c1
    have z2 : ∀ z : InOp w.heap.size k s g, okCells z.1 ⟨w.heap.size, 1, none⟩ 39 = true := fun z => z.2.rd.1
    have z3 : ∀ z : InOp w.heap.size k s g, rdCells z.1 ⟨w.heap.size, 1, none⟩ 39 = rlineCells s g := fun z => z.2.rd.2
    haveI : Nonempty (InOp w.heap.size k s g) := ⟨⟨w1, HV1.out⟩⟩
    go_wp2_with fail
    refine wp_region_fork [0, 1, 2, 3, 4, 5, 6, 9] [7, 8, 10, 11, 12] 5 (fun w' => ∃ z : InOp w.heap.size k s g, w' = z.1) (by kernel_rfl) (by kernel_rfl) rfl ⟨⟨_, drewOVar HV1.out⟩, rfl⟩ ?_
    simp only [opsAt, List.map_cons, List.map_nil, Array.getD_eq_getD_getElem?, List.getElem?_toArray, List.getElem?_cons_zero, List.getElem?_cons_succ, Option.getD_some]
    repeat (go_big_quiet_step (fail))
    refine wpQuiet_nil ?_
    clear z1 z2 z3
    generalize hWd : w1.drew = Wd
    have HBd : Hid (Below w.heap.size w Wd) := Lib.hid (by rw [← hWd]; exact HB1.out.drew)
    have HVd : Hid (OVar Wd w.heap.size k s g) := Lib.hid (by rw [← hWd]; exact HV1.out)
    have HRd : Hid (RefsAt B2 Wd (.slice v1a v1n v1c) rs1) := Lib.hid (by rw [← hWd]; exact HR1.out.below (Below.refl _ _).drew)
    clear hWd HB1 HV1 HR1
    refine wpF_one (r := 7) (by kernel_rfl) (wpF_at true (by kernel_rfl) (by kernel_rfl) (rest := [8, 10, 11, 12]) rfl ?_)
    simp only [opsAt, List.map_cons, List.map_nil, Array.getD_eq_getD_getElem?, List.getElem?_toArray, List.getElem?_cons_zero, List.getElem?_cons_succ, Option.getD_some]
    have HOW := Lib.hid (own_own s g p.ids Wd (by rw [HG.out]; exact (HO.out.below HBd.out).refs) (by omega))
    go_wp2_with fail
    refine HOW.out.mono ?_
    rintro r w2 ⟨v2, rfl, hI2, hb2⟩
    have HB2' := Lib.hid (HBd.out.trans (hb2.mono HBd.out.size) : Below w.heap.size w w2)
    have HV2 := Lib.hid (HVd.out.below hb2)
    have HR2 := Lib.hid (HRd.out.below hb2)
    have HI2 := Lib.hid hI2
    clear hI2 hb2 HOW HBd HVd HRd
    go_wp2_with fail
    refine ⟨fun _ => ⟨⟨_, HV2.out⟩, rfl⟩, wpF_one (r := 8) (by kernel_rfl) (wpF_at true (by kernel_rfl) (by kernel_rfl) (rest := [10, 11, 12]) rfl ?_)⟩
    simp only [opsAt, List.map_cons, List.map_nil, Array.getD_eq_getD_getElem?, List.getElem?_toArray, List.getElem?_cons_zero, List.getElem?_cons_succ, Option.getD_some]
    have hge : lineCells { g with refs := v2 } = lineCells (ML.g ⟨p, v2⟩) := by rw [HG.out]; rfl
    have HAD := Lib.hid (add_any B ib M mc gs s p v2 w2 (HGl.out.later HB2'.out) (HX.out.below HB2'.out) (by unfold maxLen; omega) ⟨HI2.out.at, HO.out.len, HO.out.name, HO.out.subject⟩ (HI2.out.mono (Nat.zero_le _)) hfew)
    rw [← hge] at HAD
    clear hge
    go_wp2_with fail
    refine HAD.out.mono ?_
    rintro r w3 ⟨hret, hpost⟩
    rw [HE.out] at hret hpost
    subst hret
    have hfin : ∃ gs' mc', IdxAt B w3 ib M gs' mc' ∧ Kept (foot ib M gs) w w3 ∧ FootOk (foot ib M gs) (foot ib M gs') w ∧ RefsAt B2 w3 (.slice v1a v1n v1c) rs1 ∧ RelR gs' rs1 ∧ ordR rs1 ∧ total gs' ≤ total gs + 1 ∧ rs1.length ≤ rs.length + 1 ∧ (∀ r ∈ rs1, r ∈ rs ∨ (r = ⟨s, ⟨p, v0⟩⟩ ∧ pErr p = 0 ∧ nameErr s = 0)) ∧ OVar w3 w.heap.size k s g := by
      have hk2 : Kept (foot ib M gs) w w2 := Kept.of_below HB2'.out
      have hX2 := HX.out.below HB2'.out
      rcases hpost with ⟨h1, h2⟩ | ⟨h1, gs', mc', h2⟩
      · have hrs : rs1 = rs := by
          rcases HRS1.out with ⟨_, h⟩ | ⟨h, _⟩
          · exact h
          · exact absurd h h1
        subst hrs
        exact ⟨gs, mc, hX2.below h2, hk2.trans (Kept.of_below (F := []) h2) (fun _ hk => by cases hk), fun k hk => .inl hk, HR2.out.below h2, HR.out, HORD.out, by omega, by omega, fun r hr => .inl hr, HV2.out.below h2⟩
      · have hrs : rs1 = addR rs ⟨s, ⟨p, v0⟩⟩ := by
          rcases HRS1.out with ⟨h, _⟩ | ⟨_, h⟩
          · exact absurd h1 h
          · exact h
        subst hrs
        obtain ⟨hcl, hp0, hn0⟩ := HCL.out h1
        obtain ⟨vv, _, hlines⟩ := h2.lines
        refine ⟨gs', mc', h2.idx, hk2.trans h2.kept (fun k hk => .inl hk), fun k hk => ?_, HR2.out.kept hX2 h2.kept, rel_add HR.out hlines, addR_ord HORD.out fun a ha hh => ?_, by have := h2.tot; omega, by rw [addR_length]; omega, fun r hr => ?_, HV2.out.kept hX2 h2.kept⟩
        · rcases h2.foot k hk with h3 | h3
          · exact .inl h3
          · exact .inr (Nat.le_trans HB2'.out.size h3)
        · have : clashR rs s p = true := by
            unfold clashR
            rw [List.any_eq_true]
            exact ⟨a, ha, by simp [hh.1, hh.2]⟩
          rw [hcl] at this
          cases this
        · rcases addR_mem.1 hr with h3 | h3
          · exact .inr ⟨h3, hp0, hn0⟩
          · exact .inl h3
    clear hpost HAD
    obtain ⟨gs', mc', f1, f2, f3, f4, f5, f6, f7, f8, f9, f10⟩ := hfin
    have HF := Lib.hid (And.intro f1 (And.intro f2 (And.intro f3 (And.intro f4 (And.intro f5 (And.intro f6 (And.intro f7 (And.intro f8 f9))))))))
    have HV3 := Lib.hid f10
    clear f1 f2 f3 f4 f5 f6 f7 f8 f9 f10
    go_wp2_with fail
    refine ⟨fun _ => ⟨⟨_, HV3.out⟩, rfl⟩, wpF_two (r := 10) (s := 11) (by kernel_rfl) ?_ ?_⟩
    · refine wpF_at true (by kernel_rfl) (by kernel_rfl) (rest := [11, 12]) rfl ?_
      simp only [opsAt, List.map_cons, List.map_nil, Array.getD_eq_getD_getElem?, List.getElem?_toArray, List.getElem?_cons_zero, List.getElem?_cons_succ, Option.getD_some]
      go_wp2_with fail
      refine ⟨fun _ => ⟨⟨_, HV3.out⟩, rfl⟩, wpF_end [11, 12] rfl rfl (by kernel_rfl) (by kernel_rfl) (wpR_at true (by kernel_rfl) (by kernel_rfl) ?_)⟩
      simp only [opsAt, List.map_cons, List.map_nil, Array.getD_eq_getD_getElem?, List.getElem?_toArray, List.getElem?_cons_zero, List.getElem?_cons_succ, Option.getD_some]
      go_wp2_with fail
      refine ⟨fun _ => ⟨⟨_, HV3.out⟩, rfl⟩, wpR_list [12] _ _ (by kernel_rfl) ?_⟩
      simp only [opsAt, List.map_cons, List.map_nil, Array.getD_eq_getD_getElem?, List.getElem?_toArray, List.getElem?_cons_zero, List.getElem?_cons_succ, Option.getD_some]
      go_wp2
      refine NoPanic.normal ?_
      go_wp2
      go_ret2
      obtain ⟨f1, f2, f3, f4, f5, f6, f7, f8, f9⟩ := HF.out
      exact ⟨gs', mc', _, rs1, rfl, f1, f2, f3, f4, f5, f6, f7, f8, f9⟩
    · refine wpF_at true (by kernel_rfl) (by kernel_rfl) (rest := [10, 12]) rfl ?_
      simp only [opsAt, List.map_cons, List.map_nil, Array.getD_eq_getD_getElem?, List.getElem?_toArray, List.getElem?_cons_zero, List.getElem?_cons_succ, Option.getD_some]
      go_wp2_with fail
      refine ⟨fun _ => ⟨⟨_, HV3.out⟩, rfl⟩, wpF_end [10, 12] rfl rfl (by kernel_rfl) (by kernel_rfl) (wpR_at true (by kernel_rfl) (by kernel_rfl) ?_)⟩
      simp only [opsAt, List.map_cons, List.map_nil, Array.getD_eq_getD_getElem?, List.getElem?_toArray, List.getElem?_cons_zero, List.getElem?_cons_succ, Option.getD_some]
      go_wp2_with fail
      refine ⟨fun _ => ⟨⟨_, HV3.out⟩, rfl⟩, wpR_list [12] _ _ (by kernel_rfl) ?_⟩
      simp only [opsAt, List.map_cons, List.map_nil, Array.getD_eq_getD_getElem?, List.getElem?_toArray, List.getElem?_cons_zero, List.getElem?_cons_succ, Option.getD_some]
      go_wp2
      refine NoPanic.normal ?_
      go_wp2
      go_ret2
      obtain ⟨f1, f2, f3, f4, f5, f6, f7, f8, f9⟩ := HF.out
      exact ⟨gs', mc', _, rs1, rfl, f1, f2, f3, f4, f5, f6, f7, f8, f9⟩
  · by_cases k1 : k % 3 = 1
    · have hkz : ¬ ((k : Int) % 3 = 0) := by omega
      have HFI := Lib.hid (find_ref B2 (.slice va vn vc) rs s g.number W HVW.out)
      have c3 := HV0.out.c1
      have c4 := HV0.out.c2
      rw [hW] at c3 c4
      go_enter Tryz.func26, Tryz.ntmps26
      go_wp2_with fail
      rw [← hW]
      clear c0 c1 c2 c3 c4
      refine HFI.out.mono ?_
      rintro r w1 ⟨rfl, rfl⟩
      have c3 := HV0.out.c1
      have c4 := HV0.out.c2
      have HRM := Lib.hid (remove_any B ib M mc gs s g.number W HXW.out)
      clear hW HFI
      go_wp2_with fail
      refine HRM.out.mono ?_
      intro r w2 hp
      clear c3 c4 HRM
      rcases hp with ⟨hno, rfl, hb2⟩ | ⟨i, m, hi, hn, rfl, gs', mc', hrem⟩
      · have hfn : findN rs s g.number = -1 := by
          unfold findN
          cases hf : findR rs s g.number with
          | none => rfl
          | some j =>
            exfalso
            obtain ⟨r0, h1, h2, h3⟩ := find_some_at hf
            rw [rel_has HR.out (List.mem_of_getElem? h1) h2 h3] at hno
            cases hno
        rw [hfn]
        have HB2' := Lib.hid (HB0.out.trans (hb2.mono HB0.out.size) : Below w.heap.size w w2)
        clear hno hb2 hfn
        go_wp2
        go_ret2
        exact ⟨gs, mc, _, rs, rfl, HX.out.below HB2'.out, Kept.of_below HB2'.out, fun k hk => .inl hk, HV.out.below HB2'.out, HR.out, HORD.out, by omega, by omega, fun r hr => .inl hr⟩
      · obtain ⟨j, hfj⟩ : ∃ j, findR rs s g.number = some j := by
          cases hf : findR rs s g.number with
          | some j => exact ⟨j, rfl⟩
          | none =>
            exfalso
            have h1 := rel_find_none HR.out hf
            rw [hasNum_of hi hn] at h1
            cases h1
        obtain ⟨r0, h1, h2, h3⟩ := find_some_at hfj
        have hfn : findN rs s g.number = j := by unfold findN; rw [hfj]
        have hj : j < rs.length := (List.getElem?_eq_some_iff.1 h1).1
        rw [hfn]
        have HWO := Lib.hid (without_any B2 (.slice va vn vc) rs j w2 (HVW.out.kept HXW.out hrem.kept) hj)
        have HREL := Lib.hid (rel_remove HX.out HR.out HORD.out hi hn h1 h2 h3 hrem.lines)
        have HREM := Lib.hid hrem
        clear hrem h1 h2 h3 hfn hfj hi hn
        go_wp2_with fail
        refine HWO.out.mono ?_
        rintro r w3 ⟨v', rfl, hR3, hb3⟩
        obtain ⟨v1a, v1n, v1c, hv1e⟩ : ∃ a n c, v' = .slice a n c := own_slice hR3.row
        subst hv1e
        have HR3 := Lib.hid hR3
        have HB3 := Lib.hid hb3
        clear hR3 hb3 HWO
        go_wp2
        go_ret2
        have hk2 : Kept (foot ib M gs) w w2 := (Kept.of_below (F := foot ib M gs) HB0.out).trans HREM.out.kept (fun k hk => .inl hk)
        have hk3 : Kept (foot ib M gs) w w3 := hk2.trans (Kept.of_below (F := []) HB3.out) (fun _ hk => by cases hk)
        refine ⟨gs', mc', _, rs.eraseIdx j, rfl, HREM.out.idx.below HB3.out, hk3, fun k hk => ?_, HR3.out.mono (Nat.le_trans hB2 hk2.size), HREL.out, erase_ord HORD.out j, by have := HREM.out.tot; omega, by rw [List.length_eraseIdx_of_lt hj]; omega, fun r hr => .inl (List.mem_of_mem_eraseIdx hr)⟩
        rcases HREM.out.foot k hk with h3 | h3
        · exact .inl h3
        · exact .inr (Nat.le_trans HB0.out.size h3)
    · have hkz0 : ¬ ((k : Int) % 3 = 0) := by omega
      have hkz1 : ¬ ((k : Int) % 3 = 1) := by omega
      have hvn : vn = rs.length := by
        rcases HV.out.head with ⟨e, h0⟩ | ⟨_, _, _, e, _⟩
        · cases e; rw [h0]; rfl
        · cases e; rfl
      subst hvn
      go_enter Tryz.func26, Tryz.ntmps26
      go_wp2
      rw [← hW]
      clear hW c0 c1 c2
      have e0 : ((k : Int) % 3 == 0) = false := by rw [beq_eq_false_iff_ne]; exact hkz0
      have e1 : ((k : Int) % 3 == 1) = false := by rw [beq_eq_false_iff_ne]; exact hkz1
      simp only [e0, e1]
      clear e0 e1 hkz0 hkz1 k0 k1
      go_loopw [1, 12, 13] (fun vv n i wr => ∃ (j c : Nat) (rsj : List MR), j ≤ rs.length ∧ c ≤ rs.length ∧ i = .int .i64 ((j : Int) - 1) ∧ n = .int .i64 c ∧ Hid (rsj = rs.take j ++ outR (rs.drop j) g.id) ∧ Hid (c + rsj.length = rs.length) ∧ Hid (RefsAt B2 wr vv rsj) ∧ Hid (Below W.heap.size W wr)) (fun _ _ i _ => (intOf i + 1).toNat)
      case atStart => exact ⟨rs.length, 0, rs, Nat.le_refl _, Nat.zero_le _, rfl, rfl, Lib.hid (by rw [List.take_length, List.drop_length]; simp [outR]), Lib.hid (by omega), HVW, Lib.hid (Below.refl _ _)⟩
      case round =>
        obtain ⟨j, c, rsj, hj, hc, rfl, rfl, HJ, HC, HRj, HBj⟩ := hrel
        have HVr := Lib.hid (HV0.out.below HBj.out)
        cases j with
        | zero =>
          have hrsj : rsj = outR rs g.id := by rw [HJ.out]; rfl
          have HRS := Lib.hid hrsj
          clear hrsj HJ
          obtain ⟨va', vn', vc', hve⟩ : ∃ a n c, u1 = .slice a n c := own_slice HRj.out.row
          subst hve
          have HBw := Lib.hid (HB0.out.trans (HBj.out.mono HB0.out.size) : Below w.heap.size w wr)
          have HRI := Lib.hid (removeId_any B ib M mc gs g.id wr (HGl.out.later HBw.out) (HX.out.below HBw.out))
          obtain ⟨d1, d2⟩ := HVr.out.idAt
          go_wp2_with fail
          refine HRI.out.mono ?_
          rintro r w3 ⟨ns, gs', mc', hn1, hn2, rfl, h1, h2, h3, h4, h5⟩
          have hns := rel_names HX.out HR.out HORD.out hn1 hn2
          have hlen2 : (whereAt gs ns g.id).length = c := by
            rw [hns, rel_where HX.out HR.out HORD.out, List.length_map]
            have := filter_count rs g.id
            have h6 := HC.out
            rw [HRS.out] at h6
            omega
          rw [hlen2]
          have HP := Lib.hid (And.intro h1 (And.intro h2 (And.intro h3 (And.intro h4 h5))))
          clear h1 h2 h3 h4 h5 hn1 hn2 hns hlen2 HRI d1 d2
          go_wp2
          go_ret2
          obtain ⟨h1, h2, h3, h4, h5⟩ := HP.out
          refine ⟨gs', mc', _, rsj, rfl, h1, (Kept.of_below (F := foot ib M gs) HBw.out).trans h2 (fun k hk => .inl hk), fun k hk => ?_, HRj.out.kept (HX.out.below HBw.out) h2, by rw [HRS.out]; exact rel_removeId HR.out h4, by rw [HRS.out]; exact outR_ord HORD.out _, by omega, by have := HC.out; omega, fun r hr => .inl (outR_mem (HRS.out ▸ hr))⟩
          rcases h3 k hk with h6 | h6
          · exact .inl h6
          · exact .inr (Nat.le_trans HBw.out.size h6)
        | succ j =>
          have hji : (((j + 1 : Nat) : Int) - 1) = (j : Int) := by omega
          rw [hji]
          obtain ⟨r0, hg0, -, hst1, hst2⟩ := out_step (by omega : j < rs.length) g.id
          rw [← HJ.out] at hg0 hst1 hst2
          obtain ⟨hjl, hgj⟩ := List.getElem?_eq_some_iff.1 hg0
          rcases HRj.out.head with ⟨_, e0⟩ | ⟨gb, cap, cur, hve, hBg, hgb, hle, hmx, _, hcell⟩
          · rw [e0] at hjl; cases hjl
          subst hve
          obtain ⟨i1, i2⟩ := rAt_id hcell hjl
          rw [hgj] at i2
          obtain ⟨d1, d2⟩ := HVr.out.idAt
          have hjz : (j : Int) < (rsj.length : Int) := by omega
          have hfw := HRj.out.few
          have q1 : ∀ n, okCells (wr.drewN n) ⟨gb, j * 39 + 2, none⟩ 32 = true := fun n => by rw [okCells_drewN]; exact i1
          have q2 : ∀ n, rdCells (wr.drewN n) ⟨gb, j * 39 + 2, none⟩ 32 = (encId r0.m.p.id).toArray := fun n => by rw [rdCells_drewN]; exact i2
          have q3 : ∀ n, okCells (wr.drewN n) ⟨w.heap.size, 3, none⟩ 32 = true := fun n => by rw [okCells_drewN]; exact d1
          have q4 : ∀ n, rdCells (wr.drewN n) ⟨w.heap.size, 3, none⟩ 32 = (encId g.id).toArray := fun n => by rw [rdCells_drewN]; exact d2
          have HGJ := Lib.hid hgj
          have HS1 := Lib.hid hst1
          have HS2 := Lib.hid hst2
          clear hcell i1 i2 d1 d2 hst1 hst2 hg0 hji hgj
          by_cases hx : r0.m.p.id = g.id
          · have hxd : decide (r0.m.p.id = g.id) = true := decide_eq_true hx
            have HE := Lib.hid (HS1.out hx)
            clear hx HS1 HS2
            go_wp2_with fail
            go_quiet (fail)
            clear q1 q2 q3 q4
            have HWO := Lib.hid (without_any B2 (.slice (some ⟨gb, 0, none⟩) rsj.length cap) rsj j (wr.drewN nq) (HRj.out.below (below_drewN' (Below.refl _ _) nq)) hjl)
            have HBn : Hid (Below W.heap.size W (wr.drewN nq)) := Lib.hid (below_drewN' HBj.out nq)
            generalize wr.drewN nq = W2 at HWO HBn ⊢
            go_wp2_with fail
            refine HWO.out.mono ?_
            rintro r w3 ⟨v', rfl, hR3, hb3⟩
            have hBW : B2 ≤ W2.heap.size := Nat.le_trans hB2 (Nat.le_trans HB0.out.size HBn.out.size)
            have HR3 : Hid (RefsAt B2 w3 v' (rsj.eraseIdx j)) := Lib.hid (hR3.mono hBW)
            have HB3 := Lib.hid (HBn.out.trans (hb3.mono HBn.out.size) : Below W.heap.size W w3)
            have HC3 : Hid (c + 1 + (rsj.eraseIdx j).length = rs.length) := Lib.hid (by rw [List.length_eraseIdx_of_lt hjl]; have := HC.out; omega)
            clear hR3 hb3 HWO hBW
            have hc1 : c + 1 ≤ rs.length := by have := HC.out; omega
            go_wp2
            go_roundw
            case rel => exact ⟨j, c + 1, rsj.eraseIdx j, by omega, hc1, by go_num, by go_num, HE, HC3, HR3, HB3⟩
            case measure => simp [intOf] <;> omega
          · have hxd : decide (r0.m.p.id = g.id) = false := decide_eq_false hx
            have HE := Lib.hid (HS2.out hx)
            clear hx HS1 HS2
            go_wp2_with fail
            go_quiet (fail)
            clear q1 q2 q3 q4
            go_wp2
            go_roundw
            case rel => exact ⟨j, c, rsj, by omega, hc, by go_num, rfl, Lib.hid (HE.out ▸ HJ.out ▸ rfl), HC, Lib.hid (HRj.out.below (below_drewN' (Below.refl _ _) _)), Lib.hid (below_drewN' HBj.out _)⟩
            case measure => simp [intOf] <;> omega

end Go.Proofs.YtdjaphcelpchaaaGreatDoor

/- The laws of whole operations on aggregates, within a fence or a round. -/
namespace Go.Proofs.YtdjaphcelpchaaaGreatDoor
open Go Go.RowKit Go.Proofs

theorem exI_load_id (ro : Option Nat) (ρ : Operand → Value) (d : Option Tmp) (x : Operand) (ty : TypeId) (pos : String) (af : Array Edge) (g : Option (Nat × Bool)) (w : World) :
    Sem.run Tryz.prog (Oper.semAt ro ρ ⟨d, .load 23 x, ty, pos, af, g⟩) w = ldRes Tryz.prog 23 w (ρ x) := by
  rw [Oper.semAt_eq _ _ _ (by intro c h; cases h)]
  exact ex_load_id ..
theorem exI_store_id (ro : Option Nat) (ρ : Operand → Value) (d : Option Tmp) (x y : Operand) (ty : TypeId) (pos : String) (af : Array Edge) (g : Option (Nat × Bool)) (w : World) :
    Sem.run Tryz.prog (Oper.semAt ro ρ ⟨d, .store 23 x y, ty, pos, af, g⟩) w = stRes Tryz.prog 23 w (ρ x) (ρ y) := by
  rw [Oper.semAt_eq _ _ _ (by intro c h; cases h)]
  exact ex_store_id ..
theorem exI_alloc_id (ro : Option Nat) (ρ : Operand → Value) (d : Option Tmp) (ty : TypeId) (pos : String) (af : Array Edge) (g : Option (Nat × Bool)) (w : World) :
    Sem.run Tryz.prog (Oper.semAt ro ρ ⟨d, .alloc 23, ty, pos, af, g⟩) w = .ok (.value (.pointer (some ⟨w.heap.size, 0, none⟩))) (w.alloc (.cells (encId zeroId).toArray 23)) := by
  rw [Oper.semAt_eq _ _ _ (by intro c h; cases h)]
  exact ex_alloc_id ..
theorem exI_build_id (ro : Option Nat) (ρ : Operand → Value) (d : Option Tmp) (ty : TypeId) (pos : String) (af : Array Edge) (g : Option (Nat × Bool)) (w : World) :
    Sem.run Tryz.prog (Oper.semAt ro ρ ⟨d, .build 23 #[], ty, pos, af, g⟩) w = .ok (.value (.agg (encId zeroId).toArray)) w := by
  rw [Oper.semAt_eq _ _ _ (by intro c h; cases h)]
  exact ex_build_id ..
theorem exI_load_line (ro : Option Nat) (ρ : Operand → Value) (d : Option Tmp) (x : Operand) (ty : TypeId) (pos : String) (af : Array Edge) (g : Option (Nat × Bool)) (w : World) :
    Sem.run Tryz.prog (Oper.semAt ro ρ ⟨d, .load 34 x, ty, pos, af, g⟩) w = ldRes Tryz.prog 34 w (ρ x) := by
  rw [Oper.semAt_eq _ _ _ (by intro c h; cases h)]
  exact ex_load_line ..
theorem exI_store_line (ro : Option Nat) (ρ : Operand → Value) (d : Option Tmp) (x y : Operand) (ty : TypeId) (pos : String) (af : Array Edge) (g : Option (Nat × Bool)) (w : World) :
    Sem.run Tryz.prog (Oper.semAt ro ρ ⟨d, .store 34 x y, ty, pos, af, g⟩) w = stRes Tryz.prog 34 w (ρ x) (ρ y) := by
  rw [Oper.semAt_eq _ _ _ (by intro c h; cases h)]
  exact ex_store_line ..
theorem exI_alloc_line (ro : Option Nat) (ρ : Operand → Value) (d : Option Tmp) (ty : TypeId) (pos : String) (af : Array Edge) (g : Option (Nat × Bool)) (w : World) :
    Sem.run Tryz.prog (Oper.semAt ro ρ ⟨d, .alloc 34, ty, pos, af, g⟩) w = .ok (.value (.pointer (some ⟨w.heap.size, 0, none⟩))) (w.alloc (.cells (lineCells zeroLine) 34)) := by
  rw [Oper.semAt_eq _ _ _ (by intro c h; cases h)]
  exact ex_alloc_line ..
theorem exI_build_line (ro : Option Nat) (ρ : Operand → Value) (d : Option Tmp) (ty : TypeId) (pos : String) (af : Array Edge) (g : Option (Nat × Bool)) (w : World) :
    Sem.run Tryz.prog (Oper.semAt ro ρ ⟨d, .build 34 #[], ty, pos, af, g⟩) w = .ok (.value (.agg (lineCells zeroLine))) w := by
  rw [Oper.semAt_eq _ _ _ (by intro c h; cases h)]
  exact ex_build_line ..
theorem exI_load_rline (ro : Option Nat) (ρ : Operand → Value) (d : Option Tmp) (x : Operand) (ty : TypeId) (pos : String) (af : Array Edge) (g : Option (Nat × Bool)) (w : World) :
    Sem.run Tryz.prog (Oper.semAt ro ρ ⟨d, .load 26 x, ty, pos, af, g⟩) w = ldRes Tryz.prog 26 w (ρ x) := by
  rw [Oper.semAt_eq _ _ _ (by intro c h; cases h)]
  exact ex_load_rline ..
theorem exI_store_rline (ro : Option Nat) (ρ : Operand → Value) (d : Option Tmp) (x y : Operand) (ty : TypeId) (pos : String) (af : Array Edge) (g : Option (Nat × Bool)) (w : World) :
    Sem.run Tryz.prog (Oper.semAt ro ρ ⟨d, .store 26 x y, ty, pos, af, g⟩) w = stRes Tryz.prog 26 w (ρ x) (ρ y) := by
  rw [Oper.semAt_eq _ _ _ (by intro c h; cases h)]
  exact ex_store_rline ..
theorem exI_alloc_rline (ro : Option Nat) (ρ : Operand → Value) (d : Option Tmp) (ty : TypeId) (pos : String) (af : Array Edge) (g : Option (Nat × Bool)) (w : World) :
    Sem.run Tryz.prog (Oper.semAt ro ρ ⟨d, .alloc 26, ty, pos, af, g⟩) w = .ok (.value (.pointer (some ⟨w.heap.size, 0, none⟩))) (w.alloc (.cells (rlineCells ⟨#[]⟩ zeroLine) 26)) := by
  rw [Oper.semAt_eq _ _ _ (by intro c h; cases h)]
  exact ex_alloc_rline ..
theorem exI_build_rline (ro : Option Nat) (ρ : Operand → Value) (d : Option Tmp) (ty : TypeId) (pos : String) (af : Array Edge) (g : Option (Nat × Bool)) (w : World) :
    Sem.run Tryz.prog (Oper.semAt ro ρ ⟨d, .build 26 #[], ty, pos, af, g⟩) w = .ok (.value (.agg (rlineCells ⟨#[]⟩ zeroLine))) w := by
  rw [Oper.semAt_eq _ _ _ (by intro c h; cases h)]
  exact ex_build_rline ..
end Go.Proofs.YtdjaphcelpchaaaGreatDoor
