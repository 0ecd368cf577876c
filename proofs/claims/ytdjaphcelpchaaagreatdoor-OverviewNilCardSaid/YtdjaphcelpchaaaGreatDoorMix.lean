/- A region that draws its order: some of its operations (E) read or call quietly, the others (R) act, in a forced order among themselves. Each E comes before the R that wait for it, or is apart from it. Then one walk, first E, then R, serves every order. -/
import Derived.Test.YtdjaphcelpchaaaGreatDoorRegion
import Derived.Deep.RegionHeld3
namespace Go.Proofs.YtdjaphcelpchaaaGreatDoor
open Go Go.RowKit

section
variable {P : Program} {ops : Array Oper} {C : World → Prop} {Q : Exit → Act → World → Prop}

/-- An acting operation, apart from a quiet one: it makes no difference whether the quiet one has come up already. -/
theorem wpOp_putQ {j : Nat} {oi oj : Oper} {v : Value} (hj : ops[j]? = some oj) (hap : oi.apart ops oj = true) (hsi : ∀ cs b, oi.op ≠ .select cs b) (hsj : ∀ cs b, oj.op ≠ .select cs b)
    {K : Act → World → Prop} {a : Act} {w : World} (hy : YieldsIn P ops C oi v a) (h : wpOp P ops (NoPanic Q) j K (a.put oi.dst v) w) :
    wpOp P ops (NoPanic Q) j (fun a' w' => YieldsIn P ops C oi v a' ∧ K (a'.put oi.dst v) w') a w := by
  obtain ⟨h1, h2, h3⟩ := Oper.apart_spec hap
  have keep : ∀ (a : Act), YieldsIn P ops C oi v a → ∀ u, YieldsIn P ops C oi v (a.put oj.dst u) := fun a hy u =>
    hy.of_same (execOp_put oi hsi a oj.dst u h3) (wanted_put oi a oj.dst u h3)
  have keepD : ∀ d, YieldsIn P ops C oi v { a with defers := d :: a.defers } := fun d => hy.of_same rfl rfl
  unfold wpOp at *
  simp only [hj] at *
  rw [wanted_put oj a oi.dst v h1] at h
  split
  · rename_i hw
    simp only [hw, if_true] at h
    rcases h with h | ⟨hasks, hlets⟩
    case inr => exact .inr ⟨by unfold Oper.asks at *; rw [execOp_put oj hsj a oi.dst v h1] at hasks; exact hasks, hlets⟩
    refine .inl ?_
    unfold Oper.wp at *
    rw [execOp_put oj hsj a oi.dst v h1] at h
    generalize (execOp a.eval oj).run P w = r at *
    cases r with
    | ok n w' =>
      cases n <;> simp only [Oper.upon] at h ⊢
      case value u => exact ⟨keep a hy u, by rw [← Act.put_comm a v u h2]; exact h⟩
      case skip => exact ⟨keep a hy _, by rw [← Act.put_comm a v undef h2]; exact h⟩
      case defer d =>
        refine ⟨keep _ (keepD d) _, ?_⟩
        rw [← Act.put_comm _ v undef h2, ← Act.put_defers]
        exact h
      case enter f args =>
        refine Calls.mono h fun e w'' he => ?_
        cases e with
        | returned u => exact ⟨keep a hy u, by rw [← Act.put_comm a v u h2]; exact he⟩
        | panicked c => exact he.elim
        | outgrown => exact he
      case row row args => exact Rows.mono h fun u w'' he => ⟨keep a hy u, by rw [← Act.put_comm a v u h2]; exact he⟩
    | halt x w' =>
      cases x <;> simp only [Oper.upon] at h ⊢
      case panic u => exact h.elim
  · rename_i hw
    simp only [hw] at h
    exact ⟨keep a hy _, by rw [← Act.put_comm a v undef h2]; exact h⟩

/-- Operations by their numbers. -/
def opsAt (ops : Array Oper) (E : List Nat) : List Oper := E.map fun i => ops.getD i default
theorem opsAt_get {i : Nat} {o : Oper} (h : ops[i]? = some o) : ops.getD i default = o := by simp [h]

theorem wpQuiet_mono {K K' : Act → Prop} (hk : ∀ a, K a → K' a) : ∀ (l : List Oper) (a : Act), wpQuiet P ops C K l a → wpQuiet P ops C K' l a
  | [], _, h => hk _ h
  | o :: l, a, h => by
    unfold wpQuiet at *
    split
    · rename_i hw
      rw [if_pos hw] at h
      exact Oper.quiet_mono (wpQuiet_mono hk l) h
    · rename_i hw
      rw [if_neg hw] at h
      exact wpQuiet_mono hk l _ h

theorem quiet_cons {i : Nat} {o : Oper} {K : Act → Prop} {l : List Oper} {a : Act} (hi : ops[i]? = some o) (h : wpQuiet P ops C K (o :: l) a) : ∃ v, YieldsIn P ops C o v a ∧ wpQuiet P ops C K l (a.put o.dst v) :=
  yieldsIn_of_qOp hi (by unfold qOp; simp only [hi]; exact h)
theorem cons_quiet {i : Nat} {o : Oper} {K : Act → Prop} {l : List Oper} {a : Act} {v : Value} (hi : ops[i]? = some o) (hy : YieldsIn P ops C o v a) (h : wpQuiet P ops C K l (a.put o.dst v)) : wpQuiet P ops C K (o :: l) a := by
  have := hy.qOp hi (K := wpQuiet P ops C K l) h
  unfold qOp at this
  simp only [hi] at this
  exact this

/-- A quiet operation past those that stand before it and are apart from it. -/
theorem quiet_front {e : Nat} {oe : Oper} (he : ops[e]? = some oe) (hsel : ∀ (j : Nat) (o : Oper) cs b, ops[j]? = some o → o.op ≠ .select cs b) {K : Act → Prop} :
    ∀ (E1 E2 : List Nat) (a : Act), (∀ x ∈ E1, ∃ ox, ops[x]? = some ox ∧ ox.apart ops oe = true) → wpQuiet P ops C K (opsAt ops (E1 ++ e :: E2)) a → qOp P ops C e (wpQuiet P ops C K (opsAt ops (E1 ++ E2))) a
  | [], E2, a, _, h => by
    have hd : opsAt ops (e :: E2) = oe :: opsAt ops E2 := by unfold opsAt; rw [List.map_cons, opsAt_get he]
    rw [List.nil_append, hd] at h
    rw [List.nil_append]
    unfold qOp
    simp only [he]
    exact h
  | x :: E1, E2, a, hx, h => by
    obtain ⟨ox, hox, hap⟩ := hx x (by simp)
    have hd : ∀ T, opsAt ops (x :: T) = ox :: opsAt ops T := fun T => by unfold opsAt; rw [List.map_cons, opsAt_get hox]
    rw [List.cons_append, hd] at h
    obtain ⟨v, hy, h2⟩ := quiet_cons hox h
    have ih := quiet_front he hsel E1 E2 _ (fun y hy => hx y (by simp [hy])) h2
    have := qOp_put he hap (fun cs b => hsel x ox cs b hox) (fun cs b => hsel e oe cs b he) hy ih
    refine qOp_mono (fun a' h3 => ?_) this
    rw [List.cons_append, hd]
    exact cons_quiet hox h3.1 h3.2

/-- An acting operation past quiet ones that are apart from it. -/
theorem act_front {r : Nat} {orr : Oper} (hr : ops[r]? = some orr) (hsel : ∀ (j : Nat) (o : Oper) cs b, ops[j]? = some o → o.op ≠ .select cs b) {K : Act → World → Prop} {w : World} :
    ∀ (E : List Nat) (a : Act), (∀ x ∈ E, ∃ ox, ops[x]? = some ox ∧ ox.apart ops orr = true) → wpQuiet P ops C (fun a' => wpOp P ops (NoPanic Q) r K a' w) (opsAt ops E) a →
      wpOp P ops (NoPanic Q) r (fun a' w' => wpQuiet P ops C (fun a'' => K a'' w') (opsAt ops E) a') a w
  | [], _, _, h => h
  | x :: E, a, hx, h => by
    obtain ⟨ox, hox, hap⟩ := hx x (by simp)
    have hd : opsAt ops (x :: E) = ox :: opsAt ops E := by unfold opsAt; rw [List.map_cons, opsAt_get hox]
    rw [hd] at h
    obtain ⟨v, hy, h2⟩ := quiet_cons hox h
    have ih := act_front hr hsel E _ (fun y hy => hx y (by simp [hy])) h2
    refine wpOp_mono (fun a' w' h3 => ?_) (wpOp_putQ hr hap (fun cs b => hsel x ox cs b hox) (fun cs b => hsel r orr cs b hr) hy ih)
    rw [hd]
    exact cons_quiet hox h3.1 h3.2

/-- r waits, through others or not, for e. -/
def ancB (ops : Array Oper) : Nat → Nat → Nat → Bool
  | 0, _, _ => false
  | f + 1, r, e => match ops[r]? with
    | some o => o.after.any fun x => Region.binds .any x && (x.on == e || ancB ops f x.on e)
    | none => false

def Closed (ops : Array Oper) (L : Array Bool) : Prop := ∀ j oj, ops[j]? = some oj → L.getD j false = true → ∀ e ∈ oj.after, Region.binds .any e = true → L.getD e.on false = true

theorem anc_listed {L : Array Bool} (hc : Closed ops L) : ∀ (f r e : Nat), (∀ o, ops[r]? = some o → ∀ x ∈ o.after, Region.binds .any x = true → L.getD x.on false = true) → ancB ops f r e = true → L.getD e false = true
  | 0, _, _, _, h => by simp [ancB] at h
  | f + 1, r, e, hr, h => by
    unfold ancB at h
    split at h
    · rename_i o ho
      obtain ⟨x, hx, hb⟩ := Array.any_eq_true'.1 h
      simp only [Bool.and_eq_true, Bool.or_eq_true, beq_iff_eq] at hb
      have h1 := hr o ho x hx hb.1
      rcases hb.2 with rfl | h2
      · exact h1
      · exact anc_listed hc f x.on e (fun o' ho' => hc x.on o' ho' h1) h2
    · cases h

/-- Must the class hold behind r? Not if all of E lie before it. -/
def needB (ops : Array Oper) (E : List Nat) (r : Nat) : Bool := !(E.all fun e => ancB ops ops.size r e)

/-- The acting operations, one after the other. -/
def wpR (P : Program) (ops : Array Oper) (Q : Exit → Act → World → Prop) (C : World → Prop) (E : List Nat) : List Nat → Act → World → Prop
  | [], a, w => Q .normal a w
  | r :: rest, a, w => wpOp P ops (NoPanic Q) r (fun a' w' => (needB ops E r = true → C w') ∧ wpR P ops Q C E rest a' w') a w

/-- Operations of which it is known that they enter no function. -/
def isCall (o : Oper) : Bool := match o.op with
  | .move _ | .assign _ | .pick .. | .load .. | .fieldAddr .. | .field .. | .index .. | .indexAddr .. | .binOp .. | .unOp .. | .slice .. | .extract .. | .build .. | .lookup .. | .nilCheck _ => false
  | _ => true
theorem value_not_enter {s : Sem Value} {w w' : World} {f : FuncId} {args : Array Value} (h : Sem.run P (do pure (Next.value (← s))) w = .ok (.enter f args) w') : False := by
  rw [Sem.run_bind] at h
  generalize s.run P w = r at h
  cases r with
  | ok v w1 => simp [Result.andThen] at h
  | halt x w1 => simp [Result.andThen] at h
theorem no_enter_halt {w w' : World} {f : FuncId} {args : Array Value} (h : Sem.run P (runtimePanic (α := Next) .nilDeref) w = .ok (.enter f args) w') : False := by
  simp [runtimePanic, goPanic, Sem.run_bind, run_program] at h
theorem enter_is_call {o : Oper} {ρ : Operand → Value} {w w' : World} {f : FuncId} {args : Array Value} (hc : isCall o = false) (h : (execOp ρ o).run P w = .ok (.enter f args) w') : False := by
  obtain ⟨d, op, ty, pos, af, g⟩ := o
  cases op <;> simp only [isCall, Bool.true_eq_false] at hc
  case move x => simp [execOp] at h
  case assign x => simp [execOp] at h
  case pick c a b =>
    simp only [execOp, Sem.run_bind] at h
    generalize (asBool (ρ c)).run P w = r at h
    cases r with
    | ok v w1 => simp [Result.andThen] at h
    | halt x w1 => simp [Result.andThen] at h
  case nilCheck x =>
    simp only [execOp] at h
    split at h
    · exact no_enter_halt h
    · exact no_enter_halt h
    · exact no_enter_halt h
    · split at h
      · exact no_enter_halt h
      · rename_i t v
        simp only [Sem.run_bind, run_program, Result.andThen_ok] at h
        generalize (nilAhead _ _ _ _).run P w = r at h
        cases r with
        | ok b w1 =>
          simp only [Result.andThen_ok] at h
          by_cases hb : (b != some false) = true
          · rw [if_pos hb] at h
            simp [unsupported] at h
          · rw [if_neg hb] at h
            simp at h
        | halt x w1 => simp [Result.andThen] at h
      · simp at h
    · simp at h
  all_goals exact value_not_enter h
def pairB (f : Nat → Nat → Bool) : List Nat → Bool
  | [] => true
  | x :: l => l.all (f x) && pairB f l
theorem pairB_spec {f : Nat → Nat → Bool} : ∀ {l : List Nat}, pairB f l = true → l.Pairwise fun x y => f x y = true
  | [], _ => .nil
  | x :: l, h => by
    simp only [pairB, Bool.and_eq_true, List.all_eq_true] at h
    exact .cons h.1 (pairB_spec h.2)
def chainR (ops : Array Oper) : List Nat → Bool
  | r :: s :: l => Region.waitsFor .any ops s r && chainR ops (s :: l)
  | _ => true
def apartB (ops : Array Oper) (y e : Nat) : Bool := Region.waitsFor .any ops e y || (match ops[y]?, ops[e]? with | some oy, some oe => oy.apart ops oe | _, _ => false)
def predsB (ops : Array Oper) (l : List Nat) (e : Nat) : Bool := match ops[e]? with
  | some o => o.after.all fun x => !Region.binds .any x || (l.contains x.on && x.on != e)
  | none => false
/-- The closed checks. -/
def mixB (ops : Array Oper) (E R : List Nat) : Bool :=
  Region.noSelect ops && decide ((E ++ R).Nodup) && decide (E.length + R.length = ops.size) && ((List.range ops.size).all fun i => E.contains i || R.contains i)
  && E.all (predsB ops E) && pairB (fun y e => !Region.waitsFor .any ops y e && apartB ops y e) E
  && R.all (predsB ops (E ++ R)) && pairB (fun r s => !Region.waitsFor .any ops r s) R && chainR ops R
  && (R.all fun r => E.all fun y => apartB ops y r)
  && (E.all fun e => match ops[e]? with | some o => !isCall o || (match R with | r :: _ => ancB ops ops.size r e | [] => true) | none => false)

def unl (L : Array Bool) (i : Nat) : Bool := !L.getD i true
def Zf (P : Program) (ops : Array Oper) (Q : Exit → Act → World → Prop) (C : World → Prop) (E : List Nat) (ph : Bool) (w : World) (R : List Nat) (a : Act) : Prop :=
  if ph = true then wpR P ops Q C E R a w else ∀ w', C w' → wpR P ops Q C E R a w'

theorem waitsFor_of {r e : Nat} {o : Oper} (ho : ops[r]? = some o) {x : Edge} (hx : x ∈ o.after) (hb : Region.binds .any x = true) (hon : x.on = e) : Region.waitsFor .any ops r e = true := by
  unfold Region.waitsFor
  rw [ho]
  exact Array.any_eq_true'.2 ⟨x, hx, by simp [hb, hon]⟩
theorem not_waits_of_ready {L : Array Bool} {i x : Nat} (hi : i ∈ Region.ready .any ops L) (hx : L.getD x true = false) : Region.waitsFor .any ops i x = false := by
  cases h : Region.waitsFor .any ops i x with
  | false => rfl
  | true =>
    obtain ⟨o, ho, e, he, hb, hon⟩ := Region.waitsFor_spec h
    obtain ⟨_, o', ho', hall⟩ := mem_ready.1 hi
    have : o' = o := Option.some.inj (ho'.symm.trans ho)
    subst this
    have h1 := hall e he hb
    rw [hon, getD_both hx] at h1
    cases h1
theorem chain_pred : ∀ {r : Nat} {l : List Nat}, chainR ops (r :: l) = true → ∀ i ∈ l, ∃ p ∈ r :: l, Region.waitsFor .any ops i p = true
  | _, [], _, i, hi => by cases hi
  | r, s :: l, h, i, hi => by
    simp only [chainR, Bool.and_eq_true] at h
    rcases List.mem_cons.1 hi with rfl | hi
    · exact ⟨r, by simp, h.1⟩
    · obtain ⟨p, hp, hw⟩ := chain_pred h.2 i hi
      exact ⟨p, by simp at hp ⊢; rcases hp with hp | hp <;> simp [hp], hw⟩
theorem chain_suffix : ∀ (Rd R' : List Nat), chainR ops (Rd ++ R') = true → chainR ops R' = true
  | [], _, h => h
  | [r], [], _ => rfl
  | [r], s :: l, h => by simp only [List.cons_append, List.nil_append, chainR, Bool.and_eq_true] at h; exact h.2
  | r :: s :: Rd, R', h => by
    simp only [List.cons_append, chainR, Bool.and_eq_true] at h
    exact chain_suffix (s :: Rd) R' h.2
theorem filter_set {L : Array Bool} {e : Nat} {E E1 E2 : List Nat} (hsz : e < L.size) (hnd : E.Nodup) (h : E.filter (unl L) = E1 ++ e :: E2) : E.filter (unl (L.setIfInBounds e true)) = E1 ++ E2 := by
  have h1 : E.filter (unl (L.setIfInBounds e true)) = (E.filter (unl L)).filter (fun i => i != e) := by
    rw [List.filter_filter]
    apply List.filter_congr
    intro i _
    by_cases hie : i = e
    · subst hie; simp [unl, hsz]
    · have : (L.setIfInBounds e true).getD i true = L.getD i true := getD_set_ne true (Ne.symm hie)
      simp only [unl, this]
      simp [hie]
  have hnd' : (E1 ++ e :: E2).Nodup := h ▸ hnd.filter _
  rw [h1, h, List.filter_append, List.filter_cons]
  simp only [bne_self_eq_false, Bool.false_eq_true, if_false]
  rw [List.nodup_append] at hnd'
  obtain ⟨n1, n2, n3⟩ := hnd'
  rw [List.filter_eq_self.2, List.filter_eq_self.2]
  · intro x hx; simp only [bne_iff_ne]; rintro rfl; exact (List.nodup_cons.1 n2).1 hx
  · intro x hx; simp only [bne_iff_ne]; rintro rfl; exact n3 x hx x (by simp) rfl
theorem filter_set_not {L : Array Bool} {r : Nat} {E : List Nat} (hr : r ∉ E) : E.filter (unl (L.setIfInBounds r true)) = E.filter (unl L) := by
  apply List.filter_congr
  intro i hi
  have : (L.setIfInBounds r true).getD i true = L.getD i true := getD_set_ne true (by rintro rfl; exact hr hi)
  simp only [unl, this]
theorem quiet_const {X : Prop} {Y : Act → Prop} : ∀ (l : List Oper) (a : Act), wpQuiet P ops C (fun a => X ∧ Y a) l a → X
  | [], _, h => h.1
  | o :: l, a, h => by
    unfold wpQuiet at h
    split at h
    · obtain ⟨v, _, h2⟩ := h
      exact quiet_const l _ h2
    · exact quiet_const l _ h

theorem still_of_quiet {e : Nat} {o : Oper} {K : Act → Prop} {K' : Act → World → Prop} {a : Act} {w : World} (he : ops[e]? = some o) (hcall : isCall o = false) (hC : C w) (hk : ∀ a', K a' → K' a' w) (h : qOp P ops C e K a) :
    wpOp P ops (NoPanic Q) e K' a w := by
  unfold qOp at h
  unfold wpOp
  simp only [he] at h ⊢
  split
  · rename_i hw
    rw [if_pos hw] at h
    refine .inl ?_
    obtain ⟨v, hv, hn⟩ := h
    have h1 := hv w hC
    unfold Oper.quietAt at h1
    unfold Oper.wp
    generalize hr : (execOp a.eval o).run P w = r at *
    cases r with
    | ok n w' =>
      cases n <;> simp only [Oper.quietUpon] at h1 <;> simp only [Oper.upon]
      case value u => obtain ⟨rfl, rfl⟩ := h1; exact hk _ hn
      case skip => obtain ⟨rfl, rfl⟩ := h1; exact hk _ hn
      case enter f args =>
        exfalso
        exact enter_is_call hcall hr
    | halt x w' => exact h1.elim
  · rename_i hw
    rw [if_neg hw] at h
    exact hk _ h

theorem mix_main {E R : List Nat} (hB : mixB ops E R = true) : ∀ (n : Nat) (L : Array Bool) (Rd R' : List Nat) (a : Act) (w : World) (ph : Bool), R = Rd ++ R' → L.size = ops.size → Closed ops L → (∀ r ∈ Rd, L.getD r true = true) → (∀ r ∈ R', L.getD r true = false) →
    (E.filter (unl L)).length + R'.length = n → (E.filter (unl L) ≠ [] → C w) → (ph = false → C w ∧ Rd = []) → (ph = true → ∀ e ∈ E.filter (unl L), ∀ o, ops[e]? = some o → isCall o = false) →
    wpQuiet P ops C (Zf P ops Q C E ph w R') (opsAt ops (E.filter (unl L))) a → wpAny P .any ops (NoPanic Q) n L a w := by
  simp only [mixB, Bool.and_eq_true, decide_eq_true_eq, List.all_eq_true] at hB
  obtain ⟨⟨⟨⟨⟨⟨⟨⟨⟨⟨hns, hnd⟩, hlen⟩, hcov⟩, hpE⟩, hpair⟩, hpR⟩, hpairR⟩, hchain⟩, hapR⟩, hcalls⟩ := hB
  have hsel := Region.noSelect_spec hns
  have hpair' := pairB_spec hpair
  have hpairR' := pairB_spec hpairR
  have hndE : E.Nodup := (List.nodup_append.1 hnd).1
  have hdis : ∀ x, x ∈ E → x ∈ R → False := fun x h1 h2 => (List.nodup_append.1 hnd).2.2 x h1 x h2 rfl
  have hget : ∀ (l : List Nat) (e : Nat), predsB ops l e = true → ∃ o, ops[e]? = some o ∧ ∀ x ∈ o.after, Region.binds .any x = true → x.on ∈ l ∧ x.on ≠ e := by
    intro l e h
    unfold predsB at h
    split at h
    · rename_i o ho
      refine ⟨o, ho, fun x hx hb => ?_⟩
      have h1 := (Array.all_eq_true_iff_forall_mem.1 h) x hx
      simp only [hb, Bool.not_true, Bool.false_or, Bool.and_eq_true, List.contains_iff_mem, bne_iff_ne] at h1
      exact h1
    · cases h
  have hapart : ∀ y e, apartB ops y e = true → Region.waitsFor .any ops e y = false → ∃ oy oe, ops[y]? = some oy ∧ ops[e]? = some oe ∧ oy.apart ops oe = true := by
    intro y e h hw
    unfold apartB at h
    rw [hw, Bool.false_or] at h
    split at h
    · rename_i oy oe h1 h2
      exact ⟨oy, oe, h1, h2, h⟩
    · cases h
  intro n
  induction n with
  | zero =>
    intro L Rd R' a w ph hR hsz hcl hRd hR' hn _ hphC _ h
    have hE0 : E.filter (unl L) = [] := List.eq_nil_of_length_eq_zero (by omega)
    have hR0 : R' = [] := List.eq_nil_of_length_eq_zero (by omega)
    subst hR0
    rw [List.append_nil] at hR
    subst hR
    rw [hE0] at h
    refine ⟨?_, ?_⟩
    · rw [List.eq_nil_iff_forall_not_mem]
      intro i hi
      obtain ⟨h1, o, ho, _⟩ := mem_ready.1 hi
      have hlt := (Array.getElem?_eq_some_iff.1 ho).1
      have hc := hcov i (List.mem_range.2 hlt)
      simp only [Bool.or_eq_true, List.contains_iff_mem] at hc
      rcases hc with hc | hc
      · have : i ∈ E.filter (unl L) := List.mem_filter.2 ⟨hc, by simp only [unl, h1, Bool.not_false]⟩
        rw [hE0] at this; cases this
      · rw [hRd i hc] at h1; cases h1
    · have h' : Zf P ops Q C E ph w [] a := h
      unfold Zf at h'
      split at h'
      · exact h'
      · rename_i hf
        exact h' w (hphC (by simpa using hf)).1
  | succ n ih =>
    intro L Rd R' a w ph hR hsz hcl hRd hR' hn hCw hphC hphE h
    have hunE : ∀ x, x ∈ E.filter (unl L) ↔ x ∈ E ∧ L.getD x true = false := fun x => by
      rw [List.mem_filter]; simp only [unl, Bool.not_eq_true']
    -- something may come up
    have hsome : Region.ready .any ops L ≠ [] := by
      cases hE' : E.filter (unl L) with
      | cons e T =>
        have he := (hunE e).1 (by rw [hE']; simp)
        obtain ⟨o, ho, hpre⟩ := hget E e (hpE e he.1)
        have hpw := hpair'.filter (p := unl L)
        rw [hE'] at hpw
        have : e ∈ Region.ready .any ops L := mem_ready.2 ⟨he.2, o, ho, fun x hx hb => by
          obtain ⟨hxE, hxe⟩ := hpre x hx hb
          cases hlx : L.getD x.on false with
          | true => rfl
          | false =>
            exfalso
            have hin : x.on < L.size := by
              obtain ⟨ox, hox, _⟩ := hget E x.on (hpE _ hxE)
              rw [hsz]; exact (Array.getElem?_eq_some_iff.1 hox).1
            have hxm : x.on ∈ E.filter (unl L) := (hunE _).2 ⟨hxE, getD_in hin hlx⟩
            rw [hE'] at hxm
            rcases List.mem_cons.1 hxm with h1 | h1
            · exact hxe h1
            · have h2 := (List.pairwise_cons.1 hpw).1 _ h1
              simp only [Bool.and_eq_true, Bool.not_eq_true'] at h2
              rw [waitsFor_of ho hx hb rfl] at h2
              cases h2.1⟩
        intro h0; rw [h0] at this; cases this
      | nil =>
        cases R' with
        | nil => rw [hE'] at hn; simp at hn
        | cons r rest =>
          have hrR : r ∈ R := by rw [hR]; simp
          obtain ⟨o, ho, hpre⟩ := hget (E ++ R) r (hpR r hrR)
          have : r ∈ Region.ready .any ops L := mem_ready.2 ⟨hR' r (by simp), o, ho, fun x hx hb => by
            obtain ⟨hxE, hxe⟩ := hpre x hx hb
            cases hlx : L.getD x.on false with
            | true => rfl
            | false =>
              exfalso
              rcases List.mem_append.1 hxE with h1 | h1
              · have hin : x.on < L.size := by
                  obtain ⟨ox, hox, _⟩ := hget E x.on (hpE _ h1)
                  rw [hsz]; exact (Array.getElem?_eq_some_iff.1 hox).1
                have : x.on ∈ E.filter (unl L) := (hunE _).2 ⟨h1, getD_in hin hlx⟩
                rw [hE'] at this; cases this
              · have hin : x.on < L.size := by
                  obtain ⟨ox, hox, _⟩ := hget (E ++ R) x.on (hpR _ h1)
                  rw [hsz]; exact (Array.getElem?_eq_some_iff.1 hox).1
                rw [hR] at h1
                rcases List.mem_append.1 h1 with h2 | h2
                · have := hRd _ h2
                  rw [getD_in hin hlx] at this; cases this
                · rcases List.mem_cons.1 h2 with h3 | h3
                  · exact hxe h3
                  · rw [hR] at hpairR'
                    have h4 := (List.pairwise_cons.1 (List.pairwise_append.1 hpairR').2.1).1 _ h3
                    simp only [Bool.not_eq_true'] at h4
                    rw [waitsFor_of ho hx hb rfl] at h4
                    cases h4⟩
          intro h0; rw [h0] at this; cases this
    refine ⟨fun h0 => absurd h0 hsome, fun i hi => ?_⟩
    obtain ⟨hiu, oi, hoi, hall⟩ := mem_ready.1 hi
    have hilt := (Array.getElem?_eq_some_iff.1 hoi).1
    have hcl' : Closed ops (L.setIfInBounds i true) := fun j oj hj hl e he hb => by
      by_cases hij : i = j
      · subst hij
        have : oj = oi := Option.some.inj (hj.symm.trans hoi)
        subst this
        exact getD_set_true (hall e he hb)
      · rw [getD_set_ne false hij] at hl
        exact getD_set_true (hcl j oj hj hl e he hb)
    have hc := hcov i (List.mem_range.2 hilt)
    simp only [Bool.or_eq_true, List.contains_iff_mem] at hc
    rcases hc with hc | hc
    · -- a quiet one
      have himem : i ∈ E.filter (unl L) := (hunE i).2 ⟨hc, hiu⟩
      obtain ⟨E1, E2, hsplit⟩ := List.append_of_mem himem
      have hiR : i ∉ R := fun h' => hdis i hc h'
      have hpw := hpair'.filter (p := unl L)
      rw [hsplit] at hpw h
      have hap : ∀ x ∈ E1, ∃ ox, ops[x]? = some ox ∧ ox.apart ops oi = true := by
        intro x hx
        have h2 := (List.pairwise_append.1 hpw).2.2 x hx i (by simp)
        simp only [Bool.and_eq_true, Bool.not_eq_true'] at h2
        have hxu : L.getD x true = false := ((hunE x).1 (by rw [hsplit]; simp [hx])).2
        obtain ⟨oy, oe, h3, h4, h5⟩ := hapart x i h2.2 (not_waits_of_ready hi hxu)
        have : oe = oi := Option.some.inj (h4.symm.trans hoi)
        subst this
        exact ⟨oy, h3, h5⟩
      have hq := quiet_front hoi hsel E1 E2 a hap h
      have hfs := filter_set (by rw [hsz]; exact hilt) hndE hsplit
      have next : ∀ (a' : Act) (w' : World), (ph = true → w' = w) → C w' → wpQuiet P ops C (Zf P ops Q C E ph w R') (opsAt ops (E1 ++ E2)) a' → wpAny P .any ops (NoPanic Q) n (L.setIfInBounds i true) a' w' := by
        intro a' w' hw' hC' h'
        refine ih (L.setIfInBounds i true) Rd R' a' w' ph hR (by simpa using hsz) hcl' (fun r hr => ?_) (fun r hr => ?_) ?_ (fun _ => hC') (fun hp => ⟨hC', (hphC hp).2⟩) (fun hp e he o ho => ?_) ?_
        · rw [getD_set_ne true (by rintro rfl; exact hiR (by rw [hR]; simp [hr]))]; exact hRd r hr
        · rw [getD_set_ne true (by rintro rfl; exact hiR (by rw [hR]; simp [hr]))]; exact hR' r hr
        · rw [hfs]; rw [hsplit] at hn; simp only [List.length_append, List.length_cons] at hn ⊢; omega
        · rw [hfs] at he
          exact hphE hp e (by rw [hsplit]; simp at he ⊢; rcases he with he | he <;> simp [he]) o ho
        · rw [hfs]
          refine wpQuiet_mono (fun a'' h'' => ?_) _ _ h'
          unfold Zf at *
          split
          · rename_i hp
            rw [if_pos hp] at h''
            rw [hw' hp]; exact h''
          · rename_i hp
            rw [if_neg hp] at h''
            exact h''
      have hCw' : C w := hCw (by rw [hsplit]; simp)
      cases ph with
      | false => exact wpOp_of_qOp hCw' (fun a' w' hC' h' => next a' w' (by simp) hC' h') hq
      | true =>
        exact still_of_quiet hoi (hphE rfl i himem oi hoi) hCw' (fun a' h' => next a' w (fun _ => rfl) hCw' h') hq
    · -- the next acting one
      have hiE : i ∉ E := fun h' => hdis i h' hc
      have hiR' : i ∈ R' := by
        rw [hR] at hc
        rcases List.mem_append.1 hc with h1 | h1
        · rw [hRd i h1] at hiu; cases hiu
        · exact h1
      cases R' with
      | nil => cases hiR'
      | cons r rest =>
        have hir : i = r := by
          rcases List.mem_cons.1 hiR' with h1 | h1
          · exact h1
          · exfalso
            have hch := chain_suffix Rd (r :: rest) (by rw [← hR]; exact hchain)
            obtain ⟨p, hp, hw⟩ := chain_pred hch i h1
            rw [not_waits_of_ready hi (hR' p hp)] at hw
            cases hw
        subst hir
        have hap : ∀ x ∈ E.filter (unl L), ∃ ox, ops[x]? = some ox ∧ ox.apart ops oi = true := by
          intro x hx
          have hx' := (hunE x).1 hx
          have h2 := hapR i hc x hx'.1
          obtain ⟨oy, oe, h3, h4, h5⟩ := hapart x i h2 (not_waits_of_ready hi hx'.2)
          have : oe = oi := Option.some.inj (h4.symm.trans hoi)
          subst this
          exact ⟨oy, h3, h5⟩
        have h1 : wpQuiet P ops C (fun a' => wpOp P ops (NoPanic Q) i (fun a' w' => (needB ops E i = true → C w') ∧ wpR P ops Q C E rest a' w') a' w) (opsAt ops (E.filter (unl L))) a := by
          refine wpQuiet_mono (fun a'' h'' => ?_) _ _ h
          unfold Zf at h''
          split at h''
          · exact h''
          · rename_i hp
            exact h'' w (hphC (by simpa using hp)).1
        have h2 := act_front hoi hsel (E.filter (unl L)) a hap h1
        have hfs := filter_set_not (L := L) hiE
        have hneed : E.filter (unl L) ≠ [] → needB ops E i = true := by
          intro hne
          cases hq : needB ops E i with
          | true => rfl
          | false =>
            exfalso
            unfold needB at hq
            simp only [Bool.not_eq_false', List.all_eq_true] at hq
            obtain ⟨e, he⟩ := List.exists_mem_of_ne_nil _ hne
            have he' := (hunE e).1 he
            have h4 := anc_listed hcl ops.size i e (fun o ho => by
              have : o = oi := Option.some.inj (ho.symm.trans hoi)
              subst this; exact hall) (hq e he'.1)
            rw [getD_both he'.2] at h4
            cases h4
        refine wpOp_mono (fun a' w' h3 => ?_) h2
        refine ih (L.setIfInBounds i true) (Rd ++ [i]) rest a' w' true (by rw [hR]; simp) (by simpa using hsz) hcl' (fun r hr => ?_) (fun r hr => ?_) ?_ (fun hne => ?_) (by simp) (fun _ e he o ho => ?_) ?_
        · by_cases hri : i = r
          · subst hri; rw [hsz.symm] at hilt; simp [hilt]
          · rw [getD_set_ne true hri]
            rcases List.mem_append.1 hr with h4 | h4
            · exact hRd r h4
            · simp at h4; exact absurd h4.symm hri
        · have hri : i ≠ r := by
            rintro rfl
            have : (Rd ++ i :: rest).Nodup := hR ▸ (List.nodup_append.1 hnd).2.1
            exact (List.nodup_cons.1 (List.nodup_append.1 this).2.1).1 hr
          rw [getD_set_ne true hri]; exact hR' r (by simp [hr])
        · rw [hfs]; simp only [List.length_cons] at hn; omega
        · rw [hfs] at hne
          exact (quiet_const _ _ h3) (hneed hne)
        · rw [hfs] at he
          cases ph with
          | true => exact hphE rfl e he o ho
          | false =>
            have he' := (hunE e).1 he
            have h4 := hcalls e he'.1
            rw [ho] at h4
            simp only [Bool.or_eq_true, Bool.not_eq_true'] at h4
            rcases h4 with h4 | h4
            · exact h4
            · exfalso
              have hRd0 := (hphC rfl).2
              subst hRd0
              rw [List.nil_append] at hR
              rw [hR] at h4
              have h5 := anc_listed hcl ops.size i e (fun o ho => by
                have : o = oi := Option.some.inj (ho.symm.trans hoi)
                subst this; exact hall) h4
              rw [getD_both he'.2] at h5
              cases h5
        · rw [hfs]
          refine wpQuiet_mono (fun a'' h'' => ?_) _ _ h3
          unfold Zf
          rw [if_pos rfl]
          exact h''.2

/-- The walk over a region: first the quiet ones, then the acting ones. -/
theorem wp_region_mix {id : Nat} {a : Act} {w : World} (E R : List Nat) (C : World → Prop) (hm : P.follows .mixedOrders = true) (hB : mixB ops E R = true) (hC : C w.drew)
    (h : wpQuiet P ops C (fun a' => ∀ w', C w' → wpR P ops Q C E R a' w') (opsAt ops E) a) : (Code.region id ops true).wp P Q a w := by
  refine wp_region_noPanic (wp_region_any hm ?_)
  have hlen : E.length + R.length = ops.size := by
    simp only [mixB, Bool.and_eq_true, decide_eq_true_eq] at hB
    exact hB.1.1.1.1.1.1.1.1.2
  have hall : E.filter (unl (Array.replicate ops.size false)) = E := by
    rw [List.filter_eq_self]
    intro i hi
    have hcov : predsB ops E i = true := by
      simp only [mixB, Bool.and_eq_true, List.all_eq_true] at hB
      exact hB.1.1.1.1.1.1.2 i hi
    have : i < ops.size := by
      unfold predsB at hcov
      split at hcov
      · rename_i o ho; exact (Array.getElem?_eq_some_iff.1 ho).1
      · cases hcov
    simp [unl, this]
  have hRlt : ∀ r ∈ R, r < ops.size := by
    intro r hr
    have hcov : predsB ops (E ++ R) r = true := by
      simp only [mixB, Bool.and_eq_true, List.all_eq_true] at hB
      exact hB.1.1.1.1.2 r hr
    unfold predsB at hcov
    split at hcov
    · rename_i o ho; exact (Array.getElem?_eq_some_iff.1 ho).1
    · cases hcov
  refine mix_main hB ops.size (Array.replicate ops.size false) [] R a w.drew false rfl (by simp) (fun j oj _ hl => by rw [getD_replicate_false] at hl; cases hl) (fun r hr => by cases hr)
    (fun r hr => by simp [hRlt r hr]) (by rw [hall]; exact hlen) (fun _ => hC) (fun _ => ⟨hC, rfl⟩) (fun h => by cases h) ?_
  rw [hall]
  exact wpQuiet_mono (fun a' h' => by unfold Zf; rw [if_neg (by simp)]; exact h') _ _ h


/-- The same where no quiet operation is a call: the acting ones begin in the very world behind the draw. -/
theorem wp_region_mix0 {id : Nat} {a : Act} {w : World} (E R : List Nat) (C : World → Prop) (hm : P.follows .mixedOrders = true) (hB : mixB ops E R = true) (hE : (E.all fun e => match ops[e]? with | some o => !isCall o | none => false) = true) (hC : C w.drew)
    (h : wpQuiet P ops C (fun a' => wpR P ops Q C E R a' w.drew) (opsAt ops E) a) : (Code.region id ops true).wp P Q a w := by
  refine wp_region_noPanic (wp_region_any hm ?_)
  have hlen : E.length + R.length = ops.size := by
    simp only [mixB, Bool.and_eq_true, decide_eq_true_eq] at hB
    exact hB.1.1.1.1.1.1.1.1.2
  have hall : E.filter (unl (Array.replicate ops.size false)) = E := by
    rw [List.filter_eq_self]
    intro i hi
    have hcov : predsB ops E i = true := by
      simp only [mixB, Bool.and_eq_true, List.all_eq_true] at hB
      exact hB.1.1.1.1.1.1.2 i hi
    have : i < ops.size := by
      unfold predsB at hcov
      split at hcov
      · rename_i o ho; exact (Array.getElem?_eq_some_iff.1 ho).1
      · cases hcov
    simp [unl, this]
  have hRlt : ∀ r ∈ R, r < ops.size := by
    intro r hr
    have hcov : predsB ops (E ++ R) r = true := by
      simp only [mixB, Bool.and_eq_true, List.all_eq_true] at hB
      exact hB.1.1.1.1.2 r hr
    unfold predsB at hcov
    split at hcov
    · rename_i o ho; exact (Array.getElem?_eq_some_iff.1 ho).1
    · cases hcov
  refine mix_main hB ops.size (Array.replicate ops.size false) [] R a w.drew true rfl (by simp) (fun j oj _ hl => by rw [getD_replicate_false] at hl; cases hl) (fun r hr => by cases hr)
    (fun r hr => by simp [hRlt r hr]) (by rw [hall]; exact hlen) (fun _ => hC) (fun h => by cases h) (fun _ e he o ho => ?_) ?_
  · rw [hall] at he
    have h1 := List.all_eq_true.1 hE e he
    rw [ho] at h1
    simpa using h1
  · rw [hall]
    exact wpQuiet_mono (fun a' h' => by unfold Zf; rw [if_pos rfl]; exact h') _ _ h

/-- What stands behind one acting operation. -/
def Qn (P : Program) (ops : Array Oper) (Q : Exit → Act → World → Prop) (C : World → Prop) (E rest : List Nat) (b : Bool) : Exit → Act → World → Prop
  | .normal, a, w => (b = true → C w) ∧ wpR P ops Q C E rest a w
  | .panic _, _, _ => False
  | e, a, w => Q e a w
theorem Qn_normal {E rest : List Nat} {b : Bool} {a : Act} {w : World} : Qn P ops Q C E rest b .normal a w = ((b = true → C w) ∧ wpR P ops Q C E rest a w) := rfl
theorem NoPanic_normal {a : Act} {w : World} : NoPanic Q .normal a w = Q .normal a w := rfl

theorem wpR_nil {E : List Nat} {a : Act} {w : World} (h : Q .normal a w) : wpR P ops Q C E [] a w := h
theorem wpR_cons {E rest : List Nat} {r : Nat} {o : Oper} {a : Act} {w : World} (b : Bool) (hr : ops[r]? = some o) (hb : needB ops E r = b) (h : wpList P ops (Qn P ops Q C E rest b) [o] a w) : wpR P ops Q C E (r :: rest) a w := by
  unfold wpR wpOp
  simp only [hr]
  unfold wpList at h
  have hl : LetsOut (Qn P ops Q C E rest b) → LetsOut (NoPanic Q) := fun ⟨a, w, h⟩ => ⟨a, w, h⟩
  have hk : ∀ a' w', wpList P ops (Qn P ops Q C E rest b) [] a' w' → (needB ops E r = true → C w') ∧ wpR P ops Q C E rest a' w' := fun a' w' h' => by
    rw [hb]; exact h'
  split
  · rename_i hw
    rw [if_pos hw] at h
    rcases h with h | ⟨h1, h2⟩
    · refine .inl ?_
      unfold Oper.wp at *
      generalize (execOp a.eval o).run P w = r at *
      cases r with
      | ok n w' =>
        cases n <;> simp only [Oper.upon] at h ⊢
        case value u => exact hk _ _ h
        case skip => exact hk _ _ h
        case defer d => exact hk _ _ h
        case enter f args =>
          refine Calls.mono h fun e w'' he => ?_
          cases e with
          | returned u => exact hk _ _ he
          | panicked c => exact he
          | outgrown => exact hl he
        case row row args => exact Rows.mono h fun u w'' he => hk _ _ he
      | halt x w' => cases x <;> simp only [Oper.upon] at h ⊢ <;> exact h
    · exact .inr ⟨h1, hl h2⟩
  · rename_i hw
    rw [if_neg hw] at h
    exact hk _ _ h

/-- The last acting operations in one walk, where the class is not asked any more. -/
theorem wpR_list {E : List Nat} : ∀ (R : List Nat) (a : Act) (w : World), (R.all fun r => !needB ops E r && decide (r < ops.size)) = true → wpList P ops (NoPanic Q) (opsAt ops R) a w → wpR P ops Q C E R a w
  | [], _, _, _, h => h
  | r :: R, a, w, hn, h => by
    rw [List.all_cons, Bool.and_eq_true] at hn
    obtain ⟨hn1, hn2⟩ := hn
    rw [Bool.and_eq_true, Bool.not_eq_true', decide_eq_true_eq] at hn1
    have hr : ops[r]? = some (ops.getD r default) := by simp [hn1.2]
    unfold wpR wpOp
    simp only [hr]
    unfold opsAt at h
    rw [List.map_cons] at h
    unfold wpList at h
    have hk : ∀ a' w', wpList P ops (NoPanic Q) (opsAt ops R) a' w' → (needB ops E r = true → C w') ∧ wpR P ops Q C E R a' w' := fun a' w' h' =>
      ⟨(fun h1 => by rw [hn1.1] at h1; cases h1), wpR_list R a' w' hn2 h'⟩
    split
    · rename_i hw
      rw [if_pos hw] at h
      exact h.imp (fun h => Oper.wp_mono hk h) id
    · rename_i hw
      rw [if_neg hw] at h
      exact hk _ _ h

end
end Go.Proofs.YtdjaphcelpchaaaGreatDoor
