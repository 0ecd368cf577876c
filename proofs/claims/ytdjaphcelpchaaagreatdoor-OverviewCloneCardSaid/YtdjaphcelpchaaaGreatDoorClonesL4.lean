/- Parts of the proofs about bulletinlaw28: Rel, RemoveId, Ref, Ref2, Ref2b, Fork, Ref3. -/
import Derived.Test.YtdjaphcelpchaaaGreatDoorShelf
import Derived.Test.YtdjaphcelpchaaaGreatDoorK1
import Derived.Test.YtdjaphcelpchaaaGreatDoorK2
import Derived.Test.YtdjaphcelpchaaaGreatDoorShelf2
import Derived.Test.YtdjaphcelpchaaaGreatDoorClonesL1
import Derived.Test.YtdjaphcelpchaaaGreatDoorClonesL2
import Derived.Test.YtdjaphcelpchaaaGreatDoorClonesL3

namespace Go.Proofs.YtdjaphcelpchaaaGreatDoor
open Go Go.RowKit Go.Proofs

/-- The index holds the lines of the reference. -/
def RelR (gs : List MG) (rs : List MR) : Prop := ∀ t p, (∃ m ∈ linesIn gs t, m.p = p) ↔ ∃ r ∈ rs, r.s = t ∧ r.m.p = p

theorem RelR.nil : RelR [] [] := fun t p => ⟨fun ⟨m, hm, _⟩ => (by cases hm), fun ⟨r, hr, _⟩ => (by cases hr)⟩

theorem ofR_ord {rs : List MR} (ho : ordR rs) (t : ByteArray) : (ofR rs t).Pairwise fun a b => a.m.p.number < b.m.p.number := by
  refine List.Pairwise.imp_of_mem ?_ (ho.sublist List.filter_sublist)
  intro a b ha hb h
  rcases h with h | ⟨_, h⟩
  · have ea := (ofR_mem.1 ha).2
    have eb := (ofR_mem.1 hb).2
    rw [ea, eb, cmpN_refl] at h
    omega
  · exact h
theorem rel_lines {B : Nat} {w : World} {ib M mc : Nat} {gs : List MG} (h : IdxAt B w ib M gs mc) {rs : List MR} (hr : RelR gs rs) (ho : ordR rs) (t : ByteArray) : (linesIn gs t).map (·.p) = (ofR rs t).map (·.m.p) := by
  refine sorted_ext (R := fun a b : PLine => a.number < b.number) (fun a ha => by omega) (fun a b c h1 h2 => by omega) ?_ ?_ ?_
  · have := h.sorted t
    unfold nums at this
    rw [List.pairwise_map] at this ⊢
    exact this
  · rw [List.pairwise_map]
    exact ofR_ord ho t
  · intro p
    rw [List.mem_map, List.mem_map]
    constructor
    · intro hm
      obtain ⟨r, h1, h2, h3⟩ := (hr t p).1 hm
      exact ⟨r, ofR_mem.2 ⟨h1, h2⟩, h3⟩
    · rintro ⟨r, h1, h3⟩
      exact (hr t p).2 ⟨r, (ofR_mem.1 h1).1, (ofR_mem.1 h1).2, h3⟩
theorem linesIn_of {B : Nat} {w : World} {ib M mc : Nat} {gs : List MG} (h : IdxAt B w ib M gs mc) {G : MG} (hG : G ∈ gs) : linesIn gs G.name = G.ms := by
  unfold linesIn
  rw [groupOf_of h.names hG]
theorem rel_names {B : Nat} {w : World} {ib M mc : Nat} {gs : List MG} (h : IdxAt B w ib M gs mc) {rs : List MR} (hr : RelR gs rs) (ho : ordR rs) {ns : List ByteArray} (hn : ordN ns) (hm : ∀ t, t ∈ ns ↔ ∃ G ∈ gs, G.name = t) : ns = groupsR rs := by
  obtain ⟨h1, h2, _⟩ := groupsR_ok rs ho
  refine ordN_ext hn h1 fun t => ?_
  rw [hm, h2]
  constructor
  · rintro ⟨G, hG, rfl⟩
    have hne := (h.grps G hG).some'
    obtain ⟨m, hmm⟩ := List.exists_mem_of_ne_nil _ hne
    obtain ⟨r, k1, k2, _⟩ := (hr G.name m.p).1 ⟨m, by rw [linesIn_of h hG]; exact hmm, rfl⟩
    exact ⟨r, k1, k2⟩
  · rintro ⟨r, k1, k2⟩
    obtain ⟨m, hmm, _⟩ := (hr t r.m.p).2 ⟨r, k1, k2, rfl⟩
    have hne : linesIn gs t ≠ [] := fun e => by rw [e] at hmm; cases hmm
    obtain ⟨G, hG, _, _⟩ := linesIn_ne hne
    exact ⟨G, groupOf_mem hG⟩
theorem ids_in {B : Nat} {w : World} {ib M mc : Nat} {gs : List MG} (h : IdxAt B w ib M gs mc) (t : ByteArray) : ((linesIn gs t).map fun m => m.p.id).Nodup := by
  by_cases hne : linesIn gs t = []
  · rw [hne]; exact .nil
  · obtain ⟨G, hG, e, _⟩ := linesIn_ne hne
    rw [e]
    exact (h.grps G (groupOf_mem hG).1).ids
theorem rel_add {gs gs' : List MG} {rs : List MR} (hr : RelR gs rs) {s : ByteArray} {p : PLine} {v v' : Value} {i : Nat} (hl : ∀ t, linesIn gs' t = if t = s then addMs (linesIn gs s) i ⟨p, v⟩ else linesIn gs t) : RelR gs' (addR rs ⟨s, ⟨p, v'⟩⟩) := by
  intro t q
  rw [hl]
  by_cases ht : t = s
  · subst ht
    simp only [if_true, addMs_mem, addR_mem]
    constructor
    · rintro ⟨m, rfl | hm, rfl⟩
      · exact ⟨_, .inl rfl, rfl, rfl⟩
      · obtain ⟨r, h1, h2, h3⟩ := (hr t m.p).1 ⟨m, hm, rfl⟩
        exact ⟨r, .inr h1, h2, h3⟩
    · rintro ⟨r, rfl | h1, h2, h3⟩
      · exact ⟨_, .inl rfl, h3⟩
      · obtain ⟨m, hm, e⟩ := (hr t q).2 ⟨r, h1, h2, h3⟩
        exact ⟨m, .inr hm, e⟩
  · simp only [ht, if_false, addR_mem]
    rw [hr t q]
    constructor
    · rintro ⟨r, h1, h2⟩; exact ⟨r, .inr h1, h2⟩
    · rintro ⟨r, rfl | h1, h2, h3⟩
      · exact absurd h2.symm ht
      · exact ⟨r, h1, h2, h3⟩
theorem mem_erase_key {α β : Type} (K : α → β) {R : α → α → Prop} (hne : ∀ x y, R x y → K x ≠ K y) : ∀ {l : List α} {i : Nat} {a : α}, l.Pairwise R → l[i]? = some a → ∀ x, x ∈ l.eraseIdx i ↔ x ∈ l ∧ K x ≠ K a
  | b :: l, 0, a, hp, hi, x => by
    rw [List.pairwise_cons] at hp
    rw [List.getElem?_cons_zero, Option.some.injEq] at hi
    subst hi
    rw [List.eraseIdx_zero, List.tail_cons, List.mem_cons]
    constructor
    · intro hx; exact ⟨.inr hx, fun e => hne _ _ (hp.1 x hx) e.symm⟩
    · rintro ⟨rfl | hx, hk⟩
      · exact absurd rfl hk
      · exact hx
  | b :: l, i + 1, a, hp, hi, x => by
    rw [List.pairwise_cons] at hp
    rw [List.getElem?_cons_succ] at hi
    rw [List.eraseIdx_cons_succ, List.mem_cons, List.mem_cons, mem_erase_key K hne hp.2 hi x]
    have hb : K b ≠ K a := hne _ _ (hp.1 a (List.mem_of_getElem? hi))
    constructor
    · rintro (rfl | ⟨h1, h2⟩)
      · exact ⟨.inl rfl, hb⟩
      · exact ⟨.inr h1, h2⟩
    · rintro ⟨rfl | h1, h2⟩
      · exact .inl rfl
      · exact .inr ⟨h1, h2⟩
theorem ltR_key (a b : MR) (h : ltR a b) : (a.s, a.m.p.number) ≠ (b.s, b.m.p.number) := by
  intro e
  rw [Prod.mk.injEq] at e
  rcases h with h | ⟨_, h⟩
  · rw [e.1, cmpN_refl] at h; omega
  · omega
theorem rel_remove {B : Nat} {w : World} {ib M mc : Nat} {gs gs' : List MG} (h : IdxAt B w ib M gs mc) {rs : List MR} (hr : RelR gs rs) (ho : ordR rs) {s : ByteArray} {n : Int} {i j : Nat} {m : ML} {r : MR} (hi : (linesIn gs s)[i]? = some m) (hm : m.p.number = n) (hj : rs[j]? = some r) (hs : r.s = s) (hn : r.m.p.number = n)
    (hl : ∀ t, linesIn gs' t = if t = s then (linesIn gs s).eraseIdx i else linesIn gs t) : RelR gs' (rs.eraseIdx j) := by
  intro t p
  have hsort := h.sorted s
  unfold nums at hsort
  rw [List.pairwise_map] at hsort
  have e1 := mem_erase_key (fun m : ML => m.p.number) (fun x y hxy => by omega) hsort hi
  have e2 := mem_erase_key (fun r : MR => (r.s, r.m.p.number)) ltR_key ho hj
  rw [hl]
  by_cases ht : t = s
  · subst ht
    simp only [if_true]
    constructor
    · rintro ⟨m', h1, rfl⟩
      rw [e1] at h1
      obtain ⟨r', k1, k2, k3⟩ := (hr t m'.p).1 ⟨m', h1.1, rfl⟩
      refine ⟨r', (e2 r').2 ⟨k1, fun e => h1.2 ?_⟩, k2, k3⟩
      rw [Prod.mk.injEq] at e
      rw [hm, ← k3, e.2, hn]
    · rintro ⟨r', h1, k2, rfl⟩
      rw [e2] at h1
      obtain ⟨m', k1, k3⟩ := (hr t r'.m.p).2 ⟨r', h1.1, k2, rfl⟩
      refine ⟨m', (e1 m').2 ⟨k1, fun e => h1.2 ?_⟩, k3⟩
      rw [k2, hs, ← k3, e, hm, hn]
  · simp only [ht, if_false]
    rw [hr t p]
    constructor
    · rintro ⟨r', h1, h2, h3⟩
      exact ⟨r', (e2 r').2 ⟨h1, fun e => ht (by rw [Prod.mk.injEq] at e; rw [← h2, e.1, hs])⟩, h2, h3⟩
    · rintro ⟨r', h1, h2, h3⟩
      exact ⟨r', ((e2 r').1 h1).1, h2, h3⟩
/-- What stays when an article is removed. -/
def outId (ms : List ML) (x : Id32) : List ML := ms.filter fun m => decide (m.p.id ≠ x)
def outR (rs : List MR) (x : Id32) : List MR := rs.filter fun r => decide (r.m.p.id ≠ x)
theorem rel_removeId {gs gs' : List MG} {rs : List MR} (hr : RelR gs rs) {x : Id32} (hl : ∀ t, linesIn gs' t = outId (linesIn gs t) x) : RelR gs' (outR rs x) := by
  intro t p
  rw [hl]
  unfold outId outR
  simp only [List.mem_filter, decide_eq_true_eq]
  constructor
  · rintro ⟨m, ⟨h1, h2⟩, rfl⟩
    obtain ⟨r, k1, k2, k3⟩ := (hr t m.p).1 ⟨m, h1, rfl⟩
    exact ⟨r, ⟨k1, by rw [k3]; exact h2⟩, k2, k3⟩
  · rintro ⟨r, ⟨h1, h2⟩, k2, rfl⟩
    obtain ⟨m, k1, k3⟩ := (hr t r.m.p).2 ⟨r, h1, k2, rfl⟩
    exact ⟨m, ⟨k1, by rw [k3]; exact h2⟩, k3⟩
theorem outR_ord {rs : List MR} (ho : ordR rs) (x : Id32) : ordR (outR rs x) := ho.sublist List.filter_sublist
theorem erase_ord {rs : List MR} (ho : ordR rs) (j : Nat) : ordR (rs.eraseIdx j) := ho.sublist (List.eraseIdx_sublist rs j)
theorem erase_id : ∀ {ms : List ML} {i : Nat} {m : ML}, (ms.map fun m => m.p.id).Nodup → ms[i]? = some m → ms.eraseIdx i = outId ms m.p.id
  | a :: ms, 0, m, hn, hi => by
    rw [List.getElem?_cons_zero, Option.some.injEq] at hi
    subst hi
    rw [List.map_cons, List.nodup_cons] at hn
    unfold outId
    rw [List.filter_cons_of_neg (by simp), List.eraseIdx_zero, List.tail_cons, List.filter_eq_self.2]
    intro b hb
    rw [decide_eq_true_eq]
    exact fun e => hn.1 (e ▸ List.mem_map.2 ⟨b, hb, rfl⟩)
  | a :: ms, i + 1, m, hn, hi => by
    rw [List.map_cons, List.nodup_cons] at hn
    rw [List.getElem?_cons_succ] at hi
    have : a.p.id ≠ m.p.id := fun e => hn.1 (e ▸ List.mem_map.2 ⟨m, List.mem_of_getElem? hi, rfl⟩)
    unfold outId
    rw [List.eraseIdx_cons_succ, List.filter_cons_of_pos (by simpa using this), erase_id hn.2 hi]
    rfl
/-- Where tells of the reference's list. -/
theorem rel_where {B : Nat} {w : World} {ib M mc : Nat} {gs : List MG} (h : IdxAt B w ib M gs mc) {rs : List MR} (hr : RelR gs rs) (ho : ordR rs) (x : Id32) :
    whereAt gs (groupsR rs) x = (rs.filter fun r => decide (r.m.p.id = x)).map fun r => (r.s, r.m.p.number) := by
  conv => rhs; rw [flat_groups ho]
  unfold whereAt
  have key : ∀ t, (placeIn gs x t).toList = ((ofR rs t).filter fun r => decide (r.m.p.id = x)).map fun r => (r.s, r.m.p.number) := by
    intro t
    have hl := rel_lines h hr ho t
    have hn := ids_in h t
    have hall : ∀ r ∈ ofR rs t, r.s = t := fun r hr => (ofR_mem.1 hr).2
    unfold placeIn
    generalize ofR rs t = l at hl hall
    generalize linesIn gs t = ms at hl hn
    induction ms generalizing l with
    | nil =>
      cases l with
      | nil => rfl
      | cons r l => cases hl
    | cons m ms ih =>
      cases l with
      | nil => cases hl
      | cons r l =>
        rw [List.map_cons, List.map_cons, List.cons.injEq] at hl
        rw [List.map_cons, List.nodup_cons] at hn
        by_cases hx : m.p.id = x
        · have hx2 : r.m.p.id = x := by rw [← hl.1]; exact hx
          have hno : l.filter (fun r => decide (r.m.p.id = x)) = [] := by
            rw [List.filter_eq_nil_iff]
            intro a ha hax
            rw [decide_eq_true_eq] at hax
            have : a.m.p ∈ ms.map (·.p) := by rw [hl.2]; exact List.mem_map.2 ⟨a, ha, rfl⟩
            obtain ⟨m', hm', e⟩ := List.mem_map.1 this
            exact hn.1 (List.mem_map.2 ⟨m', hm', by rw [e, hax, hx]⟩)
          rw [List.find?_cons_of_pos (by simpa using hx), List.filter_cons_of_pos (by simpa using hx2), hno]
          simp [hall r (by simp), hl.1]
        · have hx2 : ¬ r.m.p.id = x := by rw [← hl.1]; exact hx
          rw [List.find?_cons_of_neg (by simpa using hx), List.filter_cons_of_neg (by simpa using hx2)]
          exact ih l (fun r hr => hall r (List.mem_cons_of_mem _ hr)) hl.2 hn.2
  have hf : ∀ l : List ByteArray, l.filterMap (placeIn gs x) = ((l.flatMap (ofR rs)).filter fun r => decide (r.m.p.id = x)).map fun r => (r.s, r.m.p.number) := by
    intro l
    induction l with
    | nil => rfl
    | cons t l ih =>
      rw [List.flatMap_cons, List.filter_append, List.map_append, ← ih, ← key t]
      cases hp : placeIn gs x t with
      | none => rw [List.filterMap_cons_none hp]; rfl
      | some a => rw [List.filterMap_cons_some hp]; rfl
  exact hf _
/-- What the reference's Add finds. -/
def clashR (rs : List MR) (s : ByteArray) (p : PLine) : Bool := rs.any fun r => decide (r.s = s) && (decide (r.m.p.number = p.number) || decide (r.m.p.id = p.id))
theorem rel_clash {gs : List MG} {rs : List MR} (hr : RelR gs rs) (s : ByteArray) (p : PLine) : (hasNum (linesIn gs s) p.number || hasId (linesIn gs s) p.id) = clashR rs s p := by
  rw [Bool.eq_iff_iff]
  unfold hasNum hasId clashR nums
  simp only [Bool.or_eq_true, List.contains_iff_mem, List.mem_map, List.any_eq_true, decide_eq_true_eq, Bool.and_eq_true]
  constructor
  · rintro (⟨m, h1, h2⟩ | ⟨m, h1, h2⟩)
    · obtain ⟨r, k1, k2, k3⟩ := (hr s m.p).1 ⟨m, h1, rfl⟩
      exact ⟨r, k1, k2, .inl (by rw [k3]; exact h2)⟩
    · obtain ⟨r, k1, k2, k3⟩ := (hr s m.p).1 ⟨m, h1, rfl⟩
      exact ⟨r, k1, k2, .inr (by rw [k3]; exact h2)⟩
  · rintro ⟨r, k1, k2, k3⟩
    obtain ⟨m, h1, h2⟩ := (hr s r.m.p).2 ⟨r, k1, k2, rfl⟩
    rcases k3 with k3 | k3
    · exact .inl ⟨m, h1, by rw [h2]; exact k3⟩
    · exact .inr ⟨m, h1, by rw [h2]; exact k3⟩
/-- The place of a number. -/
def findR (rs : List MR) (s : ByteArray) (n : Int) : Option Nat := rs.findIdx? fun r => decide (r.s = s) && decide (r.m.p.number = n)
theorem rel_find_none {gs : List MG} {rs : List MR} (hr : RelR gs rs) {s : ByteArray} {n : Int} (hf : findR rs s n = none) : hasNum (linesIn gs s) n = false := by
  unfold findR at hf
  rw [List.findIdx?_eq_none_iff] at hf
  rw [Bool.eq_false_iff]
  intro h
  unfold hasNum nums at h
  rw [List.contains_iff_mem, List.mem_map] at h
  obtain ⟨m, h1, h2⟩ := h
  obtain ⟨r, k1, k2, k3⟩ := (hr s m.p).1 ⟨m, h1, rfl⟩
  have := hf r k1
  simp [k2, k3, h2] at this
theorem find_some_at {rs : List MR} {s : ByteArray} {n : Int} {j : Nat} (hf : findR rs s n = some j) : ∃ r, rs[j]? = some r ∧ r.s = s ∧ r.m.p.number = n := by
  unfold findR at hf
  rw [List.findIdx?_eq_some_iff_getElem] at hf
  obtain ⟨h1, h2, _⟩ := hf
  rw [Bool.and_eq_true, decide_eq_true_eq, decide_eq_true_eq] at h2
  exact ⟨_, List.getElem?_eq_getElem h1, h2⟩
theorem rel_has {gs : List MG} {rs : List MR} (hr : RelR gs rs) {s : ByteArray} {n : Int} {r : MR} (h1 : r ∈ rs) (h2 : r.s = s) (h3 : r.m.p.number = n) : hasNum (linesIn gs s) n = true := by
  obtain ⟨m, k1, k2⟩ := (hr s r.m.p).2 ⟨r, h1, h2, rfl⟩
  unfold hasNum nums
  rw [List.contains_iff_mem, List.mem_map]
  exact ⟨m, k1, by rw [k2]; exact h3⟩

end Go.Proofs.YtdjaphcelpchaaaGreatDoor

namespace Go.Proofs.YtdjaphcelpchaaaGreatDoor
open Go Go.RowKit Go.Proofs

attribute [local go_sem ↓] ex_load_id ex_store_id ex_load_line ex_store_line ex_alloc_line ex_build_line

attribute [local go_sem] ld_id st_id ld_line st_line guard_id okCells_drew rdCells_drew okCells_drewN rdCells_drewN rowOk_drew rowOk_cells okCells_cells rdCells_cells setRow_drew setRow_new setRow_past

theorem where_fst (gs : List MG) (ns : List ByteArray) (x : Id32) : (whereAt gs ns x).map Prod.fst = ns.filter fun t => (placeIn gs x t).isSome := by
  unfold whereAt
  induction ns with
  | nil => rfl
  | cons t ns ih =>
    cases hp : placeIn gs x t with
    | none => rw [List.filterMap_cons_none hp, List.filter_cons_of_neg (by simp [hp])]; exact ih
    | some a =>
      have : a.1 = t := by
        unfold placeIn at hp
        obtain ⟨m, _, rfl⟩ := Option.map_eq_some_iff.1 hp
        rfl
      rw [List.filterMap_cons_some hp, List.filter_cons_of_pos (by simp [hp]), List.map_cons, ih, this]
theorem where_mem {gs : List MG} {ns : List ByteArray} {x : Id32} {a : PL} (ha : a ∈ whereAt gs ns x) : ∃ m ∈ linesIn gs a.1, m.p.id = x ∧ m.p.number = a.2 := by
  unfold whereAt at ha
  obtain ⟨t, _, hp⟩ := List.mem_filterMap.1 ha
  unfold placeIn at hp
  obtain ⟨m, hm, rfl⟩ := Option.map_eq_some_iff.1 hp
  exact ⟨m, List.mem_of_find?_eq_some hm, by simpa using List.find?_some hm, rfl⟩
theorem where_not {gs : List MG} {ns : List ByteArray} {x : Id32} {t : ByteArray} (hm : ∀ t, t ∈ ns ↔ ∃ G ∈ gs, G.name = t) (ht : t ∉ (whereAt gs ns x).map Prod.fst) : outId (linesIn gs t) x = linesIn gs t := by
  rw [where_fst, List.mem_filter, not_and] at ht
  unfold outId
  rw [List.filter_eq_self]
  intro m hmm
  rw [decide_eq_true_eq]
  intro e
  have hne : linesIn gs t ≠ [] := fun e => by rw [e] at hmm; cases hmm
  obtain ⟨G, hG, _, _⟩ := linesIn_ne hne
  refine ht ((hm t).2 ⟨G, groupOf_mem hG⟩) ?_
  unfold placeIn
  rw [Option.isSome_map, List.find?_isSome]
  exact ⟨m, hmm, by simpa using e⟩
theorem where_nodup {gs : List MG} {ns : List ByteArray} (x : Id32) (hn : ordN ns) : ((whereAt gs ns x).map Prod.fst).Nodup := by
  rw [where_fst]
  refine (List.Pairwise.imp ?_ hn : ns.Nodup).sublist List.filter_sublist
  intro a b hab e
  rw [e, cmpN_refl] at hab
  omega

/-- What a round of RemoveId keeps. -/
structure IdRound (B ib M : Nat) (gs : List MG) (x : Id32) (ps : List PL) (w1 : World) (k : Nat) (gsk : List MG) (mck : Nat) (wr : World) : Prop where
  idx : IdxAt B wr ib M gsk mck
  kept : Kept (foot ib M gs) w1 wr
  foot : FootOk (Go.Proofs.YtdjaphcelpchaaaGreatDoor.foot ib M gs) (Go.Proofs.YtdjaphcelpchaaaGreatDoor.foot ib M gsk) w1
  lines : ∀ t, (t ∈ (ps.take k).map Prod.fst → linesIn gsk t = outId (linesIn gs t) x) ∧ (t ∉ (ps.take k).map Prod.fst → linesIn gsk t = linesIn gs t)
  tot : total gsk ≤ total gs
theorem IdRound.later {B ib M : Nat} {gs : List MG} {x : Id32} {ps : List PL} {w1 : World} {k : Nat} {gsk : List MG} {mck : Nat} {wr w2 : World} (h : IdRound B ib M gs x ps w1 k gsk mck wr) (hb : Below wr.heap.size wr w2) : IdRound B ib M gs x ps w1 k gsk mck w2 :=
  ⟨h.idx.below hb, h.kept.trans (Kept.of_below (F := []) hb) (fun _ hk => by cases hk), h.foot, h.lines, h.tot⟩
theorem IdRound.next {B ib M : Nat} {gs : List MG} {x : Id32} {ps : List PL} {w1 : World} {k : Nat} {gsk : List MG} {mck : Nat} {wr w3 : World} {h0 : World} {mc0 : Nat} (h : IdRound B ib M gs x ps w1 k gsk mck wr) (hX : IdxAt B h0 ib M gs mc0) (hk : k < ps.length) (hnd : (ps.map Prod.fst).Nodup)
    (hm : ∃ m ∈ linesIn gs ps[k].1, m.p.id = x ∧ m.p.number = ps[k].2) {r : Ending} (hp : RemovePost B ib M gsk ps[k].1 ps[k].2 wr r w3) : ∃ gsn mcn, IdRound B ib M gs x ps w1 (k + 1) gsn mcn w3 := by
  obtain ⟨m, hm1, hm2, hm3⟩ := hm
  have htk : ps.take (k + 1) = ps.take k ++ [ps[k]] := List.take_succ_eq_append_getElem hk
  have hnot : ps[k].1 ∉ (ps.take k).map Prod.fst := by
    have h1 := hnd.sublist ((List.take_sublist (k + 1) ps).map Prod.fst)
    rw [htk, List.map_append, List.nodup_append] at h1
    intro h2
    exact h1.2.2 _ h2 _ (by simp) rfl
  have hl := (h.lines ps[k].1).2 hnot
  rcases hp with ⟨hno, _, _⟩ | ⟨i, m', hi, hn, _, gsn, mcn, hr⟩
  · exfalso
    rw [hl] at hno
    have : hasNum (linesIn gs ps[k].1) ps[k].2 = true := by
      unfold hasNum nums
      rw [List.contains_iff_mem, List.mem_map]
      exact ⟨m, hm1, hm3⟩
    rw [this] at hno
    cases hno
  · rw [hl] at hi
    have hsort := hX.sorted ps[k].1
    have hmm : m' = m := by
      obtain ⟨j, hj⟩ := List.mem_iff_getElem?.1 hm1
      unfold nums at hsort
      rw [List.pairwise_map] at hsort
      obtain ⟨i1, i2⟩ := List.getElem?_eq_some_iff.1 hi
      obtain ⟨j1, j2⟩ := List.getElem?_eq_some_iff.1 hj
      rw [List.pairwise_iff_getElem] at hsort
      rcases Nat.lt_trichotomy i j with hlt | heq | hlt
      · have := hsort i j i1 j1 hlt
        rw [i2, j2] at this
        omega
      · subst heq; rw [← i2, ← j2]
      · have := hsort j i j1 i1 hlt
        rw [i2, j2] at this
        omega
    subst hmm
    have her := erase_id (ids_in hX ps[k].1) hi
    rw [hm2] at her
    refine ⟨gsn, mcn, hr.idx, h.kept.trans hr.kept h.foot, fun j hj => ?_, fun t => ?_, by have := hr.tot; have := h.tot; omega⟩
    · rcases hr.foot j hj with h1 | h1
      · exact h.foot j h1
      · exact .inr (Nat.le_trans h.kept.size h1)
    · rw [hr.lines t, htk, List.map_append]
      by_cases ht : t = ps[k].1
      · subst ht
        rw [if_pos rfl, hl, her]
        exact ⟨fun _ => rfl, fun hn => absurd (by simp) hn⟩
      · rw [if_neg ht]
        have : (t ∈ (ps.take k).map Prod.fst ++ [ps[k]].map Prod.fst) = (t ∈ (ps.take k).map Prod.fst) := by simp [ht]
        rw [this]
        exact h.lines t

/-- What RemoveId does. -/
def RemoveIdPost (B ib M : Nat) (gs : List MG) (x : Id32) (w : World) (r : Ending) (w' : World) : Prop := ∃ ns gs' mc', ordN ns ∧ (∀ t, t ∈ ns ↔ ∃ G ∈ gs, G.name = t) ∧ r = .returned (.int .i64 (whereAt gs ns x).length) ∧
  IdxAt B w' ib M gs' mc' ∧ Kept (foot ib M gs) w w' ∧ FootOk (foot ib M gs) (foot ib M gs') w ∧ (∀ t, linesIn gs' t = outId (linesIn gs t) x) ∧ total gs' ≤ total gs

set_option maxRecDepth 100000 in
set_option maxHeartbeats 4000000 in
theorem removeId_any (B ib M mc : Nat) (gs : List MG) (x : Id32) (w : World) (hG : Gl w) (h : IdxAt B w ib M gs mc) :
    Calls Tryz.prog 46 #[.pointer (some ⟨ib, 0, none⟩), .agg (encId x).toArray] w fun r w' => RemoveIdPost B ib M gs x w r w' := by
  obtain ⟨W, hW⟩ : ∃ W, W = w.alloc (.cells (encId x).toArray 23) := ⟨_, rfl⟩
  have hb0 : Below w.heap.size w W := by rw [hW]; exact (Below.refl _ _).alloc (Nat.le_refl _) _
  have hs0 : W.heap.size = w.heap.size + 1 := by rw [hW]; simp
  have hq := rd_of_block (w := w.alloc (.cells (encId x).toArray 23)) (b := w.heap.size) (x := x) (heap_alloc_new _ _)
  obtain ⟨hq1, hq2⟩ := hq
  have HWH := Lib.hid (where_any B ib M mc gs x W (hG.later hb0) (h.below hb0))
  have HB := Lib.hid hb0
  have HX := Lib.hid h
  clear hb0 h hG
  go_enter Tryz.func46, Tryz.ntmps46
  go_wp2_with fail
  rw [← hW]
  clear hW hq1 hq2
  refine HWH.out.mono ?_
  rintro r w1 ⟨v, ns, rfl, hrow, hord, hmem, hb1⟩
  have HB1 := Lib.hid (HB.out.trans (hb1.mono HB.out.size) : Below w.heap.size w w1)
  have HO := Lib.hid hord
  have HM := Lib.hid hmem
  obtain ⟨ps, hps⟩ : ∃ ps, ps = whereAt gs ns x := ⟨_, rfl⟩
  rw [← hps] at hrow
  have HPS := Lib.hid hps
  clear hord hmem hps HWH hb1
  rcases hrow.2 with ⟨rfl, h0⟩ | ⟨b, cap, cur, rfl, hbB, hcur, hle, hmx, hcs, htk⟩
  · have HP0 : Hid (ps = []) := Lib.hid (List.length_eq_zero_iff.1 h0)
    clear hrow h0
    go_wp2
    go_loop [13] (fun i => i = .int .i64 0) (fun _ => 0)
    case atStart => exact rfl
    case round =>
      obtain rfl := hrel
      go_wp2
      go_ret
      have he : whereAt gs ns x = [] := by rw [← HPS.out]; exact HP0.out
      refine ⟨ns, gs, mc, HO.out, HM.out, by rw [he]; rfl, HX.out.below HB1.out, Kept.of_below HB1.out, fun k hk => .inl hk, fun t => (where_not HM.out (by rw [he]; simp)).symm, Nat.le_refl _⟩
  · have HROW := Lib.hid hrow
    have HCUR := Lib.hid hcur
    have hbl : b < w1.heap.size := (Array.getElem?_eq_some_iff.1 hcur).1
    have hbw : w.heap.size < b := by omega
    have hps2 : ps.length ≤ 65536 := by
      have h1 := where_nodup (gs := gs) x HO.out
      have h2 : ((whereAt gs ns x).map Prod.fst).length ≤ (gs.map fun G => G.name).length := h1.length_le_of_subset fun t ht => by
        rw [where_fst, List.mem_filter] at ht
        obtain ⟨G, hG, e⟩ := (HM.out t).1 ht.1
        exact List.mem_map.2 ⟨G, hG, e⟩
      rw [List.length_map, List.length_map, ← HPS.out] at h2
      exact Nat.le_trans h2 HX.out.groups
    clear hrow hcur hcs htk
    go_wp2
    go_loopw [13] (fun i wr => ∃ k gsk mck, k ≤ ps.length ∧ i = .int .i64 (k : Nat) ∧ IdRound B ib M gs x ps w1 k gsk mck wr) (fun i _ => ps.length - (intOf i).toNat)
    case atStart => exact ⟨0, gs, mc, by omega, rfl, HX.out.below HB1.out, Kept.of_below (Below.refl _ _), fun k hk => .inl hk, fun t => ⟨fun h => by simp at h, fun _ => rfl⟩, Nat.le_refl _⟩
    case round =>
      obtain ⟨k, gsk, mck, hk, rfl, hrd⟩ := hrel
      by_cases hlt : k < ps.length
      · have hltz : (k : Int) < (ps.length : Int) := by omega
        have hblk : wr.heap[b]? = some (.cells cur 76 (0, 0)) := (hrd.kept.block b hbl (fun hf => by have := (HX.out.foot_lt b hf).2; omega)).trans HCUR.out
        have hcell : ∀ j u, (flatP ps)[j]? = some u → wr.cell? ⟨b, j, none⟩ = some u := fun j u hu => by
          have h1 := World.ownsRow.cells HROW.out (g := b) rfl j u hu
          rw [Addr.add_lit, Nat.zero_add] at h1
          exact (cell_of_row wr b j _ _ _ hblk).trans ((cell_of_row w1 b j _ _ _ HCUR.out).symm.trans h1)
        have hg := flatP_get ps k hlt
        have hc0 := hcell _ _ hg.1
        have hc1 := hcell _ _ hg.2
        obtain ⟨t, ht⟩ : ∃ t, t = ps[k].1 := ⟨_, rfl⟩
        obtain ⟨n, hn⟩ : ∃ n, n = ps[k].2 := ⟨_, rfl⟩
        rw [← ht] at hc0
        rw [← hn] at hc1
        have HT := Lib.hid ht
        have HN := Lib.hid hn
        have HRD := Lib.hid hrd
        clear hcell hg hblk ht hn hrd
        obtain ⟨W2, hW2⟩ : ∃ W2, W2 = wr.alloc (.cells #[.string t, .int .i64 n] 76) := ⟨_, rfl⟩
        have hb2 : Below wr.heap.size wr W2 := by rw [hW2]; exact (Below.refl _ _).alloc (Nat.le_refl _) _
        have HRM := Lib.hid (remove_any B ib M mck gsk t n W2 (HRD.out.idx.below hb2))
        have HRD2 := Lib.hid (HRD.out.later hb2)
        clear hb2
        have hall : ∀ a ∈ ps, ∃ m ∈ linesIn gs a.1, m.p.id = x ∧ m.p.number = a.2 := fun a ha => where_mem (ns := ns) (by rw [← HPS.out]; exact ha)
        have HME := Lib.hid (hall _ (List.getElem_mem hlt))
        have HND : Hid ((ps.map Prod.fst).Nodup) := Lib.hid (by rw [HPS.out]; exact where_nodup x HO.out)
        clear hall
        go_wp2_with fail
        rw [← hW2]
        clear hW2
        refine HRM.out.mono ?_
        intro r w3 hp
        obtain ⟨e, rfl⟩ : ∃ e, r = .returned e := by
          rcases hp with ⟨_, e, _⟩ | ⟨_, _, _, _, e, _⟩
          · exact ⟨_, e⟩
          · exact ⟨_, e⟩
        rw [HT.out, HN.out] at hp
        obtain ⟨gsn, mcn, hnext⟩ := HRD2.out.next HX.out hlt HND.out HME.out hp
        have HNX := Lib.hid hnext
        clear hnext hp
        go_wp2
        go_roundw
        case rel => exact ⟨k + 1, gsn, mcn, by omega, by go_num, HNX.out⟩
        case measure => simp [intOf]; omega
      · have HE : Hid (ps.take k = ps) := Lib.hid (List.take_of_length_le (by omega))
        have HRD := Lib.hid hrd
        clear hrd
        go_wp2
        go_ret
        refine ⟨ns, gsk, mck, HO.out, HM.out, by rw [← HPS.out]; rfl, HRD.out.idx, (Kept.of_below (F := foot ib M gs) HB1.out).trans HRD.out.kept (fun k hk => .inl hk), fun k hk => ?_, fun t => ?_, HRD.out.tot⟩
        · rcases HRD.out.foot k hk with h1 | h1
          · exact .inl h1
          · exact .inr (Nat.le_trans HB1.out.size h1)
        · have h2 := HRD.out.lines t
          rw [HE.out] at h2
          by_cases h1 : t ∈ ps.map Prod.fst
          · exact h2.1 h1
          · rw [h2.2 h1]
            rw [HPS.out] at h1
            exact (where_not HM.out h1).symm

end Go.Proofs.YtdjaphcelpchaaaGreatDoor

namespace Go.Proofs.YtdjaphcelpchaaaGreatDoor
open Go Go.RowKit Go.Proofs

def rList (r : MR) : List Value := .string r.s :: lineList r.m.g
def flatR (rs : List MR) : List Value := rs.flatMap rList
theorem rList_length (r : MR) : (rList r).length = 39 := by simp [rList, lineList_length]
theorem rList_cells (r : MR) : rlineCells r.s r.m.g = (rList r).toArray := rfl
theorem flatR_length (rs : List MR) : (flatR rs).length = rs.length * 39 := by
  induction rs with
  | nil => rfl
  | cons m ms ih => simp [flatR, rList_length] at ih ⊢; omega
theorem flatR_get : ∀ (rs : List MR) (j i : Nat) (hj : j < rs.length), i < 39 → (flatR rs)[j * 39 + i]? = (rList rs[j])[i]?
  | m :: ms, 0, i, _, hi => by
    show ((rList m) ++ flatR ms)[0 * 39 + i]? = _
    rw [Nat.zero_mul, Nat.zero_add, List.getElem?_append_left (by rw [rList_length]; exact hi)]
    rfl
  | m :: ms, j + 1, i, hj, hi => by
    show ((rList m) ++ flatR ms)[(j + 1) * 39 + i]? = _
    rw [List.getElem?_append_right (by rw [rList_length]; omega), rList_length, show (j + 1) * 39 + i - 39 = j * 39 + i by omega]
    exact flatR_get ms j i (by simpa using hj) hi
theorem flatR_append (a b : List MR) : flatR (a ++ b) = flatR a ++ flatR b := by simp [flatR]
theorem flatR_one (r : MR) : flatR [r] = rList r := by simp [flatR]
theorem flatR_take (rs : List MR) (i : Nat) : (flatR rs).take (i * 39) = flatR (rs.take i) := by
  induction rs generalizing i with
  | nil => simp [flatR]
  | cons m ms ih =>
    cases i with
    | zero => simp [flatR]
    | succ i =>
      show ((rList m) ++ flatR ms).take ((i + 1) * 39) = _
      rw [List.take_append, rList_length, show (i + 1) * 39 - 39 = i * 39 by omega, ih, List.take_of_length_le (by rw [rList_length]; omega)]
      rfl
theorem flatR_drop (rs : List MR) (i : Nat) : (flatR rs).drop (i * 39) = flatR (rs.drop i) := by
  induction rs generalizing i with
  | nil => simp [flatR]
  | cons m ms ih =>
    cases i with
    | zero => simp
    | succ i =>
      show ((rList m) ++ flatR ms).drop ((i + 1) * 39) = _
      rw [List.drop_append, rList_length, show (i + 1) * 39 - 39 = i * 39 by omega, ih, List.drop_of_length_le (by rw [rList_length]; omega)]
      rfl
theorem rList_one {r : MR} (h : r.m.v.oneCell' = true) : ∀ u ∈ rList r, u.oneCell' = true := by
  intro u hu
  rcases List.mem_cons.1 hu with rfl | hu
  · rfl
  · exact flat_cells (ms := [r.m]) (fun m hm => by rw [List.mem_singleton.1 hm]; exact h) u (by simpa [flatLines] using hu)
theorem flatR_cells {rs : List MR} (h : ∀ r ∈ rs, r.m.v.oneCell' = true) : ∀ u ∈ flatR rs, u.oneCell' = true := by
  intro u hu
  obtain ⟨r, hr, hu⟩ := List.mem_flatMap.1 hu
  exact rList_one (h r hr) u hu

theorem Tryz.info_rline : (Tryz.prog.info? 26).map (fun i => (i.zero, i.size, i.bytes)) = some (some (.agg (rlineCells ⟨#[]⟩ zeroLine)), 39, 128) := by kernel_rfl
theorem ex_bs_rline (ρ : Operand → Value) (d : Option Tmp) (x : Operand) (ty : TypeId) (pos : String) (af : Array Edge) (g : Option (Nat × Bool)) (w : World) :
    Sem.run Tryz.prog (execOp ρ ⟨d, .buildSlice 49 1 #[(0, x)], ty, pos, af, g⟩) w = bsRes Tryz.prog 49 w (ρ x) := by kernel_rfl
theorem bs_rline (w : World) (s : ByteArray) (g : GLine) : bsRes Tryz.prog 49 w (.agg (rlineCells s g)) = .ok (.value (.slice (some ⟨w.heap.size, 0, none⟩) 1 1)) (w.alloc (.cells (rlineCells s g) 26)) := by
  obtain ⟨i0, hi, hz0, hz1, hz2⟩ := info_parts Tryz.info_rline
  unfold bsRes
  rw [Sem.run_bind, run_buildSlice w 49 26 1 _ (rlineCells s g) i0 _ Tryz.underlying49 hi hz0 (by rw [hz1]; decide) (by rw [hz1]; decide) (by
    rw [hz1]
    exact fill_one _ _ 39 (rlineCells_size s g) (by simp))]
  rfl

attribute [local go_sem ↓] ex_load_id ex_store_id ex_load_line ex_store_line ex_load_rline ex_store_rline ex_alloc_line ex_build_line ex_alloc_rline ex_build_rline ex_bs_rline

attribute [local go_sem] ld_id st_id ld_line st_line ld_rline st_rline guard_id okCells_drew rdCells_drew okCells_drewN rdCells_drewN rowOk_drew rowOk_cells okCells_cells rdCells_cells setRow_drew setRow_new setRow_past bs_rline

/-- A list of the reference in memory. -/
structure RefsAt (B : Nat) (w : World) (v : Value) (rs : List MR) : Prop where
  row : w.ownsRow B 26 39 v rs.length (flatR rs)
  one : ∀ r ∈ rs, r.m.v.oneCell' = true
  names : ∀ r ∈ rs, r.s.size ≤ 100000
  few : rs.length ≤ 100000
theorem RefsAt.nil (B : Nat) (w : World) : RefsAt B w (.slice none 0 0) [] := ⟨World.ownsRow_nil _ _ _ _, fun _ h => (by cases h), fun _ h => (by cases h), Nat.zero_le _⟩
theorem RefsAt.head {B : Nat} {w : World} {v : Value} {rs : List MR} (h : RefsAt B w v rs) : (v = .slice none 0 0 ∧ rs = []) ∨ ∃ g cap cur, v = .slice (some ⟨g, 0, none⟩) rs.length cap ∧ B ≤ g ∧ g < w.heap.size ∧ rs.length ≤ cap ∧ cap ≤ maxLen ∧ w.heap[g]? = some (.cells cur 26 (0, 0)) ∧
    ∀ j u, (flatR rs)[j]? = some u → w.cell? ⟨g, j, none⟩ = some u := by
  rcases h.row.2 with ⟨rfl, h0⟩ | ⟨g, cap, cur, rfl, hg, hcur, hle, hmx, hcs, htk⟩
  · exact .inl ⟨rfl, List.length_eq_zero_iff.1 h0⟩
  · refine .inr ⟨g, cap, cur, rfl, hg, (Array.getElem?_eq_some_iff.1 hcur).1, hle, hmx, hcur, fun j u hu => ?_⟩
    have := World.ownsRow.cells h.row (g := g) rfl j u hu
    rwa [Addr.add_lit, Nat.zero_add] at this
theorem rAt_cell {w : World} {g : Nat} {rs : List MR} (h : ∀ j u, (flatR rs)[j]? = some u → w.cell? ⟨g, j, none⟩ = some u) {k : Nat} (hk : k < rs.length) {i : Nat} {u : Value} (hu : (rList rs[k])[i]? = some u) : w.cell? ⟨g, k * 39 + i, none⟩ = some u := by
  have hi : i < 39 := by have := (List.getElem?_eq_some_iff.1 hu).1; rwa [rList_length] at this
  exact h _ _ (by rw [flatR_get rs k i hk hi]; exact hu)
theorem rAt_rd {w : World} {g : Nat} {rs : List MR} (h : ∀ j u, (flatR rs)[j]? = some u → w.cell? ⟨g, j, none⟩ = some u) {k : Nat} (hk : k < rs.length) : okCells w ⟨g, k * 39, none⟩ 39 = true ∧ rdCells w ⟨g, k * 39, none⟩ 39 = rlineCells rs[k].s rs[k].m.g := by
  have := rd_of_cells (w := w) (a := ⟨g, k * 39, none⟩) (cs := rList rs[k]) (fun j v hj => by rw [Addr.add_lit]; exact rAt_cell h hk hj)
  rw [rList_length] at this
  exact this
theorem rAt_id {w : World} {g : Nat} {rs : List MR} (h : ∀ j u, (flatR rs)[j]? = some u → w.cell? ⟨g, j, none⟩ = some u) {k : Nat} (hk : k < rs.length) : okCells w ⟨g, k * 39 + 2, none⟩ 32 = true ∧ rdCells w ⟨g, k * 39 + 2, none⟩ 32 = (encId rs[k].m.p.id).toArray := by
  have := rd_of_cells (w := w) (a := ⟨g, k * 39 + 2, none⟩) (cs := encId rs[k].m.p.id) (fun j v hj => by
    have hj32 : j < 32 := by have := (List.getElem?_eq_some_iff.1 hj).1; rwa [encId_length] at this
    rw [Addr.add_lit, Nat.add_assoc]
    refine rAt_cell h hk ?_
    rw [← hj, show 2 + j = (j + 1) + 1 by omega]
    unfold rList lineList
    rw [List.getElem?_cons_succ, List.getElem?_cons_succ, List.getElem?_append_left (by rw [encId_length]; exact hj32)]
    rfl)
  rwa [encId_length] at this

set_option maxRecDepth 100000 in
set_option maxHeartbeats 2000000 in
theorem before_any (a b : MR) (w : World) (ha : a.s.size ≤ 100000) (hb : b.s.size ≤ 100000) :
    Calls Tryz.prog 75 #[.agg (rlineCells a.s a.m.g), .agg (rlineCells b.s b.m.g)] w fun r w' => r = .returned (.bool (beforeB a b)) ∧ Below w.heap.size w w' := by
  obtain ⟨W, hW⟩ : ∃ W, W = (w.alloc (.cells (rlineCells a.s a.m.g) 26)).alloc (.cells (rlineCells b.s b.m.g) 26) := ⟨_, rfl⟩
  have hb0 : Below w.heap.size w W := by rw [hW]; exact ((Below.refl _ _).alloc (Nat.le_refl _) _).alloc (by simp) _
  have hs0 : W.heap.size = w.heap.size + 2 := by rw [hW]; simp
  have hA : RVar W w.heap.size a.s a.m.g := by
    unfold RVar
    rw [hW, heap_alloc_old _ _ (by simp), heap_alloc_new]
  have hB : RVar W (w.heap.size + 1) b.s b.m.g := by
    unfold RVar
    have := heap_alloc_new (w.alloc (.cells (rlineCells a.s a.m.g) 26)) (.cells (rlineCells b.s b.m.g) 26)
    rw [hW]
    simpa using this
  have a0 := (hA.cell 0).trans (rc0 a.s a.m.g)
  have b0 := (hB.cell 0).trans (rc0 b.s b.m.g)
  have HA := Lib.hid hA
  have HB := Lib.hid hB
  have HC := Lib.hid (rcompare_any a.s b.s W ha hb)
  have HB0 := Lib.hid hb0
  clear hA hB hb0
  rw [hW] at a0 b0
  go_enter Tryz.func75, Tryz.ntmps75
  go_wp2_with fail
  rw [← hW]
  clear hW a0 b0
  refine HC.out.mono ?_
  rintro r w1 ⟨rfl, hb1⟩
  have hA1 : RVar w1 w.heap.size a.s a.m.g := (hb1.block _ (by omega)).trans HA.out
  have hB1 : RVar w1 (w.heap.size + 1) b.s b.m.g := (hb1.block _ (by omega)).trans HB.out
  have a1 := (hA1.cell 1).trans (rc1 a.s a.m.g)
  have b1 := (hB1.cell 1).trans (rc1 b.s b.m.g)
  have HBB := Lib.hid (HB0.out.trans (hb1.mono HB0.out.size) : Below w.heap.size w w1)
  clear hA1 hB1 HA HB HC HB0 hb1
  have HE : Hid (beforeB a b = (decide (cmpN a.s b.s < 0) || (decide (cmpN a.s b.s = 0) && decide (a.m.g.number < b.m.g.number)))) := Lib.hid rfl
  generalize cmpN a.s b.s = c at HE
  generalize a.m.g.number = na at HE a1
  generalize b.m.g.number = nb at HE b1
  by_cases hc : c < 0
  · have he : beforeB a b = true := by rw [HE.out]; simp [hc]
    go_wp2
    go_ret
    exact ⟨by rw [he]; rfl, HBB.out⟩
  · by_cases hc0 : c = 0
    · subst hc0
      have he : beforeB a b = decide (na < nb) := by rw [HE.out]; simp
      by_cases hn : na < nb
      · go_wp2
        go_ret
        exact ⟨by rw [he, decide_eq_true hn]; rfl, HBB.out⟩
      · go_wp2
        go_ret
        exact ⟨by rw [he]; rfl, HBB.out⟩
    · have he : beforeB a b = decide (c < 0) := by rw [HE.out]; simp [hc0]
      go_wp2
      go_ret
      exact ⟨by rw [he]; rfl, HBB.out⟩

/-- The answer of Find. -/
def findN (rs : List MR) (s : ByteArray) (n : Int) : Int := match findR rs s n with | some j => j | none => -1
theorem findN_at {rs : List MR} {s : ByteArray} {n : Int} {k : Nat} (hk : k < rs.length) (h1 : rs[k].s = s) (h2 : rs[k].m.p.number = n) (h3 : ∀ j (hj : j < rs.length), j < k → ¬ (rs[j].s = s ∧ rs[j].m.p.number = n)) : findN rs s n = k := by
  have : findR rs s n = some k := by
    unfold findR
    rw [List.findIdx?_eq_some_iff_getElem]
    refine ⟨hk, by simp [h1, h2], fun j hj => ?_⟩
    have := h3 j (by omega) hj
    rw [Bool.and_eq_true, decide_eq_true_eq, decide_eq_true_eq]
    exact this
  unfold findN
  rw [this]
theorem findN_no {rs : List MR} {s : ByteArray} {n : Int} (h3 : ∀ j (hj : j < rs.length), ¬ (rs[j].s = s ∧ rs[j].m.p.number = n)) : findN rs s n = -1 := by
  have : findR rs s n = none := by
    unfold findR
    rw [List.findIdx?_eq_none_iff]
    intro r hr
    obtain ⟨j, hj, rfl⟩ := List.getElem_of_mem hr
    have := h3 j hj
    rw [Bool.eq_false_iff, ne_eq, Bool.and_eq_true, decide_eq_true_eq, decide_eq_true_eq]
    exact this
  unfold findN
  rw [this]

set_option maxRecDepth 100000 in
set_option maxHeartbeats 2000000 in
theorem find_ref (B : Nat) (v : Value) (rs : List MR) (s : ByteArray) (n : Int) (w : World) (h : RefsAt B w v rs) :
    Calls Tryz.prog 36 #[v, .string s, .int .i64 n] w fun r w' => r = .returned (.int .i64 (findN rs s n)) ∧ w = w' := by
  have hfew := h.few
  rcases h.head with ⟨rfl, rfl⟩ | ⟨g, cap, cur, rfl, hB, hlt, hle, hmx, hcur, hcell⟩
  · clear h
    go_enter Tryz.func36, Tryz.ntmps36
    go_wp2
    go_loop [7] (fun i => i = .int .i64 0) (fun _ => 0)
    case atStart => exact rfl
    case round =>
      obtain rfl := hrel
      go_wp2
      go_ret
      exact ⟨rfl, rfl⟩
  · have HC := Lib.hid hcell
    clear hcell h hcur
    go_enter Tryz.func36, Tryz.ntmps36
    go_wp2
    go_loop [7] (fun i => ∃ k : Nat, k ≤ rs.length ∧ i = .int .i64 k ∧ Hid (∀ j (hj : j < rs.length), j < k → ¬ (rs[j].s = s ∧ rs[j].m.p.number = n))) (fun i => rs.length - (intOf i).toNat)
    case atStart => exact ⟨0, by omega, rfl, Lib.hid fun j _ h => by omega⟩
    case round =>
      obtain ⟨k, hk, rfl, HN⟩ := hrel
      by_cases hlt : k < rs.length
      · have hltz : (k : Int) < (rs.length : Int) := by omega
        have c0 : w.cell? ⟨g, k * 39, none⟩ = some (.string rs[k].s) := rAt_cell HC.out hlt (i := 0) rfl
        have c1 : w.cell? ⟨g, k * 39 + 1, none⟩ = some (.int .i64 rs[k].m.p.number) := rAt_cell HC.out hlt (i := 1) rfl
        have HF : Hid (rs[k].s = s → rs[k].m.p.number = n → findN rs s n = k) := Lib.hid fun h1 h2 => findN_at hlt h1 h2 HN.out
        have HN2 : Hid (¬ (rs[k].s = s ∧ rs[k].m.p.number = n) → ∀ j (hj : j < rs.length), j < k + 1 → ¬ (rs[j].s = s ∧ rs[j].m.p.number = n)) := Lib.hid fun h1 j hj hjk => by
          by_cases he : j = k
          · subst he; exact h1
          · exact HN.out j hj (by omega)
        clear HN
        generalize rs[k].s = t0 at c0 HF HN2
        generalize rs[k].m.p.number = n0 at c1 HF HN2
        by_cases ht : t0 = s
        · subst ht
          by_cases hn : n0 = n
          · subst hn
            have HF1 := Lib.hid (HF.out rfl rfl)
            clear HF HN2
            go_wp2
            go_ret
            exact ⟨by rw [HF1.out]; rfl, rfl⟩
          · have HN3 := Lib.hid (HN2.out fun h => hn h.2)
            clear HF HN2
            go_wp2
            go_round
            case rel => exact ⟨k + 1, by omega, by go_num, HN3⟩
            case measure => simp [intOf]; omega
        · have hte : (t0.toList == s.toList) = false := by rw [str_eq_iff, decide_eq_false ht]
          have HN3 := Lib.hid (HN2.out fun h => ht h.1)
          clear HF HN2
          go_wp2
          go_round
          case rel => exact ⟨k + 1, by omega, by go_num, HN3⟩
          case measure => simp [intOf]; omega
      · have HE : Hid (findN rs s n = -1) := Lib.hid (findN_no fun j hj => HN.out j hj (by omega))
        go_wp2
        go_ret
        exact ⟨by rw [HE.out]; rfl, rfl⟩

end Go.Proofs.YtdjaphcelpchaaaGreatDoor

namespace Go.Proofs.YtdjaphcelpchaaaGreatDoor
open Go Go.RowKit Go.Proofs

attribute [local go_sem ↓] ex_load_id ex_store_id ex_load_line ex_store_line ex_load_rline ex_store_rline ex_alloc_line ex_build_line ex_alloc_rline ex_build_rline ex_bs_rline

attribute [local go_sem] ld_id st_id ld_line st_line ld_rline st_rline guard_id okCells_drew rdCells_drew okCells_drewN rdCells_drewN rowOk_drew rowOk_cells okCells_cells rdCells_cells setRow_drew setRow_new setRow_past bs_rline

theorem own_empty (w : World) (t s : Nat) : (w.alloc (.cells #[] t)).ownsRow w.heap.size t s (.slice (some ⟨w.heap.size, 0, none⟩) 0 0) 0 [] :=
  ⟨by simp, .inr ⟨w.heap.size, 0, #[], rfl, Nat.le_refl _, heap_alloc_new _ _, Nat.le_refl _, by unfold maxLen; omega, by simp, by simp⟩⟩
theorem eraseIdx_split (rs : List MR) (j : Nat) : rs.eraseIdx j = rs.take j ++ rs.drop (j + 1) := List.eraseIdx_eq_take_drop_succ rs j
theorem erase_length {rs : List MR} {j : Nat} (h : j < rs.length) : (rs.eraseIdx j).length = j + (rs.length - (j + 1)) := by
  rw [eraseIdx_split, List.length_append, List.length_take, List.length_drop]; omega

set_option maxRecDepth 100000 in
set_option maxHeartbeats 2000000 in
theorem without_any (B : Nat) (v : Value) (rs : List MR) (j : Nat) (w : World) (h : RefsAt B w v rs) (hj : j < rs.length) :
    Calls Tryz.prog 65 #[v, .int .i64 j] w fun r w' => ∃ v', r = .returned v' ∧ RefsAt w.heap.size w' v' (rs.eraseIdx j) ∧ Below w.heap.size w w' := by
  obtain ⟨i0, hi, hz0, hz1, hz2⟩ := info_parts Tryz.info_rline
  have hfew := h.few
  have HX := Lib.hid h
  rcases h.head with ⟨rfl, rfl⟩ | ⟨g, cap, cur, rfl, hB, hlt, hle, hmx, hcur, hcell⟩
  · cases hj
  · have HC := Lib.hid hcell
    have hjz : (j : Int) ≤ (rs.length : Int) := by omega
    have hjz2 : (j : Int) + 1 ≤ (rs.length : Int) := by omega
    clear hcell h hcur
    go_enter Tryz.func65, Tryz.ntmps65
    go_wp2
    refine wp_region_mix0 [1, 2, 3, 5, 6, 7, 8] [0, 4, 9, 10] (fun _ => True) (by kernel_rfl) (by kernel_rfl) (by kernel_rfl) trivial ?_
    simp only [opsAt, List.map_cons, List.map_nil, Array.getD_eq_getD_getElem?, List.getElem?_toArray, List.getElem?_cons_zero, List.getElem?_cons_succ, Option.getD_some]
    repeat (go_big_quiet_step (fail))
    refine wpQuiet_nil ?_
    have hNoG : g ≠ w.heap.size := by omega
    obtain ⟨ad, hadb, had, hdc⟩ : ∃ ad : Addr, (∀ i, (ad.add i).block < w.heap.size) ∧ (if cap = j + 1 then some (⟨g, 0, none⟩ : Addr) else some ⟨g, (j + 1) * 39, none⟩) = some ad ∧ ∀ i u, (flatR (rs.drop (j + 1)))[i]? = some u → w.cell? (ad.add i) = some u := by
      by_cases hc : cap = j + 1
      · refine ⟨⟨g, 0, none⟩, fun i => by rw [Addr.add_lit]; exact hlt, if_pos hc, fun i u hu => ?_⟩
        rw [List.drop_of_length_le (by omega)] at hu
        cases hu
      · refine ⟨⟨g, (j + 1) * 39, none⟩, fun i => by rw [Addr.add_lit]; exact hlt, if_neg hc, fun i u hu => ?_⟩
        rw [Addr.add_lit]
        refine HC.out _ _ ?_
        rw [← flatR_drop, List.getElem?_drop] at hu
        exact hu
    rw [had]
    clear had
    have HDC := Lib.hid hdc
    have HADB := Lib.hid hadb
    clear hdc hadb
    have hl1 : ((flatR rs).take (j * 39)).length = j * 39 := by rw [List.length_take, flatR_length]; omega
    have hl2 : (flatR (rs.drop (j + 1))).length = (rs.length - (j + 1)) * 39 := by rw [flatR_length, List.length_drop]
    have HO1 : Hid (∀ u ∈ (flatR rs).take (j * 39), u.oneCell' = true) := Lib.hid fun u hu => flatR_cells HX.out.one u (List.mem_of_mem_take hu)
    have HO2 : Hid (∀ u ∈ flatR (rs.drop (j + 1)), u.oneCell' = true) := Lib.hid (flatR_cells fun r hr => HX.out.one r (List.mem_of_mem_drop hr))
    have HEMP := Lib.hid (own_empty w.drew 26 39)
    refine wpR_cons true rfl (by kernel_rfl) ?_
    go_wp2_with fail
    refine ⟨fun _ => trivial, wpR_cons true rfl (by kernel_rfl) ?_⟩
    refine wpList_append_own _ rfl (.tmp 5) (.tmp 8) 49 rfl w.heap.size 26 i0 (.agg (rlineCells ⟨#[]⟩ zeroLine)) 39 128 Tryz.underlying49 hi hz0 hz1 hz2 (rlineCells_size _ _) (by decide) _ _ _ rfl HEMP.out ⟨g, 0, none⟩ j cap ((flatR rs).take (j * 39)) rfl hl1 ?c1 HO1.out ?c3 ?c4 ?c5 ?_
    case c1 =>
      intro i u hu
      rw [Addr.add_lit, Nat.zero_add, ← HC.out i u ((by rw [List.getElem?_take] at hu; split at hu; exact hu; cases hu))]
      exact ((Below.refl w.heap.size w).drew.alloc (Nat.le_refl _) _).cell (p := ⟨g, i, none⟩) hlt
    case c3 => unfold maxLen; omega
    case c4 => omega
    case c5 => simp
    intro v1 w1 hown1 hgr1 _
    have hb1 : Below w.heap.size w w1 := ((Below.refl w.heap.size w).drew.alloc (Nat.le_refl _) _).grown hgr1 (by simp) (fun k e => by have e' : w.heap.size = k := Option.some.inj e; omega)
    have HLT1 := Lib.hid (fun j hj => (hown1.lt j hj).1)
    have HB1 := Lib.hid hb1
    clear hgr1 hb1 HEMP
    rw [Nat.zero_add, List.nil_append] at hown1
    go_wp2_with fail
    refine ⟨fun _ => trivial, wpR_list [9, 10] _ _ (by kernel_rfl) ?_⟩
    simp only [opsAt, List.map_cons, List.map_nil, Array.getD_eq_getD_getElem?, List.getElem?_toArray, List.getElem?_cons_zero, List.getElem?_cons_succ, Option.getD_some]
    refine wpList_append_own _ rfl (.tmp 9) (.tmp 13) 49 rfl w.heap.size 26 i0 (.agg (rlineCells ⟨#[]⟩ zeroLine)) 39 128 Tryz.underlying49 hi hz0 hz1 hz2 (rlineCells_size _ _) (by decide) _ _ _ rfl hown1 ad (rs.length - (j + 1)) (cap - (j + 1)) (flatR (rs.drop (j + 1))) rfl hl2 ?d1 HO2.out ?d3 ?d4 ?d5 ?_
    case d1 =>
      intro i u hu
      have h1 := HDC.out i u hu
      exact (HB1.out.cell (p := ad.add i) (HADB.out i)).trans h1
    case d3 => unfold maxLen; omega
    case d4 => omega
    case d5 => exact HB1.out.size
    intro v2 w2 hown2 hgr2 _
    have hb2 : Below w.heap.size w w2 := HB1.out.grown hgr2 HB1.out.size (fun k e => HLT1.out k e)
    have HOWN := Lib.hid hown2
    have HB2 := Lib.hid hb2
    clear hown1 hown2 hgr2 hb2
    go_wp2
    refine NoPanic.normal ?_
    go_wp2
    go_ret
    refine ⟨v2, rfl, ⟨?_, fun r hr => HX.out.one r (List.mem_of_mem_eraseIdx hr), fun r hr => HX.out.names r (List.mem_of_mem_eraseIdx hr), by rw [erase_length hj]; omega⟩, HB2.out⟩
    rw [erase_length hj, eraseIdx_split, flatR_append, ← flatR_take]
    exact HOWN.out

set_option maxRecDepth 100000 in
set_option maxHeartbeats 2000000 in
theorem of_any (B : Nat) (v : Value) (rs : List MR) (s : ByteArray) (w : World) (h : RefsAt B w v rs) :
    Calls Tryz.prog 29 #[v, .string s] w fun r w' => ∃ v', r = .returned v' ∧ RefsAt w.heap.size w' v' (ofR rs s) ∧ Below w.heap.size w w' := by
  obtain ⟨i0, hi, hz0, hz1, hz2⟩ := info_parts Tryz.info_rline
  have hfew := h.few
  have HX := Lib.hid h
  rcases h.head with ⟨rfl, rfl⟩ | ⟨g, cap, cur, rfl, hB, hlt, hle, hmx, hcur, hcell⟩
  · clear h
    go_enter Tryz.func29, Tryz.ntmps29
    go_wp2
    go_loop [5, 6] (fun p i => p = .slice none 0 0 ∧ i = .int .i64 0) (fun _ _ => 0)
    case atStart => exact ⟨rfl, rfl⟩
    case round =>
      obtain ⟨rfl, rfl⟩ := hrel
      go_wp2
      go_ret
      exact ⟨_, rfl, RefsAt.nil _ _, Below.refl _ _⟩
  · have HC := Lib.hid hcell
    clear hcell h hcur
    go_enter Tryz.func29, Tryz.ntmps29
    go_wp2
    go_loopw [5, 6] (fun p i wr => ∃ k : Nat, k ≤ rs.length ∧ i = .int .i64 k ∧ wr.ownsRow w.heap.size 26 39 p (ofR (rs.take k) s).length (flatR (ofR (rs.take k) s)) ∧ Below w.heap.size w wr) (fun _ i _ => rs.length - (intOf i).toNat)
    case atStart => exact ⟨0, by omega, rfl, World.ownsRow_nil _ _ _ _, Below.refl _ _⟩
    case round =>
      obtain ⟨k, hk, rfl, hown, hb⟩ := hrel
      by_cases hltk : k < rs.length
      · have hltz : (k : Int) < (rs.length : Int) := by omega
        have hcw : ∀ j u, (flatR rs)[j]? = some u → wr.cell? ⟨g, j, none⟩ = some u := fun j u hu => (hb.cell (p := ⟨g, j, none⟩) hlt).trans (HC.out j u hu)
        have c0 : wr.cell? ⟨g, k * 39, none⟩ = some (.string rs[k].s) := rAt_cell hcw hltk (i := 0) rfl
        obtain ⟨c1, c2⟩ := rAt_rd hcw hltk
        have HTK : Hid (ofR (rs.take (k + 1)) s = ofR (rs.take k) s ++ (if rs[k].s = s then [rs[k]] else [])) := Lib.hid (by
          rw [List.take_succ_eq_append_getElem hltk]
          unfold ofR
          rw [List.filter_append]
          by_cases he : rs[k].s = s <;> simp [he])
        have hone := HX.out.one rs[k] (List.getElem_mem hltk)
        generalize rs[k] = r0 at c0 c1 c2 HTK hone
        have HOWN := Lib.hid hown
        have HBr := Lib.hid hb
        have hlen2 : (ofR (rs.take k) s).length ≤ k := by
          unfold ofR
          exact Nat.le_trans (List.length_filter_le _ _) (by rw [List.length_take]; omega)
        clear hown hb hcw
        by_cases ht : r0.s = s
        · have HTK1 : Hid (ofR (rs.take (k + 1)) s = ofR (rs.take k) s ++ [r0]) := Lib.hid (by rw [HTK.out, if_pos ht])
          have hte : (r0.s.toList == s.toList) = true := by rw [str_eq_iff, decide_eq_true ht]
          clear HTK
          have HONE := Lib.hid (rList_one hone)
          have hownA := HOWN.out.alloc (.cells (rlineCells r0.s r0.m.g) 26)
          have hlt2 := Lib.hid (fun j hj => (HOWN.out.lt j hj).1)
          obtain ⟨nn, hnn⟩ : ∃ nn, nn = (ofR (rs.take k) s).length := ⟨_, rfl⟩
          rw [← hnn] at hownA hlen2
          have HNN := Lib.hid hnn
          clear hnn HOWN hone
          clear ht
          go_wp2_with (at_builtin; refine wpList_append_own _ rfl (.tmp 20) (.tmp 25) 49 rfl w.heap.size 26 i0 (.agg (rlineCells ⟨#[]⟩ zeroLine)) 39 128 Tryz.underlying49 hi hz0 hz1 hz2 (rlineCells_size _ _) (by decide) _ _ _ rfl hownA ⟨wr.heap.size, 0, none⟩ 1 1 (rList r0) rfl (rList_length r0) ?c1 HONE.out ?c3 ?c4 ?c5 ?_)
          case c1 =>
            intro j u hj
            rw [Addr.add_lit, Nat.zero_add, cells_new, rList_cells]
            simpa using hj
          case c3 => unfold maxLen; omega
          case c4 => omega
          case c5 => have := HBr.out.size; simp; omega
          intro v' w3 hown' hgrow _
          have hb3 : Below w.heap.size w w3 := (HBr.out.alloc HBr.out.size _).grown hgrow (by have := HBr.out.size; simp; omega) (fun j hj => hlt2.out j hj)
          clear hownA hgrow
          go_wp2
          go_roundw
          case rel => exact ⟨k + 1, by omega, by go_num, by rw [HTK1.out, flatR_append, flatR_one, List.length_append, ← HNN.out]; exact hown', hb3⟩
          case measure => simp [intOf]; omega
        · have HTK1 : Hid (ofR (rs.take (k + 1)) s = ofR (rs.take k) s) := Lib.hid (by rw [HTK.out, if_neg ht, List.append_nil])
          have hte : (r0.s.toList == s.toList) = false := by rw [str_eq_iff, decide_eq_false ht]
          clear HTK
          go_wp2
          go_roundw
          case rel => exact ⟨k + 1, by omega, by go_num, by rw [HTK1.out]; exact HOWN.out, HBr.out⟩
          case measure => simp [intOf]; omega
      · have HE : Hid (rs.take k = rs) := Lib.hid (List.take_of_length_le (by omega))
        have HBr := Lib.hid hb
        rw [HE.out] at hown
        obtain ⟨pa, pn, pc, hp⟩ : ∃ a n c, u5 = .slice a n c := own_slice hown
        have HOWN := Lib.hid hown
        subst hp
        clear hown hb
        go_wp2
        go_ret
        exact ⟨_, rfl, ⟨HOWN.out, fun r hr => HX.out.one r (ofR_mem.1 hr).1, fun r hr => HX.out.names r (ofR_mem.1 hr).1, Nat.le_trans (List.length_filter_le _ _) HX.out.few⟩, HBr.out⟩

end Go.Proofs.YtdjaphcelpchaaaGreatDoor

namespace Go.Proofs.YtdjaphcelpchaaaGreatDoor
open Go Go.RowKit Go.Proofs

attribute [local go_sem ↓] ex_load_id ex_store_id ex_load_line ex_store_line ex_load_rline ex_store_rline ex_alloc_line ex_build_line ex_alloc_rline ex_build_rline ex_bs_rline

attribute [local go_sem] ld_id st_id ld_line st_line ld_rline st_rline guard_id okCells_drew rdCells_drew okCells_drewN rdCells_drewN rowOk_drew rowOk_cells okCells_cells rdCells_cells setRow_drew setRow_new setRow_past bs_rline

theorem stepG_last (o : List ByteArray) (t s : ByteArray) : stepG (o ++ [t]) s = if t = s then o ++ [t] else o ++ [t] ++ [s] := by
  unfold stepG
  rw [List.getLast?_concat]
  by_cases h : t = s <;> simp [h]
theorem stepG_nil (s : ByteArray) : stepG [] s = [s] := rfl
theorem groups_length (rs : List MR) : (groupsR rs).length ≤ rs.length := by
  refine snoc_ind (p := fun rs => (groupsR rs).length ≤ rs.length) (Nat.le_refl _) ?_ rs
  intro l a ih
  rw [groupsR_snoc]
  unfold stepG
  split
  · simp; omega
  · simp; omega
set_option maxRecDepth 100000 in
set_option maxHeartbeats 2000000 in
theorem groupsRef_any (B : Nat) (v : Value) (rs : List MR) (w : World) (h : RefsAt B w v rs) :
    Calls Tryz.prog 66 #[v] w fun r w' => ∃ v', r = .returned v' ∧ w'.ownsRow w.heap.size 9 1 v' (groupsR rs).length ((groupsR rs).map Value.string) ∧ Below w.heap.size w w' := by
  obtain ⟨i0, hi, hz0, hz1, hz2⟩ := info_parts Tryz.info_str
  have hfew := h.few
  have HX := Lib.hid h
  rcases h.head with ⟨rfl, rfl⟩ | ⟨g, cap, cur, rfl, hB, hlt, hle, hmx, hcur, hcell⟩
  · clear h
    go_enter Tryz.func66, Tryz.ntmps66
    go_wp2
    go_loop [3, 4] (fun p i => p = .slice none 0 0 ∧ i = .int .i64 0) (fun _ _ => 0)
    case atStart => exact ⟨rfl, rfl⟩
    case round =>
      obtain ⟨rfl, rfl⟩ := hrel
      go_wp2
      go_ret
      exact ⟨_, rfl, World.ownsRow_nil _ _ _ _, Below.refl _ _⟩
  · have HC := Lib.hid hcell
    clear hcell h hcur
    go_enter Tryz.func66, Tryz.ntmps66
    go_wp2
    go_loopw [3, 4] (fun p i wr => ∃ k : Nat, k ≤ rs.length ∧ i = .int .i64 k ∧ wr.ownsRow w.heap.size 9 1 p (groupsR (rs.take k)).length ((groupsR (rs.take k)).map Value.string) ∧ Below w.heap.size w wr) (fun _ i _ => rs.length - (intOf i).toNat)
    case atStart => exact ⟨0, by omega, rfl, World.ownsRow_nil _ _ _ _, Below.refl _ _⟩
    case round =>
      obtain ⟨k, hk, rfl, hown, hb⟩ := hrel
      by_cases hltk : k < rs.length
      · have hltz : (k : Int) < (rs.length : Int) := by omega
        have hcw : ∀ j u, (flatR rs)[j]? = some u → wr.cell? ⟨g, j, none⟩ = some u := fun j u hu => (hb.cell (p := ⟨g, j, none⟩) hlt).trans (HC.out j u hu)
        have c0 : wr.cell? ⟨g, k * 39, none⟩ = some (.string rs[k].s) := rAt_cell hcw hltk (i := 0) rfl
        have HTK : Hid (groupsR (rs.take (k + 1)) = stepG (groupsR (rs.take k)) rs[k].s) := Lib.hid (by
          rw [List.take_succ_eq_append_getElem hltk, groupsR_snoc])
        have hlen2 : (groupsR (rs.take k)).length ≤ k := Nat.le_trans (groups_length _) (by rw [List.length_take]; omega)
        generalize rs[k].s = t at c0 HTK
        generalize groupsR (rs.take k) = o at hown HTK hlen2
        have HBr := Lib.hid hb
        clear hb hcw
        have hq0 : ∀ n, (wr.drewN n).cell? ⟨g, k * 39, none⟩ = some (.string t) := fun n => by rw [World.cell?_drewN]; exact c0
        clear c0
        -- whether the name is new
        by_cases hnew : stepG o t = o
        · have hne : o ≠ [] := fun e => by rw [e, stepG_nil] at hnew; cases hnew
          have hla : o.getLast hne = t := by
            have h1 := List.dropLast_concat_getLast hne
            rw [← h1, stepG_last] at hnew
            split at hnew
            · assumption
            · have := congrArg List.length hnew; simp at this
          obtain ⟨ol, hol⟩ : ∃ ol, o.length = ol + 1 := ⟨o.length - 1, by have := List.length_pos_iff.2 hne; omega⟩
          rw [hol] at hown hlen2
          obtain ⟨pb, pcap, rfl, hpb, hpc⟩ : ∃ pb pcap, u3 = .slice (some ⟨pb, 0, none⟩) (ol + 1) pcap ∧ pb < wr.heap.size ∧ ol + 1 ≤ pcap := by
            rcases hown.2 with ⟨_, h0⟩ | ⟨g', cap', cur', e, hg', hcur', hle', _⟩
            · omega
            · exact ⟨g', cap', e, (Array.getElem?_eq_some_iff.1 hcur').1, hle'⟩
          have hlc : wr.cell? ⟨pb, ol, none⟩ = some (.string t) := by
            have := World.ownsRow.cells hown (g := pb) rfl ol (.string t) (by
              rw [List.getElem?_map, show ol = o.length - 1 by omega, ← List.getLast?_eq_getElem?, List.getLast?_eq_some_getLast hne, hla]; rfl)
            rwa [Addr.add_lit, Nat.zero_add] at this
          have hq1 : ∀ n, (wr.drewN n).cell? ⟨pb, ol, none⟩ = some (.string t) := fun n => by rw [World.cell?_drewN]; exact hlc
          have hd1 : ((ol : Int) + 1 == 0) = false := by rw [beq_eq_false_iff_ne]; omega
          have hwr : IntKind.i64.wrap (ol : Int) = ol := by rw [IntKind.wrap_i64]; omega
          have hd2 : (ol : Int) < (ol : Int) + 1 := by omega
          have hd3 : (t.toList == t.toList) = true := by simp
          have HOWN := Lib.hid hown
          have HNEW := Lib.hid hnew
          have HOL := Lib.hid hol
          clear hlc hown hnew hla hne hol
          go_wp2_with fail
          go_quiet (fail)
          clear hq0 hq1
          go_wp2
          go_roundw
          case rel => exact ⟨k + 1, by omega, by go_num, by rw [HTK.out, HNEW.out, HOL.out]; exact HOWN.out, below_drewN' HBr.out _⟩
          case measure => simp [intOf]; omega
        · have hst : stepG o t = o ++ [t] := by
            unfold stepG at hnew ⊢
            split at hnew
            · exact absurd rfl hnew
            · rename_i h; rw [if_neg h]
          have HST : Hid (groupsR (rs.take (k + 1)) = o ++ [t]) := Lib.hid (HTK.out.trans hst)
          have hlast : ∀ u, o.getLast? = some u → u ≠ t := fun u hu e => hnew (by unfold stepG; rw [hu, e, if_pos rfl])
          clear HTK hst hnew
          have hown0 := hown
          have hlt2 := Lib.hid (fun j hj => (hown0.lt j hj).1)
          obtain ⟨nn, hnn⟩ : ∃ nn, nn = o.length := ⟨_, rfl⟩
          rw [← hnn] at hown hlen2
          have HNN := Lib.hid hnn
          obtain ⟨pa, pc, hpe, hcase⟩ : ∃ pa pc, u3 = .slice pa nn pc ∧ (nn = 0 ∨ ∃ pb ol u, pa = some ⟨pb, 0, none⟩ ∧ nn = ol + 1 ∧ ol + 1 ≤ pc ∧ u ≠ t ∧ wr.cell? ⟨pb, ol, none⟩ = some (.string u)) := by
            rcases hown.2 with ⟨e, h0⟩ | ⟨g', cap', cur', e, hg', hcur', hle', _⟩
            · exact ⟨none, 0, by rw [e, h0], .inl h0⟩
            · refine ⟨_, _, e, ?_⟩
              rcases Nat.eq_zero_or_pos nn with h0 | h0
              · exact .inl h0
              · have hne : o ≠ [] := fun e => by rw [e] at hnn; simp at hnn; omega
                have hl := List.getLast?_eq_some_getLast hne
                refine .inr ⟨g', nn - 1, o.getLast hne, rfl, by omega, by omega, hlast _ hl, ?_⟩
                have := World.ownsRow.cells hown (g := g') (by rw [e]; rfl) (nn - 1) (.string (o.getLast hne)) (by
                  rw [List.getElem?_map, hnn, ← List.getLast?_eq_getElem?, hl]; rfl)
                rwa [Addr.add_lit, Nat.zero_add] at this
          have HOWN := Lib.hid hown
          clear hown hown0 hlast hnn
          subst hpe
          have fin : ∀ (n : Nat), (wr.drewN n).ownsRow w.heap.size 9 1 (.slice pa nn pc) nn (o.map Value.string) := fun n => HOWN.out
          have finB : ∀ n, Below w.heap.size w (wr.drewN n) := fun n => below_drewN' HBr.out n
          have finL : ∀ n, (wr.drewN n).heap.size = wr.heap.size := fun n => rfl
          have FIN := Lib.hid fin
          have FINB := Lib.hid finB
          clear fin finB
          rcases hcase with h0 | ⟨pb, ol, u, hpa, hol, hpc, hut, hlc⟩
          · subst h0
            go_wp2_with fail
            go_quiet (fail)
            clear HOWN HBr
            have hown1 := FIN.out nq
            have hBr1 := FINB.out nq
            have hc0 := hq0 nq
            clear hq0 FIN FINB
            generalize wr.drewN nq = W2 at hown1 hBr1 hc0 ⊢
            have HBr1 := Lib.hid hBr1
            have hownA := hown1.alloc (.cells #[.string t] 9)
            clear hown1 hBr1
            go_wp2_with (at_builtin; refine wpList_append_own _ rfl (.tmp 28) (.tmp 34) 78 rfl w.heap.size 9 i0 (.string ⟨#[]⟩) 1 16 Tryz.underlying78 hi hz0 hz1 hz2 rfl (by decide) _ _ _ rfl hownA ⟨W2.heap.size, 0, none⟩ 1 1 [.string t] rfl rfl ?c1 ?c2 ?c3 ?c4 ?c5 ?_)
            case c1 =>
              intro j u hj
              rw [Addr.add_lit, Nat.zero_add, cells_new]
              match j, hj with
              | 0, hj => simpa using hj
            case c2 => intro u hu; simp at hu; subst hu; rfl
            case c3 => unfold maxLen; omega
            case c4 => omega
            case c5 => have := HBr1.out.size; simp; omega
            intro v' w3 hown' hgrow _
            have hb3 : Below w.heap.size w w3 := (HBr1.out.alloc HBr1.out.size _).grown hgrow (by have := HBr1.out.size; simp; omega) (fun j hj => hlt2.out j hj)
            clear hownA hgrow
            go_wp2
            go_roundw
            case rel => exact ⟨k + 1, by omega, by go_num, by rw [HST.out, List.map_append, List.length_append, ← HNN.out]; exact hown', hb3⟩
            case measure => simp [intOf]; omega
          · subst hpa
            subst hol
            have hd1 : ((ol : Int) + 1 == 0) = false := by rw [beq_eq_false_iff_ne]; omega
            have hwr : IntKind.i64.wrap (ol : Int) = ol := by rw [IntKind.wrap_i64]; omega
            have hd2 : (ol : Int) < (ol : Int) + 1 := by omega
            have hq1 : ∀ n, (wr.drewN n).cell? ⟨pb, ol, none⟩ = some (.string u) := fun n => by rw [World.cell?_drewN]; exact hlc
            have hte : (u.toList == t.toList) = false := by rw [str_eq_iff, decide_eq_false hut]
            clear hlc hut
            go_wp2_with fail
            go_quiet (fail)
            clear hq1
            clear HOWN HBr
            have hown1 := FIN.out nq
            have hBr1 := FINB.out nq
            have hc0 := hq0 nq
            clear hq0 FIN FINB
            generalize wr.drewN nq = W2 at hown1 hBr1 hc0 ⊢
            have HBr1 := Lib.hid hBr1
            have hownA := hown1.alloc (.cells #[.string t] 9)
            clear hown1 hBr1
            go_wp2_with (at_builtin; refine wpList_append_own _ rfl (.tmp 28) (.tmp 34) 78 rfl w.heap.size 9 i0 (.string ⟨#[]⟩) 1 16 Tryz.underlying78 hi hz0 hz1 hz2 rfl (by decide) _ _ _ rfl hownA ⟨W2.heap.size, 0, none⟩ 1 1 [.string t] rfl rfl ?c1 ?c2 ?c3 ?c4 ?c5 ?_)
            case c1 =>
              intro j u hj
              rw [Addr.add_lit, Nat.zero_add, cells_new]
              match j, hj with
              | 0, hj => simpa using hj
            case c2 => intro u hu; simp at hu; subst hu; rfl
            case c3 => unfold maxLen; omega
            case c4 => omega
            case c5 => have := HBr1.out.size; simp; omega
            intro v' w3 hown' hgrow _
            have hb3 : Below w.heap.size w w3 := (HBr1.out.alloc HBr1.out.size _).grown hgrow (by have := HBr1.out.size; simp; omega) (fun j hj => hlt2.out j hj)
            clear hownA hgrow
            go_wp2
            go_roundw
            case rel => exact ⟨k + 1, by omega, by go_num, by rw [HST.out, List.map_append, List.length_append, ← HNN.out]; exact hown', hb3⟩
            case measure => simp [intOf]; omega
      · have HE : Hid (rs.take k = rs) := Lib.hid (List.take_of_length_le (by omega))
        have HBr := Lib.hid hb
        rw [HE.out] at hown
        obtain ⟨pa, pn, pc, hp⟩ : ∃ a n c, u3 = .slice a n c := own_slice hown
        have HOWN := Lib.hid hown
        subst hp
        clear hown hb
        go_wp2
        go_ret
        exact ⟨_, rfl, HOWN.out, HBr.out⟩

end Go.Proofs.YtdjaphcelpchaaaGreatDoor

namespace Go.Proofs.YtdjaphcelpchaaaGreatDoor
open Go Go.RowKit Go.Proofs

section
variable {P : Program} {ops : Array Oper} {Q : Exit → Act → World → Prop} {C : World → Prop}

/-- Which of the acting operations may come next. -/
def readyF (ops : Array Oper) (R : List Nat) : List Nat := R.filter fun r => R.all fun s => !Region.waitsFor .any ops r s
/-- The acting operations, in every order. -/
def wpF (P : Program) (ops : Array Oper) (Q : Exit → Act → World → Prop) (C : World → Prop) (E : List Nat) : Nat → List Nat → Act → World → Prop
  | 0, _, a, w => Q .normal a w
  | n + 1, R, a, w => ∀ r ∈ readyF ops R, wpOp P ops (NoPanic Q) r (fun a' w' => (needB ops E r = true → C w') ∧ wpF P ops Q C E n (R.erase r) a' w') a w

/-- The closed checks. -/
def forkB (ops : Array Oper) (E R : List Nat) : Bool :=
  Region.noSelect ops && decide ((E ++ R).Nodup) && decide (E.length + R.length = ops.size) && ((List.range ops.size).all fun i => E.contains i || R.contains i)
  && E.all (predsB ops E) && pairB (fun y e => !Region.waitsFor .any ops y e && apartB ops y e) E
  && R.all (predsB ops (E ++ R)) && pairB (fun r s => !Region.waitsFor .any ops r s) R
  && (R.all fun r => E.all fun y => apartB ops y r)
  && (E.all fun e => match ops[e]? with | some o => !isCall o | none => false)

theorem erase_split {R1 R2 : List Nat} {r : Nat} (h : (R1 ++ r :: R2).Nodup) : (R1 ++ r :: R2).erase r = R1 ++ R2 := by
  have h1 : r ∉ R1 := fun h' => (List.nodup_append.1 h).2.2 r h' r (by simp) rfl
  rw [List.erase_append_right _ h1, List.erase_cons_head]

theorem fork_main {E R : List Nat} (hB : forkB ops E R = true) : ∀ (n : Nat) (L : Array Bool) (a : Act) (w : World), L.size = ops.size → Closed ops L →
    (E.filter (unl L)).length + (R.filter (unl L)).length = n → (E.filter (unl L) ≠ [] → C w) →
    wpQuiet P ops C (fun a' => wpF P ops Q C E (R.filter (unl L)).length (R.filter (unl L)) a' w) (opsAt ops (E.filter (unl L))) a → wpAny P .any ops (NoPanic Q) n L a w := by
  simp only [forkB, Bool.and_eq_true, decide_eq_true_eq, List.all_eq_true] at hB
  obtain ⟨⟨⟨⟨⟨⟨⟨⟨⟨hns, hnd⟩, hlen⟩, hcov⟩, hpE⟩, hpair⟩, hpR⟩, hpairR⟩, hapR⟩, hcalls⟩ := hB
  have hsel := Region.noSelect_spec hns
  have hpair' := pairB_spec hpair
  have hpairR' := pairB_spec hpairR
  have hndE : E.Nodup := (List.nodup_append.1 hnd).1
  have hndR : R.Nodup := (List.nodup_append.1 hnd).2.1
  have hdis : ∀ x, x ∈ E → x ∈ R → False := fun x h1 h2 => (List.nodup_append.1 hnd).2.2 x h1 x h2 rfl
  have hget : ∀ (l : List Nat) (e : Nat), predsB ops l e = true → ∃ o, ops[e]? = some o ∧ ∀ x ∈ o.after, Region.binds .any x = true → x.on ∈ l ∧ x.on ≠ e := by
    intro l e h
    unfold predsB at h
    split at h
    · rename_i o ho
      refine ⟨o, ho, fun x hx hb => ?_⟩
      have h1 := (Array.all_eq_true_iff_forall_mem.1 h) x hx
      simp only [hb, Bool.not_true, Bool.false_or, Bool.and_eq_true, List.contains_iff_mem, bne_iff_ne] at h1
      exact h1
    · cases h
  have hapart : ∀ y e, apartB ops y e = true → Region.waitsFor .any ops e y = false → ∃ oy oe, ops[y]? = some oy ∧ ops[e]? = some oe ∧ oy.apart ops oe = true := by
    intro y e h hw
    unfold apartB at h
    rw [hw, Bool.false_or] at h
    split at h
    · rename_i oy oe h1 h2
      exact ⟨oy, oe, h1, h2, h⟩
    · cases h
  have hinE : ∀ x, x ∈ E → x < ops.size := fun x hx => by
    obtain ⟨ox, hox, _⟩ := hget E x (hpE _ hx)
    exact (Array.getElem?_eq_some_iff.1 hox).1
  have hinR : ∀ x, x ∈ R → x < ops.size := fun x hx => by
    obtain ⟨ox, hox, _⟩ := hget (E ++ R) x (hpR _ hx)
    exact (Array.getElem?_eq_some_iff.1 hox).1
  have hun : ∀ (L : Array Bool) (l : List Nat) (x : Nat), x ∈ l.filter (unl L) ↔ x ∈ l ∧ L.getD x true = false := fun L l x => by
    rw [List.mem_filter]; simp only [unl, Bool.not_eq_true']
  intro n
  induction n with
  | zero =>
    intro L a w hsz hcl hn _ h
    have hE0 : E.filter (unl L) = [] := List.eq_nil_of_length_eq_zero (by omega)
    have hR0 : R.filter (unl L) = [] := List.eq_nil_of_length_eq_zero (by omega)
    rw [hE0, hR0] at h
    refine ⟨?_, ?_⟩
    · rw [List.eq_nil_iff_forall_not_mem]
      intro i hi
      obtain ⟨h1, o, ho, _⟩ := mem_ready.1 hi
      have hlt := (Array.getElem?_eq_some_iff.1 ho).1
      have hc := hcov i (List.mem_range.2 hlt)
      simp only [Bool.or_eq_true, List.contains_iff_mem] at hc
      rcases hc with hc | hc
      · have : i ∈ E.filter (unl L) := (hun L E i).2 ⟨hc, h1⟩
        rw [hE0] at this; cases this
      · have : i ∈ R.filter (unl L) := (hun L R i).2 ⟨hc, h1⟩
        rw [hR0] at this; cases this
    · exact h
  | succ n ih =>
    intro L a w hsz hcl hn hCw h
    -- something may come up
    have hsome : Region.ready .any ops L ≠ [] := by
      cases hE' : E.filter (unl L) with
      | cons e T =>
        have he := (hun L E e).1 (by rw [hE']; simp)
        obtain ⟨o, ho, hpre⟩ := hget E e (hpE e he.1)
        have hpw := hpair'.filter (p := unl L)
        rw [hE'] at hpw
        have : e ∈ Region.ready .any ops L := mem_ready.2 ⟨he.2, o, ho, fun x hx hb => by
          obtain ⟨hxE, hxe⟩ := hpre x hx hb
          cases hlx : L.getD x.on false with
          | true => rfl
          | false =>
            exfalso
            have hxm : x.on ∈ E.filter (unl L) := (hun L E _).2 ⟨hxE, getD_in (by rw [hsz]; exact hinE _ hxE) hlx⟩
            rw [hE'] at hxm
            rcases List.mem_cons.1 hxm with h1 | h1
            · exact hxe h1
            · have h2 := (List.pairwise_cons.1 hpw).1 _ h1
              simp only [Bool.and_eq_true, Bool.not_eq_true'] at h2
              rw [waitsFor_of ho hx hb rfl] at h2
              cases h2.1⟩
        intro h0; rw [h0] at this; cases this
      | nil =>
        cases hR' : R.filter (unl L) with
        | nil => rw [hE', hR'] at hn; simp at hn
        | cons r rest =>
          have hr := (hun L R r).1 (by rw [hR']; simp)
          obtain ⟨o, ho, hpre⟩ := hget (E ++ R) r (hpR r hr.1)
          have hpw := hpairR'.filter (p := unl L)
          rw [hR'] at hpw
          have : r ∈ Region.ready .any ops L := mem_ready.2 ⟨hr.2, o, ho, fun x hx hb => by
            obtain ⟨hxE, hxe⟩ := hpre x hx hb
            cases hlx : L.getD x.on false with
            | true => rfl
            | false =>
              exfalso
              rcases List.mem_append.1 hxE with h1 | h1
              · have : x.on ∈ E.filter (unl L) := (hun L E _).2 ⟨h1, getD_in (by rw [hsz]; exact hinE _ h1) hlx⟩
                rw [hE'] at this; cases this
              · have hxm : x.on ∈ R.filter (unl L) := (hun L R _).2 ⟨h1, getD_in (by rw [hsz]; exact hinR _ h1) hlx⟩
                rw [hR'] at hxm
                rcases List.mem_cons.1 hxm with h3 | h3
                · exact hxe h3
                · have h4 := (List.pairwise_cons.1 hpw).1 _ h3
                  simp only [Bool.not_eq_true'] at h4
                  rw [waitsFor_of ho hx hb rfl] at h4
                  cases h4⟩
          intro h0; rw [h0] at this; cases this
    refine ⟨fun h0 => absurd h0 hsome, fun i hi => ?_⟩
    obtain ⟨hiu, oi, hoi, hall⟩ := mem_ready.1 hi
    have hilt := (Array.getElem?_eq_some_iff.1 hoi).1
    have hcl' : Closed ops (L.setIfInBounds i true) := fun j oj hj hl e he hb => by
      by_cases hij : i = j
      · subst hij
        have : oj = oi := Option.some.inj (hj.symm.trans hoi)
        subst this
        exact getD_set_true (hall e he hb)
      · rw [getD_set_ne false hij] at hl
        exact getD_set_true (hcl j oj hj hl e he hb)
    have hc := hcov i (List.mem_range.2 hilt)
    simp only [Bool.or_eq_true, List.contains_iff_mem] at hc
    rcases hc with hc | hc
    · -- a quiet one
      have himem : i ∈ E.filter (unl L) := (hun L E i).2 ⟨hc, hiu⟩
      obtain ⟨E1, E2, hsplit⟩ := List.append_of_mem himem
      have hiR : i ∉ R := fun h' => hdis i hc h'
      have hpw := hpair'.filter (p := unl L)
      rw [hsplit] at hpw h
      have hap : ∀ x ∈ E1, ∃ ox, ops[x]? = some ox ∧ ox.apart ops oi = true := by
        intro x hx
        have h2 := (List.pairwise_append.1 hpw).2.2 x hx i (by simp)
        simp only [Bool.and_eq_true, Bool.not_eq_true'] at h2
        have hxu : L.getD x true = false := ((hun L E x).1 (by rw [hsplit]; simp [hx])).2
        obtain ⟨oy, oe, h3, h4, h5⟩ := hapart x i h2.2 (not_waits_of_ready hi hxu)
        have : oe = oi := Option.some.inj (h4.symm.trans hoi)
        subst this
        exact ⟨oy, h3, h5⟩
      have hq := quiet_front hoi hsel E1 E2 a hap h
      have hfs := filter_set (by rw [hsz]; exact hilt) hndE hsplit
      have hfR := filter_set_not (L := L) hiR
      have hCw' : C w := hCw (by rw [hsplit]; simp)
      have hcall : isCall oi = false := by
        have := hcalls i hc
        rw [hoi] at this
        simpa using this
      refine still_of_quiet hoi hcall hCw' (fun a' h' => ?_) hq
      refine ih (L.setIfInBounds i true) a' w (by simpa using hsz) hcl' ?_ (fun _ => hCw') ?_
      · rw [hfs, hfR]; rw [hsplit] at hn; simp only [List.length_append, List.length_cons] at hn ⊢; omega
      · rw [hfs, hfR]; exact h'
    · -- an acting one
      have hiE : i ∉ E := fun h' => hdis i h' hc
      have himem : i ∈ R.filter (unl L) := (hun L R i).2 ⟨hc, hiu⟩
      obtain ⟨R1, R2, hsplit⟩ := List.append_of_mem himem
      have hap : ∀ x ∈ E.filter (unl L), ∃ ox, ops[x]? = some ox ∧ ox.apart ops oi = true := by
        intro x hx
        have hx' := (hun L E x).1 hx
        have h2 := hapR i hc x hx'.1
        obtain ⟨oy, oe, h3, h4, h5⟩ := hapart x i h2 (not_waits_of_ready hi hx'.2)
        have : oe = oi := Option.some.inj (h4.symm.trans hoi)
        subst this
        exact ⟨oy, h3, h5⟩
      have hrf : i ∈ readyF ops (R.filter (unl L)) := by
        unfold readyF
        rw [List.mem_filter, List.all_eq_true]
        refine ⟨himem, fun s hs => ?_⟩
        rw [not_waits_of_ready hi ((hun L R s).1 hs).2]
        rfl
      have hln : (R.filter (unl L)).length = (R1 ++ R2).length + 1 := by rw [hsplit]; simp; omega
      have her : (R.filter (unl L)).erase i = R1 ++ R2 := by
        rw [hsplit]
        exact erase_split (by rw [← hsplit]; exact hndR.filter _)
      have h1 : wpQuiet P ops C (fun a' => wpOp P ops (NoPanic Q) i (fun a' w' => (needB ops E i = true → C w') ∧ wpF P ops Q C E (R1 ++ R2).length (R1 ++ R2) a' w') a' w) (opsAt ops (E.filter (unl L))) a := by
        refine wpQuiet_mono (fun a'' h'' => ?_) _ _ h
        rw [hln] at h''
        have := h'' i hrf
        rw [her] at this
        exact this
      have h2 := act_front hoi hsel (E.filter (unl L)) a hap h1
      have hfs := filter_set_not (L := L) hiE
      have hfR := filter_set (by rw [hsz]; exact hilt) hndR hsplit
      have hneed : E.filter (unl L) ≠ [] → needB ops E i = true := by
        intro hne
        cases hq : needB ops E i with
        | true => rfl
        | false =>
          exfalso
          unfold needB at hq
          simp only [Bool.not_eq_false', List.all_eq_true] at hq
          obtain ⟨e, he⟩ := List.exists_mem_of_ne_nil _ hne
          have he' := (hun L E e).1 he
          have h4 := anc_listed hcl ops.size i e (fun o ho => by
            have : o = oi := Option.some.inj (ho.symm.trans hoi)
            subst this; exact hall) (hq e he'.1)
          rw [getD_both he'.2] at h4
          cases h4
      refine wpOp_mono (fun a' w' h3 => ?_) h2
      refine ih (L.setIfInBounds i true) a' w' (by simpa using hsz) hcl' ?_ (fun hne => ?_) ?_
      · rw [hfs, hfR]; rw [hln] at hn; omega
      · rw [hfs] at hne
        exact (quiet_const _ _ h3) (hneed hne)
      · rw [hfs, hfR]
        exact wpQuiet_mono (fun a'' h'' => h''.2) _ _ h3

/-- The walk over a region: first the quiet ones, then the acting ones in every order. -/
theorem wp_region_fork {id : Nat} {a : Act} {w : World} (E R : List Nat) (n : Nat) (C : World → Prop) (hm : P.follows .mixedOrders = true) (hB : forkB ops E R = true) (hn : R.length = n) (hC : C w.drew)
    (h : wpQuiet P ops C (fun a' => wpF P ops Q C E n R a' w.drew) (opsAt ops E) a) : (Code.region id ops true).wp P Q a w := by
  refine wp_region_noPanic (wp_region_any hm ?_)
  have hB0 := hB
  simp only [forkB, Bool.and_eq_true, decide_eq_true_eq, List.all_eq_true] at hB
  obtain ⟨⟨⟨⟨⟨⟨⟨⟨⟨hns, hnd⟩, hlen⟩, hcov⟩, hpE⟩, hpair⟩, hpR⟩, hpairR⟩, hapR⟩, hcalls⟩ := hB
  have hlt : ∀ l i, predsB ops l i = true → i < ops.size := by
    intro l i hcov
    unfold predsB at hcov
    split at hcov
    · rename_i o ho; exact (Array.getElem?_eq_some_iff.1 ho).1
    · cases hcov
  have hall : E.filter (unl (Array.replicate ops.size false)) = E := by
    rw [List.filter_eq_self]
    intro i hi
    simp [unl, hlt E i (hpE i hi)]
  have hallR : R.filter (unl (Array.replicate ops.size false)) = R := by
    rw [List.filter_eq_self]
    intro i hi
    simp [unl, hlt _ i (hpR i hi)]
  refine fork_main hB0 ops.size (Array.replicate ops.size false) a w.drew (by simp) (fun j oj _ hl => by rw [getD_replicate_false] at hl; cases hl) (by rw [hall, hallR]; exact hlen) (fun _ => hC) ?_
  rw [hall, hallR, hn]
  exact h

/-- A chain at the end has one order. -/
theorem wpF_chain {E : List Nat} : ∀ (R : List Nat) (a : Act) (w : World), R.Nodup → chainR ops R = true → pairB (fun r s => !Region.waitsFor .any ops r s) R = true → wpR P ops Q C E R a w → wpF P ops Q C E R.length R a w
  | [], _, _, _, _, _, h => h
  | r :: R, a, w, hnd, hc, hp, h => by
    intro i hi
    unfold readyF at hi
    rw [List.mem_filter, List.all_eq_true] at hi
    have hir : i = r := by
      rcases List.mem_cons.1 hi.1 with h1 | h1
      · exact h1
      · exfalso
        obtain ⟨p, hpm, hw⟩ := chain_pred hc i h1
        have := hi.2 p hpm
        rw [hw] at this
        cases this
    subst hir
    rw [List.erase_cons_head]
    unfold wpR at h
    rw [List.nodup_cons] at hnd
    refine wpOp_mono (fun a' w' h3 => ⟨h3.1, wpF_chain R a' w' hnd.2 (chain_suffix [i] R hc) ?_ h3.2⟩) h
    simp only [pairB, Bool.and_eq_true] at hp
    exact hp.2
theorem wpF_end {E : List Nat} {n : Nat} (R : List Nat) (hn : R.length = n) {a : Act} {w : World} (hnd : decide R.Nodup = true) (hc : chainR ops R = true) (hp : pairB (fun r s => !Region.waitsFor .any ops r s) R = true) (h : wpR P ops Q C E R a w) : wpF P ops Q C E n R a w := by
  subst hn
  exact wpF_chain R a w (of_decide_eq_true hnd) hc hp h
/-- What stands behind one acting operation. -/
def QnF (P : Program) (ops : Array Oper) (Q : Exit → Act → World → Prop) (C : World → Prop) (E : List Nat) (n : Nat) (rest : List Nat) (b : Bool) : Exit → Act → World → Prop
  | .normal, a, w => (b = true → C w) ∧ wpF P ops Q C E n rest a w
  | .panic _, _, _ => False
  | e, a, w => Q e a w
theorem wpF_op {E R rest : List Nat} {n r : Nat} {o : Oper} {a : Act} {w : World} (b : Bool) (hr : ops[r]? = some o) (hb : needB ops E r = b) (he : R.erase r = rest) (h : wpList P ops (QnF P ops Q C E n rest b) [o] a w) :
    wpOp P ops (NoPanic Q) r (fun a' w' => (needB ops E r = true → C w') ∧ wpF P ops Q C E n (R.erase r) a' w') a w := by
  subst he
  unfold wpOp
  simp only [hr]
  unfold wpList at h
  have hl : LetsOut (QnF P ops Q C E n (R.erase r) b) → LetsOut (NoPanic Q) := fun ⟨a, w, h⟩ => ⟨a, w, h⟩
  have hk : ∀ a' w', wpList P ops (QnF P ops Q C E n (R.erase r) b) [] a' w' → (needB ops E r = true → C w') ∧ wpF P ops Q C E n (R.erase r) a' w' := fun a' w' h' => by
    rw [hb]; exact h'
  split
  · rename_i hw
    rw [if_pos hw] at h
    rcases h with h | ⟨h1, h2⟩
    · refine .inl ?_
      unfold Oper.wp at *
      generalize (execOp a.eval o).run P w = r at *
      cases r with
      | ok n w' =>
        cases n <;> simp only [Oper.upon] at h ⊢
        case value u => exact hk _ _ h
        case skip => exact hk _ _ h
        case defer d => exact hk _ _ h
        case enter f args =>
          refine Calls.mono h fun e w'' he => ?_
          cases e with
          | returned u => exact hk _ _ he
          | panicked c => exact he
          | outgrown => exact hl he
        case row row args => exact Rows.mono h fun u w'' he => hk _ _ he
      | halt x w' => cases x <;> simp only [Oper.upon] at h ⊢ <;> exact h
    · exact .inr ⟨h1, hl h2⟩
  · rename_i hw
    rw [if_neg hw] at h
    exact hk _ _ h
/-- The same, the operation by its number. -/
theorem wpF_at {E R rest : List Nat} {n r : Nat} {a : Act} {w : World} (b : Bool) (hlt : decide (r < ops.size) = true) (hb : needB ops E r = b) (he : R.erase r = rest) (h : wpList P ops (QnF P ops Q C E n rest b) (opsAt ops [r]) a w) :
    wpOp P ops (NoPanic Q) r (fun a' w' => (needB ops E r = true → C w') ∧ wpF P ops Q C E n (R.erase r) a' w') a w :=
  wpF_op b (o := ops.getD r default) (by simp [of_decide_eq_true hlt]) hb he h
theorem wpR_at {E rest : List Nat} {r : Nat} {a : Act} {w : World} (b : Bool) (hlt : decide (r < ops.size) = true) (hb : needB ops E r = b) (h : wpList P ops (Qn P ops Q C E rest b) (opsAt ops [r]) a w) : wpR P ops Q C E (r :: rest) a w :=
  wpR_cons b (o := ops.getD r default) (by simp [of_decide_eq_true hlt]) hb h
/-- One may come next. -/
theorem wpF_one {E R : List Nat} {n r : Nat} {a : Act} {w : World} (hr : readyF ops R = [r])
    (h1 : wpOp P ops (NoPanic Q) r (fun a' w' => (needB ops E r = true → C w') ∧ wpF P ops Q C E n (R.erase r) a' w') a w) : wpF P ops Q C E (n + 1) R a w := by
  intro i hi
  rw [hr, List.mem_singleton] at hi
  subst hi
  exact h1
/-- Two may come next. -/
theorem wpF_two {E R : List Nat} {n r s : Nat} {a : Act} {w : World} (hr : readyF ops R = [r, s])
    (h1 : wpOp P ops (NoPanic Q) r (fun a' w' => (needB ops E r = true → C w') ∧ wpF P ops Q C E n (R.erase r) a' w') a w)
    (h2 : wpOp P ops (NoPanic Q) s (fun a' w' => (needB ops E s = true → C w') ∧ wpF P ops Q C E n (R.erase s) a' w') a w) : wpF P ops Q C E (n + 1) R a w := by
  intro i hi
  rw [hr] at hi
  rcases List.mem_cons.1 hi with rfl | hi
  · exact h1
  · rw [List.mem_singleton] at hi
    subst hi
    exact h2
end
end Go.Proofs.YtdjaphcelpchaaaGreatDoor

namespace Go.Proofs.YtdjaphcelpchaaaGreatDoor
open Go Go.RowKit Go.Proofs

attribute [local go_sem ↓] ex_load_id ex_store_id ex_load_line ex_store_line ex_load_rline ex_store_rline ex_alloc_line ex_build_line ex_alloc_rline ex_build_rline ex_bs_rline

attribute [local go_sem] ld_id st_id ld_line st_line ld_rline st_rline guard_id okCells_drew rdCells_drew okCells_drewN rdCells_drewN rowOk_drew rowOk_cells okCells_cells rdCells_cells setRow_drew setRow_new setRow_past bs_rline run_eql_id run_neq_id eqIn_id

theorem atR_snoc : ∀ (l : List MR) (a r : MR) (i k : Nat), atR (l ++ [a]) r i k = if beforeB a r then i + l.length + 1 else atR l r i k
  | [], a, r, i, k => by simp [atR]
  | b :: l, a, r, i, k => by
    rw [List.cons_append]
    unfold atR
    rw [atR_snoc l a r (i + 1) _, List.length_cons, show i + 1 + l.length + 1 = i + (l.length + 1) + 1 by omega]
/-- The error of the reference's Add. -/
def addErrR (rs : List MR) (s : ByteArray) (p : PLine) : Int := if nameErr s ≠ 0 then nameErr s else if pErr p ≠ 0 then pErr p else if clashR rs s p then 7 else 0
theorem rel_err {gs : List MG} {rs : List MR} (hr : RelR gs rs) (s : ByteArray) (p : PLine) : addErr (linesIn gs s) s p = addErrR rs s p := by
  unfold addErr addErrR
  rw [rel_clash hr]
/-- What the reference's Add does. -/
def AddRPost (v : Value) (rs : List MR) (s : ByteArray) (p : PLine) (v0 : Value) (w : World) (r : Ending) (w' : World) : Prop :=
  Below w.heap.size w w' ∧ ((addErrR rs s p ≠ 0 ∧ r = .returned (.tuple #[v, .int .i64 (addErrR rs s p)])) ∨ (addErrR rs s p = 0 ∧ ∃ v', r = .returned (.tuple #[v', .int .i64 0]) ∧ RefsAt w.heap.size w' v' (addR rs ⟨s, ⟨p, v0⟩⟩)))
theorem rvar_id {w : World} {lb : Nat} {s : ByteArray} {g : GLine} (h : RVar w lb s g) : okCells w ⟨lb, 2, none⟩ 32 = true ∧ rdCells w ⟨lb, 2, none⟩ 32 = (encId g.id).toArray := by
  have := rd_of_cells (w := w) (a := ⟨lb, 2, none⟩) (cs := encId g.id) (fun j v hj => by
    have hj32 : j < 32 := by have := (List.getElem?_eq_some_iff.1 hj).1; rwa [encId_length] at this
    rw [Addr.add_lit, h.cell, show 2 + j = (1 + j) + 1 by omega, rc_succ, ← hj]
    simp only [lineCells, lineList, List.getElem?_toArray]
    rw [show 1 + j = j + 1 by omega, List.getElem?_cons_succ, List.getElem?_append_left (by rw [encId_length]; exact hj32)])
  rwa [encId_length] at this

theorem cell_of_same {w w' : World} {a : Addr} (h : w'.heap[a.block]? = w.heap[a.block]?) : w'.cell? a = w.cell? a := by
  unfold World.cell?
  rw [h]
/-- append(s, x...) of a nil x: s itself. -/
theorem wpList_append_nilR {ops : Array Oper} {rest : List Oper} {o : Oper} {a : Act} {w : World} {Q : Exit → Act → World → Prop} (hgd : o.guard = none) (s x : Operand)
    (ho : o.op = .call { callee := .builtin .append, args := #[s, x], argTypes := #[49, 49] }) (ad : Option Addr) (n c k : Nat) (hn : n ≤ c) (hs : a.eval s = .slice ad n c) (hx : a.eval x = .slice none 0 k)
    (h : wpList Tryz.prog ops Q rest (a.put o.dst (.slice ad n c)) w) : wpList Tryz.prog ops Q (o :: rest) a w := by
  refine wpList_plain hgd fun K hK => ?_
  have hr : (Builtin.append_ #[49, 49] o.type #[.slice ad n c, .slice none 0 k]).run Tryz.prog w = .ok (.slice ad n c) w := by
    have hz := Tryz.sizeOf26
    cases ad with
    | none => simp [Builtin.append_, hz, Builtin.lenOf, Builtin.firstCells, hn]
    | some b => simp [Builtin.append_, hz, Builtin.lenOf, Builtin.firstCells, hn, storeCells]
  unfold Oper.wp execOp
  simp only [ho, resolve, invoke, builtin, Sem.run_bind, Sem.run_pure, Result.andThen_ok, List.map_toArray, List.map_cons, List.map_nil, hs, hx, hr]
  exact hK _ _ h

theorem addR_length (rs : List MR) (r : MR) : (addR rs r).length = rs.length + 1 := by
  unfold addR
  rw [List.length_append, List.length_cons, List.length_take, List.length_drop]
  omega
theorem clash_take {rs : List MR} {s : ByteArray} {p : PLine} {k : Nat} (hk : k < rs.length) (h0 : clashR (rs.take k) s p = false) (h1 : ¬ (rs[k].s = s ∧ (rs[k].m.p.number = p.number ∨ rs[k].m.p.id = p.id))) : clashR (rs.take (k + 1)) s p = false := by
  rw [List.take_succ_eq_append_getElem hk]
  unfold clashR at h0 ⊢
  rw [List.any_append, h0, Bool.false_or, List.any_cons, List.any_nil, Bool.or_false, Bool.eq_false_iff]
  simp only [ne_eq, Bool.and_eq_true, Bool.or_eq_true, decide_eq_true_eq]
  exact h1
theorem clash_at {rs : List MR} {s : ByteArray} {p : PLine} {k : Nat} (hk : k < rs.length) (h1 : rs[k].s = s ∧ (rs[k].m.p.number = p.number ∨ rs[k].m.p.id = p.id)) : clashR rs s p = true := by
  unfold clashR
  rw [List.any_eq_true]
  refine ⟨rs[k], List.getElem_mem hk, ?_⟩
  simp only [Bool.and_eq_true, Bool.or_eq_true, decide_eq_true_eq]
  exact h1

set_option maxRecDepth 100000 in
set_option maxHeartbeats 8000000 in
theorem addRef_any (B : Nat) (v : Value) (rs : List MR) (s : ByteArray) (p : PLine) (v0 : Value) (w : World) (h : RefsAt B w v rs) (ho : ordR rs) (hs : s.size ≤ 100000) (hO : LineOk w (ML.g ⟨p, v0⟩) p.ids) (hfw : rs.length < 100000) :
    Calls Tryz.prog 33 #[v, .agg (rlineCells s (ML.g ⟨p, v0⟩))] w fun r w' => AddRPost v rs s p v0 w r w' := by
  obtain ⟨i0, hi, hz0, hz1, hz2⟩ := info_parts Tryz.info_rline
  have hone0 : v0.oneCell' = true := hO.refs.one
  have HONE : Hid (∀ u ∈ rList ⟨s, ⟨p, v0⟩⟩, u.oneCell' = true) := Lib.hid (rList_one (r := ⟨s, ⟨p, v0⟩⟩) hone0)
  have HONES : Hid (∀ r ∈ addR rs ⟨s, ⟨p, v0⟩⟩, r.m.v.oneCell' = true) := Lib.hid fun r hr => by
    rcases addR_mem.1 hr with rfl | hr
    · exact hone0
    · exact h.one r hr
  have HNAMES : Hid (∀ r ∈ addR rs ⟨s, ⟨p, v0⟩⟩, r.s.size ≤ 100000) := Lib.hid fun r hr => by
    rcases addR_mem.1 hr with rfl | hr
    · exact hs
    · exact h.names r hr
  have HFEW : Hid ((addR rs ⟨s, ⟨p, v0⟩⟩).length ≤ 100000) := Lib.hid (by rw [addR_length]; omega)
  obtain ⟨g, hg⟩ : ∃ g, g = ML.g ⟨p, v0⟩ := ⟨_, rfl⟩
  have HG := Lib.hid hg
  have hgn : g.number = p.number := by rw [hg]; rfl
  have hgi : g.id = p.id := by rw [hg]; rfl
  have hge : lineErr g p.ids = pErr p := by rw [hg]; rfl
  have HBF : Hid (∀ (a : MR) (wx : World), a.s.size ≤ 100000 → Calls Tryz.prog 75 #[.agg (rlineCells a.s a.m.g), .agg (rlineCells s g)] wx fun r w' => r = .returned (.bool (beforeB a ⟨s, ⟨p, v0⟩⟩)) ∧ Below wx.heap.size wx w') := Lib.hid fun a wx ha => by
    rw [hg]
    exact before_any a ⟨s, ⟨p, v0⟩⟩ wx ha hs
  rw [← hg] at hO ⊢
  clear hg hone0
  obtain ⟨W, hW⟩ : ∃ W, W = w.alloc (.cells (rlineCells s g) 26) := ⟨_, rfl⟩
  have hb0 : Below w.heap.size w W := by rw [hW]; exact (Below.refl _ _).alloc (Nat.le_refl _) _
  have hR0 : RVar W w.heap.size s g := by rw [hW]; exact heap_alloc_new _ _
  have c0 := (hR0.cell 0).trans (rc0 s g)
  have HCK := Lib.hid (rcheck_any s W hs)
  have HR0 := Lib.hid hR0
  have HB0 := Lib.hid hb0
  have hss : w.heap.size < W.heap.size := hR0.lt
  have HO := Lib.hid hO
  have HX := Lib.hid h
  have HORD := Lib.hid ho
  rw [hW] at c0
  clear hR0 hb0 hO h ho
  obtain ⟨va, vn, vc, hv⟩ : ∃ a n c, v = .slice a n c := own_slice HX.out.row
  have HE0 : Hid (addErrR rs s p = if nameErr s ≠ 0 then nameErr s else if pErr p ≠ 0 then pErr p else if clashR rs s p then 7 else 0) := Lib.hid rfl
  subst hv
  go_enter Tryz.func33, Tryz.ntmps33
  go_wp2_with fail
  rw [← hW]
  clear hW c0
  refine HCK.out.mono ?_
  rintro r w1 ⟨rfl, hb1⟩
  have HB1 := Lib.hid (HB0.out.trans (hb1.mono HB0.out.size) : Below w.heap.size w w1)
  have HR1 : Hid (RVar w1 w.heap.size s g) := Lib.hid ((hb1.block _ hss).trans HR0.out)
  clear hb1 HR0 HB0 HCK hss
  by_cases hne : nameErr s = 0
  · rw [hne]
    obtain ⟨q1, q2⟩ := HR1.out.rd
    have HRC := Lib.hid (refCheck_any s g p.ids w1 (HO.out.below HB1.out))
    rw [hge] at HRC
    go_wp2_with fail
    refine HRC.out.mono ?_
    rintro r w2 ⟨rfl, hb2⟩
    have HB2 := Lib.hid (HB1.out.trans (hb2.mono HB1.out.size) : Below w.heap.size w w2)
    have HR2 : Hid (RVar w2 w.heap.size s g) := Lib.hid ((hb2.block _ HR1.out.lt).trans HR1.out)
    clear hb2 HR1 HB1 HRC q1 q2
    by_cases hpe : pErr p = 0
    · rw [hpe]
      have HEC : Hid (addErrR rs s p = if clashR rs s p then 7 else 0) := Lib.hid (by rw [HE0.out, if_neg (by rw [hne]; simp), if_neg (by rw [hpe]; simp)])
      clear HE0
      have HHD := Lib.hid HX.out.head
      rcases HHD.out with ⟨hvn, hrs⟩ | ⟨gb, cap, cur, hve, hBg, hgb, hle, hmx, _, hcell⟩
      · cases hvn
        have HERR : Hid (addErrR rs s p = 0) := Lib.hid (by rw [HEC.out, hrs]; rfl)
        have HADD : Hid (addR rs ⟨s, ⟨p, v0⟩⟩ = [⟨s, ⟨p, v0⟩⟩]) := Lib.hid (by rw [hrs]; rfl)
        clear hrs HHD HEC
        go_wp2
        go_loopw [8, 9] (fun a i wr => a = .int .i64 0 ∧ i = .int .i64 0 ∧ wr = w2) (fun _ _ _ => 0)
        case atStart => exact ⟨rfl, rfl, rfl⟩
        case round =>
          obtain ⟨rfl, rfl, hwe⟩ := hrel
          subst hwe
          have HBr := HB2
          have z1 : ∀ z : Later wr, okCells z.1 ⟨w.heap.size, 0, none⟩ 39 = true := fun z => (RVar.rd ((z.2.block _ HR2.out.lt).trans HR2.out)).1
          have z2 : ∀ z : Later wr, rdCells z.1 ⟨w.heap.size, 0, none⟩ 39 = rlineCells s g := fun z => (RVar.rd ((z.2.block _ HR2.out.lt).trans HR2.out)).2
          go_wp2
          refine wp_region_fork [1, 2, 3, 5, 8, 9, 10] [0, 4, 6, 7, 11, 12, 13] 7 (fun w' => ∃ z : Later wr, w' = z.1) (by kernel_rfl) (by kernel_rfl) rfl ⟨⟨_, (Below.refl _ _).drew⟩, rfl⟩ ?_
          simp only [opsAt, List.map_cons, List.map_nil, Array.getD_eq_getD_getElem?, List.getElem?_toArray, List.getElem?_cons_zero, List.getElem?_cons_succ, Option.getD_some]
          repeat (go_big_quiet_step (fail))
          refine wpQuiet_nil ?_
          clear z1 z2
          generalize hWd : wr.drew = Wd
          have HBWd : Hid (Below wr.heap.size wr Wd) := Lib.hid (by rw [← hWd]; exact (Below.refl _ _).drew)
          clear hWd
          refine wpF_two (r := 0) (s := 6) (by kernel_rfl) ?_ ?_
          · refine wpF_at true (by kernel_rfl) (by kernel_rfl) (rest := [4, 6, 7, 11, 12, 13]) rfl ?_
            simp only [opsAt, List.map_cons, List.map_nil, Array.getD_eq_getD_getElem?, List.getElem?_toArray, List.getElem?_cons_zero, Option.getD_some]
            go_wp2_with fail
            have hE := ownsRow_base (own_empty Wd 26 39) HBWd.out.size
            have hBn : Below wr.heap.size wr (Wd.alloc (.cells #[] 26)) := HBWd.out.alloc HBWd.out.size _
            have hG0 : Below Wd.heap.size Wd (Wd.alloc (.cells #[] 26)) := (Below.refl _ _).alloc (Nat.le_refl _) _
            have hs0 : (Wd.alloc (.cells #[] 26)).heap.size = Wd.heap.size + 1 := by simp
            have hb66 : wr.heap.size ≤ Wd.heap.size := HBWd.out.size
            generalize Wd.alloc (.cells #[] 26) = Wa at hE hBn hG0 hs0 ⊢
            have HS0 := Lib.hid hs0
            clear hs0
            have HBWa := Lib.hid hBn
            have HE := Lib.hid hE
            clear hE hBn hG0
            refine ⟨fun _ => ⟨⟨_, HBWa.out⟩, rfl⟩, ?_⟩
            refine wpF_two (r := 4) (s := 6) (by kernel_rfl) ?_ ?_
            · refine wpF_at true (by kernel_rfl) (by kernel_rfl) (rest := [6, 7, 11, 12, 13]) rfl ?_
              simp only [opsAt, List.map_cons, List.map_nil, Array.getD_eq_getD_getElem?, List.getElem?_toArray, List.getElem?_cons_zero, List.getElem?_cons_succ, Option.getD_some]
              refine wpList_append_nilR rfl (.tmp 66) (.tmp 69) rfl _ _ _ 0 (Nat.le_refl 0) rfl rfl ?_
              have HO70 := HE
              go_wp2_with fail
              refine ⟨fun _ => ⟨⟨_, HBWa.out⟩, rfl⟩, ?_⟩
              refine wpF_end [6, 7, 11, 12, 13] rfl rfl (by kernel_rfl) (by kernel_rfl) ?_
              refine wpR_at true (by kernel_rfl) (by kernel_rfl) ?_
              simp only [opsAt, List.map_cons, List.map_nil, Array.getD_eq_getD_getElem?, List.getElem?_toArray, List.getElem?_cons_zero, List.getElem?_cons_succ, Option.getD_some]
              go_wp2_with fail
              have c72 : ∀ j, (Wa.alloc (.cells (rlineCells s g) 26)).cell? ⟨Wa.heap.size, j, none⟩ = (rlineCells s g)[j]? := fun j => cells_new _ _ _ j
              have hBn : Below wr.heap.size wr (Wa.alloc (.cells (rlineCells s g) 26)) := HBWa.out.alloc HBWa.out.size _
              have hs6 : (Wa.alloc (.cells (rlineCells s g) 26)).heap.size = Wa.heap.size + 1 := by simp
              have hown6 := HO70.out.alloc (.cells (rlineCells s g) 26)
              obtain ⟨b72, hb72⟩ : ∃ b, b = Wa.heap.size := ⟨_, rfl⟩
              rw [← hb72] at c72 ⊢
              generalize Wa.alloc (.cells (rlineCells s g) 26) = Wc at c72 hBn hs6 hown6 ⊢
              have HBWc := Lib.hid hBn
              have C72 := Lib.hid c72
              have l72 : b72 < Wc.heap.size := by omega
              have HS6 := Lib.hid hs6
              have HB72 := Lib.hid hb72
              clear hs6 hb72
              have HO70 := Lib.hid hown6
              clear c72 hBn hown6
              refine ⟨fun _ => ⟨⟨_, HBWc.out⟩, rfl⟩, ?_⟩
              refine wpR_at true (by kernel_rfl) (by kernel_rfl) ?_
              simp only [opsAt, List.map_cons, List.map_nil, Array.getD_eq_getD_getElem?, List.getElem?_toArray, List.getElem?_cons_zero, List.getElem?_cons_succ, Option.getD_some]
              refine wpList_append_own _ rfl (.tmp 70) (.tmp 72) 49 rfl wr.heap.size 26 i0 (.agg (rlineCells ⟨#[]⟩ zeroLine)) 39 128 Tryz.underlying49 hi hz0 hz1 hz2 (rlineCells_size _ _) (by decide) _ _ _ rfl HO70.out ⟨b72, 0, none⟩ 1 1 (rList ⟨s, ⟨p, v0⟩⟩) rfl (rList_length _) ?e1 HONE.out ?e3 ?e4 ?e5 ?_
              case e1 =>
                intro j u hj
                rw [Addr.add_lit, Nat.zero_add, C72.out j]
                rw [HG.out, rList_cells ⟨s, ⟨p, v0⟩⟩]
                simpa using hj
              case e3 => unfold maxLen; omega
              case e4 => omega
              case e5 => exact HBWc.out.size
              intro v73 w3 hown3 hgr3 _
              have HB3 := Lib.hid (HBWc.out.grown hgr3 HBWc.out.size (fun k e => (HO70.out.lt k e).1) : Below wr.heap.size wr w3)
              have HO73 := Lib.hid hown3
              clear hgr3 hown3
              go_wp2_with fail
              refine ⟨fun _ => ⟨⟨_, HB3.out⟩, rfl⟩, wpR_list [11, 12, 13] _ _ (by kernel_rfl) ?_⟩
              simp only [opsAt, List.map_cons, List.map_nil, Array.getD_eq_getD_getElem?, List.getElem?_toArray, List.getElem?_cons_zero, List.getElem?_cons_succ, Option.getD_some]
              obtain ⟨g73, c73, hv73, hc73⟩ : ∃ g c, v73 = .slice g 1 c ∧ 1 ≤ c := by
                rcases HO73.out.2 with ⟨_, h0⟩ | ⟨g', cap', _, e, _, _, hle, _⟩
                · omega
                · exact ⟨_, _, e, by omega⟩
              subst hv73
              refine wpList_append_nilR rfl (.tmp 73) (.tmp 76) rfl _ _ _ 0 hc73 rfl rfl ?_
              go_wp2
              refine NoPanic.normal ?_
              go_wp2
              go_ret2
              have hBf : Below w.heap.size w w3 := HBr.out.trans (HB3.out.mono HBr.out.size)
              refine ⟨hBf, .inr ⟨HERR.out, _, rfl, ⟨?_, HONES.out, HNAMES.out, HFEW.out⟩⟩⟩
              have := ownsRow_base HO73.out HBr.out.size
              rw [HADD.out, flatR_one]
              exact this
            · refine wpF_at true (by kernel_rfl) (by kernel_rfl) (rest := [4, 7, 11, 12, 13]) rfl ?_
              simp only [opsAt, List.map_cons, List.map_nil, Array.getD_eq_getD_getElem?, List.getElem?_toArray, List.getElem?_cons_zero, List.getElem?_cons_succ, Option.getD_some]
              go_wp2_with fail
              have c72 : ∀ j, (Wa.alloc (.cells (rlineCells s g) 26)).cell? ⟨Wa.heap.size, j, none⟩ = (rlineCells s g)[j]? := fun j => cells_new _ _ _ j
              have hBn : Below wr.heap.size wr (Wa.alloc (.cells (rlineCells s g) 26)) := HBWa.out.alloc HBWa.out.size _
              have hs6 : (Wa.alloc (.cells (rlineCells s g) 26)).heap.size = Wa.heap.size + 1 := by simp
              have hown6 := HE.out.alloc (.cells (rlineCells s g) 26)
              obtain ⟨b72, hb72⟩ : ∃ b, b = Wa.heap.size := ⟨_, rfl⟩
              rw [← hb72] at c72 ⊢
              generalize Wa.alloc (.cells (rlineCells s g) 26) = Wb at c72 hBn hs6 hown6 ⊢
              have HBWb := Lib.hid hBn
              have C72 := Lib.hid c72
              have l72 : b72 < Wb.heap.size := by omega
              have HS6 := Lib.hid hs6
              have HB72 := Lib.hid hb72
              clear hs6 hb72
              have HE := Lib.hid hown6
              clear c72 hBn hown6
              refine ⟨fun _ => ⟨⟨_, HBWb.out⟩, rfl⟩, ?_⟩
              refine wpF_end [4, 7, 11, 12, 13] rfl rfl (by kernel_rfl) (by kernel_rfl) ?_
              refine wpR_at true (by kernel_rfl) (by kernel_rfl) ?_
              simp only [opsAt, List.map_cons, List.map_nil, Array.getD_eq_getD_getElem?, List.getElem?_toArray, List.getElem?_cons_zero, List.getElem?_cons_succ, Option.getD_some]
              refine wpList_append_nilR rfl (.tmp 66) (.tmp 69) rfl _ _ _ 0 (Nat.le_refl 0) rfl rfl ?_
              have HO70 := HE
              go_wp2_with fail
              refine ⟨fun _ => ⟨⟨_, HBWb.out⟩, rfl⟩, ?_⟩
              refine wpR_at true (by kernel_rfl) (by kernel_rfl) ?_
              simp only [opsAt, List.map_cons, List.map_nil, Array.getD_eq_getD_getElem?, List.getElem?_toArray, List.getElem?_cons_zero, List.getElem?_cons_succ, Option.getD_some]
              refine wpList_append_own _ rfl (.tmp 70) (.tmp 72) 49 rfl wr.heap.size 26 i0 (.agg (rlineCells ⟨#[]⟩ zeroLine)) 39 128 Tryz.underlying49 hi hz0 hz1 hz2 (rlineCells_size _ _) (by decide) _ _ _ rfl HO70.out ⟨b72, 0, none⟩ 1 1 (rList ⟨s, ⟨p, v0⟩⟩) rfl (rList_length _) ?e1 HONE.out ?e3 ?e4 ?e5 ?_
              case e1 =>
                intro j u hj
                rw [Addr.add_lit, Nat.zero_add, C72.out j]
                rw [HG.out, rList_cells ⟨s, ⟨p, v0⟩⟩]
                simpa using hj
              case e3 => unfold maxLen; omega
              case e4 => omega
              case e5 => exact HBWb.out.size
              intro v73 w3 hown3 hgr3 _
              have HB3 := Lib.hid (HBWb.out.grown hgr3 HBWb.out.size (fun k e => (HO70.out.lt k e).1) : Below wr.heap.size wr w3)
              have HO73 := Lib.hid hown3
              clear hgr3 hown3
              go_wp2_with fail
              refine ⟨fun _ => ⟨⟨_, HB3.out⟩, rfl⟩, wpR_list [11, 12, 13] _ _ (by kernel_rfl) ?_⟩
              simp only [opsAt, List.map_cons, List.map_nil, Array.getD_eq_getD_getElem?, List.getElem?_toArray, List.getElem?_cons_zero, List.getElem?_cons_succ, Option.getD_some]
              obtain ⟨g73, c73, hv73, hc73⟩ : ∃ g c, v73 = .slice g 1 c ∧ 1 ≤ c := by
                rcases HO73.out.2 with ⟨_, h0⟩ | ⟨g', cap', _, e, _, _, hle, _⟩
                · omega
                · exact ⟨_, _, e, by omega⟩
              subst hv73
              refine wpList_append_nilR rfl (.tmp 73) (.tmp 76) rfl _ _ _ 0 hc73 rfl rfl ?_
              go_wp2
              refine NoPanic.normal ?_
              go_wp2
              go_ret2
              have hBf : Below w.heap.size w w3 := HBr.out.trans (HB3.out.mono HBr.out.size)
              refine ⟨hBf, .inr ⟨HERR.out, _, rfl, ⟨?_, HONES.out, HNAMES.out, HFEW.out⟩⟩⟩
              have := ownsRow_base HO73.out HBr.out.size
              rw [HADD.out, flatR_one]
              exact this
          · refine wpF_at true (by kernel_rfl) (by kernel_rfl) (rest := [0, 4, 7, 11, 12, 13]) rfl ?_
            simp only [opsAt, List.map_cons, List.map_nil, Array.getD_eq_getD_getElem?, List.getElem?_toArray, List.getElem?_cons_zero, List.getElem?_cons_succ, Option.getD_some]
            go_wp2_with fail
            have c72 : ∀ j, (Wd.alloc (.cells (rlineCells s g) 26)).cell? ⟨Wd.heap.size, j, none⟩ = (rlineCells s g)[j]? := fun j => cells_new _ _ _ j
            have hBn : Below wr.heap.size wr (Wd.alloc (.cells (rlineCells s g) 26)) := HBWd.out.alloc HBWd.out.size _
            have hs6 : (Wd.alloc (.cells (rlineCells s g) 26)).heap.size = Wd.heap.size + 1 := by simp
            obtain ⟨b72, hb72⟩ : ∃ b, b = Wd.heap.size := ⟨_, rfl⟩
            rw [← hb72] at c72 ⊢
            generalize Wd.alloc (.cells (rlineCells s g) 26) = Wa at c72 hBn hs6 ⊢
            have HBWa := Lib.hid hBn
            have C72 := Lib.hid c72
            have l72 : b72 < Wa.heap.size := by omega
            have HS6 := Lib.hid hs6
            have HB72 := Lib.hid hb72
            clear hs6 hb72
            clear c72 hBn
            refine ⟨fun _ => ⟨⟨_, HBWa.out⟩, rfl⟩, ?_⟩
            refine wpF_end [0, 4, 7, 11, 12, 13] rfl rfl (by kernel_rfl) (by kernel_rfl) ?_
            refine wpR_at true (by kernel_rfl) (by kernel_rfl) ?_
            simp only [opsAt, List.map_cons, List.map_nil, Array.getD_eq_getD_getElem?, List.getElem?_toArray, List.getElem?_cons_zero, Option.getD_some]
            go_wp2_with fail
            have hE := ownsRow_base (own_empty Wa 26 39) HBWa.out.size
            have hBn : Below wr.heap.size wr (Wa.alloc (.cells #[] 26)) := HBWa.out.alloc HBWa.out.size _
            have hG0 : Below Wa.heap.size Wa (Wa.alloc (.cells #[] 26)) := (Below.refl _ _).alloc (Nat.le_refl _) _
            have hs0 : (Wa.alloc (.cells #[] 26)).heap.size = Wa.heap.size + 1 := by simp
            have hb66 : wr.heap.size ≤ Wa.heap.size := HBWa.out.size
            generalize Wa.alloc (.cells #[] 26) = Wb at hE hBn hG0 hs0 ⊢
            have HS0 := Lib.hid hs0
            clear hs0
            have HBWb := Lib.hid hBn
            have HE := Lib.hid hE
            have C72 : Hid (∀ j, Wb.cell? ⟨b72, j, none⟩ = (rlineCells s g)[j]?) := Lib.hid fun j => (hG0.cell (p := ⟨b72, j, none⟩) l72).trans (C72.out j)
            have n72 : b72 ≠ Wa.heap.size := Nat.ne_of_lt l72
            replace l72 : b72 < Wb.heap.size := by have := HS0.out; omega
            clear hE hBn hG0
            refine ⟨fun _ => ⟨⟨_, HBWb.out⟩, rfl⟩, ?_⟩
            refine wpR_at true (by kernel_rfl) (by kernel_rfl) ?_
            simp only [opsAt, List.map_cons, List.map_nil, Array.getD_eq_getD_getElem?, List.getElem?_toArray, List.getElem?_cons_zero, List.getElem?_cons_succ, Option.getD_some]
            refine wpList_append_nilR rfl (.tmp 66) (.tmp 69) rfl _ _ _ 0 (Nat.le_refl 0) rfl rfl ?_
            have HO70 := HE
            go_wp2_with fail
            refine ⟨fun _ => ⟨⟨_, HBWb.out⟩, rfl⟩, ?_⟩
            refine wpR_at true (by kernel_rfl) (by kernel_rfl) ?_
            simp only [opsAt, List.map_cons, List.map_nil, Array.getD_eq_getD_getElem?, List.getElem?_toArray, List.getElem?_cons_zero, List.getElem?_cons_succ, Option.getD_some]
            refine wpList_append_own _ rfl (.tmp 70) (.tmp 72) 49 rfl wr.heap.size 26 i0 (.agg (rlineCells ⟨#[]⟩ zeroLine)) 39 128 Tryz.underlying49 hi hz0 hz1 hz2 (rlineCells_size _ _) (by decide) _ _ _ rfl HO70.out ⟨b72, 0, none⟩ 1 1 (rList ⟨s, ⟨p, v0⟩⟩) rfl (rList_length _) ?e1 HONE.out ?e3 ?e4 ?e5 ?_
            case e1 =>
              intro j u hj
              rw [Addr.add_lit, Nat.zero_add, C72.out j]
              rw [HG.out, rList_cells ⟨s, ⟨p, v0⟩⟩]
              simpa using hj
            case e3 => unfold maxLen; omega
            case e4 => omega
            case e5 => exact HBWb.out.size
            intro v73 w3 hown3 hgr3 _
            have HB3 := Lib.hid (HBWb.out.grown hgr3 HBWb.out.size (fun k e => (HO70.out.lt k e).1) : Below wr.heap.size wr w3)
            have HO73 := Lib.hid hown3
            clear hgr3 hown3
            go_wp2_with fail
            refine ⟨fun _ => ⟨⟨_, HB3.out⟩, rfl⟩, wpR_list [11, 12, 13] _ _ (by kernel_rfl) ?_⟩
            simp only [opsAt, List.map_cons, List.map_nil, Array.getD_eq_getD_getElem?, List.getElem?_toArray, List.getElem?_cons_zero, List.getElem?_cons_succ, Option.getD_some]
            obtain ⟨g73, c73, hv73, hc73⟩ : ∃ g c, v73 = .slice g 1 c ∧ 1 ≤ c := by
              rcases HO73.out.2 with ⟨_, h0⟩ | ⟨g', cap', _, e, _, _, hle, _⟩
              · omega
              · exact ⟨_, _, e, by omega⟩
            subst hv73
            refine wpList_append_nilR rfl (.tmp 73) (.tmp 76) rfl _ _ _ 0 hc73 rfl rfl ?_
            go_wp2
            refine NoPanic.normal ?_
            go_wp2
            go_ret2
            have hBf : Below w.heap.size w w3 := HBr.out.trans (HB3.out.mono HBr.out.size)
            refine ⟨hBf, .inr ⟨HERR.out, _, rfl, ⟨?_, HONES.out, HNAMES.out, HFEW.out⟩⟩⟩
            have := ownsRow_base HO73.out HBr.out.size
            rw [HADD.out, flatR_one]
            exact this
      · cases hve
        have HC := Lib.hid hcell
        clear hcell HHD
        go_wp2
        go_loopw [8, 9] (fun a i wr => ∃ k m : Nat, k ≤ rs.length ∧ m ≤ k ∧ i = .int .i64 k ∧ a = .int .i64 m ∧ Hid (m = atR (rs.take k) ⟨s, ⟨p, v0⟩⟩ 0 0) ∧ Hid (clashR (rs.take k) s p = false) ∧ Hid (Below w2.heap.size w2 wr)) (fun _ i _ => rs.length - (intOf i).toNat)
        case atStart => exact ⟨0, 0, by omega, by omega, rfl, rfl, Lib.hid rfl, Lib.hid rfl, Lib.hid (Below.refl _ _)⟩
        case round =>
          obtain ⟨k, m, hk, hmk, rfl, rfl, HM, HN, HBr⟩ := hrel
          have HRr : Hid (RVar wr w.heap.size s g) := Lib.hid ((HBr.out.block _ HR2.out.lt).trans HR2.out)
          have hgb2 : gb < w2.heap.size := Nat.lt_of_lt_of_le hgb HB2.out.size
          have hcw : ∀ j u, (flatR rs)[j]? = some u → wr.cell? ⟨gb, j, none⟩ = some u := fun j u hu => (HBr.out.cell (p := ⟨gb, j, none⟩) hgb2).trans ((HB2.out.cell (p := ⟨gb, j, none⟩) hgb).trans (HC.out j u hu))
          by_cases hltk : k < rs.length
          · have hltz : (k : Int) < (rs.length : Int) := by omega
            have c0 : wr.cell? ⟨gb, k * 39, none⟩ = some (.string rs[k].s) := rAt_cell hcw hltk (i := 0) rfl
            have c1 : wr.cell? ⟨gb, k * 39 + 1, none⟩ = some (.int .i64 rs[k].m.p.number) := rAt_cell hcw hltk (i := 1) rfl
            obtain ⟨c2, c3⟩ := rAt_id hcw hltk
            have HRD := Lib.hid (rAt_rd hcw hltk)
            have HAT : Hid (rs[k].s = s ∧ (rs[k].m.p.number = p.number ∨ rs[k].m.p.id = p.id) → clashR rs s p = true) := Lib.hid fun h => clash_at hltk h
            have HN2 : Hid (¬ (rs[k].s = s ∧ (rs[k].m.p.number = p.number ∨ rs[k].m.p.id = p.id)) → clashR (rs.take (k + 1)) s p = false) := Lib.hid fun h => clash_take hltk HN.out h
            have HM2 : Hid ((beforeB rs[k] ⟨s, ⟨p, v0⟩⟩ = true → k + 1 = atR (rs.take (k + 1)) ⟨s, ⟨p, v0⟩⟩ 0 0) ∧ (beforeB rs[k] ⟨s, ⟨p, v0⟩⟩ = false → m = atR (rs.take (k + 1)) ⟨s, ⟨p, v0⟩⟩ 0 0)) := Lib.hid (by
              rw [List.take_succ_eq_append_getElem hltk, atR_snoc]
              refine ⟨fun h => ?_, fun h => ?_⟩
              · rw [if_pos h, List.length_take]; omega
              · rw [h, if_neg (by simp)]; exact HM.out)
            have hsz := HX.out.names rs[k] (List.getElem_mem hltk)
            have e0 := (HRr.out.cell 0).trans (rc0 s g)
            have e1 := (HRr.out.cell 1).trans (rc1 s g)
            obtain ⟨e2, e3⟩ := rvar_id HRr.out
            rw [hgn] at e1
            rw [hgi] at e3
            generalize rs[k] = r0 at c0 c1 c2 c3 HRD HAT HN2 HM2 hsz
            have hq0 : ∀ n, (wr.drewN n).cell? ⟨gb, k * 39, none⟩ = some (.string r0.s) := fun n => by rw [World.cell?_drewN]; exact c0
            have hq1 : ∀ n, (wr.drewN n).cell? ⟨gb, k * 39 + 1, none⟩ = some (.int .i64 r0.m.p.number) := fun n => by rw [World.cell?_drewN]; exact c1
            have hq2 : ∀ n, okCells (wr.drewN n) ⟨gb, k * 39 + 2, none⟩ 32 = true := fun n => by rw [okCells_drewN]; exact c2
            have hq3 : ∀ n, rdCells (wr.drewN n) ⟨gb, k * 39 + 2, none⟩ 32 = (encId r0.m.p.id).toArray := fun n => by rw [rdCells_drewN]; exact c3
            have hq4 : ∀ n, (wr.drewN n).cell? ⟨w.heap.size, 0, none⟩ = some (.string s) := fun n => by rw [World.cell?_drewN]; exact e0
            have hq5 : ∀ n, (wr.drewN n).cell? ⟨w.heap.size, 1, none⟩ = some (.int .i64 p.number) := fun n => by rw [World.cell?_drewN]; exact e1
            have hq6 : ∀ n, okCells (wr.drewN n) ⟨w.heap.size, 2, none⟩ 32 = true := fun n => by rw [okCells_drewN]; exact e2
            have hq7 : ∀ n, rdCells (wr.drewN n) ⟨w.heap.size, 2, none⟩ 32 = (encId p.id).toArray := fun n => by rw [rdCells_drewN]; exact e3
            clear c0 c1 c2 c3 e0 e1 e2 e3 hcw
            by_cases ht : r0.s = s
            · have hte : (r0.s.toList == s.toList) = true := by rw [str_eq_iff, decide_eq_true ht]
              by_cases hn : r0.m.p.number = p.number
              · have hnb : (r0.m.p.number == p.number) = true := by rw [beq_iff_eq]; exact hn
                have HT := Lib.hid ht
                have HNE := Lib.hid hn
                clear ht hn
                have HC7 : Hid (addErrR rs s p = 7) := Lib.hid (by rw [HEC.out, HAT.out (⟨HT.out, .inl HNE.out⟩)]; rfl)
                go_wp2_with fail
                go_quiet (fail)
                go_wp2
                go_ret2
                exact ⟨below_drewN' (HB2.out.trans (HBr.out.mono HB2.out.size)) _, .inl ⟨by rw [HC7.out]; decide, by rw [HC7.out]; rfl⟩⟩
              · have hnb : (r0.m.p.number == p.number) = false := by rw [beq_eq_false_iff_ne]; exact hn
                by_cases hx : r0.m.p.id = p.id
                · have hxd : decide (r0.m.p.id = p.id) = true := decide_eq_true hx
                  have HT := Lib.hid ht
                  have HXE := Lib.hid hx
                  clear ht hx hn
                  have HC7 : Hid (addErrR rs s p = 7) := Lib.hid (by rw [HEC.out, HAT.out (⟨HT.out, .inr HXE.out⟩)]; rfl)
                  go_wp2_with fail
                  go_quiet (fail)
                  go_wp2
                  go_ret2
                  exact ⟨below_drewN' (HB2.out.trans (HBr.out.mono HB2.out.size)) _, .inl ⟨by rw [HC7.out]; decide, by rw [HC7.out]; rfl⟩⟩
                · have hxd : decide (r0.m.p.id = p.id) = false := decide_eq_false hx
                  have HN1 := Lib.hid (HN2.out fun h => h.2.elim hn hx)
                  clear ht hx hn HN2
                  go_wp2_with fail
                  go_quiet (fail)
                  clear hq0 hq1 hq2 hq3 hq4 hq5 hq6 hq7 HAT
                  have hbW : Below w2.heap.size w2 (wr.drewN nq) := below_drewN' HBr.out nq
                  have hfW : okCells (wr.drewN nq) ⟨gb, k * 39, none⟩ 39 = true ∧ rdCells (wr.drewN nq) ⟨gb, k * 39, none⟩ 39 = rlineCells r0.s r0.m.g := ⟨by rw [okCells_drewN]; exact HRD.out.1, by rw [rdCells_drewN]; exact HRD.out.2⟩
                  have hrW : RVar (wr.drewN nq) w.heap.size s g := HRr.out
                  generalize wr.drewN nq = W2 at hbW hfW hrW ⊢
                  have z1 : ∀ z : Later W2, okCells z.1 ⟨gb, k * 39, none⟩ 39 = true := fun z => Later.ok hfW.1 z
                  have z2 : ∀ z : Later W2, rdCells z.1 ⟨gb, k * 39, none⟩ 39 = rlineCells r0.s r0.m.g := fun z => (Later.rd hfW.1 z).trans hfW.2
                  have z3 : ∀ z : Later W2, okCells z.1 ⟨w.heap.size, 0, none⟩ 39 = true := fun z => (RVar.rd ((z.2.block _ hrW.lt).trans hrW)).1
                  have z4 : ∀ z : Later W2, rdCells z.1 ⟨w.heap.size, 0, none⟩ 39 = rlineCells s g := fun z => (RVar.rd ((z.2.block _ hrW.lt).trans hrW)).2
                  have HBW := Lib.hid hbW
                  clear hbW hfW hrW HRr HBr HRD
                  go_wp2_with fail
                  refine wp_region_mix0 [0, 1, 2, 3, 4] [5] (fun w' => ∃ z : Later W2, w' = z.1) (by kernel_rfl) (by kernel_rfl) (by kernel_rfl) ⟨⟨_, (Below.refl _ _).drew⟩, rfl⟩ ?_
                  simp only [opsAt, List.map_cons, List.map_nil, Array.getD_eq_getD_getElem?, List.getElem?_toArray, List.getElem?_cons_zero, List.getElem?_cons_succ, Option.getD_some]
                  repeat (go_big_quiet_step (fail))
                  refine wpQuiet_nil ?_
                  clear z1 z2 z3 z4
                  refine wpR_list [5] _ _ (by kernel_rfl) ?_
                  simp only [opsAt, List.map_cons, List.map_nil, Array.getD_eq_getD_getElem?, List.getElem?_toArray, List.getElem?_cons_zero, List.getElem?_cons_succ, Option.getD_some]
                  go_wp2_with fail
                  refine (HBF.out r0 W2.drew hsz).mono ?_
                  rintro r w3 ⟨rfl, hb3⟩
                  have HB3 : Hid (Below w2.heap.size w2 w3) := Lib.hid ((HBW.out.drew).trans (hb3.mono (by exact HBW.out.size)))
                  clear hb3 HBW
                  cases hbb : beforeB r0 ⟨s, ⟨p, v0⟩⟩ with
                  | true =>
                    have HM1 := Lib.hid (HM2.out.1 hbb)
                    go_wp2
                    refine NoPanic.normal ?_
                    go_wp2
                    go_roundw
                    case rel => exact ⟨k + 1, k + 1, by omega, by omega, by go_num, by go_num, HM1, HN1, HB3⟩
                    case measure => simp [intOf]; omega
                  | false =>
                    have HM1 := Lib.hid (HM2.out.2 hbb)
                    go_wp2
                    refine NoPanic.normal ?_
                    go_wp2
                    go_roundw
                    case rel => exact ⟨k + 1, m, by omega, by omega, by go_num, rfl, HM1, HN1, HB3⟩
                    case measure => simp [intOf]; omega
            · have hte : (r0.s.toList == s.toList) = false := by rw [str_eq_iff, decide_eq_false ht]
              have HN1 := Lib.hid (HN2.out fun h => ht h.1)
              clear ht HN2
              go_wp2_with fail
              go_quiet (fail)
              clear hq0 hq1 hq2 hq3 hq4 hq5 hq6 hq7 HAT
              have hbW : Below w2.heap.size w2 (wr.drewN nq) := below_drewN' HBr.out nq
              have hfW : okCells (wr.drewN nq) ⟨gb, k * 39, none⟩ 39 = true ∧ rdCells (wr.drewN nq) ⟨gb, k * 39, none⟩ 39 = rlineCells r0.s r0.m.g := ⟨by rw [okCells_drewN]; exact HRD.out.1, by rw [rdCells_drewN]; exact HRD.out.2⟩
              have hrW : RVar (wr.drewN nq) w.heap.size s g := HRr.out
              generalize wr.drewN nq = W2 at hbW hfW hrW ⊢
              have z1 : ∀ z : Later W2, okCells z.1 ⟨gb, k * 39, none⟩ 39 = true := fun z => Later.ok hfW.1 z
              have z2 : ∀ z : Later W2, rdCells z.1 ⟨gb, k * 39, none⟩ 39 = rlineCells r0.s r0.m.g := fun z => (Later.rd hfW.1 z).trans hfW.2
              have z3 : ∀ z : Later W2, okCells z.1 ⟨w.heap.size, 0, none⟩ 39 = true := fun z => (RVar.rd ((z.2.block _ hrW.lt).trans hrW)).1
              have z4 : ∀ z : Later W2, rdCells z.1 ⟨w.heap.size, 0, none⟩ 39 = rlineCells s g := fun z => (RVar.rd ((z.2.block _ hrW.lt).trans hrW)).2
              have HBW := Lib.hid hbW
              clear hbW hfW hrW HRr HBr HRD
              go_wp2_with fail
              refine wp_region_mix0 [0, 1, 2, 3, 4] [5] (fun w' => ∃ z : Later W2, w' = z.1) (by kernel_rfl) (by kernel_rfl) (by kernel_rfl) ⟨⟨_, (Below.refl _ _).drew⟩, rfl⟩ ?_
              simp only [opsAt, List.map_cons, List.map_nil, Array.getD_eq_getD_getElem?, List.getElem?_toArray, List.getElem?_cons_zero, List.getElem?_cons_succ, Option.getD_some]
              repeat (go_big_quiet_step (fail))
              refine wpQuiet_nil ?_
              clear z1 z2 z3 z4
              refine wpR_list [5] _ _ (by kernel_rfl) ?_
              simp only [opsAt, List.map_cons, List.map_nil, Array.getD_eq_getD_getElem?, List.getElem?_toArray, List.getElem?_cons_zero, List.getElem?_cons_succ, Option.getD_some]
              go_wp2_with fail
              refine (HBF.out r0 W2.drew hsz).mono ?_
              rintro r w3 ⟨rfl, hb3⟩
              have HB3 : Hid (Below w2.heap.size w2 w3) := Lib.hid ((HBW.out.drew).trans (hb3.mono (by exact HBW.out.size)))
              clear hb3 HBW
              cases hbb : beforeB r0 ⟨s, ⟨p, v0⟩⟩ with
              | true =>
                have HM1 := Lib.hid (HM2.out.1 hbb)
                go_wp2
                refine NoPanic.normal ?_
                go_wp2
                go_roundw
                case rel => exact ⟨k + 1, k + 1, by omega, by omega, by go_num, by go_num, HM1, HN1, HB3⟩
                case measure => simp [intOf]; omega
              | false =>
                have HM1 := Lib.hid (HM2.out.2 hbb)
                go_wp2
                refine NoPanic.normal ?_
                go_wp2
                go_roundw
                case rel => exact ⟨k + 1, m, by omega, by omega, by go_num, rfl, HM1, HN1, HB3⟩
                case measure => simp [intOf]; omega
          · have HE : Hid (rs.take k = rs) := Lib.hid (List.take_of_length_le (by omega))
            obtain ⟨at', hat⟩ : ∃ a, a = m := ⟨_, rfl⟩
            have hale : at' ≤ rs.length := by omega
            have HAT : Hid (at' = atR rs ⟨s, ⟨p, v0⟩⟩ 0 0) := Lib.hid (by rw [hat, HM.out, HE.out])
            have HERR : Hid (addErrR rs s p = 0) := Lib.hid (by have := HN.out; rw [HE.out] at this; rw [HEC.out, this]; rfl)
            have HADD : Hid (addR rs ⟨s, ⟨p, v0⟩⟩ = rs.take at' ++ [⟨s, ⟨p, v0⟩⟩] ++ rs.drop at') := Lib.hid (by unfold addR; rw [← HAT.out, List.append_assoc]; rfl)
            have HLEN : Hid ((rs.take at' ++ [(⟨s, ⟨p, v0⟩⟩ : MR)] ++ rs.drop at').length = at' + 1 + (rs.length - at')) := Lib.hid (by
              rw [List.length_append, List.length_append, List.length_take, List.length_drop, List.length_singleton]; omega)
            rw [← hat]
            have hmz : (at' : Int) ≤ (rs.length : Int) := by omega
            clear hat HM HN HEC hmk HE
            have hgbr : gb < wr.heap.size := Nat.lt_of_lt_of_le hgb2 HBr.out.size
            obtain ⟨ad, hadb, had, hdc⟩ : ∃ ad : Addr, (∀ i, (ad.add i).block < wr.heap.size) ∧ (if vc = at' then some (⟨gb, 0, none⟩ : Addr) else some ⟨gb, at' * 39, none⟩) = some ad ∧ ∀ i u, (flatR (rs.drop at'))[i]? = some u → wr.cell? (ad.add i) = some u := by
              by_cases hc : vc = at'
              · refine ⟨⟨gb, 0, none⟩, fun i => by rw [Addr.add_lit]; exact hgbr, if_pos hc, fun i u hu => ?_⟩
                rw [List.drop_of_length_le (by omega)] at hu
                cases hu
              · refine ⟨⟨gb, at' * 39, none⟩, fun i => by rw [Addr.add_lit]; exact hgbr, if_neg hc, fun i u hu => ?_⟩
                rw [Addr.add_lit]
                refine hcw _ _ ?_
                rw [← flatR_drop, List.getElem?_drop] at hu
                exact hu
            have HDC := Lib.hid hdc
            have HADB := Lib.hid hadb
            have HC2 := HC
            have HC : Hid (∀ j u, (flatR rs)[j]? = some u → wr.cell? ⟨gb, j, none⟩ = some u) := Lib.hid hcw
            clear hdc hadb HC2 hcw
            have hl1 : ((flatR rs).take (at' * 39)).length = at' * 39 := by rw [List.length_take, flatR_length]; omega
            have hl2 : (flatR (rs.drop at')).length = (rs.length - at') * 39 := by rw [flatR_length, List.length_drop]
            have HO1 : Hid (∀ u ∈ (flatR rs).take (at' * 39), u.oneCell' = true) := Lib.hid fun u hu => flatR_cells HX.out.one u (List.mem_of_mem_take hu)
            have HO2 : Hid (∀ u ∈ flatR (rs.drop at'), u.oneCell' = true) := Lib.hid (flatR_cells fun r hr => HX.out.one r (List.mem_of_mem_drop hr))
            have HBw2 := HB2
            have HBrr := HBr
            have HBr : Hid (Below w.heap.size w wr) := Lib.hid (HBw2.out.trans (HBrr.out.mono HBw2.out.size))
            have z1 : ∀ z : Later wr, okCells z.1 ⟨w.heap.size, 0, none⟩ 39 = true := fun z => (RVar.rd ((z.2.block _ HRr.out.lt).trans HRr.out)).1
            have z2 : ∀ z : Later wr, rdCells z.1 ⟨w.heap.size, 0, none⟩ 39 = rlineCells s g := fun z => (RVar.rd ((z.2.block _ HRr.out.lt).trans HRr.out)).2
            clear HBw2 HBrr
            go_wp2
            refine wp_region_fork [1, 2, 3, 5, 8, 9, 10] [0, 4, 6, 7, 11, 12, 13] 7 (fun w' => ∃ z : Later wr, w' = z.1) (by kernel_rfl) (by kernel_rfl) rfl ⟨⟨_, (Below.refl _ _).drew⟩, rfl⟩ ?_
            simp only [opsAt, List.map_cons, List.map_nil, Array.getD_eq_getD_getElem?, List.getElem?_toArray, List.getElem?_cons_zero, List.getElem?_cons_succ, Option.getD_some]
            repeat (go_big_quiet_step (fail))
            refine wpQuiet_nil ?_
            clear z1 z2
            try rw [had]
            clear had
            generalize hWd : wr.drew = Wd
            have HBWd : Hid (Below wr.heap.size wr Wd) := Lib.hid (by rw [← hWd]; exact (Below.refl _ _).drew)
            clear hWd
            refine wpF_two (r := 0) (s := 6) (by kernel_rfl) ?_ ?_
            · refine wpF_at true (by kernel_rfl) (by kernel_rfl) (rest := [4, 6, 7, 11, 12, 13]) rfl ?_
              simp only [opsAt, List.map_cons, List.map_nil, Array.getD_eq_getD_getElem?, List.getElem?_toArray, List.getElem?_cons_zero, Option.getD_some]
              go_wp2_with fail
              have hE := ownsRow_base (own_empty Wd 26 39) HBWd.out.size
              have hBn : Below wr.heap.size wr (Wd.alloc (.cells #[] 26)) := HBWd.out.alloc HBWd.out.size _
              have hG0 : Below Wd.heap.size Wd (Wd.alloc (.cells #[] 26)) := (Below.refl _ _).alloc (Nat.le_refl _) _
              have hs0 : (Wd.alloc (.cells #[] 26)).heap.size = Wd.heap.size + 1 := by simp
              have hb66 : wr.heap.size ≤ Wd.heap.size := HBWd.out.size
              generalize Wd.alloc (.cells #[] 26) = Wa at hE hBn hG0 hs0 ⊢
              have HS0 := Lib.hid hs0
              clear hs0
              have HBWa := Lib.hid hBn
              have HE := Lib.hid hE
              clear hE hBn hG0
              refine ⟨fun _ => ⟨⟨_, HBWa.out⟩, rfl⟩, ?_⟩
              refine wpF_two (r := 4) (s := 6) (by kernel_rfl) ?_ ?_
              · refine wpF_at true (by kernel_rfl) (by kernel_rfl) (rest := [6, 7, 11, 12, 13]) rfl ?_
                simp only [opsAt, List.map_cons, List.map_nil, Array.getD_eq_getD_getElem?, List.getElem?_toArray, List.getElem?_cons_zero, List.getElem?_cons_succ, Option.getD_some]
                refine wpList_append_own _ rfl (.tmp 66) (.tmp 69) 49 rfl wr.heap.size 26 i0 (.agg (rlineCells ⟨#[]⟩ zeroLine)) 39 128 Tryz.underlying49 hi hz0 hz1 hz2 (rlineCells_size _ _) (by decide) _ _ _ rfl HE.out ⟨gb, 0, none⟩ at' vc ((flatR rs).take (at' * 39)) rfl hl1 ?c1 HO1.out ?c3 ?c4 ?c5 ?_
                case c1 =>
                  intro i u hu
                  rw [Addr.add_lit, Nat.zero_add]
                  exact (HBWa.out.cell (p := ⟨gb, i, none⟩) hgbr).trans (HC.out i u (by rw [List.getElem?_take] at hu; split at hu; exact hu; cases hu))
                case c3 => unfold maxLen; omega
                case c4 => omega
                case c5 => exact HBWa.out.size
                intro v70 Wb hown1 hgr1 _
                have HBWb := Lib.hid (HBWa.out.grown hgr1 HBWa.out.size (fun k e => by have e' : Wd.heap.size = k := Option.some.inj e; omega) : Below wr.heap.size wr Wb)
                rw [Nat.zero_add, List.nil_append] at hown1
                have HO70 := Lib.hid hown1
                clear hgr1 hown1
                go_wp2_with fail
                refine ⟨fun _ => ⟨⟨_, HBWb.out⟩, rfl⟩, ?_⟩
                refine wpF_end [6, 7, 11, 12, 13] rfl rfl (by kernel_rfl) (by kernel_rfl) ?_
                refine wpR_at true (by kernel_rfl) (by kernel_rfl) ?_
                simp only [opsAt, List.map_cons, List.map_nil, Array.getD_eq_getD_getElem?, List.getElem?_toArray, List.getElem?_cons_zero, List.getElem?_cons_succ, Option.getD_some]
                go_wp2_with fail
                have c72 : ∀ j, (Wb.alloc (.cells (rlineCells s g) 26)).cell? ⟨Wb.heap.size, j, none⟩ = (rlineCells s g)[j]? := fun j => cells_new _ _ _ j
                have hBn : Below wr.heap.size wr (Wb.alloc (.cells (rlineCells s g) 26)) := HBWb.out.alloc HBWb.out.size _
                have hs6 : (Wb.alloc (.cells (rlineCells s g) 26)).heap.size = Wb.heap.size + 1 := by simp
                have hown6 := HO70.out.alloc (.cells (rlineCells s g) 26)
                obtain ⟨b72, hb72⟩ : ∃ b, b = Wb.heap.size := ⟨_, rfl⟩
                rw [← hb72] at c72 ⊢
                generalize Wb.alloc (.cells (rlineCells s g) 26) = Wc at c72 hBn hs6 hown6 ⊢
                have HBWc := Lib.hid hBn
                have C72 := Lib.hid c72
                have l72 : b72 < Wc.heap.size := by omega
                have HS6 := Lib.hid hs6
                have HB72 := Lib.hid hb72
                clear hs6 hb72
                have HO70 := Lib.hid hown6
                clear c72 hBn hown6
                refine ⟨fun _ => ⟨⟨_, HBWc.out⟩, rfl⟩, ?_⟩
                refine wpR_at true (by kernel_rfl) (by kernel_rfl) ?_
                simp only [opsAt, List.map_cons, List.map_nil, Array.getD_eq_getD_getElem?, List.getElem?_toArray, List.getElem?_cons_zero, List.getElem?_cons_succ, Option.getD_some]
                refine wpList_append_own _ rfl (.tmp 70) (.tmp 72) 49 rfl wr.heap.size 26 i0 (.agg (rlineCells ⟨#[]⟩ zeroLine)) 39 128 Tryz.underlying49 hi hz0 hz1 hz2 (rlineCells_size _ _) (by decide) _ _ _ rfl HO70.out ⟨b72, 0, none⟩ 1 1 (rList ⟨s, ⟨p, v0⟩⟩) rfl (rList_length _) ?e1 HONE.out ?e3 ?e4 ?e5 ?_
                case e1 =>
                  intro j u hj
                  rw [Addr.add_lit, Nat.zero_add, C72.out j]
                  rw [HG.out, rList_cells ⟨s, ⟨p, v0⟩⟩]
                  simpa using hj
                case e3 => unfold maxLen; omega
                case e4 => omega
                case e5 => exact HBWc.out.size
                intro v73 w3 hown3 hgr3 _
                have HB3 := Lib.hid (HBWc.out.grown hgr3 HBWc.out.size (fun k e => (HO70.out.lt k e).1) : Below wr.heap.size wr w3)
                have HO73 := Lib.hid hown3
                clear hgr3 hown3
                go_wp2_with fail
                refine ⟨fun _ => ⟨⟨_, HB3.out⟩, rfl⟩, wpR_list [11, 12, 13] _ _ (by kernel_rfl) ?_⟩
                simp only [opsAt, List.map_cons, List.map_nil, Array.getD_eq_getD_getElem?, List.getElem?_toArray, List.getElem?_cons_zero, List.getElem?_cons_succ, Option.getD_some]
                refine wpList_append_own _ rfl (.tmp 73) (.tmp 76) 49 rfl wr.heap.size 26 i0 (.agg (rlineCells ⟨#[]⟩ zeroLine)) 39 128 Tryz.underlying49 hi hz0 hz1 hz2 (rlineCells_size _ _) (by decide) _ _ _ rfl HO73.out ad (rs.length - at') (vc - at') (flatR (rs.drop at')) rfl hl2 ?d1 HO2.out ?d3 ?d4 ?d5 ?_
                case d1 => exact fun i u hu => (HB3.out.cell (p := ad.add i) (HADB.out i)).trans (HDC.out i u hu)
                case d3 => unfold maxLen; omega
                case d4 => omega
                case d5 => exact HB3.out.size
                intro v77 w4 hown4 hgr4 _
                have HB4 := Lib.hid (HB3.out.grown hgr4 HB3.out.size (fun k e => (HO73.out.lt k e).1) : Below wr.heap.size wr w4)
                have HO77 := Lib.hid hown4
                clear hgr4 hown4
                go_wp2
                refine NoPanic.normal ?_
                go_wp2
                go_ret2
                have hBf : Below w.heap.size w w4 := HBr.out.trans (HB4.out.mono HBr.out.size)
                refine ⟨hBf, .inr ⟨HERR.out, _, rfl, ⟨?_, HONES.out, HNAMES.out, HFEW.out⟩⟩⟩
                have := ownsRow_base HO77.out HBr.out.size
                rw [HADD.out, HLEN.out, flatR_append, flatR_append, flatR_one, ← flatR_take]
                exact this
              · refine wpF_at true (by kernel_rfl) (by kernel_rfl) (rest := [4, 7, 11, 12, 13]) rfl ?_
                simp only [opsAt, List.map_cons, List.map_nil, Array.getD_eq_getD_getElem?, List.getElem?_toArray, List.getElem?_cons_zero, List.getElem?_cons_succ, Option.getD_some]
                go_wp2_with fail
                have c72 : ∀ j, (Wa.alloc (.cells (rlineCells s g) 26)).cell? ⟨Wa.heap.size, j, none⟩ = (rlineCells s g)[j]? := fun j => cells_new _ _ _ j
                have hBn : Below wr.heap.size wr (Wa.alloc (.cells (rlineCells s g) 26)) := HBWa.out.alloc HBWa.out.size _
                have hs6 : (Wa.alloc (.cells (rlineCells s g) 26)).heap.size = Wa.heap.size + 1 := by simp
                have hown6 := HE.out.alloc (.cells (rlineCells s g) 26)
                obtain ⟨b72, hb72⟩ : ∃ b, b = Wa.heap.size := ⟨_, rfl⟩
                rw [← hb72] at c72 ⊢
                generalize Wa.alloc (.cells (rlineCells s g) 26) = Wb at c72 hBn hs6 hown6 ⊢
                have HBWb := Lib.hid hBn
                have C72 := Lib.hid c72
                have l72 : b72 < Wb.heap.size := by omega
                have HS6 := Lib.hid hs6
                have HB72 := Lib.hid hb72
                clear hs6 hb72
                have HE := Lib.hid hown6
                clear c72 hBn hown6
                refine ⟨fun _ => ⟨⟨_, HBWb.out⟩, rfl⟩, ?_⟩
                refine wpF_end [4, 7, 11, 12, 13] rfl rfl (by kernel_rfl) (by kernel_rfl) ?_
                refine wpR_at true (by kernel_rfl) (by kernel_rfl) ?_
                simp only [opsAt, List.map_cons, List.map_nil, Array.getD_eq_getD_getElem?, List.getElem?_toArray, List.getElem?_cons_zero, List.getElem?_cons_succ, Option.getD_some]
                refine wpList_append_own _ rfl (.tmp 66) (.tmp 69) 49 rfl wr.heap.size 26 i0 (.agg (rlineCells ⟨#[]⟩ zeroLine)) 39 128 Tryz.underlying49 hi hz0 hz1 hz2 (rlineCells_size _ _) (by decide) _ _ _ rfl HE.out ⟨gb, 0, none⟩ at' vc ((flatR rs).take (at' * 39)) rfl hl1 ?c1 HO1.out ?c3 ?c4 ?c5 ?_
                case c1 =>
                  intro i u hu
                  rw [Addr.add_lit, Nat.zero_add]
                  exact (HBWb.out.cell (p := ⟨gb, i, none⟩) hgbr).trans (HC.out i u (by rw [List.getElem?_take] at hu; split at hu; exact hu; cases hu))
                case c3 => unfold maxLen; omega
                case c4 => omega
                case c5 => exact HBWb.out.size
                intro v70 Wc hown1 hgr1 _
                have HBWc := Lib.hid (HBWb.out.grown hgr1 HBWb.out.size (fun k e => by have e' : Wd.heap.size = k := Option.some.inj e; omega) : Below wr.heap.size wr Wc)
                rw [Nat.zero_add, List.nil_append] at hown1
                have HO70 := Lib.hid hown1
                have C72 : Hid (∀ j, Wc.cell? ⟨b72, j, none⟩ = (rlineCells s g)[j]?) := Lib.hid fun j => (cell_of_same (a := ⟨b72, j, none⟩) (hgr1.block b72 l72 (by intro e; have e' : Wd.heap.size = b72 := (Option.some.inj e).symm; have := HB72.out; have := HS0.out; omega))).trans (C72.out j)
                replace l72 : b72 < Wc.heap.size := Nat.lt_of_lt_of_le l72 hgr1.size
                clear hgr1 hown1
                go_wp2_with fail
                refine ⟨fun _ => ⟨⟨_, HBWc.out⟩, rfl⟩, ?_⟩
                refine wpR_at true (by kernel_rfl) (by kernel_rfl) ?_
                simp only [opsAt, List.map_cons, List.map_nil, Array.getD_eq_getD_getElem?, List.getElem?_toArray, List.getElem?_cons_zero, List.getElem?_cons_succ, Option.getD_some]
                refine wpList_append_own _ rfl (.tmp 70) (.tmp 72) 49 rfl wr.heap.size 26 i0 (.agg (rlineCells ⟨#[]⟩ zeroLine)) 39 128 Tryz.underlying49 hi hz0 hz1 hz2 (rlineCells_size _ _) (by decide) _ _ _ rfl HO70.out ⟨b72, 0, none⟩ 1 1 (rList ⟨s, ⟨p, v0⟩⟩) rfl (rList_length _) ?e1 HONE.out ?e3 ?e4 ?e5 ?_
                case e1 =>
                  intro j u hj
                  rw [Addr.add_lit, Nat.zero_add, C72.out j]
                  rw [HG.out, rList_cells ⟨s, ⟨p, v0⟩⟩]
                  simpa using hj
                case e3 => unfold maxLen; omega
                case e4 => omega
                case e5 => exact HBWc.out.size
                intro v73 w3 hown3 hgr3 _
                have HB3 := Lib.hid (HBWc.out.grown hgr3 HBWc.out.size (fun k e => (HO70.out.lt k e).1) : Below wr.heap.size wr w3)
                have HO73 := Lib.hid hown3
                clear hgr3 hown3
                go_wp2_with fail
                refine ⟨fun _ => ⟨⟨_, HB3.out⟩, rfl⟩, wpR_list [11, 12, 13] _ _ (by kernel_rfl) ?_⟩
                simp only [opsAt, List.map_cons, List.map_nil, Array.getD_eq_getD_getElem?, List.getElem?_toArray, List.getElem?_cons_zero, List.getElem?_cons_succ, Option.getD_some]
                refine wpList_append_own _ rfl (.tmp 73) (.tmp 76) 49 rfl wr.heap.size 26 i0 (.agg (rlineCells ⟨#[]⟩ zeroLine)) 39 128 Tryz.underlying49 hi hz0 hz1 hz2 (rlineCells_size _ _) (by decide) _ _ _ rfl HO73.out ad (rs.length - at') (vc - at') (flatR (rs.drop at')) rfl hl2 ?d1 HO2.out ?d3 ?d4 ?d5 ?_
                case d1 => exact fun i u hu => (HB3.out.cell (p := ad.add i) (HADB.out i)).trans (HDC.out i u hu)
                case d3 => unfold maxLen; omega
                case d4 => omega
                case d5 => exact HB3.out.size
                intro v77 w4 hown4 hgr4 _
                have HB4 := Lib.hid (HB3.out.grown hgr4 HB3.out.size (fun k e => (HO73.out.lt k e).1) : Below wr.heap.size wr w4)
                have HO77 := Lib.hid hown4
                clear hgr4 hown4
                go_wp2
                refine NoPanic.normal ?_
                go_wp2
                go_ret2
                have hBf : Below w.heap.size w w4 := HBr.out.trans (HB4.out.mono HBr.out.size)
                refine ⟨hBf, .inr ⟨HERR.out, _, rfl, ⟨?_, HONES.out, HNAMES.out, HFEW.out⟩⟩⟩
                have := ownsRow_base HO77.out HBr.out.size
                rw [HADD.out, HLEN.out, flatR_append, flatR_append, flatR_one, ← flatR_take]
                exact this
            · refine wpF_at true (by kernel_rfl) (by kernel_rfl) (rest := [0, 4, 7, 11, 12, 13]) rfl ?_
              simp only [opsAt, List.map_cons, List.map_nil, Array.getD_eq_getD_getElem?, List.getElem?_toArray, List.getElem?_cons_zero, List.getElem?_cons_succ, Option.getD_some]
              go_wp2_with fail
              have c72 : ∀ j, (Wd.alloc (.cells (rlineCells s g) 26)).cell? ⟨Wd.heap.size, j, none⟩ = (rlineCells s g)[j]? := fun j => cells_new _ _ _ j
              have hBn : Below wr.heap.size wr (Wd.alloc (.cells (rlineCells s g) 26)) := HBWd.out.alloc HBWd.out.size _
              have hs6 : (Wd.alloc (.cells (rlineCells s g) 26)).heap.size = Wd.heap.size + 1 := by simp
              obtain ⟨b72, hb72⟩ : ∃ b, b = Wd.heap.size := ⟨_, rfl⟩
              rw [← hb72] at c72 ⊢
              generalize Wd.alloc (.cells (rlineCells s g) 26) = Wa at c72 hBn hs6 ⊢
              have HBWa := Lib.hid hBn
              have C72 := Lib.hid c72
              have l72 : b72 < Wa.heap.size := by omega
              have HS6 := Lib.hid hs6
              have HB72 := Lib.hid hb72
              clear hs6 hb72
              clear c72 hBn
              refine ⟨fun _ => ⟨⟨_, HBWa.out⟩, rfl⟩, ?_⟩
              refine wpF_end [0, 4, 7, 11, 12, 13] rfl rfl (by kernel_rfl) (by kernel_rfl) ?_
              refine wpR_at true (by kernel_rfl) (by kernel_rfl) ?_
              simp only [opsAt, List.map_cons, List.map_nil, Array.getD_eq_getD_getElem?, List.getElem?_toArray, List.getElem?_cons_zero, Option.getD_some]
              go_wp2_with fail
              have hE := ownsRow_base (own_empty Wa 26 39) HBWa.out.size
              have hBn : Below wr.heap.size wr (Wa.alloc (.cells #[] 26)) := HBWa.out.alloc HBWa.out.size _
              have hG0 : Below Wa.heap.size Wa (Wa.alloc (.cells #[] 26)) := (Below.refl _ _).alloc (Nat.le_refl _) _
              have hs0 : (Wa.alloc (.cells #[] 26)).heap.size = Wa.heap.size + 1 := by simp
              have hb66 : wr.heap.size ≤ Wa.heap.size := HBWa.out.size
              generalize Wa.alloc (.cells #[] 26) = Wb at hE hBn hG0 hs0 ⊢
              have HS0 := Lib.hid hs0
              clear hs0
              have HBWb := Lib.hid hBn
              have HE := Lib.hid hE
              have C72 : Hid (∀ j, Wb.cell? ⟨b72, j, none⟩ = (rlineCells s g)[j]?) := Lib.hid fun j => (hG0.cell (p := ⟨b72, j, none⟩) l72).trans (C72.out j)
              have n72 : b72 ≠ Wa.heap.size := Nat.ne_of_lt l72
              replace l72 : b72 < Wb.heap.size := by have := HS0.out; omega
              clear hE hBn hG0
              refine ⟨fun _ => ⟨⟨_, HBWb.out⟩, rfl⟩, ?_⟩
              refine wpR_at true (by kernel_rfl) (by kernel_rfl) ?_
              simp only [opsAt, List.map_cons, List.map_nil, Array.getD_eq_getD_getElem?, List.getElem?_toArray, List.getElem?_cons_zero, List.getElem?_cons_succ, Option.getD_some]
              refine wpList_append_own _ rfl (.tmp 66) (.tmp 69) 49 rfl wr.heap.size 26 i0 (.agg (rlineCells ⟨#[]⟩ zeroLine)) 39 128 Tryz.underlying49 hi hz0 hz1 hz2 (rlineCells_size _ _) (by decide) _ _ _ rfl HE.out ⟨gb, 0, none⟩ at' vc ((flatR rs).take (at' * 39)) rfl hl1 ?c1 HO1.out ?c3 ?c4 ?c5 ?_
              case c1 =>
                intro i u hu
                rw [Addr.add_lit, Nat.zero_add]
                exact (HBWb.out.cell (p := ⟨gb, i, none⟩) hgbr).trans (HC.out i u (by rw [List.getElem?_take] at hu; split at hu; exact hu; cases hu))
              case c3 => unfold maxLen; omega
              case c4 => omega
              case c5 => exact HBWb.out.size
              intro v70 Wc hown1 hgr1 _
              have HBWc := Lib.hid (HBWb.out.grown hgr1 HBWb.out.size (fun k e => by have e' : Wa.heap.size = k := Option.some.inj e; omega) : Below wr.heap.size wr Wc)
              rw [Nat.zero_add, List.nil_append] at hown1
              have HO70 := Lib.hid hown1
              have C72 : Hid (∀ j, Wc.cell? ⟨b72, j, none⟩ = (rlineCells s g)[j]?) := Lib.hid fun j => (cell_of_same (a := ⟨b72, j, none⟩) (hgr1.block b72 l72 (by intro e; have e' : Wa.heap.size = b72 := (Option.some.inj e).symm; exact n72 e'.symm))).trans (C72.out j)
              replace l72 : b72 < Wc.heap.size := Nat.lt_of_lt_of_le l72 hgr1.size
              clear hgr1 hown1
              go_wp2_with fail
              refine ⟨fun _ => ⟨⟨_, HBWc.out⟩, rfl⟩, ?_⟩
              refine wpR_at true (by kernel_rfl) (by kernel_rfl) ?_
              simp only [opsAt, List.map_cons, List.map_nil, Array.getD_eq_getD_getElem?, List.getElem?_toArray, List.getElem?_cons_zero, List.getElem?_cons_succ, Option.getD_some]
              refine wpList_append_own _ rfl (.tmp 70) (.tmp 72) 49 rfl wr.heap.size 26 i0 (.agg (rlineCells ⟨#[]⟩ zeroLine)) 39 128 Tryz.underlying49 hi hz0 hz1 hz2 (rlineCells_size _ _) (by decide) _ _ _ rfl HO70.out ⟨b72, 0, none⟩ 1 1 (rList ⟨s, ⟨p, v0⟩⟩) rfl (rList_length _) ?e1 HONE.out ?e3 ?e4 ?e5 ?_
              case e1 =>
                intro j u hj
                rw [Addr.add_lit, Nat.zero_add, C72.out j]
                rw [HG.out, rList_cells ⟨s, ⟨p, v0⟩⟩]
                simpa using hj
              case e3 => unfold maxLen; omega
              case e4 => omega
              case e5 => exact HBWc.out.size
              intro v73 w3 hown3 hgr3 _
              have HB3 := Lib.hid (HBWc.out.grown hgr3 HBWc.out.size (fun k e => (HO70.out.lt k e).1) : Below wr.heap.size wr w3)
              have HO73 := Lib.hid hown3
              clear hgr3 hown3
              go_wp2_with fail
              refine ⟨fun _ => ⟨⟨_, HB3.out⟩, rfl⟩, wpR_list [11, 12, 13] _ _ (by kernel_rfl) ?_⟩
              simp only [opsAt, List.map_cons, List.map_nil, Array.getD_eq_getD_getElem?, List.getElem?_toArray, List.getElem?_cons_zero, List.getElem?_cons_succ, Option.getD_some]
              refine wpList_append_own _ rfl (.tmp 73) (.tmp 76) 49 rfl wr.heap.size 26 i0 (.agg (rlineCells ⟨#[]⟩ zeroLine)) 39 128 Tryz.underlying49 hi hz0 hz1 hz2 (rlineCells_size _ _) (by decide) _ _ _ rfl HO73.out ad (rs.length - at') (vc - at') (flatR (rs.drop at')) rfl hl2 ?d1 HO2.out ?d3 ?d4 ?d5 ?_
              case d1 => exact fun i u hu => (HB3.out.cell (p := ad.add i) (HADB.out i)).trans (HDC.out i u hu)
              case d3 => unfold maxLen; omega
              case d4 => omega
              case d5 => exact HB3.out.size
              intro v77 w4 hown4 hgr4 _
              have HB4 := Lib.hid (HB3.out.grown hgr4 HB3.out.size (fun k e => (HO73.out.lt k e).1) : Below wr.heap.size wr w4)
              have HO77 := Lib.hid hown4
              clear hgr4 hown4
              go_wp2
              refine NoPanic.normal ?_
              go_wp2
              go_ret2
              have hBf : Below w.heap.size w w4 := HBr.out.trans (HB4.out.mono HBr.out.size)
              refine ⟨hBf, .inr ⟨HERR.out, _, rfl, ⟨?_, HONES.out, HNAMES.out, HFEW.out⟩⟩⟩
              have := ownsRow_base HO77.out HBr.out.size
              rw [HADD.out, HLEN.out, flatR_append, flatR_append, flatR_one, ← flatR_take]
              exact this
    · have HER : Hid (addErrR rs s p = pErr p) := Lib.hid (by rw [HE0.out, if_neg (by rw [hne]; simp), if_pos hpe])
      generalize pErr p = e at hpe HER
      go_wp2
      go_ret2
      exact ⟨HB2.out, .inl ⟨by rw [HER.out]; exact hpe, by rw [HER.out]; rfl⟩⟩
  · have HER : Hid (addErrR rs s p = nameErr s) := Lib.hid (by rw [HE0.out, if_pos hne])
    generalize nameErr s = e at hne HER
    go_wp2
    go_ret2
    exact ⟨HB1.out, .inl ⟨by rw [HER.out]; exact hne, by rw [HER.out]; rfl⟩⟩

end Go.Proofs.YtdjaphcelpchaaaGreatDoor
