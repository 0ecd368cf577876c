/- (*overview.Line).setReferences reads the identities of a text and appends them to the line's own slice. -/
import Derived.Test.YtdjaphcelpchaaaGreatDoorSet
import Derived.Great.BuildSlice
namespace Go.Proofs.YtdjaphcelpchaaaGreatDoor
open Go Go.RowKit Go.Proofs

theorem Tryz.info_id : (Tryz.prog.info? 23).map (fun i => (i.zero, i.size, i.bytes)) = some (some (.agg (encId zeroId).toArray), 32, 32) := by kernel_rfl

/-! ## 'fill', and a slice literal of one identity -/
theorem put_list : ∀ (cs : List Value) (k off : Nat) (pre mid post : List Value), pre.length = off + k → mid.length = cs.length →
    (cs.zipIdx k).foldl (fun acc (c : Value × Nat) => acc.setIfInBounds (off + c.2) c.1) (pre ++ (mid ++ post)).toArray = (pre ++ (cs ++ post)).toArray
  | [], k, off, pre, mid, post, _, hm => by
    obtain rfl : mid = [] := List.length_eq_zero_iff.1 (by simpa using hm)
    simp
  | c :: cs, k, off, pre, mid, post, hp, hm => by
    cases mid with
    | nil => simp at hm
    | cons m mid =>
      have ih := put_list cs (k + 1) off (pre ++ [c]) mid post (by simp [hp]; omega) (by simpa using hm)
      rw [List.zipIdx_cons, List.foldl_cons]
      have e : ((pre ++ (m :: mid ++ post)).toArray).setIfInBounds (off + k) c = (pre ++ [c] ++ (mid ++ post)).toArray := by
        rw [List.setIfInBounds_toArray, ← hp, List.set_append_right _ _ (Nat.le_refl _)]
        simp
      show List.foldl _ (((pre ++ (m :: mid ++ post)).toArray).setIfInBounds (off + k) c) _ = _
      rw [e, ih]
      simp
theorem put_all (cs cur : Array Value) (h : cur.size = cs.size) : cs.zipIdx.foldl (fun acc (c : Value × Nat) => acc.setIfInBounds (0 + c.2) c.1) cur = cs := by
  have := put_list cs.toList 0 0 [] cur.toList [] rfl (by simpa using h)
  simp only [List.nil_append, List.append_nil, Array.toArray_toList] at this
  rw [← Array.foldl_toList, Array.toList_zipIdx]
  exact this
theorem fill_one (cs cur : Array Value) (n : Nat) (hc : cs.size = n) (h : cur.size = n) : Instr.fill (fun i => some (i * n, n)) cur [(0, .agg cs)] = some cs := by
  have e := put_all cs cur (by omega)
  simp only [Nat.zero_add] at e
  simp only [Instr.fill, Value.cells, hc, h, Nat.zero_mul, Nat.zero_add]
  rw [if_neg (by simp)]
  exact congrArg some e

def bsRes (P : Program) (t : Nat) (w : World) (v : Value) : Result Next := Sem.run P (do pure (Next.value (← Instr.buildSlice t 1 #[(0, v)]))) w
theorem ex_bs_id (ρ : Operand → Value) (d : Option Tmp) (x : Operand) (ty : TypeId) (pos : String) (af : Array Edge) (g : Option (Nat × Bool)) (w : World) :
    Sem.run Tryz.prog (execOp ρ ⟨d, .buildSlice 24 1 #[(0, x)], ty, pos, af, g⟩) w = bsRes Tryz.prog 24 w (ρ x) := by kernel_rfl
theorem bs_id (w : World) (x : Id32) : bsRes Tryz.prog 24 w (.agg (encId x).toArray) = .ok (.value (.slice (some ⟨w.heap.size, 0, none⟩) 1 1)) (w.alloc (.cells (encId x).toArray 23)) := by
  obtain ⟨i0, hi, hz0, hz1, hz2⟩ := info_parts Tryz.info_id
  unfold bsRes
  rw [Sem.run_bind, run_buildSlice w 24 23 1 _ (encId x).toArray i0 _ Tryz.underlying24 hi hz0 (by rw [hz1]; decide) (by rw [hz1]; decide) (by
    rw [hz1]
    exact fill_one _ _ 32 (encId_size x) (by simp))]
  rfl

/-! ## identities in a row of one's own -/
def flatIds (ids : List Id32) : List Value := ids.flatMap encId
theorem flat_length (ids : List Id32) : (flatIds ids).length = ids.length * 32 := by
  induction ids with
  | nil => rfl
  | cons x r ih => unfold flatIds at *; rw [List.flatMap_cons, List.length_append, ih, encId_length, List.length_cons]; omega
theorem flat_get : ∀ (ids : List Id32) (j i : Nat), j < ids.length → i < 32 → (flatIds ids)[j * 32 + i]? = (encId ids[j]!)[i]?
  | [], j, i, hj, _ => by simp at hj
  | x :: r, 0, i, _, hi => by
    unfold flatIds
    rw [List.flatMap_cons, Nat.zero_mul, Nat.zero_add, List.getElem?_append_left (by rw [encId_length]; exact hi)]
    rfl
  | x :: r, j + 1, i, hj, hi => by
    have ih := flat_get r j i (by simpa using hj) hi
    unfold flatIds at *
    rw [List.flatMap_cons, List.getElem?_append_right (by rw [encId_length]; omega), encId_length, show (j + 1) * 32 + i - 32 = j * 32 + i by omega, ih]
    simp
theorem flat_snoc (ids : List Id32) (x : Id32) : flatIds (ids ++ [x]) = flatIds ids ++ encId x := by simp [flatIds]
theorem idsAt_own {w : World} {B : Nat} {v : Value} {ids : List Id32} (h : w.ownsRow B 23 32 v ids.length (flatIds ids)) : IdsAt w v ids := by
  rcases h.2 with ⟨rfl, h0⟩ | ⟨g, cap, cur, rfl, hg, hcur, hle, hmx, hcs, htk⟩
  · exact ⟨none, 0, by rw [h0], by omega, fun hne => absurd (List.length_eq_zero_iff.1 h0) hne⟩
  · refine ⟨_, cap, rfl, hle, fun _ => ⟨g, 0, rfl, fun j hj i v hi => ?_⟩⟩
    have hi32 : i < 32 := by have := (List.getElem?_eq_some_iff.1 hi).1; rwa [encId_length] at this
    have h1 := h.cellAt (j * 32 + i) (by omega)
    rw [Nat.zero_add, h1, flat_get ids j i hj hi32]
    exact hi
theorem own_one {w : World} {B e n : Nat} {v : Value} {xs : List Value} (h : w.ownsRow B e 32 v n xs) : v.oneCell' = true := by
  rcases h.2 with ⟨rfl, h0⟩ | ⟨g, cap, cur, rfl, _⟩ <;> rfl

/-- What a field of references says. -/
def refTexts (p : ByteArray) : List (List UInt8) := if p.size = 0 then [] else splitL 44 p.data.toList
def refIds (p : ByteArray) : List Id32 := (refTexts p).map idVal
def refsPart (p : ByteArray) : Int := if (refTexts p).all idOk then refsErr (refIds p) else 3

/-- Worlds in which a slice's cell and a variable of an identity hold what they hold. -/
def RefC (lb off ib : Nat) (v : Value) (x : Id32) : Type := { z : World // z.cell? ⟨lb, off, none⟩ = some v ∧ okCells z ⟨ib, 0, none⟩ 32 = true ∧ rdCells z ⟨ib, 0, none⟩ 32 = (encId x).toArray }
theorem RefC.same {lb off ib : Nat} {v : Value} {x : Id32} {w w' : World} (h : w.cell? ⟨lb, off, none⟩ = some v ∧ okCells w ⟨ib, 0, none⟩ 32 = true ∧ rdCells w ⟨ib, 0, none⟩ 32 = (encId x).toArray)
    (hl : w'.heap[lb]? = w.heap[lb]?) (hi : w'.heap[ib]? = w.heap[ib]?) : ∃ z : RefC lb off ib v x, w' = z.1 := by
  have hc : ∀ j, w'.cell? ⟨ib, j, none⟩ = w.cell? ⟨ib, j, none⟩ := fun j => by unfold World.cell?; rw [hi]
  have h2 := rd_same (w := w) (w' := w') (a := ⟨ib, 0, none⟩) (n := 32) (fun j _ => by rw [Addr.add_lit]; exact hc _)
  refine ⟨⟨w', ?_, by rw [h2.1]; exact h.2.1, by rw [h2.2]; exact h.2.2⟩, rfl⟩
  rw [← h.1]
  unfold World.cell?; rw [hl]

end Go.Proofs.YtdjaphcelpchaaaGreatDoor
