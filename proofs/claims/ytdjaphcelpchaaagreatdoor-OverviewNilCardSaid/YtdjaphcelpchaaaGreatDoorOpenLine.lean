/- An argument of type bulletinref28.Line (or a row of such), as the form hands it over: its cells are those of a line, its references a row of identities. -/
import Derived.Test.YtdjaphcelpchaaaGreatDoorJoin
import Derived.SizedLaws
namespace Go.Proofs.YtdjaphcelpchaaaGreatDoor
open Go Go.RowKit Go.Proofs Go.ChangeShapes Go.WideShapes Go.ChangeAt

section
variable {H : Type} {enc : TypeId × Value → H} {W : World} {base fuel : Nat} {sp : Nat → Bool} {held : Bool}

theorem cells_id : Tryz.prog.cellsOf 23 = 32 := by kernel_rfl
theorem cells_byte : Tryz.prog.cellsOf 5 = 1 := by kernel_rfl
theorem cells_int : Tryz.prog.cellsOf 3 = 1 := by kernel_rfl
theorem cells_string : Tryz.prog.cellsOf 9 = 1 := by kernel_rfl
theorem cells_ids : Tryz.prog.cellsOf 24 = 1 := by kernel_rfl
theorem cells_rline : Tryz.prog.cellsOf 26 = 39 := by kernel_rfl
theorem bytes_id : Tryz.prog.bytesOf 23 = 32 := by kernel_rfl

theorem take_one {cs : List Value} {i : Nat} {v : Value} (h : (cs.drop i).take 1 = [v]) : cs[i]? = some v := by
  have h0 : ((cs.drop i).take 1)[0]? = some v := by rw [h]; rfl
  simpa using h0

theorem open_idcells {cs : List Value} {x : DataW H × List MemPlace} (h : DataW.trod enc Tryz.prog W base sp held fuel 23 cs = some x) : ∃ id : Id32, cs = encId id := by
  obtain ⟨xs, m, _, _, hl, hn, hel⟩ := DataW.trod_array Tryz.underlying23 h
  rw [cells_id] at hl
  have each : ∀ i, i < 32 → ∃ b : UInt8, cs[i]? = some (.int .u8 b.toNat) := fun i hi => by
    have hE := hel i hi
    rw [cells_byte, Nat.mul_one, List.getElem?_eq_getElem (by omega)] at hE
    obtain ⟨z, e1, _, hw⟩ := DataW.trod_int Tryz.underlying5 hE
    have hz : 0 ≤ z ∧ z ≤ 255 := by simpa [Lit.wf, IntKind.min, IntKind.max, IntKind.signed, IntKind.bits] using hw
    refine ⟨UInt8.ofNat z.toNat, ?_⟩
    rw [take_one e1]
    have : (UInt8.ofNat z.toNat).toNat = z.toNat := by simp; omega
    rw [this]
    congr 2
    omega
  refine ⟨⟨cs.map fun v => match v with | .int _ n => UInt8.ofNat n.toNat | _ => 0, by simp [hl]⟩, ?_⟩
  apply List.ext_getElem?
  intro i
  by_cases hi : i < 32
  · obtain ⟨b, hb⟩ := each i hi
    rw [hb]
    simp [encId, hb]
  · rw [List.getElem?_eq_none (by omega)]
    exact (List.getElem?_eq_none (Nat.le_trans (Nat.le_of_eq (encId_length _)) (by omega))).symm

/-- The references: nil or a slice of identities. -/
theorem open_ids {cs : List Value} {d : DataW H} {ps : List MemPlace} (h : DataW.trod enc Tryz.prog W base sp held fuel 24 cs = some (d, ps)) (hw : ∀ n ∈ d.weights Tryz.prog 24, n ≤ reachBytes) :
    ∃ v ids, cs = [v] ∧ IdsAt W v ids ∧ ids.length * 32 ≤ reachBytes := by
  rcases DataW.trod_slice Tryz.underlying24 h with ⟨rfl, _⟩ | ⟨a, len, cap, elems, rest, m, _, rfl, hx, hb, hl, hm, hlen, hel, _, _⟩
  · exact ⟨_, [], rfl, ⟨none, 0, rfl, Nat.le_refl _, fun h => absurd rfl h⟩, by simp⟩
  · have hd : d = .slice (elems.map (·.1)) (rest.map (·.1)) := (Prod.mk.inj hx).1
    have hwt : (elems.length + rest.length) * 32 ≤ reachBytes := by
      refine hw _ ?_
      rw [hd]
      unfold DataW.weights
      rw [Tryz.underlying24]
      simp [bytes_id]
    have each : ∀ i, i < len → ∃ id : Id32, ∀ j u, (encId id)[j]? = some u → W.cell? ((a.add (i * 32)).add j) = some u := fun i hi => by
      have hE := hel i hi
      rw [cells_id, List.getElem?_eq_getElem (by omega)] at hE
      obtain ⟨cs', hcs, ht⟩ := Option.bind_eq_some_iff.1 hE
      obtain ⟨id, rfl⟩ := open_idcells ht
      obtain ⟨_, hll, hcell⟩ := World.cells?_some hcs
      exact ⟨id, fun j u hj => (hcell j (by have := (List.getElem?_eq_some_iff.1 hj).1; rw [encId_length] at this; exact this)).trans hj⟩
    have hall : ∃ f : Nat → Id32, ∀ i, i < len → ∀ j u, (encId (f i))[j]? = some u → W.cell? ((a.add (i * 32)).add j) = some u := by
      refine ⟨fun i => if hi : i < len then Classical.choose (each i hi) else default, fun i hi => ?_⟩
      simp only [hi, dif_pos]
      exact Classical.choose_spec (each i hi)
    obtain ⟨f, hf⟩ := hall
    refine ⟨_, (List.range len).map f, rfl, ⟨some a, cap, by simp, by simpa using hl, fun hne => ?_⟩, ?_⟩
    · have h0 : 0 < len := by
        cases len with
        | zero => simp at hne
        | succ n => omega
      have hspot : a.spot = none := by
        have h00 := hf 0 h0 0 _ (encId_get (f 0) 0 (by omega))
        simpa [Addr.add] using World.cell?_spot h00
      obtain ⟨b, off, spot⟩ := a
      simp only at hspot
      subst hspot
      refine ⟨b, off, rfl, fun j hj i u hu => ?_⟩
      have hj' : j < len := by simpa using hj
      have e1 : ((List.range len).map f)[j]! = f j := by
        rw [getElem!_pos _ j (by simpa using hj')]; simp
      rw [e1] at hu
      have := hf j hj' i u hu
      rwa [Addr.add_lit, Addr.add_lit] at this
    · simp
      omega

/-- A line of the reference: its 39 cells. -/
theorem open_rlinecells {cs : List Value} {d : DataW H} {ps : List MemPlace} (h : DataW.trod enc Tryz.prog W base sp held fuel 26 cs = some (d, ps)) (hw : ∀ n ∈ d.weights Tryz.prog 26, n ≤ reachBytes) :
    ∃ (s : ByteArray) (g : GLine) (ids : List Id32), cs = .string s :: lineList g ∧ IdsAt W g.refs ids ∧ ids.length * 32 ≤ reachBytes ∧ s.size ≤ reachBytes ∧ g.name.size ≤ reachBytes ∧ g.subject.size ≤ reachBytes := by
  have hu := Tryz.underlying26
  obtain ⟨xs, m, _, hx, hl, hn, hel⟩ := DataW.trod_struct hu h
  rw [cells_rline] at hl
  have hd : d = .agg (xs.map (·.1)) := (Prod.mk.inj hx).1
  obtain ⟨x0, x1, x2, x3, x4, x5, x6, x7, rfl⟩ : ∃ x0 x1 x2 x3 x4 x5 x6 x7, xs = [x0, x1, x2, x3, x4, x5, x6, x7] := by
    match xs, hn with
    | [x0, x1, x2, x3, x4, x5, x6, x7], _ => exact ⟨x0, x1, x2, x3, x4, x5, x6, x7, rfl⟩
  have h0 : DataW.trod enc Tryz.prog W base sp held m 9 ((cs.drop 0).take (Tryz.prog.cellsOf 9)) = some x0 := hel 0 _ rfl
  rw [cells_string] at h0
  have h1 : DataW.trod enc Tryz.prog W base sp held m 3 ((cs.drop 1).take (Tryz.prog.cellsOf 3)) = some x1 := hel 1 _ rfl
  rw [cells_int] at h1
  have h2 : DataW.trod enc Tryz.prog W base sp held m 23 ((cs.drop 2).take (Tryz.prog.cellsOf 23)) = some x2 := hel 2 _ rfl
  rw [cells_id] at h2
  have h3 : DataW.trod enc Tryz.prog W base sp held m 9 ((cs.drop 34).take (Tryz.prog.cellsOf 9)) = some x3 := hel 3 _ rfl
  rw [cells_string] at h3
  have h4 : DataW.trod enc Tryz.prog W base sp held m 3 ((cs.drop 35).take (Tryz.prog.cellsOf 3)) = some x4 := hel 4 _ rfl
  rw [cells_int] at h4
  have h5 : DataW.trod enc Tryz.prog W base sp held m 9 ((cs.drop 36).take (Tryz.prog.cellsOf 9)) = some x5 := hel 5 _ rfl
  rw [cells_string] at h5
  have h6 : DataW.trod enc Tryz.prog W base sp held m 24 ((cs.drop 37).take (Tryz.prog.cellsOf 24)) = some x6 := hel 6 _ rfl
  rw [cells_ids] at h6
  have h7 : DataW.trod enc Tryz.prog W base sp held m 3 ((cs.drop 38).take (Tryz.prog.cellsOf 3)) = some x7 := hel 7 _ rfl
  rw [cells_int] at h7
  clear hel hn
  have hwt : ∀ (j : Nat) (t : TypeId) (y : DataW H), ([9, 3, 23, 9, 3, 9, 24, 3] : List TypeId)[j]? = some t → ([x0, x1, x2, x3, x4, x5, x6, x7].map (·.1))[j]? = some y → ∀ n ∈ y.weights Tryz.prog t, n ≤ reachBytes := fun j t y ht hy n hn => by
    refine hw n ?_
    rw [hd]
    unfold DataW.weights
    rw [hu]
    exact DataW.weights_mem_each ht hy n hn
  obtain ⟨s, e0, f0, _⟩ := DataW.trod_string Tryz.underlying9 h0
  obtain ⟨n, e1, f1, _⟩ := DataW.trod_int Tryz.underlying3 h1
  obtain ⟨id, e2⟩ := open_idcells h2
  obtain ⟨nm, e3, f3, _⟩ := DataW.trod_string Tryz.underlying9 h3
  obtain ⟨dt, e4, f4, _⟩ := DataW.trod_int Tryz.underlying3 h4
  obtain ⟨sj, e5, f5, _⟩ := DataW.trod_string Tryz.underlying9 h5
  obtain ⟨v, ids, e6, hI, hil⟩ := open_ids (d := x6.1) (ps := x6.2) h6 (hwt 6 _ _ rfl rfl)
  obtain ⟨bt, e7, f7, _⟩ := DataW.trod_int Tryz.underlying3 h7
  have hstr : ∀ (z : ByteArray) (y : DataW H × List MemPlace), y = (.lit (.string z.data.toList), []) → (∀ k ∈ y.1.weights Tryz.prog 9, k ≤ reachBytes) → z.size ≤ reachBytes := fun z y hy hk => by
    refine hk _ ?_
    rw [hy]
    unfold DataW.weights
    exact List.mem_singleton.2 rfl
  refine ⟨s, ⟨n, id, nm, dt, sj, v, bt⟩, ids, ?_, hI, hil, hstr s x0 f0 (hwt 0 _ _ rfl rfl), hstr nm x3 f3 (hwt 3 _ _ rfl rfl), hstr sj x5 f5 (hwt 5 _ _ rfl rfl)⟩
  have cut : ∀ k a, cs.drop k = (cs.drop k).take a ++ cs.drop (k + a) := fun k a => by rw [← List.drop_drop, List.take_append_drop]
  have c0 := cut 0 1
  rw [e0, cut 1 1, e1, cut 2 32, e2, cut 34 1, e3, cut 35 1, e4, cut 36 1, e5, cut 37 1, e6, cut 38 1, e7, List.drop_eq_nil_of_le (by omega : cs.length ≤ 38 + 1), List.drop_zero] at c0
  rw [c0]
  simp [lineList]
end

end Go.Proofs.YtdjaphcelpchaaaGreatDoor
