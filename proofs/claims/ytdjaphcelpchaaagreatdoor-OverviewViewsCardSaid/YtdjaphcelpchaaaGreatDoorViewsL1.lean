/- Parts of the proofs about bulletinlaw28: Join, OpenLine, Range, LawSame, LawOps, OpenOps, BuildLaw, ViewLaw, VwS, VwL, VwH, VwN. -/
import Derived.Test.YtdjaphcelpchaaaGreatDoorShelf
import Derived.Test.YtdjaphcelpchaaaGreatDoorK1
import Derived.Test.YtdjaphcelpchaaaGreatDoorK2
import Derived.Test.YtdjaphcelpchaaaGreatDoorK3
import Derived.Test.YtdjaphcelpchaaaGreatDoorK4
import Derived.Test.YtdjaphcelpchaaaGreatDoorK5
import Derived.Test.YtdjaphcelpchaaaGreatDoorK6
import Derived.Test.YtdjaphcelpchaaaGreatDoorShelf2
import Derived.Test.YtdjaphcelpchaaaGreatDoorK7
import Derived.Test.YtdjaphcelpchaaaGreatDoorK8
import Derived.Test.YtdjaphcelpchaaaGreatDoorCards
import Derived.Test.YtdjaphcelpchaaaGreatDoorTie
import Derived.ProofKit
import Derived.OpenShut
import Derived.Lay
import Derived.LaidSub
import Derived.Deep.DeepHandedRow
import Derived.Lib.LaidTab
import Derived.Shelf.Vars
import Derived.SizedLaws
import Derived.Deep.CutRange

namespace Go.Proofs.YtdjaphcelpchaaaGreatDoor
open Go Go.RowKit Go.Proofs Go.ChangeShapes Go.WideShapes Go.ChangeAt

theorem own : ownKnob Tryz.prog.godebug = none := by kernel_rfl
theorem laidOut : laidOutB Tryz.prog = true := by kernel_rfl

/-- The list of variables that every row of this seat names with what they hold. -/
def laidAll : List (String × DataW Unit) := Rows.overviewParseRow.laid

theorem gl_of {W : World} (h : laidMetH Tryz.prog laidAll W) (hs : W.ShapedOpen Tryz.prog) : Gl W where
  tab := by
    have h1 := h.filter (fun x => x.1 == "internal/strconv.uint64pow10")
    have e : laidAll.filter (fun x => x.1 == "internal/strconv.uint64pow10") = [("internal/strconv.uint64pow10", Lib.tabData .u64 Lib.pow10Tab)] := by kernel_rfl
    rw [e] at h1
    exact Lib.tabIs_of_head (rest := []) (g := 1) (by kernel_rfl) (by kernel_rfl) Tryz.underlying210 Tryz.underlying174 (by kernel_rfl) (by kernel_rfl) h1
  len := cell_of_shapedOpen_int (g := 0) (t := 3) (zero := #[.int .i64 0]) hs (by rw [globals_size]; decide) (by kernel_rfl) rfl (by kernel_rfl) (by kernel_rfl) Tryz.underlying3
  size := by
    have h0 : (((begin Tryz.prog (fun _ _ => 0) default).world.heap[5]?).bind Obj.row?).isSome = true := by kernel_rfl
    obtain ⟨⟨zero, t⟩, hz⟩ := Option.isSome_iff_exists.1 h0
    obtain ⟨cs, hh, _, _⟩ := hs.1 5 zero t (by rw [globals_size]; decide) hz
    rw [globals_size]
    have := (Array.getElem?_eq_some_iff.1 hh).1
    omega

section
variable {H : Type} {enc : TypeId × Value → H}

theorem trodAll_stays {P : Program} {W W' : World} (hl : laidOutB P = true) (hb : Below W.heap.size W W') (sp : Nat → Bool) (ts : List TypeId) : ∀ (vs : List Value) (ds : List (DataW H)) (p : List MemPlace),
    (∀ t ∈ ts, P.readableRec t = true ∧ t < P.types.size) → DataW.TrodAll enc P W 0 (fun _ => true) true ts vs ds p → (∀ x ∈ p, x.block < W.heap.size) → (∀ x ∈ p, sp x.block = true) → DataW.TrodAll enc P W' 0 sp true ts vs ds p := by
  induction ts with
  | nil =>
    intro vs ds p _ h _ _
    obtain ⟨rfl, rfl, rfl⟩ := trodAll_nil h
    exact trodAll_mk0
  | cons t ts ih =>
    intro vs ds p hr h hlt hsp
    obtain ⟨v, vs', d, ds', p1, q1, rfl, rfl, rfl, h1, h2⟩ := trodAll_cons h
    have ht := hr t (by simp)
    exact trodAll_cons_mk (WideElems.Trod_stays hl ht.1 ht.2 h1 (fun x hx => hb.same (hlt x (List.mem_append_left _ hx))) (fun x hx => hsp x (List.mem_append_left _ hx)))
      (ih vs' ds' q1 (fun u hu => hr u (by simp [hu])) h2 (fun x hx => hlt x (List.mem_append_right _ hx)) (fun x hx => hsp x (List.mem_append_right _ hx)))

/-- A law of this seat: its walk returned true and left all that was there as it was: the row's post holds. -/
theorem law_post {f : Func} {s : ChangeSpec} {W W' : World} {args : Array Value} {ds gs : List (DataW H)} {before : List MemPlace} (hvars : s.vars = []) (hrt : f.resultTypes = #[4])
    (hW : DataW.Whole enc Tryz.prog f.params.toList s.vars false W args.toList ds gs before) (hr : ∀ t ∈ f.params.toList, Tryz.prog.readableRec t = true ∧ t < Tryz.prog.types.size)
    (hfn : s.fn H ds = { results := [.lit (.bool true)], args := ds }) (hb : Below W.heap.size W W') : s.post enc Tryz.prog f false true false false W args (.bool true) W' := by
  have hlt : ∀ x ∈ before, x.block < W.heap.size := fun x hx => hW.lt x hx
  have hW0 := hW
  obtain ⟨p, q, hA, hV, rfl, _, _⟩ := hW
  rw [hvars] at hV
  obtain ⟨rfl, rfl⟩ := trodVars_none hV
  rw [List.append_nil] at hW0 hlt
  refine ⟨ds, [], p, [], p, [], hW0, ?_, ?_, ?_, ?_, fun h => by cases h⟩
  · rw [List.append_nil, hfn, hrt]
    exact trodAll_mk1 (shut_bool Tryz.underlying4 _)
  · rw [List.append_nil, hfn]
    exact trodAll_stays laidOut hb _ _ _ _ _ hr hA hlt (fun x hx => by simpa using hlt x hx)
  · rw [List.append_nil, hfn, hvars]
    rfl
  · exact World.keptBut_mono (fun x hx => ⟨hx, .inr (.inl hx)⟩) (hb.frame (· ∈ p))
end

end Go.Proofs.YtdjaphcelpchaaaGreatDoor

namespace Go.Proofs.YtdjaphcelpchaaaGreatDoor
open Go Go.RowKit Go.Proofs Go.ChangeShapes Go.WideShapes Go.ChangeAt

section
variable {H : Type} {enc : TypeId × Value → H} {W : World} {base fuel : Nat} {sp : Nat → Bool} {held : Bool}

theorem cells_id : Tryz.prog.cellsOf 23 = 32 := by kernel_rfl
theorem cells_byte : Tryz.prog.cellsOf 5 = 1 := by kernel_rfl
theorem cells_int : Tryz.prog.cellsOf 3 = 1 := by kernel_rfl
theorem cells_string : Tryz.prog.cellsOf 9 = 1 := by kernel_rfl
theorem cells_ids : Tryz.prog.cellsOf 24 = 1 := by kernel_rfl
theorem cells_rline : Tryz.prog.cellsOf 26 = 39 := by kernel_rfl
theorem bytes_id : Tryz.prog.bytesOf 23 = 32 := by kernel_rfl

theorem take_one {cs : List Value} {i : Nat} {v : Value} (h : (cs.drop i).take 1 = [v]) : cs[i]? = some v := by
  have h0 : ((cs.drop i).take 1)[0]? = some v := by rw [h]; rfl
  simpa using h0

theorem open_idcells {cs : List Value} {x : DataW H × List MemPlace} (h : DataW.trod enc Tryz.prog W base sp held fuel 23 cs = some x) : ∃ id : Id32, cs = encId id := by
  obtain ⟨xs, m, _, _, hl, hn, hel⟩ := DataW.trod_array Tryz.underlying23 h
  rw [cells_id] at hl
  have each : ∀ i, i < 32 → ∃ b : UInt8, cs[i]? = some (.int .u8 b.toNat) := fun i hi => by
    have hE := hel i hi
    rw [cells_byte, Nat.mul_one, List.getElem?_eq_getElem (by omega)] at hE
    obtain ⟨z, e1, _, hw⟩ := DataW.trod_int Tryz.underlying5 hE
    have hz : 0 ≤ z ∧ z ≤ 255 := by simpa [Lit.wf, IntKind.min, IntKind.max, IntKind.signed, IntKind.bits] using hw
    refine ⟨UInt8.ofNat z.toNat, ?_⟩
    rw [take_one e1]
    have : (UInt8.ofNat z.toNat).toNat = z.toNat := by simp; omega
    rw [this]
    congr 2
    omega
  refine ⟨⟨cs.map fun v => match v with | .int _ n => UInt8.ofNat n.toNat | _ => 0, by simp [hl]⟩, ?_⟩
  apply List.ext_getElem?
  intro i
  by_cases hi : i < 32
  · obtain ⟨b, hb⟩ := each i hi
    rw [hb]
    simp [encId, hb]
  · rw [List.getElem?_eq_none (by omega)]
    exact (List.getElem?_eq_none (Nat.le_trans (Nat.le_of_eq (encId_length _)) (by omega))).symm

/-- The references: nil or a slice of identities. -/
theorem open_ids {cs : List Value} {d : DataW H} {ps : List MemPlace} (h : DataW.trod enc Tryz.prog W base sp held fuel 24 cs = some (d, ps)) (hw : ∀ n ∈ d.weights Tryz.prog 24, n ≤ reachBytes) :
    ∃ v ids, cs = [v] ∧ IdsAt W v ids ∧ ids.length * 32 ≤ reachBytes := by
  rcases DataW.trod_slice Tryz.underlying24 h with ⟨rfl, _⟩ | ⟨a, len, cap, elems, rest, m, _, rfl, hx, hb, hl, hm, hlen, hel, _, _⟩
  · exact ⟨_, [], rfl, ⟨none, 0, rfl, Nat.le_refl _, fun h => absurd rfl h⟩, by simp⟩
  · have hd : d = .slice (elems.map (·.1)) (rest.map (·.1)) := (Prod.mk.inj hx).1
    have hwt : (elems.length + rest.length) * 32 ≤ reachBytes := by
      refine hw _ ?_
      rw [hd]
      unfold DataW.weights
      rw [Tryz.underlying24]
      simp [bytes_id]
    have each : ∀ i, i < len → ∃ id : Id32, ∀ j u, (encId id)[j]? = some u → W.cell? ((a.add (i * 32)).add j) = some u := fun i hi => by
      have hE := hel i hi
      rw [cells_id, List.getElem?_eq_getElem (by omega)] at hE
      obtain ⟨cs', hcs, ht⟩ := Option.bind_eq_some_iff.1 hE
      obtain ⟨id, rfl⟩ := open_idcells ht
      obtain ⟨_, hll, hcell⟩ := World.cells?_some hcs
      exact ⟨id, fun j u hj => (hcell j (by have := (List.getElem?_eq_some_iff.1 hj).1; rw [encId_length] at this; exact this)).trans hj⟩
    have hall : ∃ f : Nat → Id32, ∀ i, i < len → ∀ j u, (encId (f i))[j]? = some u → W.cell? ((a.add (i * 32)).add j) = some u := by
      refine ⟨fun i => if hi : i < len then Classical.choose (each i hi) else default, fun i hi => ?_⟩
      simp only [hi, dif_pos]
      exact Classical.choose_spec (each i hi)
    obtain ⟨f, hf⟩ := hall
    refine ⟨_, (List.range len).map f, rfl, ⟨some a, cap, by simp, by simpa using hl, fun hne => ?_⟩, ?_⟩
    · have h0 : 0 < len := by
        cases len with
        | zero => simp at hne
        | succ n => omega
      have hspot : a.spot = none := by
        have h00 := hf 0 h0 0 _ (encId_get (f 0) 0 (by omega))
        simpa [Addr.add] using World.cell?_spot h00
      obtain ⟨b, off, spot⟩ := a
      simp only at hspot
      subst hspot
      refine ⟨b, off, rfl, fun j hj i u hu => ?_⟩
      have hj' : j < len := by simpa using hj
      have e1 : ((List.range len).map f)[j]! = f j := by
        rw [getElem!_pos _ j (by simpa using hj')]; simp
      rw [e1] at hu
      have := hf j hj' i u hu
      rwa [Addr.add_lit, Addr.add_lit] at this
    · simp
      omega

/-- A line of the reference: its 39 cells. -/
theorem open_rlinecells {cs : List Value} {d : DataW H} {ps : List MemPlace} (h : DataW.trod enc Tryz.prog W base sp held fuel 26 cs = some (d, ps)) (hw : ∀ n ∈ d.weights Tryz.prog 26, n ≤ reachBytes) :
    ∃ (s : ByteArray) (g : GLine) (ids : List Id32), cs = .string s :: lineList g ∧ IdsAt W g.refs ids ∧ ids.length * 32 ≤ reachBytes ∧ s.size ≤ reachBytes ∧ g.name.size ≤ reachBytes ∧ g.subject.size ≤ reachBytes := by
  have hu := Tryz.underlying26
  obtain ⟨xs, m, _, hx, hl, hn, hel⟩ := DataW.trod_struct hu h
  rw [cells_rline] at hl
  have hd : d = .agg (xs.map (·.1)) := (Prod.mk.inj hx).1
  obtain ⟨x0, x1, x2, x3, x4, x5, x6, x7, rfl⟩ : ∃ x0 x1 x2 x3 x4 x5 x6 x7, xs = [x0, x1, x2, x3, x4, x5, x6, x7] := by
    match xs, hn with
    | [x0, x1, x2, x3, x4, x5, x6, x7], _ => exact ⟨x0, x1, x2, x3, x4, x5, x6, x7, rfl⟩
  have h0 : DataW.trod enc Tryz.prog W base sp held m 9 ((cs.drop 0).take (Tryz.prog.cellsOf 9)) = some x0 := hel 0 _ rfl
  rw [cells_string] at h0
  have h1 : DataW.trod enc Tryz.prog W base sp held m 3 ((cs.drop 1).take (Tryz.prog.cellsOf 3)) = some x1 := hel 1 _ rfl
  rw [cells_int] at h1
  have h2 : DataW.trod enc Tryz.prog W base sp held m 23 ((cs.drop 2).take (Tryz.prog.cellsOf 23)) = some x2 := hel 2 _ rfl
  rw [cells_id] at h2
  have h3 : DataW.trod enc Tryz.prog W base sp held m 9 ((cs.drop 34).take (Tryz.prog.cellsOf 9)) = some x3 := hel 3 _ rfl
  rw [cells_string] at h3
  have h4 : DataW.trod enc Tryz.prog W base sp held m 3 ((cs.drop 35).take (Tryz.prog.cellsOf 3)) = some x4 := hel 4 _ rfl
  rw [cells_int] at h4
  have h5 : DataW.trod enc Tryz.prog W base sp held m 9 ((cs.drop 36).take (Tryz.prog.cellsOf 9)) = some x5 := hel 5 _ rfl
  rw [cells_string] at h5
  have h6 : DataW.trod enc Tryz.prog W base sp held m 24 ((cs.drop 37).take (Tryz.prog.cellsOf 24)) = some x6 := hel 6 _ rfl
  rw [cells_ids] at h6
  have h7 : DataW.trod enc Tryz.prog W base sp held m 3 ((cs.drop 38).take (Tryz.prog.cellsOf 3)) = some x7 := hel 7 _ rfl
  rw [cells_int] at h7
  clear hel hn
  have hwt : ∀ (j : Nat) (t : TypeId) (y : DataW H), ([9, 3, 23, 9, 3, 9, 24, 3] : List TypeId)[j]? = some t → ([x0, x1, x2, x3, x4, x5, x6, x7].map (·.1))[j]? = some y → ∀ n ∈ y.weights Tryz.prog t, n ≤ reachBytes := fun j t y ht hy n hn => by
    refine hw n ?_
    rw [hd]
    unfold DataW.weights
    rw [hu]
    exact DataW.weights_mem_each ht hy n hn
  obtain ⟨s, e0, f0, _⟩ := DataW.trod_string Tryz.underlying9 h0
  obtain ⟨n, e1, f1, _⟩ := DataW.trod_int Tryz.underlying3 h1
  obtain ⟨id, e2⟩ := open_idcells h2
  obtain ⟨nm, e3, f3, _⟩ := DataW.trod_string Tryz.underlying9 h3
  obtain ⟨dt, e4, f4, _⟩ := DataW.trod_int Tryz.underlying3 h4
  obtain ⟨sj, e5, f5, _⟩ := DataW.trod_string Tryz.underlying9 h5
  obtain ⟨v, ids, e6, hI, hil⟩ := open_ids (d := x6.1) (ps := x6.2) h6 (hwt 6 _ _ rfl rfl)
  obtain ⟨bt, e7, f7, _⟩ := DataW.trod_int Tryz.underlying3 h7
  have hstr : ∀ (z : ByteArray) (y : DataW H × List MemPlace), y = (.lit (.string z.data.toList), []) → (∀ k ∈ y.1.weights Tryz.prog 9, k ≤ reachBytes) → z.size ≤ reachBytes := fun z y hy hk => by
    refine hk _ ?_
    rw [hy]
    unfold DataW.weights
    exact List.mem_singleton.2 rfl
  refine ⟨s, ⟨n, id, nm, dt, sj, v, bt⟩, ids, ?_, hI, hil, hstr s x0 f0 (hwt 0 _ _ rfl rfl), hstr nm x3 f3 (hwt 3 _ _ rfl rfl), hstr sj x5 f5 (hwt 5 _ _ rfl rfl)⟩
  have cut : ∀ k a, cs.drop k = (cs.drop k).take a ++ cs.drop (k + a) := fun k a => by rw [← List.drop_drop, List.take_append_drop]
  have c0 := cut 0 1
  rw [e0, cut 1 1, e1, cut 2 32, e2, cut 34 1, e3, cut 35 1, e4, cut 36 1, e5, cut 37 1, e6, cut 38 1, e7, List.drop_eq_nil_of_le (by omega : cs.length ≤ 38 + 1), List.drop_zero] at c0
  rw [c0]
  simp [lineList]
end

end Go.Proofs.YtdjaphcelpchaaaGreatDoor

namespace Go.Proofs.YtdjaphcelpchaaaGreatDoor
open Go Go.RowKit Go.Proofs

attribute [local go_sem ↓] ex_load_id ex_store_id ex_load_line ex_store_line ex_alloc_line ex_build_line

attribute [local go_sem] ld_id st_id ld_line st_line guard_id okCells_drew rdCells_drew okCells_drewN rdCells_drewN rowOk_drew rowOk_cells okCells_cells rdCells_cells setRow_drew setRow_new setRow_past

theorem ex_bs_line (ρ : Operand → Value) (d : Option Tmp) (x : Operand) (ty : TypeId) (pos : String) (af : Array Edge) (g : Option (Nat × Bool)) (w : World) :
    Sem.run Tryz.prog (execOp ρ ⟨d, .buildSlice 107 1 #[(0, x)], ty, pos, af, g⟩) w = bsRes Tryz.prog 107 w (ρ x) := by kernel_rfl
theorem bs_line (w : World) (g : GLine) : bsRes Tryz.prog 107 w (.agg (lineCells g)) = .ok (.value (.slice (some ⟨w.heap.size, 0, none⟩) 1 1)) (w.alloc (.cells (lineCells g) 34)) := by
  obtain ⟨i0, hi, hz0, hz1, hz2⟩ := info_parts Tryz.info_line
  unfold bsRes
  rw [Sem.run_bind, run_buildSlice w 107 34 1 _ (lineCells g) i0 _ Tryz.underlying107 hi hz0 (by rw [hz1]; decide) (by rw [hz1]; decide) (by
    rw [hz1]
    exact fill_one _ _ 38 (lineCells_size g) (by simp))]
  rfl
attribute [local go_sem ↓] ex_bs_line exI_load_line exI_store_line exI_alloc_line exI_load_id exI_store_id

attribute [local go_sem] bs_line

set_option maxHeartbeats 1000000 in
theorem range_call (p : Option Addr) (s : ByteArray) (lo hi : Int) (w : World) : Calls Tryz.prog 30 #[.pointer p, .string s, .int .i64 lo, .int .i64 hi] w fun r w' =>
    r = .returned (.func (.func 67) #[] #[.pointer (some ⟨w.heap.size, 0, none⟩), .pointer (some ⟨w.heap.size + 1, 0, none⟩), .pointer (some ⟨w.heap.size + 1 + 1, 0, none⟩), .pointer (some ⟨w.heap.size + 1 + 1 + 1, 0, none⟩)]) ∧
    (((w.alloc (.cells #[.pointer p] 47)).alloc (.cells #[.string s] 9)).alloc (.cells #[.int .i64 lo] 3)).alloc (.cells #[.int .i64 hi] 3) = w' := by
  go_enter Tryz.func30, Tryz.ntmps30
  go_wp2
  go_ret
  exact ⟨rfl, rfl⟩

/-- The lines between two numbers. -/
def rangeP (ms : List ML) (lo hi : Int) : List PLine := (ms.map (·.p)).filter fun p => decide (lo ≤ p.number ∧ p.number ≤ hi)
/-- What a loop's body may know of what is yielded. -/
structure GdL (T : List PLine) (A B : Nat) (pre : List ML) (x : ML) (X : World) : Prop where
  here : T[pre.length]? = some x.p
  past : pre.map (·.p) = T.take pre.length
  refs : IdsOwn A X x.v x.p.ids
  lt : ∀ k, x.v.ownBlock = some k → k < B
theorem GdL.below {T : List PLine} {A B : Nat} {pre : List ML} {x : ML} {X Y : World} (h : GdL T A B pre x X) (hb : Below X.heap.size X Y) : GdL T A B pre x Y := ⟨h.here, h.past, h.refs.below hb, h.lt⟩
/-- What it must keep. -/
def KpL (A B : Nat) (x : ML) (X Y : World) : Prop := X.heap.size ≤ Y.heap.size ∧ ∀ k, A ≤ k → k < B → x.v.ownBlock ≠ some k → Y.heap[k]? = X.heap[k]?

/-- The copied lines: a row of their own, each with references of its own. -/
structure RowAt (A : Nat) (w : World) (v : Value) (ls : List ML) : Prop where
  lin : LinesAt A w v ls
  apart : (ls.filterMap fun m => m.v.ownBlock).Nodup
theorem RowAt.nil (A : Nat) (w : World) : RowAt A w (.slice none 0 0) [] := ⟨⟨World.ownsRow_nil _ _ _ _, fun _ h => by cases h⟩, .nil⟩
/-- What the rounds have kept so far. -/
def IterKeep (A : Nat) (w0 : World) (pre : List ML) (w : World) : Prop := w0.heap.size ≤ w.heap.size ∧ ∀ k, A ≤ k → k < w0.heap.size → (∀ m ∈ pre, m.v.ownBlock ≠ some k) → w.heap[k]? = w0.heap[k]?
theorem iter_row {A : Nat} {w0 w : World} {v : Value} {ls : List ML} (h : RowAt A w0 v ls) {j : Nat} (hk : IterKeep A w0 (ls.take j) w) (k rb : Nat) (hv : v.ownBlock = some rb) (i : Nat) : w.cell? ⟨rb, k * 38 + i, none⟩ = w0.cell? ⟨rb, k * 38 + i, none⟩ := by
  obtain ⟨c, hc⟩ := ownsRow_typed h.lin.row hv
  have hlt := World.ownsRow.lt h.lin.row rb hv
  refine cell_of_same (a := ⟨rb, k * 38 + i, none⟩) (hk.2 rb hlt.1 hlt.2 fun m hm he => ?_)
  obtain ⟨c2, hc2⟩ := ownsRow_typed (h.lin.refs m (List.mem_of_mem_take hm)) he
  rw [hc] at hc2
  exact absurd (cells_ty hc2) (by decide)
theorem iter_gd {A : Nat} {w0 w : World} {v : Value} {ls : List ML} {T : List PLine} (h : RowAt A w0 v ls) (hT : ls.map (·.p) = T) {k : Nat} (hk : IterKeep A w0 (ls.take k) w) (hlt : k < ls.length) : GdL T A w0.heap.size (ls.take k) ls[k] w := by
  have hl : (ls.take k).length = k := by rw [List.length_take]; omega
  have hr := h.lin.refs ls[k] (List.getElem_mem hlt)
  refine ⟨?_, ?_, hr.block fun j hj => ?_, fun j hj => (hr.lt hj).2⟩
  · rw [hl, ← hT, List.getElem?_map, List.getElem?_eq_getElem hlt]; rfl
  · rw [hl, ← hT, List.map_take]
  · refine hk.2 j (hr.lt hj).1 (hr.lt hj).2 fun m hm he => ?_
    have hn := h.apart
    have e : ls = ls.take k ++ ls[k] :: ls.drop (k + 1) := by
      rw [← List.drop_eq_getElem_cons hlt, List.take_append_drop]
    rw [e, List.filterMap_append, List.filterMap_cons_some (f := fun m : ML => m.v.ownBlock) hj, List.nodup_append] at hn
    exact hn.2.2 j (List.mem_filterMap.2 ⟨m, hm, he⟩) j (by simp) rfl
theorem iter_next {A : Nat} {w0 w : World} {ls : List ML} {k : Nat} (hk : IterKeep A w0 (ls.take k) w) (hlt : k < ls.length) {X' : World} (h : KpL A w0.heap.size ls[k] (w.alloc (.cells (lineCells ls[k].g) 34)) X') : IterKeep A w0 (ls.take k ++ [ls[k]]) X' := by
  have hs : (w.alloc (.cells (lineCells ls[k].g) 34)).heap.size = w.heap.size + 1 := by simp
  refine ⟨by have := hk.1; have := h.1; omega, fun j hA hB hm => ?_⟩
  have h1 := hk.1
  rw [h.2 j hA hB (hm _ (List.mem_append_right _ (List.mem_singleton.2 rfl))), heap_alloc_old _ _ (by omega), hk.2 j hA hB fun m hm' => hm m (List.mem_append_left _ hm')]
/-- One line more. -/
theorem RowAt.snoc {A : Nat} {w w' : World} {v v' : Value} {ls : List ML} {x : ML} (h : RowAt A w v ls) (hrow : w'.ownsRow A 34 38 v' (ls.length + 1) (flatLines ls ++ lineList x.g)) (hr : ∀ m ∈ ls, IdsOwn A w' m.v m.p.ids) (hx : IdsOwn A w' x.v x.p.ids) (hn : ∀ k, x.v.ownBlock = some k → w.heap.size ≤ k) : RowAt A w' v' (ls ++ [x]) := by
  refine ⟨⟨?_, fun m hm => ?_⟩, ?_⟩
  · rw [List.length_append, List.length_singleton, flat_append]
    have : flatLines [x] = lineList x.g := by simp [flatLines]
    rw [this]
    exact hrow
  · rcases List.mem_append.1 hm with hm | hm
    · exact hr m hm
    · rw [List.mem_singleton.1 hm]; exact hx
  · rw [List.filterMap_append, List.nodup_append]
    refine ⟨h.apart, ?_, fun a ha b hb => ?_⟩
    · cases hv : x.v.ownBlock with
      | none => rw [List.filterMap_cons_none (f := fun m : ML => m.v.ownBlock) hv]; exact .nil
      | some k => rw [List.filterMap_cons_some (f := fun m : ML => m.v.ownBlock) hv]; simp
    · obtain ⟨m, hm, he⟩ := List.mem_filterMap.1 ha
      obtain ⟨y, hy, he2⟩ := List.mem_filterMap.1 hb
      rw [List.mem_singleton.1 hy] at he2
      have h1 := ((h.lin.refs m hm).lt he).2
      have h2 := hn b he2
      omega

theorem ids_grown {A : Nat} {w w' : World} {v : Value} {ids : List Id32} {row : Option Nat} (h : IdsOwn A w v ids) (hg : w.grownBy w' row) (hr : ∀ k, row = some k → ∃ c, w.heap[k]? = some (.cells c 34 (0, 0))) : IdsOwn A w' v ids := by
  refine h.block fun k hk => hg.block k (h.lt hk).2 fun e => ?_
  obtain ⟨c, hc⟩ := hr k e.symm
  obtain ⟨c2, hc2⟩ := ownsRow_typed h hk
  rw [hc] at hc2
  exact absurd (cells_ty hc2) (by decide)
/-- The lines from a place on, up to a number. -/
theorem range_split {ms : List ML} {lo hi : Int} {i j : Nat} (hb : Between (nums ms) lo i i) (hs : (nums ms).Pairwise (· < ·)) (hj : j ≤ ms.length - i) (h1 : ∀ m ∈ (ms.drop i).take j, m.p.number ≤ hi) (h2 : ∀ (hx : i + j < ms.length), hi < ms[i + j].p.number) : ((ms.drop i).take j).map (·.p) = rangeP ms lo hi := by
  obtain ⟨_, hi2, hlow, hhigh⟩ := hb
  have hln : (nums ms).length = ms.length := by unfold nums; rw [List.length_map]
  have hget : ∀ k (h : k < ms.length), (nums ms)[k]'(by rw [hln]; exact h) = ms[k].p.number := fun k h => by unfold nums; rw [List.getElem_map]
  have hps := hs
  rw [List.pairwise_iff_getElem] at hps
  unfold rangeP
  have e : ms = ms.take i ++ ((ms.drop i).take j ++ (ms.drop i).drop j) := by rw [List.take_append_drop, List.take_append_drop]
  conv => rhs; rw [e]
  rw [List.map_append, List.filter_append, List.map_append, List.filter_append]
  have f1 : ((ms.take i).map (·.p)).filter (fun p => decide (lo ≤ p.number ∧ p.number ≤ hi)) = [] := by
    rw [List.filter_eq_nil_iff]
    intro p hp
    obtain ⟨m, hm, rfl⟩ := List.mem_map.1 hp
    obtain ⟨k, hk, rfl⟩ := List.getElem_of_mem hm
    rw [List.length_take] at hk
    have h3 := hlow k (by omega) (by omega)
    rw [hget k (by omega)] at h3
    rw [List.getElem_take]
    simp only [decide_eq_true_eq, not_and]
    intro h4
    omega
  have f2 : (((ms.drop i).take j).map (·.p)).filter (fun p => decide (lo ≤ p.number ∧ p.number ≤ hi)) = ((ms.drop i).take j).map (·.p) := by
    rw [List.filter_eq_self]
    intro p hp
    obtain ⟨m, hm, rfl⟩ := List.mem_map.1 hp
    rw [decide_eq_true_eq]
    refine ⟨?_, h1 m hm⟩
    obtain ⟨k, hk, rfl⟩ := List.getElem_of_mem hm
    rw [List.length_take, List.length_drop] at hk
    have h3 := hhigh (i + k) (by omega) (by omega)
    rw [hget (i + k) (by omega)] at h3
    rw [List.getElem_take, List.getElem_drop]
    exact h3
  have f3 : (((ms.drop i).drop j).map (·.p)).filter (fun p => decide (lo ≤ p.number ∧ p.number ≤ hi)) = [] := by
    rw [List.filter_eq_nil_iff]
    intro p hp
    obtain ⟨m, hm, rfl⟩ := List.mem_map.1 hp
    rw [List.drop_drop] at hm
    obtain ⟨k, hk, rfl⟩ := List.getElem_of_mem hm
    rw [List.length_drop] at hk
    have hx : i + j < ms.length := by omega
    have h3 := h2 hx
    rw [List.getElem_drop]
    simp only [decide_eq_true_eq, not_and]
    intro _ h5
    by_cases hk0 : k = 0
    · subst hk0
      simp only [Nat.add_zero] at h5
      omega
    · have h6 := hps (i + j) (i + j + k) (by omega) (by omega) (by omega)
      rw [hget _ hx, hget _ (by omega)] at h6
      omega
  rw [f1, f2, f3, List.append_nil, List.nil_append]

/-- How the iterator may end. -/
def SeqEnd (W : World) (S : List ML → Prop) (J Jx : Nat → List ML → World → Prop) (e : Ending) (W' : World) : Prop := (∃ v, e = .returned v) ∧ ((∃ B xs, W.heap.size ≤ B ∧ B ≤ W'.heap.size ∧ S xs ∧ J B xs W') ∨ (∃ B pre, W.heap.size ≤ B ∧ Jx B pre W'))

set_option maxRecDepth 100000 in
set_option maxHeartbeats 8000000 in
/-- The iterator. -/
theorem rangeSeq_any (n : Nat) (b0 b1 b2 b3 B ib M mc : Nat) (gs : List MG) (s : ByteArray) (lo hi : Int) (W : World) (h0 : W.cell? ⟨b0, 0, none⟩ = some (.pointer (some ⟨ib, 0, none⟩))) (h1 : W.cell? ⟨b1, 0, none⟩ = some (.string s)) (h2 : W.cell? ⟨b2, 0, none⟩ = some (.int .i64 lo)) (h3 : W.cell? ⟨b3, 0, none⟩ = some (.int .i64 hi)) (h : IdxAt B W ib M gs mc) :
    SeqG Fence.wide n Tryz.prog 67 #[.pointer (some ⟨b0, 0, none⟩), .pointer (some ⟨b1, 0, none⟩), .pointer (some ⟨b2, 0, none⟩), .pointer (some ⟨b3, 0, none⟩)]
      (fun x : ML => #[.agg (lineCells x.g)]) (GdL (rangeP (linesIn gs s) lo hi)) KpL (fun xs => xs.map (·.p) = rangeP (linesIn gs s) lo hi) W := fun l J Jx hJ hJx hJ0 hY => by
  show CallsIn _ _ _ _ _ _ (SeqEnd W (fun xs => xs.map (·.p) = rangeP (linesIn gs s) lo hi) J Jx)
  have HJs := Lib.hid hJ
  have HJ0 := Lib.hid hJ0
  have HY := Lib.hid hY
  clear hJ hJx hJ0 hY
  have hso := h.sorted s
  have HL := Lib.hid (linesOf_any B ib M mc gs s W h)
  have HS := Lib.hid (search_any B (valueOf gs s) (linesIn gs s) lo W (h.lines s) (h.len s) hso)
  have hlen := h.len s
  have HLI := Lib.hid (h.lines s)
  have HSO := Lib.hid hso
  have HGOOD : Hid (∀ m ∈ linesIn gs s, pErr m.p = 0) := Lib.hid fun m hm => by
    have hne : linesIn gs s ≠ [] := fun e => by rw [e] at hm; cases hm
    obtain ⟨G, hG, hms, _⟩ := linesIn_ne hne
    exact (h.grps G (groupOf_mem hG).1).good m (hms ▸ hm)
  clear h hso
  generalize linesIn gs s = ms at HS hlen HLI HSO HGOOD HY ⊢
  generalize valueOf gs s = v at HL HS HLI
  refine callsIn_wide.2 ?_
  rcases HLI.out.head with ⟨rfl, rfl⟩ | ⟨gb, cap, rfl, hgB, hgl, hle, hmx, hcell⟩
  · have HT : Hid ((([] : List ML).map (·.p)) = rangeP [] lo hi) := Lib.hid rfl
    go_enter Tryz.func67, Tryz.ntmps67
    go_wp2_with fail
    refine HL.out.mono ?_
    rintro r w' ⟨rfl, rfl⟩
    go_wp2_with fail
    refine HS.out.mono ?_
    rintro r w1 ⟨i, hbt, rfl, hb1⟩
    obtain rfl : i = 0 := Nat.le_zero.1 hbt.2.1
    have HB1 := Lib.hid hb1
    clear hb1 HS HL hbt
    go_wp2
    go_loop [6, 27] (fun p a => p = .slice none 0 0 ∧ a = .int .i64 0) (fun _ _ => 0)
    case atStart => exact ⟨rfl, rfl⟩
    case round =>
      obtain ⟨rfl, rfl⟩ := hrel
      go_wp2
      go_loop [43] (fun a => a = .int .i64 0) (fun _ => 0)
      case atStart => exact rfl
      case round =>
        obtain rfl := hrel
        go_wp2
        go_end0
        exact ⟨⟨_, rfl⟩, .inl ⟨w1.heap.size, [], HB1.out.size, Nat.le_refl _, HT.out, HJ0.out w1 HB1.out⟩⟩
  · have HC := Lib.hid hcell
    clear hcell
    obtain ⟨i0, hi0, hz0, hz1, hz2⟩ := info_parts Tryz.info_line
    go_enter Tryz.func67, Tryz.ntmps67
    go_wp2_with fail
    refine HL.out.mono ?_
    rintro r w' ⟨rfl, rfl⟩
    go_wp2_with fail
    refine HS.out.mono ?_
    rintro r w1 ⟨i, hbt, rfl, hb1⟩
    have hil : i ≤ ms.length := by have := hbt.2.1; unfold nums at this; rw [List.length_map] at this; exact this
    have hiz : (i : Int) ≤ (ms.length : Int) := by omega
    have HB1 := Lib.hid hb1
    have HBT := Lib.hid hbt
    have hb3l : b3 < W.heap.size := block_lt_of_cell h3
    have h3' := h3
    obtain ⟨gx, ox, had, hxl, hcx⟩ : ∃ gx ox : Nat, (if cap = i then some (⟨gb, 0, none⟩ : Addr) else some ⟨gb, i * 38, none⟩) = some ⟨gx, ox, none⟩ ∧ gx < W.heap.size ∧ ∀ j (hj : i + j < ms.length) k u, (lineList ms[i + j].g)[k]? = some u → W.cell? ⟨gx, ox + j * 38 + k, none⟩ = some u := by
      by_cases hc : cap = i
      · exact ⟨gb, 0, if_pos hc, hgl, fun j hj => by omega⟩
      · refine ⟨gb, i * 38, if_neg hc, hgl, fun j hj k u hu => ?_⟩
        have := HC.out (i + j) hj k u hu
        rwa [show (i + j) * 38 + k = i * 38 + j * 38 + k by omega] at this
    have HCX := Lib.hid hcx
    have HH3 := Lib.hid h3'
    clear hb1 hbt HS HL hcx HC h0 h1 h2 h3 h3'
    go_wp2
    try rw [had]
    clear had
    go_loopw [6, 27] (fun lv a wr => ∃ (k : Nat) (ls : List ML), k ≤ ms.length - i ∧ a = .int .i64 k ∧ Hid (ls.map (·.p) = ((ms.drop i).take k).map (·.p)) ∧ Hid (∀ m ∈ (ms.drop i).take k, m.p.number ≤ hi) ∧ Hid (RowAt W.heap.size wr lv ls) ∧ Hid (Below W.heap.size W wr)) (fun _ a _ => ms.length - (intOf a).toNat)
    case atStart => exact ⟨0, [], by omega, rfl, Lib.hid rfl, Lib.hid (fun m hm => by simp at hm), Lib.hid (RowAt.nil _ _), HB1⟩
    case round =>
      obtain ⟨k, ls, hk, rfl, HP, HLE, HROW, HBr⟩ := hrel
      have hlsk : ls.length = k := by
        have := congrArg List.length HP.out
        rw [List.length_map, List.length_map, List.length_take, List.length_drop] at this
        omega
      have HLL : Hid (ls.length ≤ 65536) := Lib.hid (by omega)
      have HLK := Lib.hid hlsk
      clear hlsk
      obtain ⟨la, ln, lc, hle'⟩ : ∃ a n c, u6 = .slice a n c := own_slice HROW.out.lin.row
      subst hle'
      by_cases hltk : k < ms.length - i
      · have hltz : (k : Int) < (ms.length : Int) - (i : Int) := by omega
        have hik : i + k < ms.length := by omega
        obtain ⟨o1, d1⟩ := lineAt_rd (w := wr) (g := gx) (off := ox + k * 38) (l := ms[i + k].g) (fun j u hu => (HBr.out.cell (p := ⟨gx, ox + k * 38 + j, none⟩) hxl).trans (HCX.out k hik j u hu))
        have hv3 : wr.cell? ⟨b3, 0, none⟩ = some (.int .i64 hi) := (HBr.out.cell (p := ⟨b3, 0, none⟩) hb3l).trans HH3.out
        have hmem : ms[i + k] ∈ ms := List.getElem_mem hik
        have hrl := refs_len (HGOOD.out _ hmem)
        have HTK : Hid ((ms.drop i).take (k + 1) = (ms.drop i).take k ++ [ms[i + k]]) := Lib.hid (by
          rw [List.take_succ_eq_append_getElem (by rw [List.length_drop]; omega), List.getElem_drop])
        have HRF := Lib.hid (HLI.out.refs _ hmem)
        obtain ⟨m, hmE⟩ : ∃ m, m = ms[i + k] := ⟨_, rfl⟩
        rw [← hmE] at d1 hrl HTK HRF hmem
        have HEQ := Lib.hid hmE
        clear hmE
        obtain ⟨W1, hW1⟩ : ∃ W1, W1 = wr.alloc (.cells (lineCells m.g) 34) := ⟨_, rfl⟩
        have hb1' : Below wr.heap.size wr W1 := by rw [hW1]; exact (Below.refl _ _).alloc (Nat.le_refl _) _
        have hLV : LineVar W1 wr.heap.size m.g := by rw [hW1]; exact heap_alloc_new _ _
        have hn0 := (hLV.cell 0).trans (lc0 m.g)
        have hv31 : W1.cell? ⟨b3, 0, none⟩ = some (.int .i64 hi) := (hb1'.cell (block_lt_of_cell hv3)).trans hv3
        obtain ⟨o2, d2⟩ := hLV.rd
        have hzs : ((lineCells zeroLine).size == 38) = true := by rw [lineCells_size]; rfl
        have hone := HRF.out.one
        have hft := fits_line (g := m.g) hone
        have HBW1 := Lib.hid (HBr.out.trans (hb1'.mono HBr.out.size) : Below W.heap.size W W1)
        have HROW1 : Hid (RowAt W.heap.size W1 (.slice la ln lc) ls) := Lib.hid ⟨HROW.out.lin.below hb1', HROW.out.apart⟩
        have hmn : (ML.g m).number = m.p.number := rfl
        rw [hmn] at hn0
        rw [hW1] at hn0 hv31 o2 d2
        by_cases hgt : hi < m.p.number
        · have HT : Hid (ls.map (·.p) = rangeP ms lo hi) := Lib.hid (HP.out.trans (range_split HBT.out HSO.out (by omega) HLE.out (fun hx => by rw [← HEQ.out]; exact hgt)))
          clear HP HLE HROW HBr
          have HROW := HROW1
          have HBr := HBW1
          clear HROW1 HBW1
          rcases HROW.out.lin.head with ⟨hln, hls⟩ | ⟨rb, rcap, hlv, hrA, hrl, hrle, hrm, hrc⟩
          · cases hln
            have HLS := Lib.hid hls
            clear hls
            go_wp2
            rw [← hW1]
            clear hW1 hn0 hv31 o1 d1 o2 d2
            go_loop [43] (fun i => i = .int .i64 0) (fun _ => 0)
            case atStart => exact rfl
            case round =>
              obtain rfl := hrel
              go_wp2
              go_end0
              exact ⟨⟨_, rfl⟩, .inl ⟨W1.heap.size, ls, HBr.out.size, Nat.le_refl _, HT.out, by rw [HLS.out]; exact HJ0.out W1 HBr.out⟩⟩
          · cases hlv
            have hll : ls.length ≤ 65536 := HLL.out
            have HRC := Lib.hid hrc
            have hrbB : rb < W1.heap.size := hrl
            clear hrc
            go_wp2
            rw [← hW1]
            clear hW1 hn0 hv31 o1 d1 o2 d2
            refine (wpIn_wide (n := n)).1 ?_
            obtain ⟨wr0, hwr0⟩ : ∃ x, x = W1 := ⟨_, rfl⟩
            rw [← hwr0] at HROW HBr HRC hrbB ⊢
            clear hwr0
            gi_loopw [43] (fun i wy => ∃ k : Nat, k ≤ ls.length ∧ i = .int .i64 k ∧ Hid (J wr0.heap.size (ls.take k) wy) ∧ Hid (IterKeep W.heap.size wr0 (ls.take k) wy)) (fun i _ => ls.length - (intOf i).toNat)
            case atStart => exact ⟨0, by omega, rfl, Lib.hid (HJ0.out wr0 HBr.out), Lib.hid ⟨Nat.le_refl _, fun _ _ _ _ => rfl⟩⟩
            case round =>
              obtain ⟨k, hk, rfl, HJk, HKk⟩ := hrel
              by_cases hltk : k < ls.length
              · have hltz : (k : Int) < (ls.length : Int) := by omega
                obtain ⟨o1, d1⟩ := lineAt_rd (w := wr) (g := rb) (off := k * 38) (l := ls[k].g) (fun i u hu => (iter_row HROW.out HKk.out k rb rfl i).trans (HRC.out k hltk i u hu))
                have HGD := Lib.hid (iter_gd HROW.out HT.out HKk.out hltk)
                have HTK := Lib.hid (List.take_succ_eq_append_getElem hltk)
                have HNX := Lib.hid (fun X' => iter_next HKk.out hltk (X' := X'))
                have hone := (HROW.out.lin.refs ls[k] (List.getElem_mem hltk)).one
                have hft := fits_line (g := ls[k].g) hone
                have o2 := ok_new_line wr ls[k].g 34
                have d2 := rd_new_line wr ls[k].g 34
                have hY2 := HY.out wr0.heap.size (ls.take k) ls[k] (wr.alloc (.cells (lineCells ls[k].g) 34)) (HJs.out _ _ _ _ HJk.out HBr.out.size HKk.out.1 (Beside.of_below ((Below.refl _ _).alloc (Nat.le_refl _) _))) HBr.out.size (by have := HKk.out.1; simp; omega) (HGD.out.below ((Below.refl _ _).alloc (Nat.le_refl _) _))
                obtain ⟨fn, tmps, assign, body, hy, hR⟩ := hY2
                try dsimp only at hy
                have hzs : ((lineCells zeroLine).size == 38) = true := by rw [lineCells_size]; rfl
                have HRR := Lib.hid hR
                clear hR HGD
                generalize ls[k] = x at o1 d1 o2 d2 HTK HNX hft hone hy HRR
                gi_wp2
                refine ⟨fun hd => (by cases hd), HRR.out.mono ?_⟩
                rintro e W3 (⟨rfl, hJ3, hk3⟩ | ⟨rfl, hJx3⟩)
                · have HJ3 := Lib.hid hJ3
                  have HK3 := Lib.hid (HNX.out W3 hk3)
                  clear hJ3 hk3 HRR hy
                  gi_wp2
                  go_roundw
                  case rel => exact ⟨k + 1, by omega, by go_num, Lib.hid (by rw [HTK.out]; exact HJ3.out), Lib.hid (by rw [HTK.out]; exact HK3.out)⟩
                  case measure => simp [intOf]; omega
                · have HJx3 := Lib.hid hJx3
                  clear hJx3 HRR hy
                  gi_wp2
                  refine bodyPost_ret (results_none rfl _ _ _) rfl ?_
                  exact ⟨⟨_, rfl⟩, .inr ⟨wr0.heap.size, _, HBr.out.size, HJx3.out⟩⟩
              · have HE : Hid (ls.take k = ls) := Lib.hid (List.take_of_length_le (by omega))
                gi_wp2
                go_end0
                exact ⟨⟨_, rfl⟩, .inl ⟨wr0.heap.size, ls, HBr.out.size, HKk.out.1, HT.out, by have := HJk.out; rw [HE.out] at this; exact this⟩⟩
        · have hle2 : m.p.number ≤ hi := by omega
          have HLE2 : Hid (∀ x ∈ (ms.drop i).take (k + 1), x.p.number ≤ hi) := Lib.hid fun x hx => by
            rw [HTK.out] at hx
            rcases List.mem_append.1 hx with hx | hx
            · exact HLE.out x hx
            · rw [List.mem_singleton.1 hx]; exact hle2
          have HCL := Lib.hid (clone_any B m.g m.p.ids W1 (HRF.out.below HBW1.out) (by omega))
          clear HROW HBr HRF
          go_wp2_with fail
          rw [← hW1]
          clear hW1 hn0 hv31 o1 d1 o2 d2
          refine HCL.out.mono ?_
          rintro r w2 ⟨v', rfl, hI2, hb2⟩
          obtain ⟨x, hx⟩ : ∃ x : ML, x = ⟨m.p, v'⟩ := ⟨_, rfl⟩
          have hxg : ({ m.g with refs := v' } : GLine) = x.g := by rw [hx]; rfl
          have hxp : x.p = m.p := by rw [hx]
          have hxv : x.v = v' := by rw [hx]
          rw [hxg]
          have HI2 : Hid (IdsOwn W1.heap.size w2 x.v x.p.ids) := Lib.hid (by rw [hxp, hxv]; exact hI2)
          have HXP := Lib.hid hxp
          have honex : ∀ u ∈ lineList x.g, u.oneCell' = true := lineList_one (g := x.g) (by show x.v.oneCell' = true; exact HI2.out.one)
          have HONEX := Lib.hid honex
          have HBW2 := Lib.hid (HBW1.out.trans (hb2.mono HBW1.out.size) : Below W.heap.size W w2)
          have hrow2 := (HROW1.out.lin.below hb2)
          have HROW2 : Hid (RowAt W.heap.size w2 (.slice la ln lc) ls) := Lib.hid ⟨hrow2, HROW1.out.apart⟩
          have hs12 : W1.heap.size ≤ w2.heap.size := hb2.size
          have hownA := hrow2.row.alloc (.cells (lineCells x.g) 34)
          have HLT := Lib.hid (fun j hj => (World.ownsRow.lt hrow2.row j hj).1)
          have hsW1 : W.heap.size ≤ W1.heap.size := HBW1.out.size
          clear hI2 hb2 hx hxg hxp hxv honex hrow2 HBW1 HCL
          have HLL2 := HLL.out
          rw [HLK.out] at hownA
          go_wp2_with (at_builtin; refine wpList_append_own _ rfl (.tmp 35) (.tmp 38) 107 rfl W.heap.size 34 i0 (.agg (lineCells zeroLine)) 38 112 Tryz.underlying107 hi0 hz0 hz1 hz2 (lineCells_size _) (by decide) _ _ _ rfl hownA ⟨w2.heap.size, 0, none⟩ 1 1 (lineList x.g) rfl (lineList_length _) ?c1 HONEX.out ?c3 ?c4 ?c5 ?_)
          case c1 =>
            intro j u hj
            rw [Addr.add_lit, Nat.zero_add, cells_new]
            unfold lineCells
            rw [List.getElem?_toArray]
            exact hj
          case c3 => unfold maxLen; omega
          case c4 => omega
          case c5 => have := HBW2.out.size; simp; omega
          intro v2 w3 hown3 hgr3 _
          have hb3 : Below W.heap.size W w3 := (HBW2.out.alloc HBW2.out.size _).grown hgr3 (by have := HBW2.out.size; simp; omega) (fun j hj => HLT.out j hj)
          have hty : ∀ k, (Value.slice la ln lc).ownBlock = some k → ∃ c, (w2.alloc (.cells (lineCells x.g) 34)).heap[k]? = some (.cells c 34 (0, 0)) := fun k hk => ownsRow_typed hownA hk
          have hal : Below w2.heap.size w2 (w2.alloc (.cells (lineCells x.g) 34)) := (Below.refl _ _).alloc (Nat.le_refl _) _
          have hrow3 : RowAt W.heap.size w3 v2 (ls ++ [x]) := by
            refine HROW1.out.snoc ?_ (fun y hy => ids_grown ((HROW2.out.lin.refs y hy).below hal) hgr3 hty) (ids_grown ((HI2.out.below hal).mono (by have := HBW2.out.size; omega)) hgr3 hty) ?_
            · rw [HLK.out]; exact hown3
            · exact fun k hk => (HI2.out.lt hk).1
          have HROW3 := Lib.hid hrow3
          have HB3 := Lib.hid hb3
          have HP3 : Hid ((ls ++ [x]).map (·.p) = ((ms.drop i).take (k + 1)).map (·.p)) := Lib.hid (by rw [HTK.out, List.map_append, List.map_append, HP.out]; simp [HXP.out])
          clear hown3 hgr3 hb3 hty hal hrow3 hownA
          go_wp2
          go_roundw
          case rel => exact ⟨k + 1, ls ++ [x], by omega, by go_num, HP3, HLE2, HROW3, HB3⟩
          case measure => simp [intOf]; omega
      · have HT : Hid (ls.map (·.p) = rangeP ms lo hi) := Lib.hid (HP.out.trans (range_split HBT.out HSO.out (by omega) HLE.out (fun hx => by omega)))
        clear HP HLE
        rcases HROW.out.lin.head with ⟨hln, hls⟩ | ⟨rb, rcap, hlv, hrA, hrl, hrle, hrm, hrc⟩
        · cases hln
          have HLS := Lib.hid hls
          clear hls
          go_wp2
          go_loop [43] (fun i => i = .int .i64 0) (fun _ => 0)
          case atStart => exact rfl
          case round =>
            obtain rfl := hrel
            go_wp2
            go_end0
            exact ⟨⟨_, rfl⟩, .inl ⟨wr.heap.size, ls, HBr.out.size, Nat.le_refl _, HT.out, by rw [HLS.out]; exact HJ0.out wr HBr.out⟩⟩
        · cases hlv
          have hll : ls.length ≤ 65536 := HLL.out
          have HRC := Lib.hid hrc
          have hrbB : rb < wr.heap.size := hrl
          clear hrc
          go_wp2
          refine (wpIn_wide (n := n)).1 ?_
          obtain ⟨wr0, hwr0⟩ : ∃ x, x = wr := ⟨_, rfl⟩
          rw [← hwr0] at HROW HBr HRC hrbB ⊢
          clear hwr0
          gi_loopw [43] (fun i wy => ∃ k : Nat, k ≤ ls.length ∧ i = .int .i64 k ∧ Hid (J wr0.heap.size (ls.take k) wy) ∧ Hid (IterKeep W.heap.size wr0 (ls.take k) wy)) (fun i _ => ls.length - (intOf i).toNat)
          case atStart => exact ⟨0, by omega, rfl, Lib.hid (HJ0.out wr0 HBr.out), Lib.hid ⟨Nat.le_refl _, fun _ _ _ _ => rfl⟩⟩
          case round =>
            obtain ⟨k, hk, rfl, HJk, HKk⟩ := hrel
            by_cases hltk : k < ls.length
            · have hltz : (k : Int) < (ls.length : Int) := by omega
              obtain ⟨o1, d1⟩ := lineAt_rd (w := wr) (g := rb) (off := k * 38) (l := ls[k].g) (fun i u hu => (iter_row HROW.out HKk.out k rb rfl i).trans (HRC.out k hltk i u hu))
              have HGD := Lib.hid (iter_gd HROW.out HT.out HKk.out hltk)
              have HTK := Lib.hid (List.take_succ_eq_append_getElem hltk)
              have HNX := Lib.hid (fun X' => iter_next HKk.out hltk (X' := X'))
              have hone := (HROW.out.lin.refs ls[k] (List.getElem_mem hltk)).one
              have hft := fits_line (g := ls[k].g) hone
              have o2 := ok_new_line wr ls[k].g 34
              have d2 := rd_new_line wr ls[k].g 34
              have hY2 := HY.out wr0.heap.size (ls.take k) ls[k] (wr.alloc (.cells (lineCells ls[k].g) 34)) (HJs.out _ _ _ _ HJk.out HBr.out.size HKk.out.1 (Beside.of_below ((Below.refl _ _).alloc (Nat.le_refl _) _))) HBr.out.size (by have := HKk.out.1; simp; omega) (HGD.out.below ((Below.refl _ _).alloc (Nat.le_refl _) _))
              obtain ⟨fn, tmps, assign, body, hy, hR⟩ := hY2
              try dsimp only at hy
              have hzs : ((lineCells zeroLine).size == 38) = true := by rw [lineCells_size]; rfl
              have HRR := Lib.hid hR
              clear hR HGD
              generalize ls[k] = x at o1 d1 o2 d2 HTK HNX hft hone hy HRR
              gi_wp2
              refine ⟨fun hd => (by cases hd), HRR.out.mono ?_⟩
              rintro e W3 (⟨rfl, hJ3, hk3⟩ | ⟨rfl, hJx3⟩)
              · have HJ3 := Lib.hid hJ3
                have HK3 := Lib.hid (HNX.out W3 hk3)
                clear hJ3 hk3 HRR hy
                gi_wp2
                go_roundw
                case rel => exact ⟨k + 1, by omega, by go_num, Lib.hid (by rw [HTK.out]; exact HJ3.out), Lib.hid (by rw [HTK.out]; exact HK3.out)⟩
                case measure => simp [intOf]; omega
              · have HJx3 := Lib.hid hJx3
                clear hJx3 HRR hy
                gi_wp2
                refine bodyPost_ret (results_none rfl _ _ _) rfl ?_
                exact ⟨⟨_, rfl⟩, .inr ⟨wr0.heap.size, _, HBr.out.size, HJx3.out⟩⟩
            · have HE : Hid (ls.take k = ls) := Lib.hid (List.take_of_length_le (by omega))
              gi_wp2
              go_end0
              exact ⟨⟨_, rfl⟩, .inl ⟨wr0.heap.size, ls, HBr.out.size, HKk.out.1, HT.out, by have := HJk.out; rw [HE.out] at this; exact this⟩⟩

end Go.Proofs.YtdjaphcelpchaaaGreatDoor

namespace Go.Proofs.YtdjaphcelpchaaaGreatDoor
open Go Go.RowKit Go.Proofs

attribute [local go_sem ↓] ex_load_id ex_store_id ex_load_line ex_store_line ex_load_rline ex_store_rline ex_alloc_line ex_build_line ex_alloc_rline ex_build_rline

attribute [local go_sem] ld_id st_id ld_line st_line ld_rline st_rline guard_id okCells_drew rdCells_drew okCells_drewN rdCells_drewN rowOk_drew rowOk_cells okCells_cells rdCells_cells setRow_drew setRow_new setRow_past

attribute [local go_sem] Oper.semAt_some

attribute [local go_sem ↓] exI_load_line exI_store_line exI_alloc_line exI_load_id exI_store_id exI_load_rline exI_store_rline

theorem results_cell1' {P : Program} {fn : Func} {p : Tmp} {ty : Nat} (h : fn.results = #[.cell p ty]) (hA : ∀ w, Sem.run P (isAgg ty) w = .ok false w) (tmps : Array Value) (w : World) (a : Addr) (v : Value) (hp : tmps.getD p undef = .pointer (some a)) (hc : w.cell? a = some v) :
    (results fn tmps).run P w = .ok v w := by
  have hp' : tmps[p]?.getD undef = .pointer (some a) := by simpa using hp
  simp [results, h, asAddr, hp', loadVar, hA, hc]
/-- A frame written out. -/
theorem tmps_range (t : Array Value) (n : Nat) (h : t.size = n) : t = ((List.range n).map fun k => t.getD k undef).toArray := by
  subst h
  apply Array.ext
  · simp
  · intro i h1 h2
    simp [h1]
theorem getD_setv {t : Array Value} {i j : Nat} (v d : Value) (h : i ≠ j) : (t.setIfInBounds i v).getD j d = t.getD j d := by
  simp [h]
theorem foldl_one (p : Nat) (v : Value) (t : Array Value) : (((#[p] : Array Tmp).zip #[v]).foldl (fun t (p, v) => t.setIfInBounds p v) t) = t.setIfInBounds p v := by
  simp
theorem name_act {P : Program} {c : Code} {Q : Exit → Act → World → Prop} {a : Act} {w : World} (h : ∀ a', a' = a → c.wp P Q a' w) : c.wp P Q a w := h a rfl
/-- Between two rounds: the counter; all else lies as it lay. -/
structure KbAt (W8 : World) (kb n : Nat) (X : World) : Prop where
  kept : Kept [kb] W8 X
  cell : X.heap[kb]? = some (.cells #[.int .i64 n] 3 (0, 0))
theorem KbAt.beside {W8 : World} {kb n : Nat} {X Y : World} {B : Nat} (h : KbAt W8 kb n X) (hk : kb < W8.heap.size) (hb : Beside W8.heap.size B X Y) : KbAt W8 kb n Y :=
  ⟨⟨hb.os.trans h.kept.os, hb.tape.trans h.kept.tape, hb.output.trans h.kept.output, Nat.le_trans h.kept.size hb.size, fun k hk' hn => (hb.block k (Nat.lt_of_lt_of_le hk' h.kept.size) (.inl hk')).trans (h.kept.block k hk' hn)⟩, (hb.block kb (Nat.lt_of_lt_of_le hk h.kept.size) (.inl hk)).trans h.cell⟩
theorem KbAt.later {W8 : World} {kb n : Nat} {X Y : World} (h : KbAt W8 kb n X) (hb : Below X.heap.size X Y) : KbAt W8 kb n Y :=
  ⟨h.kept.trans (Kept.of_below (F := []) hb) (fun _ hk => by cases hk), (hb.block kb (Array.getElem?_eq_some_iff.1 h.cell).1).trans h.cell⟩
theorem IdxAt.good_in {B : Nat} {w : World} {ib M mc : Nat} {gs : List MG} (h : IdxAt B w ib M gs mc) {s : ByteArray} {m : ML} (hm : m ∈ linesIn gs s) : pErr m.p = 0 := by
  have hne : linesIn gs s ≠ [] := fun e => by rw [e] at hm; cases hm
  obtain ⟨G, hG, hms, _⟩ := linesIn_ne hne
  exact (h.grps G (groupOf_mem hG).1).good m (hms ▸ hm)
/-- The worlds in which the old blocks lie as they lay. -/
theorem KbAt.old {W8 : World} {kb n : Nat} {X : World} (h : KbAt W8 kb n X) {k : Nat} (hk : k < W8.heap.size) (hn : k ≠ kb) : X.heap[k]? = W8.heap[k]? := h.kept.block k hk (by simpa using hn)

end Go.Proofs.YtdjaphcelpchaaaGreatDoor

namespace Go.Proofs.YtdjaphcelpchaaaGreatDoor
open Go Go.RowKit Go.Proofs

theorem ex_load_op (ρ : Operand → Value) (d : Option Tmp) (x : Operand) (ty : TypeId) (pos : String) (af : Array Edge) (g : Option (Nat × Bool)) (w : World) :
    Sem.run Tryz.prog (execOp ρ ⟨d, .load 53 x, ty, pos, af, g⟩) w = ldRes Tryz.prog 53 w (ρ x) := rfl
theorem ld_op (w : World) (a : Addr) (h : okCells w a 40 = true) : ldRes Tryz.prog 53 w (.pointer (some a)) = .ok (.value (.agg (rdCells w a 40))) w := ldRes_agg Tryz.isAgg53 Tryz.sizeOf53 w a h

attribute [local go_sem ↓] ex_load_id ex_store_id ex_load_line ex_store_line ex_load_rline ex_store_rline ex_alloc_line ex_build_line ex_alloc_rline ex_build_rline ex_load_op

attribute [local go_sem] ld_id st_id ld_line st_line ld_rline st_rline guard_id okCells_drew rdCells_drew okCells_drewN rdCells_drewN rowOk_drew rowOk_cells okCells_cells rdCells_cells setRow_drew setRow_new setRow_past ld_op

/-- An operation of a law's argument. -/
structure MO where
  k : Nat
  s : ByteArray
  m : ML
def opList (o : MO) : List Value := .int .u8 o.k :: .string o.s :: lineList o.m.g
theorem opList_length (o : MO) : (opList o).length = 40 := by simp [opList, lineList_length]
/-- A slice of operations in memory. -/
structure OpsAt (w : World) (v : Value) (os : List MO) : Prop where
  row : ∃ a c, v = .slice a os.length c ∧ os.length ≤ c ∧ (os ≠ [] → ∃ b off, a = some ⟨b, off, none⟩ ∧ b < w.heap.size ∧ ∀ j (hj : j < os.length) i u, (opList os[j])[i]? = some u → w.cell? ⟨b, off + j * 40 + i, none⟩ = some u)
  few : os.length ≤ 140737488351232
  kind : ∀ o ∈ os, o.k < 256
  ids : ∀ o ∈ os, IdsAt w o.m.v o.m.p.ids
  len : ∀ o ∈ os, o.m.p.ids.length ≤ maxLen
  names : ∀ o ∈ os, o.s.size ≤ maxLen / 4 ∧ o.m.p.name.size ≤ maxLen / 4 ∧ o.m.p.subject.size ≤ maxLen / 4
theorem OpsAt.below {w w' : World} {v : Value} {os : List MO} (h : OpsAt w v os) (hb : Below w.heap.size w w') : OpsAt w' v os where
  row := by
    obtain ⟨a, c, e, hc, hr⟩ := h.row
    refine ⟨a, c, e, hc, fun hn => ?_⟩
    obtain ⟨b, off, e2, hl, hcell⟩ := hr hn
    exact ⟨b, off, e2, Nat.lt_of_lt_of_le hl hb.size, fun j hj i u hu => (hb.cell (p := ⟨b, off + j * 40 + i, none⟩) hl).trans (hcell j hj i u hu)⟩
  few := h.few
  kind := h.kind
  ids := fun o ho => (h.ids o ho).below hb
  len := h.len
  names := h.names
/-- Whether a line is small. -/
def smallB (s : ByteArray) (m : ML) : Bool := decide (m.p.ids.length ≤ 30) && decide (s.size + m.p.name.size + m.p.subject.size ≤ 600)
def fitsB (os : List MO) : Bool := decide (os.length ≤ 40) && os.all fun o => smallB o.s o.m
theorem opAt_rd {w : World} {b off : Nat} {os : List MO} (h : ∀ j (hj : j < os.length) i u, (opList os[j])[i]? = some u → w.cell? ⟨b, off + j * 40 + i, none⟩ = some u) {j : Nat} (hj : j < os.length) : okCells w ⟨b, off + j * 40, none⟩ 40 = true ∧ rdCells w ⟨b, off + j * 40, none⟩ 40 = opCells os[j].k os[j].s os[j].m.g := by
  have := rd_of_cells (w := w) (a := ⟨b, off + j * 40, none⟩) (cs := opList os[j]) (fun i v hi => by rw [Addr.add_lit]; exact h j hj i v hi)
  rwa [opList_length] at this
theorem opAt_line {w : World} {b off : Nat} {os : List MO} (h : ∀ j (hj : j < os.length) i u, (opList os[j])[i]? = some u → w.cell? ⟨b, off + j * 40 + i, none⟩ = some u) {j : Nat} (hj : j < os.length) : okCells w ⟨b, off + j * 40 + 1, none⟩ 39 = true ∧ rdCells w ⟨b, off + j * 40 + 1, none⟩ 39 = rlineCells os[j].s os[j].m.g := by
  have := rd_of_cells (w := w) (a := ⟨b, off + j * 40 + 1, none⟩) (cs := .string os[j].s :: lineList os[j].m.g) (fun i v hi => by
    rw [Addr.add_lit, Nat.add_assoc (off + j * 40) 1 i, Nat.add_comm 1 i]
    exact h j hj (i + 1) v (by unfold opList; rw [List.getElem?_cons_succ]; exact hi))
  rw [List.length_cons, lineList_length] at this
  exact this

set_option maxRecDepth 100000 in
set_option maxHeartbeats 4000000 in
theorem fits_any (v : Value) (os : List MO) (w : World) (h : OpsAt w v os) :
    Calls Tryz.prog 24 #[v] w fun r w' => r = .returned (.bool (fitsB os)) ∧ Below w.heap.size w w' := by
  obtain ⟨a, c, rfl, hc, hr⟩ := h.row
  have hfew := h.few
  by_cases h40 : os.length ≤ 40
  · have h40z : (os.length : Int) ≤ 40 := by omega
    have HX := Lib.hid h
    clear h
    go_enter Tryz.func24, Tryz.ntmps24
    go_wp2
    go_loopw [3] (fun i wr => ∃ k : Nat, k ≤ os.length ∧ i = .int .i64 k ∧ Hid (∀ j (hj : j < os.length), j < k → smallB os[j].s os[j].m = true) ∧ Hid (Below w.heap.size w wr)) (fun i _ => os.length - (intOf i).toNat)
    case atStart => exact ⟨0, by omega, rfl, Lib.hid fun _ _ h => by omega, Lib.hid (Below.refl _ _)⟩
    case round =>
      obtain ⟨k, hk, rfl, HS, HB⟩ := hrel
      by_cases hlt : k < os.length
      · have hltz : (k : Int) < (os.length : Int) := by omega
        have hne : os ≠ [] := fun e => by rw [e] at hlt; cases hlt
        obtain ⟨b, off, rfl, hbl, hcell⟩ := hr hne
        obtain ⟨o1, d1⟩ := opAt_line (w := wr) (b := b) (off := off) (os := os) (fun j hj i u hu => (HB.out.cell (p := ⟨b, off + j * 40 + i, none⟩) hbl).trans (hcell j hj i u hu)) hlt
        have hmem : os[k] ∈ os := List.getElem_mem hlt
        obtain ⟨ra, rc, hrefs, _, _⟩ := HX.out.ids _ hmem
        obtain ⟨n1, n2, n3⟩ := HX.out.names _ hmem
        have HSM := Lib.hid (small_any os[k].s os[k].m.g wr ra _ rc hrefs (HX.out.len _ hmem) n1 n2 n3)
        have HNX : Hid (smallB os[k].s os[k].m = true → ∀ j (hj : j < os.length), j < k + 1 → smallB os[j].s os[j].m = true) := Lib.hid fun h j hj hjk => by
          by_cases e : j = k
          · subst e; exact h
          · exact HS.out j hj (by omega)
        have HNO : Hid (smallB os[k].s os[k].m = false → fitsB os = false) := Lib.hid fun h => by
          unfold fitsB
          rw [Bool.and_eq_false_iff]
          right
          rw [List.all_eq_false]
          exact ⟨_, hmem, by rw [h]; simp⟩
        have HSB : Hid (smallB os[k].s os[k].m = (decide (os[k].m.p.ids.length ≤ 30) && decide (os[k].s.size + os[k].m.g.name.size + os[k].m.g.subject.size ≤ 600))) := Lib.hid rfl
        generalize os[k] = o at o1 d1 HSM HNX HNO HSB
        rw [← HSB.out] at HSM
        clear hrefs n1 n2 n3 hmem hcell hr HS
        go_wp2_with fail
        refine HSM.out.mono ?_
        rintro r w1 ⟨rfl, hb1⟩
        have HB1 := Lib.hid (HB.out.trans (hb1.mono HB.out.size) : Below w.heap.size w w1)
        clear hb1 HSM
        cases hsm : smallB o.s o.m with
        | true =>
          have HN1 := Lib.hid (HNX.out hsm)
          clear HNX HNO hsm
          go_wp2
          go_roundw
          case rel => exact ⟨k + 1, by omega, by go_num, HN1, HB1⟩
          case measure => simp [intOf]; omega
        | false =>
          have HN1 := Lib.hid (HNO.out hsm)
          clear HNX HNO hsm
          go_wp2
          go_ret
          exact ⟨by rw [HN1.out]; rfl, HB1.out⟩
      · have HE : Hid (fitsB os = true) := Lib.hid (by
          unfold fitsB
          rw [Bool.and_eq_true, decide_eq_true_eq, List.all_eq_true]
          refine ⟨h40, fun o ho => ?_⟩
          obtain ⟨j, hj, rfl⟩ := List.getElem_of_mem ho
          exact HS.out j hj (by omega))
        go_wp2
        go_ret
        exact ⟨by rw [HE.out]; rfl, HB.out⟩
  · have h40z : (40 : Int) < (os.length : Int) := by omega
    have HE : Hid (fitsB os = false) := Lib.hid (by unfold fitsB; rw [decide_eq_false h40]; rfl)
    go_enter Tryz.func24, Tryz.ntmps24
    go_wp2
    go_ret
    exact ⟨by rw [HE.out]; rfl, Below.refl _ _⟩

/-- An index without lines. -/
theorem IdxAt.fresh (B : Nat) (w : World) (hB : B ≤ w.heap.size) : IdxAt B ((w.alloc (.map #[] 0)).alloc (.cells #[.map (some w.heap.size), .int .i64 0] 104)) (w.heap.size + 1) w.heap.size [] 0 where
  blk := by
    have := heap_alloc_new (w.alloc (.map #[] 0)) (.cells #[.map (some w.heap.size), .int .i64 0] 104)
    simpa [total] using this
  map := by
    unfold MapAt
    rw [heap_alloc_old _ _ (by simp), heap_alloc_new]
    rfl
  names := List.nodup_nil
  grps := fun _ h => by cases h
  apart := by simp [foot]
  born := List.nodup_nil
  young := fun _ h => by cases h
  few := by simp [total]
  ibB := by omega
  MB := hB

/-- What a law's loop over operations keeps: the index, the reference's list; nothing old has turned. -/
structure PlaySt (w : World) (ib M : Nat) (gs : List MG) (mc : Nat) (v : Value) (rs : List MR) (n : Nat) (W : World) : Prop where
  bl : Below w.heap.size w W
  idx : IdxAt w.heap.size W ib M gs mc
  refs : RefsAt w.heap.size W v rs
  rel : RelR gs rs
  ord : ordR rs
  ids : ∀ r ∈ rs, IdsAt w r.m.v r.m.p.ids
  tot : total gs ≤ n
  len : rs.length ≤ n
theorem PlaySt.later {w : World} {ib M : Nat} {gs : List MG} {mc : Nat} {v : Value} {rs : List MR} {n : Nat} {W W' : World} (h : PlaySt w ib M gs mc v rs n W) (hb : Below W.heap.size W W') : PlaySt w ib M gs mc v rs n W' :=
  ⟨h.bl.trans (hb.mono h.bl.size), h.idx.below hb, h.refs.below hb, h.rel, h.ord, h.ids, h.tot, h.len⟩
theorem PlaySt.start {w : World} {W : World} (hb : Below w.heap.size w W) : PlaySt w (W.heap.size + 1) W.heap.size [] 0 (.slice none 0 0) [] 0 ((W.alloc (.map #[] 0)).alloc (.cells #[.map (some W.heap.size), .int .i64 0] 104)) :=
  ⟨(hb.alloc hb.size _).alloc (by have := hb.size; simp; omega) _, IdxAt.fresh _ _ hb.size, RefsAt.nil _ _, RelR.nil, .nil, fun _ h => (by cases h), by simp [total], Nat.le_refl _⟩
theorem IdxAt.foot_base {B : Nat} {w : World} {ib M mc : Nat} {gs : List MG} (h : IdxAt B w ib M gs mc) : ∀ k ∈ foot ib M gs, B ≤ k := by
  exact fun k hk => (h.foot_lt k hk).1
theorem PlaySt.next {w : World} {ib M : Nat} {gs : List MG} {mc : Nat} {v : Value} {rs : List MR} {n : Nat} {W W' : World} {s : ByteArray} {p : PLine} {v0 : Value} {r : Ending} {gs' : List MG} {mc' : Nat} {v' : Value} {rs' : List MR} (h : PlaySt w ib M gs mc v rs n W) (hI : IdsAt w v0 p.ids) (hd : DoPost w.heap.size w.heap.size ib M gs rs s p v0 W r W' gs' mc' v' rs') : PlaySt w ib M gs' mc' v' rs' (n + 1) W' where
  bl := h.bl.trans (hd.kept.below h.bl.size h.idx.foot_base)
  idx := hd.idx
  refs := hd.refs
  rel := hd.rel
  ord := hd.ord
  ids := fun r hr => by
    rcases hd.mem r hr with h1 | ⟨h1, _⟩
    · exact h.ids r h1
    · rw [h1]; exact hI
  tot := by have := hd.tot; have := h.tot; omega
  len := by have := hd.len; have := h.len; omega

end Go.Proofs.YtdjaphcelpchaaaGreatDoor

namespace Go.Proofs.YtdjaphcelpchaaaGreatDoor
open Go Go.RowKit Go.Proofs Go.ChangeShapes Go.WideShapes Go.ChangeAt

section
variable {H : Type} {enc : TypeId × Value → H} {W : World} {base fuel : Nat} {sp : Nat → Bool} {held : Bool}

theorem cells_op : Tryz.prog.cellsOf 53 = 40 := by kernel_rfl
theorem bytes_op : 0 < Tryz.prog.bytesOf 53 := of_decide_eq_true (by kernel_rfl)
theorem weights_all_mem {P : Program} {e : TypeId} : ∀ {l : List (DataW H)} {d : DataW H}, d ∈ l → ∀ n ∈ d.weights P e, n ∈ DataW.weightsAll P e l
  | x :: l, d, hd, n, hn => by
    unfold DataW.weightsAll
    rcases List.mem_cons.1 hd with rfl | hd
    · exact List.mem_append_left _ hn
    · exact List.mem_append_right _ (weights_all_mem hd n hn)

/-- A line as plain data, and its value. -/
def mkML (g : GLine) (ids : List Id32) : ML := ⟨⟨g.number, g.id, g.name, g.date, g.subject, ids, g.bytes⟩, g.refs⟩
theorem mkML_g (g : GLine) (ids : List Id32) : (mkML g ids).g = g := rfl

/-- An operation: its 40 cells. -/
theorem open_opcells {cs : List Value} {d : DataW H} {ps : List MemPlace} (h : DataW.trod enc Tryz.prog W base sp held fuel 53 cs = some (d, ps)) (hw : ∀ n ∈ d.weights Tryz.prog 53, n ≤ reachBytes) :
    ∃ o : MO, cs = opList o ∧ o.k < 256 ∧ IdsAt W o.m.v o.m.p.ids ∧ o.m.p.ids.length * 32 ≤ reachBytes ∧ o.s.size ≤ reachBytes ∧ o.m.p.name.size ≤ reachBytes ∧ o.m.p.subject.size ≤ reachBytes := by
  have hu := Tryz.underlying53
  obtain ⟨xs, m, _, hx, hl, hn, hel⟩ := DataW.trod_struct hu h
  rw [cells_op] at hl
  have hd : d = .agg (xs.map (·.1)) := (Prod.mk.inj hx).1
  obtain ⟨x0, x1, rfl⟩ : ∃ x0 x1, xs = [x0, x1] := by
    match xs, hn with
    | [x0, x1], _ => exact ⟨x0, x1, rfl⟩
  have h0 : DataW.trod enc Tryz.prog W base sp held m 5 ((cs.drop 0).take (Tryz.prog.cellsOf 5)) = some x0 := hel 0 _ rfl
  rw [cells_byte] at h0
  have h1 : DataW.trod enc Tryz.prog W base sp held m 26 ((cs.drop 1).take (Tryz.prog.cellsOf 26)) = some x1 := hel 1 _ rfl
  rw [cells_rline] at h1
  clear hel hn
  have hwt : ∀ n ∈ x1.1.weights Tryz.prog 26, n ≤ reachBytes := fun n hn => by
    refine hw n ?_
    rw [hd]
    unfold DataW.weights
    rw [hu]
    exact DataW.weights_mem_each (j := 1) (t := 26) (d := x1.1) rfl rfl n hn
  obtain ⟨z, e0, _, hwf⟩ := DataW.trod_int Tryz.underlying5 h0
  have hz : 0 ≤ z ∧ z ≤ 255 := by simpa [Lit.wf, IntKind.min, IntKind.max, IntKind.signed, IntKind.bits] using hwf
  obtain ⟨s, g, ids, e1, hI, w1, w2, w3, w4⟩ := open_rlinecells (d := x1.1) (ps := x1.2) h1 hwt
  refine ⟨⟨z.toNat, s, mkML g ids⟩, ?_, by show z.toNat < 256; omega, hI, w1, w2, w3, w4⟩
  have cut : ∀ k a, cs.drop k = (cs.drop k).take a ++ cs.drop (k + a) := fun k a => by rw [← List.drop_drop, List.take_append_drop]
  have c0 := cut 0 1
  rw [e0, cut 1 39, e1, List.drop_eq_nil_of_le (by omega : cs.length ≤ 1 + 39), List.drop_zero] at c0
  rw [c0]
  have hzz : ((z.toNat : Nat) : Int) = z := by omega
  unfold opList
  simp only
  rw [hzz, mkML_g]
  simp

set_option maxRecDepth 100000 in
theorem ops_cells {base : Nat} {v0 : Value} (h : Value.okWide Tryz.prog W .any base 45 v0) : v0.cells = #[v0] := by
  unfold Value.okWide at h
  rw [Tryz.underlying45] at h
  simp only at h
  cases v0 with
  | agg cs => simp [Cell.okWide, Cell.ok, Tryz.underlying45] at h
  | _ => rfl
/-- The argument. -/
theorem open_ops {cs : List Value} {d : DataW H} {ps : List MemPlace} (h : DataW.trod enc Tryz.prog W base sp held fuel 45 cs = some (d, ps)) (hw : ∀ n ∈ d.weights Tryz.prog 45, n ≤ reachBytes) :
    ∃ v os, cs = [v] ∧ OpsAt W v os := by
  rcases DataW.trod_slice Tryz.underlying45 h with ⟨rfl, _⟩ | ⟨a, len, cap, elems, rest, m, _, rfl, hx, hb, hl, hm, hlen, hel, _, _⟩
  · exact ⟨_, [], rfl, ⟨⟨none, 0, rfl, Nat.le_refl _, fun h => absurd rfl h⟩, by simp, fun _ h => (by cases h), fun _ h => (by cases h), fun _ h => (by cases h), fun _ h => (by cases h)⟩⟩
  · have hd : d = .slice (elems.map (·.1)) (rest.map (·.1)) := (Prod.mk.inj hx).1
    have hwt : (elems.length + rest.length) * Tryz.prog.bytesOf 53 ≤ reachBytes := by
      refine hw _ ?_
      rw [hd]
      unfold DataW.weights
      rw [Tryz.underlying45]
      simp
    have hwe : ∀ x ∈ elems, ∀ n ∈ x.1.weights Tryz.prog 53, n ≤ reachBytes := fun x hx n hn => by
      refine hw n ?_
      rw [hd]
      unfold DataW.weights
      rw [Tryz.underlying45]
      have := weights_all_mem (P := Tryz.prog) (e := 53) (l := elems.map (·.1)) (List.mem_map.2 ⟨x, hx, rfl⟩) n hn
      simp [this]
    have each : ∀ i, i < len → ∃ o : MO, (∀ j u, (opList o)[j]? = some u → W.cell? ((a.add (i * 40)).add j) = some u) ∧ o.k < 256 ∧ IdsAt W o.m.v o.m.p.ids ∧ o.m.p.ids.length * 32 ≤ reachBytes ∧ o.s.size ≤ reachBytes ∧ o.m.p.name.size ≤ reachBytes ∧ o.m.p.subject.size ≤ reachBytes := fun i hi => by
      have hE := hel i hi
      rw [cells_op, List.getElem?_eq_getElem (by omega)] at hE
      obtain ⟨cs', hcs, ht⟩ := Option.bind_eq_some_iff.1 hE
      obtain ⟨o, rfl, r1⟩ := open_opcells (d := (elems[i]'(by omega)).1) (ps := (elems[i]'(by omega)).2) ht (hwe _ (List.getElem_mem _))
      obtain ⟨_, hll, hcell⟩ := World.cells?_some hcs
      exact ⟨o, fun j u hj => (hcell j (by have := (List.getElem?_eq_some_iff.1 hj).1; rw [opList_length] at this; exact this)).trans hj, r1⟩
    have hall : ∃ f : Nat → MO, ∀ i, i < len → (∀ j u, (opList (f i))[j]? = some u → W.cell? ((a.add (i * 40)).add j) = some u) ∧ (f i).k < 256 ∧ IdsAt W (f i).m.v (f i).m.p.ids ∧ (f i).m.p.ids.length * 32 ≤ reachBytes ∧ (f i).s.size ≤ reachBytes ∧ (f i).m.p.name.size ≤ reachBytes ∧ (f i).m.p.subject.size ≤ reachBytes := by
      refine ⟨fun i => if hi : i < len then Classical.choose (each i hi) else ⟨0, ⟨#[]⟩, default⟩, fun i hi => ?_⟩
      simp only [hi, dif_pos]
      exact Classical.choose_spec (each i hi)
    obtain ⟨f, hf⟩ := hall
    have hmem : ∀ o ∈ (List.range len).map f, ∃ i, i < len ∧ o = f i := fun o ho => by
      obtain ⟨i, hi, rfl⟩ := List.mem_map.1 ho
      exact ⟨i, List.mem_range.1 hi, rfl⟩
    have hlen2 : len ≤ 140737488351232 := by
      have h1 := bytes_op
      unfold reachBytes at hwt
      have : elems.length * 1 ≤ (elems.length + rest.length) * Tryz.prog.bytesOf 53 := Nat.mul_le_mul (by omega) h1
      omega
    refine ⟨_, (List.range len).map f, rfl, ⟨⟨some a, cap, by simp, by simpa using hl, fun hne => ?_⟩, by simpa using hlen2, fun o ho => ?_, fun o ho => ?_, fun o ho => ?_, fun o ho => ?_⟩⟩
    · have h0 : 0 < len := by
        cases len with
        | zero => simp at hne
        | succ n => omega
      have h00 := (hf 0 h0).1 0 _ (by unfold opList; rfl)
      have hspot : a.spot = none := by simpa [Addr.add] using World.cell?_spot h00
      obtain ⟨b, off, spot⟩ := a
      simp only at hspot
      subst hspot
      refine ⟨b, off, rfl, by have := block_lt_of_cell h00; simpa [Addr.add] using this, fun j hj i u hu => ?_⟩
      have hj' : j < len := by simpa using hj
      rw [List.getElem_map, List.getElem_range] at hu
      have := (hf j hj').1 i u hu
      rwa [Addr.add_lit, Addr.add_lit] at this
    · obtain ⟨i, hi, rfl⟩ := hmem o ho; exact (hf i hi).2.1
    · obtain ⟨i, hi, rfl⟩ := hmem o ho; exact (hf i hi).2.2.1
    · obtain ⟨i, hi, rfl⟩ := hmem o ho
      have := (hf i hi).2.2.2.1
      unfold reachBytes at this
      unfold maxLen
      omega
    · obtain ⟨i, hi, rfl⟩ := hmem o ho
      obtain ⟨_, _, _, _, w2, w3, w4⟩ := hf i hi
      unfold reachBytes at w2 w3 w4
      unfold maxLen
      exact ⟨by omega, by omega, by omega⟩
end

end Go.Proofs.YtdjaphcelpchaaaGreatDoor

namespace Go.Proofs.YtdjaphcelpchaaaGreatDoor
open Go Go.RowKit Go.Proofs

attribute [local go_sem ↓] ex_load_id ex_store_id ex_load_line ex_store_line ex_load_rline ex_store_rline ex_alloc_line ex_build_line ex_alloc_rline ex_build_rline ex_load_op

attribute [local go_sem] ld_id st_id ld_line st_line ld_rline st_rline guard_id okCells_drew rdCells_drew okCells_drewN rdCells_drewN rowOk_drew rowOk_cells okCells_cells rdCells_cells setRow_drew setRow_new setRow_past ld_op

/-- What Build answers. -/
def BuildPost (w0 : World) (n : Nat) (r : Ending) (w' : World) : Prop := ∃ ib M gs mc v' rs, r = .returned (.tuple #[.pointer (some ⟨ib, 0, none⟩), v', .bool true]) ∧ PlaySt w0 ib M gs mc v' rs n w'

set_option maxRecDepth 100000 in
set_option maxHeartbeats 8000000 in
/-- w0: the world in which the operations were handed over. -/
theorem build_any (v : Value) (os : List MO) (w0 w : World) (hG : Gl w0) (h : OpsAt w0 v os) (hb : Below w0.heap.size w0 w) (hfit : fitsB os = true) :
    Calls Tryz.prog 28 #[v] w fun r w' => BuildPost w0 os.length r w' := by
  obtain ⟨a, c, rfl, hc, hr⟩ := h.row
  have hfew := h.few
  have HX := Lib.hid h
  have HG := Lib.hid hG
  unfold fitsB at hfit
  rw [Bool.and_eq_true, decide_eq_true_eq, List.all_eq_true] at hfit
  obtain ⟨h40, hsm⟩ := hfit
  have HSM := Lib.hid hsm
  have HP0 := Lib.hid (PlaySt.start hb)
  clear h hG hsm hb
  go_enter Tryz.func28, Tryz.ntmps28
  go_wp2_with fail
  refine (new_any w).mono ?_
  rintro r w3 ⟨rfl, hw3⟩
  rw [hw3] at HP0
  obtain ⟨M, hM⟩ : ∃ M, M = w.heap.size := ⟨_, rfl⟩
  rw [← hM] at HP0 ⊢
  clear hw3 hM
  go_wp2
  go_loopw [6, 7, 8] (fun wv ok i wr => ∃ (k : Nat) (gs : List MG) (mc : Nat) (rs : List MR), k ≤ os.length ∧ i = .int .i64 k ∧ ok = .bool true ∧ Hid (PlaySt w0 (M + 1) M gs mc wv rs k wr)) (fun _ _ i _ => os.length - (intOf i).toNat)
  case atStart => exact ⟨0, [], 0, [], by omega, rfl, rfl, HP0⟩
  case round =>
    obtain ⟨k, gs, mc, rs, hk, rfl, rfl, HP⟩ := hrel
    by_cases hlt : k < os.length
    · have hltz : (k : Int) < (os.length : Int) := by omega
      have hne : os ≠ [] := fun e => by rw [e] at hlt; cases hlt
      obtain ⟨b, off, rfl, hbl, hcell⟩ := hr hne
      obtain ⟨o1, d1⟩ := opAt_rd (w := wr) (b := b) (off := off) (os := os) (fun j hj i u hu => (HP.out.bl.cell (p := ⟨b, off + j * 40 + i, none⟩) hbl).trans (hcell j hj i u hu)) hlt
      have hmem : os[k] ∈ os := List.getElem_mem hlt
      have hsm := HSM.out _ hmem
      unfold smallB at hsm
      rw [Bool.and_eq_true, decide_eq_true_eq, decide_eq_true_eq] at hsm
      have hkind := HX.out.kind _ hmem
      have hids := HX.out.ids _ hmem
      have hnm := HX.out.names _ hmem
      have htot := HP.out.tot
      have hlen := HP.out.len
      have HD := Lib.hid (do_any w0.heap.size w0.heap.size (M + 1) M mc gs u6 rs os[k].k os[k].s os[k].m.p os[k].m.v wr hkind (HG.out.later HP.out.bl) HP.out.idx HP.out.refs HP.out.bl.size HP.out.rel HP.out.ord (by omega) ⟨hids.below HP.out.bl, by unfold maxLen; omega, Nat.le_trans hnm.2.1 (Nat.div_le_self _ _), Nat.le_trans hnm.2.2 (Nat.div_le_self _ _)⟩ (by omega) (by omega) (by omega))
      have HID := Lib.hid hids
      generalize os[k] = o at o1 d1 HD HID
      clear hsm hkind hids hnm hmem htot hlen hcell
      go_wp2_with fail
      refine HD.out.mono ?_
      rintro r w4 ⟨gs', mc', v', rs', hd⟩
      have hret := hd.ret
      subst hret
      have HP4 := Lib.hid (HP.out.next HID.out hd)
      clear hd HD HP o1 d1
      go_wp2
      go_roundw
      case rel => exact ⟨k + 1, gs', mc', rs', by omega, by go_num, rfl, HP4⟩
      case measure => simp [intOf]; omega
    · obtain rfl : k = os.length := by omega
      go_wp2
      refine bodyPost_ret (results_tmp3 rfl _ _ _) rfl ?_
      exact ⟨M + 1, M, gs, mc, _, rs, rfl, HP.out⟩

end Go.Proofs.YtdjaphcelpchaaaGreatDoor

namespace Go.Proofs.YtdjaphcelpchaaaGreatDoor
open Go Go.RowKit Go.Proofs

/-- Below k: the first place that fits, or -1; the last one. -/
def FirstAt (f : MR → Bool) (l : List MR) (k : Nat) (a : Int) : Prop := (a = -1 ∧ ∀ j (h : j < l.length), j < k → f l[j] = false) ∨ ∃ j : Nat, ∃ h : j < l.length, a = j ∧ j < k ∧ f l[j] = true ∧ ∀ i (h' : i < l.length), i < j → f l[i] = false
def LastAt (f : MR → Bool) (l : List MR) (k : Nat) (a : Int) : Prop := (a = -1 ∧ ∀ j (h : j < l.length), j < k → f l[j] = false) ∨ ∃ j : Nat, ∃ h : j < l.length, a = j ∧ j < k ∧ f l[j] = true ∧ ∀ i (h' : i < l.length), j < i → i < k → f l[i] = false
theorem FirstAt.zero (f : MR → Bool) (l : List MR) : FirstAt f l 0 (-1) := .inl ⟨rfl, fun _ _ h => by omega⟩
theorem LastAt.zero (f : MR → Bool) (l : List MR) : LastAt f l 0 (-1) := .inl ⟨rfl, fun _ _ h => by omega⟩
theorem FirstAt.set {f : MR → Bool} {l : List MR} {k : Nat} {a : Int} (h : FirstAt f l k a) (ha : a < 0) (hk : k < l.length) (hf : f l[k] = true) : FirstAt f l (k + 1) k := by
  rcases h with ⟨_, h1⟩ | ⟨j, _, rfl, _⟩
  · exact .inr ⟨k, hk, rfl, by omega, hf, fun i h' hi => h1 i h' hi⟩
  · omega
theorem FirstAt.stay {f : MR → Bool} {l : List MR} {k : Nat} {a : Int} (h : FirstAt f l k a) (hk : k < l.length) (hf : f l[k] = true → ¬ a < 0) : FirstAt f l (k + 1) a := by
  rcases h with ⟨rfl, h1⟩ | ⟨j, hj, rfl, h2, h3, h4⟩
  · refine .inl ⟨rfl, fun j h hj => ?_⟩
    by_cases e : j = k
    · subst e
      cases hx : f l[j] with
      | false => rfl
      | true => exact absurd (show (-1 : Int) < 0 by omega) (hf hx)
    · exact h1 j h (by omega)
  · exact .inr ⟨j, hj, rfl, by omega, h3, h4⟩
theorem LastAt.set {f : MR → Bool} {l : List MR} {k : Nat} (hk : k < l.length) (hf : f l[k] = true) : LastAt f l (k + 1) k :=
  .inr ⟨k, hk, rfl, by omega, hf, fun _ _ h1 h2 => by omega⟩
theorem LastAt.stay {f : MR → Bool} {l : List MR} {k : Nat} {a : Int} (h : LastAt f l k a) (hk : k < l.length) (hf : f l[k] = false) : LastAt f l (k + 1) a := by
  rcases h with ⟨rfl, h1⟩ | ⟨j, hj, rfl, h2, h3, h4⟩
  · refine .inl ⟨rfl, fun j h hj => ?_⟩
    by_cases e : j = k
    · subst e; exact hf
    · exact h1 j h (by omega)
  · refine .inr ⟨j, hj, rfl, by omega, h3, fun i h' h5 h6 => ?_⟩
    by_cases e : i = k
    · subst e; exact hf
    · exact h4 i h' h5 (by omega)

/-- A line that is told, against the place in the reference's list. -/
def Hit (B : Nat) (W : World) (l : List MR) (a : Int) (is : Bool) (g : GLine) : Prop := (a = -1 ∧ is = false ∧ g = zeroLine) ∨ ∃ (j : Nat) (r : MR) (v : Value), a = j ∧ l[j]? = some r ∧ is = true ∧ g = { r.m.g with refs := v } ∧ IdsOwn B W v r.m.p.ids
theorem Hit.below {B : Nat} {W W' : World} {l : List MR} {a : Int} {is : Bool} {g : GLine} (h : Hit B W l a is g) (hb : Below W.heap.size W W') : Hit B W' l a is g := by
  rcases h with h | ⟨j, r, v, h1, h2, h3, h4, h5⟩
  · exact .inl h
  · exact .inr ⟨j, r, v, h1, h2, h3, h4, h5.below hb⟩

theorem g_refs {m m' : ML} (h : m.p = m'.p) (v : Value) : ({ m.g with refs := v } : GLine) = { m'.g with refs := v } := by
  unfold ML.g
  rw [h]
theorem pair_at {L : List ML} {O : List MR} (hp : L.map (·.p) = O.map (·.m.p)) (j : Nat) : L[j]?.map (·.p) = O[j]?.map (·.m.p) := by
  rw [← List.getElem?_map, ← List.getElem?_map, hp]
theorem pair_len {L : List ML} {O : List MR} (hp : L.map (·.p) = O.map (·.m.p)) : L.length = O.length := by
  have := congrArg List.length hp
  rwa [List.length_map, List.length_map] at this
theorem pair_get {L : List ML} {O : List MR} (hp : L.map (·.p) = O.map (·.m.p)) {j : Nat} (h1 : j < L.length) (h2 : j < O.length) : L[j].p = O[j].m.p := by
  have := pair_at hp j
  rw [List.getElem?_eq_getElem h1, List.getElem?_eq_getElem h2] at this
  exact Option.some.inj this
theorem num_get {L : List ML} {j : Nat} (h1 : j < L.length) : (nums L)[j]'(by rw [nums_length]; exact h1) = L[j].p.number := by
  unfold nums
  rw [List.getElem_map]

theorem next_at {L : List ML} (hs : (nums L).Pairwise (· < ·)) (n : Int) : (∀ j (h : j < L.length), j < nextAt L n → L[j].p.number ≤ n) ∧ (∀ j (h : j < L.length), nextAt L n ≤ j → n < L[j].p.number) := by
  obtain ⟨_, h2, h3, h4⟩ := between_pos hs n
  rw [nums_length] at h2
  have hps := List.pairwise_iff_getElem.1 hs
  generalize hp : posN (nums L) n = p at h2 h3 h4
  have hnx : nextAt L n = p + if hasNum L n then 1 else 0 := by rw [← hp]; rfl
  have lo : ∀ j (h : j < L.length), j < p → L[j].p.number < n := fun j h hj => by
    have := h3 j (by rw [nums_length]; exact h) hj
    rwa [num_get h] at this
  have hi : ∀ j (h : j < L.length), p ≤ j → n ≤ L[j].p.number := fun j h hj => by
    have := h4 j (by rw [nums_length]; exact h) hj
    rwa [num_get h] at this
  have up : ∀ i j (hi : i < L.length) (hj : j < L.length), i < j → L[i].p.number < L[j].p.number := fun i j h5 h6 hij => by
    have := hps i j (by rw [nums_length]; exact h5) (by rw [nums_length]; exact h6) hij
    rwa [num_get h5, num_get h6] at this
  have has : hasNum L n = true ↔ ∃ h : p < L.length, L[p].p.number = n := by
    unfold hasNum
    rw [List.contains_iff_mem]
    constructor
    · intro hm
      obtain ⟨i, h5, h6⟩ := List.getElem_of_mem hm
      rw [nums_length] at h5
      rw [num_get h5] at h6
      have h7 : ¬ i < p := fun h => by have := lo i h5 h; omega
      have h8 : ¬ p < i := fun h => by
        have a1 := up p i (by omega) h5 h
        have a2 := hi p (by omega) (Nat.le_refl _)
        omega
      obtain rfl : i = p := by omega
      exact ⟨h5, h6⟩
    · rintro ⟨h5, h6⟩
      rw [← h6, ← num_get h5]
      exact List.getElem_mem _
  refine ⟨fun j h hj => ?_, fun j h hj => ?_⟩
  · by_cases e : j < p
    · have := lo j h e; omega
    · rw [hnx] at hj
      split at hj
      · rename_i hh
        obtain ⟨h5, h6⟩ := has.1 hh
        obtain rfl : j = p := by omega
        omega
      · omega
  · rw [hnx] at hj
    split at hj
    · rename_i hh
      obtain ⟨h5, h6⟩ := has.1 hh
      have := up p j h5 h (by omega)
      omega
    · rename_i hh
      have h5 := hi j h (by omega)
      have h6 : L[j].p.number ≠ n := fun e => hh (has.2 (by
        by_cases e2 : j = p
        · subst e2; exact ⟨h, e⟩
        · have a1 := up p j (by omega) h (by omega)
          have a2 := hi p (by omega) (Nat.le_refl _)
          omega))
      omega

theorem next_hit {B : Nat} {W : World} {L : List ML} {O : List MR} (hp : L.map (·.p) = O.map (·.m.p)) (hs : (nums L).Pairwise (· < ·)) {n a : Int} (ha : FirstAt (fun r => decide (n < r.m.p.number)) O O.length a) {is : Bool} {g : GLine}
    (h : (L[nextAt L n]? = none ∧ g = zeroLine ∧ is = false) ∨ ∃ m v, L[nextAt L n]? = some m ∧ g = { m.g with refs := v } ∧ is = true ∧ IdsOwn B W v m.p.ids) : Hit B W O a is g := by
  obtain ⟨h1, h2⟩ := next_at hs n
  have hl := pair_len hp
  rcases h with ⟨h3, rfl, rfl⟩ | ⟨m, v, h3, rfl, rfl, h4⟩
  · rw [List.getElem?_eq_none_iff] at h3
    rcases ha with ⟨rfl, _⟩ | ⟨j, hj, _, _, h5, _⟩
    · exact .inl ⟨rfl, rfl, rfl⟩
    · have := h1 j (by omega) (by omega)
      rw [pair_get hp (by omega) hj] at this
      rw [decide_eq_true_eq] at h5
      omega
  · obtain ⟨h5, h6⟩ := List.getElem?_eq_some_iff.1 h3
    have h7 := h2 _ h5 (Nat.le_refl _)
    rcases ha with ⟨_, h8⟩ | ⟨j, hj, rfl, _, h8, h9⟩
    · have := h8 (nextAt L n) (by omega) (by omega)
      rw [decide_eq_false_iff_not, ← pair_get hp h5 (by omega)] at this
      omega
    · have ej : j = nextAt L n := by
        by_cases e1 : j < nextAt L n
        · have := h1 j (by omega) e1
          rw [pair_get hp (by omega) hj] at this
          rw [decide_eq_true_eq] at h8
          omega
        · by_cases e2 : nextAt L n < j
          · have := h9 (nextAt L n) (by omega) e2
            rw [decide_eq_false_iff_not, ← pair_get hp h5 (by omega)] at this
            omega
          · omega
      subst ej
      have hpe : m.p = O[nextAt L n].m.p := by rw [← h6]; exact pair_get hp h5 hj
      exact .inr ⟨_, O[nextAt L n], v, rfl, List.getElem?_eq_getElem hj, rfl, g_refs hpe v, by rw [← hpe]; exact h4⟩

theorem prev_hit {B : Nat} {W : World} {L : List ML} {O : List MR} (hp : L.map (·.p) = O.map (·.m.p)) (hs : (nums L).Pairwise (· < ·)) {n a : Int} (ha : LastAt (fun r => decide (r.m.p.number < n)) O O.length a) {is : Bool} {g : GLine}
    (h : (prevLine L n = none ∧ g = zeroLine ∧ is = false) ∨ ∃ m v, prevLine L n = some m ∧ g = { m.g with refs := v } ∧ is = true ∧ IdsOwn B W v m.p.ids) : Hit B W O a is g := by
  obtain ⟨_, h2, h3, h4⟩ := between_pos hs n
  rw [nums_length] at h2
  have hl := pair_len hp
  unfold prevLine at h
  generalize posN (nums L) n = p at h h2 h3 h4
  have lo : ∀ j (h : j < L.length), j < p → L[j].p.number < n := fun j h hj => by
    have := h3 j (by rw [nums_length]; exact h) hj
    rwa [num_get h] at this
  have hi : ∀ j (h : j < L.length), p ≤ j → n ≤ L[j].p.number := fun j h hj => by
    have := h4 j (by rw [nums_length]; exact h) hj
    rwa [num_get h] at this
  by_cases hp0 : p = 0
  · subst hp0
    simp only [if_true] at h
    rcases h with ⟨_, rfl, rfl⟩ | ⟨m, v, h5, _⟩
    · rcases ha with ⟨rfl, _⟩ | ⟨j, hj, _, _, h5, _⟩
      · exact .inl ⟨rfl, rfl, rfl⟩
      · have := hi j (by omega) (Nat.zero_le _)
        rw [pair_get hp (by omega) hj] at this
        rw [decide_eq_true_eq] at h5
        omega
    · cases h5
  · rw [if_neg hp0] at h
    have h5 : p - 1 < L.length := by omega
    rw [List.getElem?_eq_getElem h5] at h
    rcases h with ⟨h6, _⟩ | ⟨m, v, h6, rfl, rfl, h7⟩
    · cases h6
    · cases h6
      have h8 := lo _ h5 (by omega)
      rcases ha with ⟨_, h9⟩ | ⟨j, hj, rfl, _, h9, h10⟩
      · have := h9 (p - 1) (by omega) (by omega)
        rw [decide_eq_false_iff_not, ← pair_get hp h5 (by omega)] at this
        omega
      · have ej : j = p - 1 := by
          by_cases e1 : p - 1 < j
          · have := hi j (by omega) (by omega)
            rw [pair_get hp (by omega) hj] at this
            rw [decide_eq_true_eq] at h9
            omega
          · by_cases e2 : j < p - 1
            · have := h10 (p - 1) (by omega) e2 (by omega)
              rw [decide_eq_false_iff_not, ← pair_get hp h5 (by omega)] at this
              omega
            · omega
        subst ej
        have hpe := pair_get hp h5 hj
        exact .inr ⟨_, O[p - 1], v, rfl, List.getElem?_eq_getElem hj, rfl, g_refs hpe v, by rw [← hpe]; exact h7⟩

theorem found_hit {B : Nat} {W : World} {L : List ML} {O : List MR} (hp : L.map (·.p) = O.map (·.m.p)) (hn : (L.map fun m => m.p.id).Nodup) {x : Id32} {a : Int} (ha : LastAt (fun r => decide (r.m.p.id = x)) O O.length a) {is : Bool} {g : GLine}
    (h : ((∀ m ∈ L, m.p.id ≠ x) ∧ g = zeroLine ∧ is = false) ∨ ∃ m ∈ L, m.p.id = x ∧ ∃ v, g = { m.g with refs := v } ∧ is = true ∧ IdsOwn B W v m.p.ids) : Hit B W O a is g := by
  have hl := pair_len hp
  rcases h with ⟨h1, rfl, rfl⟩ | ⟨m, h1, h2, v, rfl, rfl, h3⟩
  · rcases ha with ⟨rfl, _⟩ | ⟨j, hj, _, _, h5, _⟩
    · exact .inl ⟨rfl, rfl, rfl⟩
    · rw [decide_eq_true_eq, ← pair_get hp (by omega) hj] at h5
      exact absurd h5 (h1 _ (List.getElem_mem _))
  · obtain ⟨i, hi, rfl⟩ := List.getElem_of_mem h1
    rcases ha with ⟨_, h5⟩ | ⟨j, hj, rfl, _, h5, _⟩
    · have := h5 i (by omega) (by omega)
      rw [decide_eq_false_iff_not, ← pair_get hp hi (by omega)] at this
      exact absurd h2 this
    · rw [decide_eq_true_eq, ← pair_get hp (by omega) hj] at h5
      have ej : j = i := by
        have h6 := List.pairwise_iff_getElem.1 hn
        by_cases e1 : j < i
        · have := h6 j i (by simp; omega) (by simpa using hi) e1
          simp only [List.getElem_map] at this
          exact absurd (h5.trans h2.symm) this
        · by_cases e2 : i < j
          · have := h6 i j (by simpa using hi) (by simp; omega) e2
            simp only [List.getElem_map] at this
            exact absurd (h2.trans h5.symm) this
          · omega
      subst ej
      have hpe := pair_get hp hi hj
      exact .inr ⟨_, O[j], v, rfl, List.getElem?_eq_getElem hj, rfl, g_refs hpe v, by rw [← hpe]; exact h3⟩

/-- What Get tells. -/
theorem get_hit {B ib M mc : Nat} {w : World} {gs : List MG} (h : IdxAt B w ib M gs mc) {rs : List MR} (hr : RelR gs rs) (s : ByteArray) (n : Int) :
    (hasNum (linesIn gs s) n = false ∧ findN rs s n = -1) ∨ ∃ (i j : Nat) (m : ML) (r : MR), (linesIn gs s)[i]? = some m ∧ m.p.number = n ∧ pErr m.p = 0 ∧ findN rs s n = j ∧ rs[j]? = some r ∧ r.s = s ∧ m.p = r.m.p := by
  cases hf : findR rs s n with
  | none => exact .inl ⟨rel_find_none hr hf, by unfold findN; rw [hf]⟩
  | some j =>
    right
    obtain ⟨r, h1, h2, h3⟩ := find_some_at hf
    obtain ⟨m, h4, h5⟩ := (hr s r.m.p).2 ⟨r, List.mem_of_getElem? h1, h2, rfl⟩
    obtain ⟨i, hi, rfl⟩ := List.getElem_of_mem h4
    exact ⟨i, j, _, r, List.getElem?_eq_getElem hi, by rw [h5, h3], h.good_in h4, by unfold findN; rw [hf], h1, h2, h5⟩

end Go.Proofs.YtdjaphcelpchaaaGreatDoor

namespace Go.Proofs.YtdjaphcelpchaaaGreatDoor
open Go Go.RowKit Go.Proofs

attribute [local go_sem ↓] ex_load_id ex_store_id ex_load_line ex_store_line ex_load_rline ex_store_rline ex_alloc_line ex_build_line ex_alloc_rline ex_build_rline

attribute [local go_sem] ld_id st_id ld_line st_line ld_rline st_rline guard_id okCells_drew rdCells_drew okCells_drewN rdCells_drewN rowOk_drew rowOk_cells okCells_cells rdCells_cells setRow_drew setRow_new setRow_past

/-- A region of a function, by its number. -/
def regAt (n : Nat) : Code → Option Code
  | .region i ops d => if i = n then some (.region i ops d) else none
  | .seq a b => (regAt n a).orElse fun _ => regAt n b
  | .cond _ a b => (regAt n a).orElse fun _ => regAt n b
  | .block _ a => regAt n a
  | .loop a => regAt n a
  | .rangeFunc _ _ a b => (regAt n a).orElse fun _ => regAt n b
  | .scope a => regAt n a
  | _ => none
noncomputable def vwReg (n : Nat) : Code := (Tryz.f8.body.bind (regAt n)).getD .skip

set_option maxRecDepth 100000 in
theorem slots334 (t : Array Value) (h : t.size = 334) : ∃ f : Nat → Value, (∀ k, f k = t.getD k undef) ∧ t = #[f 0, f 1, f 2, f 3, f 4, f 5, f 6, f 7, f 8, f 9, f 10, f 11, f 12, f 13, f 14, f 15, f 16, f 17, f 18, f 19, f 20, f 21, f 22, f 23, f 24, f 25, f 26, f 27, f 28, f 29, f 30, f 31, f 32, f 33, f 34, f 35, f 36, f 37, f 38, f 39, f 40, f 41, f 42, f 43, f 44, f 45, f 46, f 47, f 48, f 49, f 50, f 51, f 52, f 53, f 54, f 55, f 56, f 57, f 58, f 59, f 60, f 61, f 62, f 63, f 64, f 65, f 66, f 67, f 68, f 69, f 70, f 71, f 72, f 73, f 74, f 75, f 76, f 77, f 78, f 79, f 80, f 81, f 82, f 83, f 84, f 85, f 86, f 87, f 88, f 89, f 90, f 91, f 92, f 93, f 94, f 95, f 96, f 97, f 98, f 99, f 100, f 101, f 102, f 103, f 104, f 105, f 106, f 107, f 108, f 109, f 110, f 111, f 112, f 113, f 114, f 115, f 116, f 117, f 118, f 119, f 120, f 121, f 122, f 123, f 124, f 125, f 126, f 127, f 128, f 129, f 130, f 131, f 132, f 133, f 134, f 135, f 136, f 137, f 138, f 139, f 140, f 141, f 142, f 143, f 144, f 145, f 146, f 147, f 148, f 149, f 150, f 151, f 152, f 153, f 154, f 155, f 156, f 157, f 158, f 159, f 160, f 161, f 162, f 163, f 164, f 165, f 166, f 167, f 168, f 169, f 170, f 171, f 172, f 173, f 174, f 175, f 176, f 177, f 178, f 179, f 180, f 181, f 182, f 183, f 184, f 185, f 186, f 187, f 188, f 189, f 190, f 191, f 192, f 193, f 194, f 195, f 196, f 197, f 198, f 199, f 200, f 201, f 202, f 203, f 204, f 205, f 206, f 207, f 208, f 209, f 210, f 211, f 212, f 213, f 214, f 215, f 216, f 217, f 218, f 219, f 220, f 221, f 222, f 223, f 224, f 225, f 226, f 227, f 228, f 229, f 230, f 231, f 232, f 233, f 234, f 235, f 236, f 237, f 238, f 239, f 240, f 241, f 242, f 243, f 244, f 245, f 246, f 247, f 248, f 249, f 250, f 251, f 252, f 253, f 254, f 255, f 256, f 257, f 258, f 259, f 260, f 261, f 262, f 263, f 264, f 265, f 266, f 267, f 268, f 269, f 270, f 271, f 272, f 273, f 274, f 275, f 276, f 277, f 278, f 279, f 280, f 281, f 282, f 283, f 284, f 285, f 286, f 287, f 288, f 289, f 290, f 291, f 292, f 293, f 294, f 295, f 296, f 297, f 298, f 299, f 300, f 301, f 302, f 303, f 304, f 305, f 306, f 307, f 308, f 309, f 310, f 311, f 312, f 313, f 314, f 315, f 316, f 317, f 318, f 319, f 320, f 321, f 322, f 323, f 324, f 325, f 326, f 327, f 328, f 329, f 330, f 331, f 332, f 333] := ⟨fun k => t.getD k undef, fun _ => rfl, (tmps_range t 334 h).trans rfl⟩

/-- What the slots hold at the first condition. -/
structure S8 (t : Array Value) (c : Nat → Value) (g0 : Nat) (la : Option Addr) (ln lc : Nat) (a : Int) (yb : Nat) (b : Bool) : Prop where
  size : t.size = 334
  s2 : t.getD 2 undef = c 2
  s3 : t.getD 3 undef = c 3
  s4 : t.getD 4 undef = c 4
  s7 : t.getD 7 undef = .pointer (some ⟨g0, 0, none⟩)
  s11 : t.getD 11 undef = c 11
  s12 : t.getD 12 undef = c 12
  s13 : t.getD 13 undef = c 13
  s14 : t.getD 14 undef = .slice la ln lc
  s16 : t.getD 16 undef = .int .i64 a
  s17 : t.getD 17 undef = .pointer (some ⟨yb, 0, none⟩)
  s18 : t.getD 18 undef = .bool b
set_option maxRecDepth 100000 in
theorem S8.out {t : Array Value} {c : Nat → Value} {g0 : Nat} {la : Option Addr} {ln lc : Nat} {a : Int} {yb : Nat} {b : Bool} (h : S8 t c g0 la ln lc a yb b) : ∃ f : Nat → Value, (∀ k, f k = t.getD k undef) ∧ t = #[f 0, f 1, c 2, c 3, c 4, f 5, f 6, .pointer (some ⟨g0, 0, none⟩), f 8, f 9, f 10, c 11, c 12, c 13, .slice la ln lc, f 15, .int .i64 a, .pointer (some ⟨yb, 0, none⟩), .bool b, f 19, f 20, f 21, f 22, f 23, f 24, f 25, f 26, f 27, f 28, f 29, f 30, f 31, f 32, f 33, f 34, f 35, f 36, f 37, f 38, f 39, f 40, f 41, f 42, f 43, f 44, f 45, f 46, f 47, f 48, f 49, f 50, f 51, f 52, f 53, f 54, f 55, f 56, f 57, f 58, f 59, f 60, f 61, f 62, f 63, f 64, f 65, f 66, f 67, f 68, f 69, f 70, f 71, f 72, f 73, f 74, f 75, f 76, f 77, f 78, f 79, f 80, f 81, f 82, f 83, f 84, f 85, f 86, f 87, f 88, f 89, f 90, f 91, f 92, f 93, f 94, f 95, f 96, f 97, f 98, f 99, f 100, f 101, f 102, f 103, f 104, f 105, f 106, f 107, f 108, f 109, f 110, f 111, f 112, f 113, f 114, f 115, f 116, f 117, f 118, f 119, f 120, f 121, f 122, f 123, f 124, f 125, f 126, f 127, f 128, f 129, f 130, f 131, f 132, f 133, f 134, f 135, f 136, f 137, f 138, f 139, f 140, f 141, f 142, f 143, f 144, f 145, f 146, f 147, f 148, f 149, f 150, f 151, f 152, f 153, f 154, f 155, f 156, f 157, f 158, f 159, f 160, f 161, f 162, f 163, f 164, f 165, f 166, f 167, f 168, f 169, f 170, f 171, f 172, f 173, f 174, f 175, f 176, f 177, f 178, f 179, f 180, f 181, f 182, f 183, f 184, f 185, f 186, f 187, f 188, f 189, f 190, f 191, f 192, f 193, f 194, f 195, f 196, f 197, f 198, f 199, f 200, f 201, f 202, f 203, f 204, f 205, f 206, f 207, f 208, f 209, f 210, f 211, f 212, f 213, f 214, f 215, f 216, f 217, f 218, f 219, f 220, f 221, f 222, f 223, f 224, f 225, f 226, f 227, f 228, f 229, f 230, f 231, f 232, f 233, f 234, f 235, f 236, f 237, f 238, f 239, f 240, f 241, f 242, f 243, f 244, f 245, f 246, f 247, f 248, f 249, f 250, f 251, f 252, f 253, f 254, f 255, f 256, f 257, f 258, f 259, f 260, f 261, f 262, f 263, f 264, f 265, f 266, f 267, f 268, f 269, f 270, f 271, f 272, f 273, f 274, f 275, f 276, f 277, f 278, f 279, f 280, f 281, f 282, f 283, f 284, f 285, f 286, f 287, f 288, f 289, f 290, f 291, f 292, f 293, f 294, f 295, f 296, f 297, f 298, f 299, f 300, f 301, f 302, f 303, f 304, f 305, f 306, f 307, f 308, f 309, f 310, f 311, f 312, f 313, f 314, f 315, f 316, f 317, f 318, f 319, f 320, f 321, f 322, f 323, f 324, f 325, f 326, f 327, f 328, f 329, f 330, f 331, f 332, f 333] := by
  obtain ⟨f, hf, hft⟩ := slots334 t h.size
  refine ⟨f, hf, ?_⟩
  have e2 := (hf 2).trans h.s2
  have e3 := (hf 3).trans h.s3
  have e4 := (hf 4).trans h.s4
  have e7 := (hf 7).trans h.s7
  have e11 := (hf 11).trans h.s11
  have e12 := (hf 12).trans h.s12
  have e13 := (hf 13).trans h.s13
  have e14 := (hf 14).trans h.s14
  have e16 := (hf 16).trans h.s16
  have e17 := (hf 17).trans h.s17
  have e18 := (hf 18).trans h.s18
  rw [← e2, ← e3, ← e4, ← e7, ← e11, ← e12, ← e13, ← e14, ← e16, ← e17, ← e18]
  exact hft

/-- What the slots hold at the second condition. -/
structure S28 (t : Array Value) (c : Nat → Value) (g0 : Nat) (la : Option Addr) (ln lc : Nat) (a1 a2 a3 : Int) (y1 y2 y3 : Nat) (b1 b2 b3 : Bool) : Prop where
  size : t.size = 334
  s3 : t.getD 3 undef = c 3
  s4 : t.getD 4 undef = c 4
  s7 : t.getD 7 undef = .pointer (some ⟨g0, 0, none⟩)
  s11 : t.getD 11 undef = c 11
  s12 : t.getD 12 undef = c 12
  s13 : t.getD 13 undef = c 13
  s14 : t.getD 14 undef = c 14
  s19 : t.getD 19 undef = .slice la ln lc
  s20 : t.getD 20 undef = .int .i64 a1
  s21 : t.getD 21 undef = .int .i64 a2
  s22 : t.getD 22 undef = c 22
  s23 : t.getD 23 undef = .int .i64 a3
  s25 : t.getD 25 undef = .pointer (some ⟨y1, 0, none⟩)
  s26 : t.getD 26 undef = .bool b1
  s27 : t.getD 27 undef = .pointer (some ⟨y2, 0, none⟩)
  s28 : t.getD 28 undef = .bool b2
  s29 : t.getD 29 undef = .pointer (some ⟨y3, 0, none⟩)
  s30 : t.getD 30 undef = .bool b3
set_option maxRecDepth 100000 in
theorem S28.out {t : Array Value} {c : Nat → Value} {g0 : Nat} {la : Option Addr} {ln lc : Nat} {a1 a2 a3 : Int} {y1 y2 y3 : Nat} {b1 b2 b3 : Bool} (h : S28 t c g0 la ln lc a1 a2 a3 y1 y2 y3 b1 b2 b3) : ∃ f : Nat → Value, (∀ k, f k = t.getD k undef) ∧ t = #[f 0, f 1, f 2, c 3, c 4, f 5, f 6, .pointer (some ⟨g0, 0, none⟩), f 8, f 9, f 10, c 11, c 12, c 13, c 14, f 15, f 16, f 17, f 18, .slice la ln lc, .int .i64 a1, .int .i64 a2, c 22, .int .i64 a3, f 24, .pointer (some ⟨y1, 0, none⟩), .bool b1, .pointer (some ⟨y2, 0, none⟩), .bool b2, .pointer (some ⟨y3, 0, none⟩), .bool b3, f 31, f 32, f 33, f 34, f 35, f 36, f 37, f 38, f 39, f 40, f 41, f 42, f 43, f 44, f 45, f 46, f 47, f 48, f 49, f 50, f 51, f 52, f 53, f 54, f 55, f 56, f 57, f 58, f 59, f 60, f 61, f 62, f 63, f 64, f 65, f 66, f 67, f 68, f 69, f 70, f 71, f 72, f 73, f 74, f 75, f 76, f 77, f 78, f 79, f 80, f 81, f 82, f 83, f 84, f 85, f 86, f 87, f 88, f 89, f 90, f 91, f 92, f 93, f 94, f 95, f 96, f 97, f 98, f 99, f 100, f 101, f 102, f 103, f 104, f 105, f 106, f 107, f 108, f 109, f 110, f 111, f 112, f 113, f 114, f 115, f 116, f 117, f 118, f 119, f 120, f 121, f 122, f 123, f 124, f 125, f 126, f 127, f 128, f 129, f 130, f 131, f 132, f 133, f 134, f 135, f 136, f 137, f 138, f 139, f 140, f 141, f 142, f 143, f 144, f 145, f 146, f 147, f 148, f 149, f 150, f 151, f 152, f 153, f 154, f 155, f 156, f 157, f 158, f 159, f 160, f 161, f 162, f 163, f 164, f 165, f 166, f 167, f 168, f 169, f 170, f 171, f 172, f 173, f 174, f 175, f 176, f 177, f 178, f 179, f 180, f 181, f 182, f 183, f 184, f 185, f 186, f 187, f 188, f 189, f 190, f 191, f 192, f 193, f 194, f 195, f 196, f 197, f 198, f 199, f 200, f 201, f 202, f 203, f 204, f 205, f 206, f 207, f 208, f 209, f 210, f 211, f 212, f 213, f 214, f 215, f 216, f 217, f 218, f 219, f 220, f 221, f 222, f 223, f 224, f 225, f 226, f 227, f 228, f 229, f 230, f 231, f 232, f 233, f 234, f 235, f 236, f 237, f 238, f 239, f 240, f 241, f 242, f 243, f 244, f 245, f 246, f 247, f 248, f 249, f 250, f 251, f 252, f 253, f 254, f 255, f 256, f 257, f 258, f 259, f 260, f 261, f 262, f 263, f 264, f 265, f 266, f 267, f 268, f 269, f 270, f 271, f 272, f 273, f 274, f 275, f 276, f 277, f 278, f 279, f 280, f 281, f 282, f 283, f 284, f 285, f 286, f 287, f 288, f 289, f 290, f 291, f 292, f 293, f 294, f 295, f 296, f 297, f 298, f 299, f 300, f 301, f 302, f 303, f 304, f 305, f 306, f 307, f 308, f 309, f 310, f 311, f 312, f 313, f 314, f 315, f 316, f 317, f 318, f 319, f 320, f 321, f 322, f 323, f 324, f 325, f 326, f 327, f 328, f 329, f 330, f 331, f 332, f 333] := by
  obtain ⟨f, hf, hft⟩ := slots334 t h.size
  refine ⟨f, hf, ?_⟩
  have e3 := (hf 3).trans h.s3
  have e4 := (hf 4).trans h.s4
  have e7 := (hf 7).trans h.s7
  have e11 := (hf 11).trans h.s11
  have e12 := (hf 12).trans h.s12
  have e13 := (hf 13).trans h.s13
  have e14 := (hf 14).trans h.s14
  have e19 := (hf 19).trans h.s19
  have e20 := (hf 20).trans h.s20
  have e21 := (hf 21).trans h.s21
  have e22 := (hf 22).trans h.s22
  have e23 := (hf 23).trans h.s23
  have e25 := (hf 25).trans h.s25
  have e26 := (hf 26).trans h.s26
  have e27 := (hf 27).trans h.s27
  have e28 := (hf 28).trans h.s28
  have e29 := (hf 29).trans h.s29
  have e30 := (hf 30).trans h.s30
  rw [← e3, ← e4, ← e7, ← e11, ← e12, ← e13, ← e14, ← e19, ← e20, ← e21, ← e22, ← e23, ← e25, ← e26, ← e27, ← e28, ← e29, ← e30]
  exact hft

theorem RefsAt.keep {B : Nat} {w w' : World} {v : Value} {rs : List MR} (h : RefsAt B w v rs) (hk : ∀ k, v.ownBlock = some k → w'.heap[k]? = w.heap[k]?) : RefsAt B w' v rs := by
  refine ⟨⟨h.row.1, ?_⟩, h.one, h.names, h.few⟩
  rcases h.row.2 with h0 | ⟨g, cap, cur, e, hg, hcur, rest⟩
  · exact .inl h0
  · exact .inr ⟨g, cap, cur, e, hg, (hk g (by rw [e]; rfl)).trans hcur, rest⟩
theorem wpN_at {P : Program} {ops : Array Oper} {Q : Exit → Act → World → Prop} {C : World → Prop} {D E rest : List Nat} {r : Nat} {a : Act} {w : World} (b : Bool) (hlt : decide (r < ops.size) = true) (hb : needD ops D E r = b) (h : wpList P ops (QnD P ops Q C D E rest b) (opsAt ops [r]) a w) : wpN P ops Q C D E (r :: rest) a w := by
  have hlt' := of_decide_eq_true hlt
  refine wpN_cons b (Array.getElem?_eq_getElem hlt') hb ?_
  have : opsAt ops [r] = [ops[r]] := by unfold opsAt; rw [List.map_singleton, opsAt_get (Array.getElem?_eq_getElem hlt')]
  rwa [this] at h
/-- What both conditions read: the group, the list, the lines that were told. -/
structure VwL (g0 : Nat) (s : ByteArray) (la : Option Addr) (lc : Nat) (O : List MR) (W : World) : Prop where
  g : W.heap[g0]? = some (.cells #[.string s] 9 (0, 0))
  refs : RefsAt 0 W (.slice la O.length lc) O
  ids : ∀ r ∈ O, IdsAt W r.m.v r.m.p.ids
theorem VwL.below {g0 : Nat} {s : ByteArray} {la : Option Addr} {lc : Nat} {O : List MR} {W W' : World} (h : VwL g0 s la lc O W) (hb : Below W.heap.size W W') : VwL g0 s la lc O W' :=
  ⟨(hb.block _ (Array.getElem?_eq_some_iff.1 h.g).1).trans h.g, h.refs.below hb, fun r hr => (h.ids r hr).below hb⟩

end Go.Proofs.YtdjaphcelpchaaaGreatDoor

namespace Go.Proofs.YtdjaphcelpchaaaGreatDoor
open Go Go.RowKit Go.Proofs

attribute [local go_sem ↓] ex_load_id ex_store_id ex_load_line ex_store_line ex_load_rline ex_store_rline ex_alloc_line ex_build_line ex_alloc_rline ex_build_rline ex_bs_rline

attribute [local go_sem] ld_id st_id ld_line st_line ld_rline st_rline guard_id okCells_drew rdCells_drew okCells_drewN rdCells_drewN rowOk_drew rowOk_cells okCells_cells rdCells_cells setRow_drew setRow_new setRow_past run_eql_id run_neq_id eqIn_id bs_rline

/-- The first loop, the last one. -/
def loopL : Code → Option Code
  | .loop a => some (.loop a)
  | .seq a b => (loopL a).orElse fun _ => loopL b
  | .cond _ a b => (loopL a).orElse fun _ => loopL b
  | .block _ a => loopL a
  | .rangeFunc _ _ a b => (loopL a).orElse fun _ => loopL b
  | .scope a => loopL a
  | _ => none
def loopR : Code → Option Code
  | .loop a => some (.loop a)
  | .seq a b => (loopR b).orElse fun _ => loopR a
  | .cond _ a b => (loopR b).orElse fun _ => loopR a
  | .block _ a => loopR a
  | .rangeFunc _ _ a b => (loopR b).orElse fun _ => loopR a
  | .scope a => loopR a
  | _ => none
noncomputable def vwLoop1 : Code := (Tryz.f8.body.bind loopL).getD .skip
noncomputable def vwLoop2 : Code := (Tryz.f8.body.bind loopR).getD .skip

/-- What the slots hold in the first loop. -/
structure VS (t : Array Value) (n lo hi : Int) (g0 ib : Nat) (va : Option Addr) (vn vc : Nat) (la : Option Addr) (ln lc wb : Nat) (a1 a2 a3 i : Int) : Prop where
  size : t.size = 334
  s2 : t.getD 2 undef = .int .i64 n
  s3 : t.getD 3 undef = .int .i64 lo
  s4 : t.getD 4 undef = .int .i64 hi
  s7 : t.getD 7 undef = .pointer (some ⟨g0, 0, none⟩)
  s11 : t.getD 11 undef = .pointer (some ⟨g0 + 1, 0, none⟩)
  s12 : t.getD 12 undef = .pointer (some ⟨g0 + 1 + 1, 0, none⟩)
  s13 : t.getD 13 undef = .pointer (some ⟨ib, 0, none⟩)
  s14 : t.getD 14 undef = .slice va vn vc
  s19 : t.getD 19 undef = .slice la ln lc
  s20 : t.getD 20 undef = .int .i64 a1
  s21 : t.getD 21 undef = .int .i64 a2
  s22 : t.getD 22 undef = .pointer (some ⟨wb, 0, none⟩)
  s23 : t.getD 23 undef = .int .i64 a3
  s24 : t.getD 24 undef = .int .i64 i
set_option maxRecDepth 100000 in
theorem VS.out {t : Array Value} {n lo hi : Int} {g0 ib : Nat} {va : Option Addr} {vn vc : Nat} {la : Option Addr} {ln lc wb : Nat} {a1 a2 a3 i : Int} (h : VS t n lo hi g0 ib va vn vc la ln lc wb a1 a2 a3 i) : ∃ f : Nat → Value, (∀ k, f k = t.getD k undef) ∧ t = #[f 0, f 1, .int .i64 n, .int .i64 lo, .int .i64 hi, f 5, f 6, .pointer (some ⟨g0, 0, none⟩), f 8, f 9, f 10, .pointer (some ⟨g0 + 1, 0, none⟩), .pointer (some ⟨g0 + 1 + 1, 0, none⟩), .pointer (some ⟨ib, 0, none⟩), .slice va vn vc, f 15, f 16, f 17, f 18, .slice la ln lc, .int .i64 a1, .int .i64 a2, .pointer (some ⟨wb, 0, none⟩), .int .i64 a3, .int .i64 i, f 25, f 26, f 27, f 28, f 29, f 30, f 31, f 32, f 33, f 34, f 35, f 36, f 37, f 38, f 39, f 40, f 41, f 42, f 43, f 44, f 45, f 46, f 47, f 48, f 49, f 50, f 51, f 52, f 53, f 54, f 55, f 56, f 57, f 58, f 59, f 60, f 61, f 62, f 63, f 64, f 65, f 66, f 67, f 68, f 69, f 70, f 71, f 72, f 73, f 74, f 75, f 76, f 77, f 78, f 79, f 80, f 81, f 82, f 83, f 84, f 85, f 86, f 87, f 88, f 89, f 90, f 91, f 92, f 93, f 94, f 95, f 96, f 97, f 98, f 99, f 100, f 101, f 102, f 103, f 104, f 105, f 106, f 107, f 108, f 109, f 110, f 111, f 112, f 113, f 114, f 115, f 116, f 117, f 118, f 119, f 120, f 121, f 122, f 123, f 124, f 125, f 126, f 127, f 128, f 129, f 130, f 131, f 132, f 133, f 134, f 135, f 136, f 137, f 138, f 139, f 140, f 141, f 142, f 143, f 144, f 145, f 146, f 147, f 148, f 149, f 150, f 151, f 152, f 153, f 154, f 155, f 156, f 157, f 158, f 159, f 160, f 161, f 162, f 163, f 164, f 165, f 166, f 167, f 168, f 169, f 170, f 171, f 172, f 173, f 174, f 175, f 176, f 177, f 178, f 179, f 180, f 181, f 182, f 183, f 184, f 185, f 186, f 187, f 188, f 189, f 190, f 191, f 192, f 193, f 194, f 195, f 196, f 197, f 198, f 199, f 200, f 201, f 202, f 203, f 204, f 205, f 206, f 207, f 208, f 209, f 210, f 211, f 212, f 213, f 214, f 215, f 216, f 217, f 218, f 219, f 220, f 221, f 222, f 223, f 224, f 225, f 226, f 227, f 228, f 229, f 230, f 231, f 232, f 233, f 234, f 235, f 236, f 237, f 238, f 239, f 240, f 241, f 242, f 243, f 244, f 245, f 246, f 247, f 248, f 249, f 250, f 251, f 252, f 253, f 254, f 255, f 256, f 257, f 258, f 259, f 260, f 261, f 262, f 263, f 264, f 265, f 266, f 267, f 268, f 269, f 270, f 271, f 272, f 273, f 274, f 275, f 276, f 277, f 278, f 279, f 280, f 281, f 282, f 283, f 284, f 285, f 286, f 287, f 288, f 289, f 290, f 291, f 292, f 293, f 294, f 295, f 296, f 297, f 298, f 299, f 300, f 301, f 302, f 303, f 304, f 305, f 306, f 307, f 308, f 309, f 310, f 311, f 312, f 313, f 314, f 315, f 316, f 317, f 318, f 319, f 320, f 321, f 322, f 323, f 324, f 325, f 326, f 327, f 328, f 329, f 330, f 331, f 332, f 333] := by
  obtain ⟨f, hf, hft⟩ := slots334 t h.size
  refine ⟨f, hf, ?_⟩
  have e2 := (hf 2).trans h.s2
  have e3 := (hf 3).trans h.s3
  have e4 := (hf 4).trans h.s4
  have e7 := (hf 7).trans h.s7
  have e11 := (hf 11).trans h.s11
  have e12 := (hf 12).trans h.s12
  have e13 := (hf 13).trans h.s13
  have e14 := (hf 14).trans h.s14
  have e19 := (hf 19).trans h.s19
  have e20 := (hf 20).trans h.s20
  have e21 := (hf 21).trans h.s21
  have e22 := (hf 22).trans h.s22
  have e23 := (hf 23).trans h.s23
  have e24 := (hf 24).trans h.s24
  rw [← e2, ← e3, ← e4, ← e7, ← e11, ← e12, ← e13, ← e14, ← e19, ← e20, ← e21, ← e22, ← e23, ← e24]
  exact hft

/-- What the slots hold behind the first condition. -/
structure VA (t : Array Value) (n lo hi : Int) (g0 ib : Nat) (va : Option Addr) (vn vc : Nat) : Prop where
  size : t.size = 334
  s2 : t.getD 2 undef = .int .i64 n
  s3 : t.getD 3 undef = .int .i64 lo
  s4 : t.getD 4 undef = .int .i64 hi
  s7 : t.getD 7 undef = .pointer (some ⟨g0, 0, none⟩)
  s11 : t.getD 11 undef = .pointer (some ⟨g0 + 1, 0, none⟩)
  s12 : t.getD 12 undef = .pointer (some ⟨g0 + 1 + 1, 0, none⟩)
  s13 : t.getD 13 undef = .pointer (some ⟨ib, 0, none⟩)
  s14 : t.getD 14 undef = .slice va vn vc
set_option maxRecDepth 100000 in
theorem VA.out {t : Array Value} {n lo hi : Int} {g0 ib : Nat} {va : Option Addr} {vn vc : Nat} (h : VA t n lo hi g0 ib va vn vc) : ∃ f : Nat → Value, (∀ k, f k = t.getD k undef) ∧ t = #[f 0, f 1, .int .i64 n, .int .i64 lo, .int .i64 hi, f 5, f 6, .pointer (some ⟨g0, 0, none⟩), f 8, f 9, f 10, .pointer (some ⟨g0 + 1, 0, none⟩), .pointer (some ⟨g0 + 1 + 1, 0, none⟩), .pointer (some ⟨ib, 0, none⟩), .slice va vn vc, f 15, f 16, f 17, f 18, f 19, f 20, f 21, f 22, f 23, f 24, f 25, f 26, f 27, f 28, f 29, f 30, f 31, f 32, f 33, f 34, f 35, f 36, f 37, f 38, f 39, f 40, f 41, f 42, f 43, f 44, f 45, f 46, f 47, f 48, f 49, f 50, f 51, f 52, f 53, f 54, f 55, f 56, f 57, f 58, f 59, f 60, f 61, f 62, f 63, f 64, f 65, f 66, f 67, f 68, f 69, f 70, f 71, f 72, f 73, f 74, f 75, f 76, f 77, f 78, f 79, f 80, f 81, f 82, f 83, f 84, f 85, f 86, f 87, f 88, f 89, f 90, f 91, f 92, f 93, f 94, f 95, f 96, f 97, f 98, f 99, f 100, f 101, f 102, f 103, f 104, f 105, f 106, f 107, f 108, f 109, f 110, f 111, f 112, f 113, f 114, f 115, f 116, f 117, f 118, f 119, f 120, f 121, f 122, f 123, f 124, f 125, f 126, f 127, f 128, f 129, f 130, f 131, f 132, f 133, f 134, f 135, f 136, f 137, f 138, f 139, f 140, f 141, f 142, f 143, f 144, f 145, f 146, f 147, f 148, f 149, f 150, f 151, f 152, f 153, f 154, f 155, f 156, f 157, f 158, f 159, f 160, f 161, f 162, f 163, f 164, f 165, f 166, f 167, f 168, f 169, f 170, f 171, f 172, f 173, f 174, f 175, f 176, f 177, f 178, f 179, f 180, f 181, f 182, f 183, f 184, f 185, f 186, f 187, f 188, f 189, f 190, f 191, f 192, f 193, f 194, f 195, f 196, f 197, f 198, f 199, f 200, f 201, f 202, f 203, f 204, f 205, f 206, f 207, f 208, f 209, f 210, f 211, f 212, f 213, f 214, f 215, f 216, f 217, f 218, f 219, f 220, f 221, f 222, f 223, f 224, f 225, f 226, f 227, f 228, f 229, f 230, f 231, f 232, f 233, f 234, f 235, f 236, f 237, f 238, f 239, f 240, f 241, f 242, f 243, f 244, f 245, f 246, f 247, f 248, f 249, f 250, f 251, f 252, f 253, f 254, f 255, f 256, f 257, f 258, f 259, f 260, f 261, f 262, f 263, f 264, f 265, f 266, f 267, f 268, f 269, f 270, f 271, f 272, f 273, f 274, f 275, f 276, f 277, f 278, f 279, f 280, f 281, f 282, f 283, f 284, f 285, f 286, f 287, f 288, f 289, f 290, f 291, f 292, f 293, f 294, f 295, f 296, f 297, f 298, f 299, f 300, f 301, f 302, f 303, f 304, f 305, f 306, f 307, f 308, f 309, f 310, f 311, f 312, f 313, f 314, f 315, f 316, f 317, f 318, f 319, f 320, f 321, f 322, f 323, f 324, f 325, f 326, f 327, f 328, f 329, f 330, f 331, f 332, f 333] := by
  obtain ⟨f, hf, hft⟩ := slots334 t h.size
  refine ⟨f, hf, ?_⟩
  have e2 := (hf 2).trans h.s2
  have e3 := (hf 3).trans h.s3
  have e4 := (hf 4).trans h.s4
  have e7 := (hf 7).trans h.s7
  have e11 := (hf 11).trans h.s11
  have e12 := (hf 12).trans h.s12
  have e13 := (hf 13).trans h.s13
  have e14 := (hf 14).trans h.s14
  rw [← e2, ← e3, ← e4, ← e7, ← e11, ← e12, ← e13, ← e14]
  exact hft

/-- What the slots hold behind the second condition. -/
structure VC (t : Array Value) (lo hi : Int) (g0 ib : Nat) (va : Option Addr) (vn vc wb : Nat) : Prop where
  size : t.size = 334
  s3 : t.getD 3 undef = .int .i64 lo
  s4 : t.getD 4 undef = .int .i64 hi
  s7 : t.getD 7 undef = .pointer (some ⟨g0, 0, none⟩)
  s11 : t.getD 11 undef = .pointer (some ⟨g0 + 1, 0, none⟩)
  s12 : t.getD 12 undef = .pointer (some ⟨g0 + 1 + 1, 0, none⟩)
  s13 : t.getD 13 undef = .pointer (some ⟨ib, 0, none⟩)
  s14 : t.getD 14 undef = .slice va vn vc
  s22 : t.getD 22 undef = .pointer (some ⟨wb, 0, none⟩)
set_option maxRecDepth 100000 in
theorem VC.out {t : Array Value} {lo hi : Int} {g0 ib : Nat} {va : Option Addr} {vn vc wb : Nat} (h : VC t lo hi g0 ib va vn vc wb) : ∃ f : Nat → Value, (∀ k, f k = t.getD k undef) ∧ t = #[f 0, f 1, f 2, .int .i64 lo, .int .i64 hi, f 5, f 6, .pointer (some ⟨g0, 0, none⟩), f 8, f 9, f 10, .pointer (some ⟨g0 + 1, 0, none⟩), .pointer (some ⟨g0 + 1 + 1, 0, none⟩), .pointer (some ⟨ib, 0, none⟩), .slice va vn vc, f 15, f 16, f 17, f 18, f 19, f 20, f 21, .pointer (some ⟨wb, 0, none⟩), f 23, f 24, f 25, f 26, f 27, f 28, f 29, f 30, f 31, f 32, f 33, f 34, f 35, f 36, f 37, f 38, f 39, f 40, f 41, f 42, f 43, f 44, f 45, f 46, f 47, f 48, f 49, f 50, f 51, f 52, f 53, f 54, f 55, f 56, f 57, f 58, f 59, f 60, f 61, f 62, f 63, f 64, f 65, f 66, f 67, f 68, f 69, f 70, f 71, f 72, f 73, f 74, f 75, f 76, f 77, f 78, f 79, f 80, f 81, f 82, f 83, f 84, f 85, f 86, f 87, f 88, f 89, f 90, f 91, f 92, f 93, f 94, f 95, f 96, f 97, f 98, f 99, f 100, f 101, f 102, f 103, f 104, f 105, f 106, f 107, f 108, f 109, f 110, f 111, f 112, f 113, f 114, f 115, f 116, f 117, f 118, f 119, f 120, f 121, f 122, f 123, f 124, f 125, f 126, f 127, f 128, f 129, f 130, f 131, f 132, f 133, f 134, f 135, f 136, f 137, f 138, f 139, f 140, f 141, f 142, f 143, f 144, f 145, f 146, f 147, f 148, f 149, f 150, f 151, f 152, f 153, f 154, f 155, f 156, f 157, f 158, f 159, f 160, f 161, f 162, f 163, f 164, f 165, f 166, f 167, f 168, f 169, f 170, f 171, f 172, f 173, f 174, f 175, f 176, f 177, f 178, f 179, f 180, f 181, f 182, f 183, f 184, f 185, f 186, f 187, f 188, f 189, f 190, f 191, f 192, f 193, f 194, f 195, f 196, f 197, f 198, f 199, f 200, f 201, f 202, f 203, f 204, f 205, f 206, f 207, f 208, f 209, f 210, f 211, f 212, f 213, f 214, f 215, f 216, f 217, f 218, f 219, f 220, f 221, f 222, f 223, f 224, f 225, f 226, f 227, f 228, f 229, f 230, f 231, f 232, f 233, f 234, f 235, f 236, f 237, f 238, f 239, f 240, f 241, f 242, f 243, f 244, f 245, f 246, f 247, f 248, f 249, f 250, f 251, f 252, f 253, f 254, f 255, f 256, f 257, f 258, f 259, f 260, f 261, f 262, f 263, f 264, f 265, f 266, f 267, f 268, f 269, f 270, f 271, f 272, f 273, f 274, f 275, f 276, f 277, f 278, f 279, f 280, f 281, f 282, f 283, f 284, f 285, f 286, f 287, f 288, f 289, f 290, f 291, f 292, f 293, f 294, f 295, f 296, f 297, f 298, f 299, f 300, f 301, f 302, f 303, f 304, f 305, f 306, f 307, f 308, f 309, f 310, f 311, f 312, f 313, f 314, f 315, f 316, f 317, f 318, f 319, f 320, f 321, f 322, f 323, f 324, f 325, f 326, f 327, f 328, f 329, f 330, f 331, f 332, f 333] := by
  obtain ⟨f, hf, hft⟩ := slots334 t h.size
  refine ⟨f, hf, ?_⟩
  have e3 := (hf 3).trans h.s3
  have e4 := (hf 4).trans h.s4
  have e7 := (hf 7).trans h.s7
  have e11 := (hf 11).trans h.s11
  have e12 := (hf 12).trans h.s12
  have e13 := (hf 13).trans h.s13
  have e14 := (hf 14).trans h.s14
  have e22 := (hf 22).trans h.s22
  rw [← e3, ← e4, ← e7, ← e11, ← e12, ← e13, ← e14, ← e22]
  exact hft

/-- What the slots hold in the iteration. -/
structure VD (t : Array Value) (g0 ib : Nat) (va : Option Addr) (vn vc wb kb : Nat) : Prop where
  size : t.size = 334
  s7 : t.getD 7 undef = .pointer (some ⟨g0, 0, none⟩)
  s11 : t.getD 11 undef = .pointer (some ⟨g0 + 1, 0, none⟩)
  s12 : t.getD 12 undef = .pointer (some ⟨g0 + 1 + 1, 0, none⟩)
  s13 : t.getD 13 undef = .pointer (some ⟨ib, 0, none⟩)
  s14 : t.getD 14 undef = .slice va vn vc
  s22 : t.getD 22 undef = .pointer (some ⟨wb, 0, none⟩)
  s31 : t.getD 31 undef = .pointer (some ⟨kb, 0, none⟩)
theorem VD.set {t : Array Value} {g0 ib : Nat} {va : Option Addr} {vn vc wb kb : Nat} (h : VD t g0 ib va vn vc wb kb) {k : Nat} (hk : 32 ≤ k) (u : Value) : VD (t.setIfInBounds k u) g0 ib va vn vc wb kb :=
  ⟨by simpa using h.size, (getD_setv _ _ (by omega)).trans h.s7, (getD_setv _ _ (by omega)).trans h.s11, (getD_setv _ _ (by omega)).trans h.s12, (getD_setv _ _ (by omega)).trans h.s13, (getD_setv _ _ (by omega)).trans h.s14, (getD_setv _ _ (by omega)).trans h.s22, (getD_setv _ _ (by omega)).trans h.s31⟩
set_option maxRecDepth 100000 in
theorem VD.out {t : Array Value} {g0 ib : Nat} {va : Option Addr} {vn vc wb kb : Nat} (h : VD t g0 ib va vn vc wb kb) : ∃ f : Nat → Value, (∀ k, f k = t.getD k undef) ∧ t = #[f 0, f 1, f 2, f 3, f 4, f 5, f 6, .pointer (some ⟨g0, 0, none⟩), f 8, f 9, f 10, .pointer (some ⟨g0 + 1, 0, none⟩), .pointer (some ⟨g0 + 1 + 1, 0, none⟩), .pointer (some ⟨ib, 0, none⟩), .slice va vn vc, f 15, f 16, f 17, f 18, f 19, f 20, f 21, .pointer (some ⟨wb, 0, none⟩), f 23, f 24, f 25, f 26, f 27, f 28, f 29, f 30, .pointer (some ⟨kb, 0, none⟩), f 32, f 33, f 34, f 35, f 36, f 37, f 38, f 39, f 40, f 41, f 42, f 43, f 44, f 45, f 46, f 47, f 48, f 49, f 50, f 51, f 52, f 53, f 54, f 55, f 56, f 57, f 58, f 59, f 60, f 61, f 62, f 63, f 64, f 65, f 66, f 67, f 68, f 69, f 70, f 71, f 72, f 73, f 74, f 75, f 76, f 77, f 78, f 79, f 80, f 81, f 82, f 83, f 84, f 85, f 86, f 87, f 88, f 89, f 90, f 91, f 92, f 93, f 94, f 95, f 96, f 97, f 98, f 99, f 100, f 101, f 102, f 103, f 104, f 105, f 106, f 107, f 108, f 109, f 110, f 111, f 112, f 113, f 114, f 115, f 116, f 117, f 118, f 119, f 120, f 121, f 122, f 123, f 124, f 125, f 126, f 127, f 128, f 129, f 130, f 131, f 132, f 133, f 134, f 135, f 136, f 137, f 138, f 139, f 140, f 141, f 142, f 143, f 144, f 145, f 146, f 147, f 148, f 149, f 150, f 151, f 152, f 153, f 154, f 155, f 156, f 157, f 158, f 159, f 160, f 161, f 162, f 163, f 164, f 165, f 166, f 167, f 168, f 169, f 170, f 171, f 172, f 173, f 174, f 175, f 176, f 177, f 178, f 179, f 180, f 181, f 182, f 183, f 184, f 185, f 186, f 187, f 188, f 189, f 190, f 191, f 192, f 193, f 194, f 195, f 196, f 197, f 198, f 199, f 200, f 201, f 202, f 203, f 204, f 205, f 206, f 207, f 208, f 209, f 210, f 211, f 212, f 213, f 214, f 215, f 216, f 217, f 218, f 219, f 220, f 221, f 222, f 223, f 224, f 225, f 226, f 227, f 228, f 229, f 230, f 231, f 232, f 233, f 234, f 235, f 236, f 237, f 238, f 239, f 240, f 241, f 242, f 243, f 244, f 245, f 246, f 247, f 248, f 249, f 250, f 251, f 252, f 253, f 254, f 255, f 256, f 257, f 258, f 259, f 260, f 261, f 262, f 263, f 264, f 265, f 266, f 267, f 268, f 269, f 270, f 271, f 272, f 273, f 274, f 275, f 276, f 277, f 278, f 279, f 280, f 281, f 282, f 283, f 284, f 285, f 286, f 287, f 288, f 289, f 290, f 291, f 292, f 293, f 294, f 295, f 296, f 297, f 298, f 299, f 300, f 301, f 302, f 303, f 304, f 305, f 306, f 307, f 308, f 309, f 310, f 311, f 312, f 313, f 314, f 315, f 316, f 317, f 318, f 319, f 320, f 321, f 322, f 323, f 324, f 325, f 326, f 327, f 328, f 329, f 330, f 331, f 332, f 333] := by
  obtain ⟨f, hf, hft⟩ := slots334 t h.size
  refine ⟨f, hf, ?_⟩
  have e7 := (hf 7).trans h.s7
  have e11 := (hf 11).trans h.s11
  have e12 := (hf 12).trans h.s12
  have e13 := (hf 13).trans h.s13
  have e14 := (hf 14).trans h.s14
  have e22 := (hf 22).trans h.s22
  have e31 := (hf 31).trans h.s31
  rw [← e7, ← e11, ← e12, ← e13, ← e14, ← e22, ← e31]
  exact hft

def withinR (lo hi : Int) (l : List MR) : List MR := l.filter fun r => decide (lo ≤ r.m.p.number ∧ r.m.p.number ≤ hi)
/-- The first loop's invariant. -/
structure VwI (n lo hi : Int) (g0 ib : Nat) (va : Option Addr) (vn vc : Nat) (la : Option Addr) (lc wb : Nat) (x : Id32) (O : List MR) (W : World) (k : Nat) (a : Act) (X : World) : Prop where
  le : k ≤ O.length
  df : a.defers = []
  at' : ∃ a1 a2 a3 : Int, VS a.tmps n lo hi g0 ib va vn vc la O.length lc wb a1 a2 a3 k ∧ FirstAt (fun r => decide (n < r.m.p.number)) O k a1 ∧ LastAt (fun r => decide (r.m.p.number < n)) O k a2 ∧ LastAt (fun r => decide (r.m.p.id = x)) O k a3
  box : ∃ wv, X.heap[wb]? = some (.cells #[wv] 49 (0, 0)) ∧ RefsAt W.heap.size X wv (withinR lo hi (O.take k))
  kept : Kept [wb] W X
def leftV (n : Nat) (a : Act) : Nat := n - (intOf (a.tmps.getD 24 undef)).toNat
theorem VwI.left {n lo hi : Int} {g0 ib : Nat} {va : Option Addr} {vn vc : Nat} {la : Option Addr} {lc wb : Nat} {x : Id32} {O : List MR} {W : World} {k : Nat} {a : Act} {X : World} (h : VwI n lo hi g0 ib va vn vc la lc wb x O W k a X) (m : Nat) : leftV m a = m - k := by
  obtain ⟨a1, a2, a3, hs, _⟩ := h.at'
  unfold leftV
  rw [hs.s24]
  rfl

set_option maxRecDepth 100000 in
set_option maxHeartbeats 8000000 in
theorem vw_loop1 (Q : Exit → Act → World → Prop) (n lo hi : Int) (g0 ib : Nat) (va : Option Addr) (vn vc : Nat) (la : Option Addr) (lc wb : Nat) (x : Id32) (O : List MR) (t : Array Value) (W : World)
    (hs : VS t n lo hi g0 ib va vn vc la O.length lc wb (-1) (-1) (-1) 0) (hid : W.heap[g0 + 1]? = some (.cells (encId x).toArray 23 (0, 0))) (hv : RefsAt 0 W (.slice la O.length lc) O) (hb : W.heap[wb]? = some (.cells #[.slice none 0 0] 49 (0, 0))) (hne : g0 + 1 ≠ wb)
    (hQ : ∀ a X, VwI n lo hi g0 ib va vn vc la lc wb x O W O.length a X → Q (.exit 0) a X) : vwLoop1.wp Tryz.prog Q ⟨t, []⟩ W := by
  conv => arg 2; whnf
  have HID := Lib.hid hid
  have HV := Lib.hid hv
  have HQ := Lib.hid hQ
  have HBX0 := Lib.hid hb
  have hfew := hv.few
  obtain ⟨i0, hii, hz0, hz1, hz2⟩ := info_parts Tryz.info_rline
  refine wp_loop (fun a X => ∃ k, VwI n lo hi g0 ib va vn vc la lc wb x O W k a X) (fun a _ => leftV O.length a) ⟨0, Nat.zero_le _, rfl, ⟨-1, -1, -1, hs, .zero _ _, .zero _ _, .zero _ _⟩, ⟨_, hb, RefsAt.nil _ _⟩, ⟨rfl, rfl, rfl, Nat.le_refl _, fun _ _ _ => rfl⟩⟩ ?_
  clear hs hid hv hb hQ
  rintro a X ⟨k, hinv⟩
  have hmu := hinv.left O.length
  have HMU : Hid (∀ a' X', VwI n lo hi g0 ib va vn vc la lc wb x O W (k + 1) a' X' → k < O.length → leftV O.length a' < leftV O.length a) := Lib.hid fun a' X' h hl => by rw [h.left, hmu]; omega
  have HINV := Lib.hid hinv
  clear hmu
  generalize leftV O.length a = mu at HMU
  obtain ⟨a1, a2, a3, hsl, hf1, hf2, hf3⟩ := hinv.at'
  obtain ⟨wv, hbx, hown⟩ := hinv.box
  have hkept := hinv.kept
  have hle := hinv.le
  have hdf := hinv.df
  clear hinv
  obtain ⟨tm, df⟩ := a
  obtain rfl : df = [] := hdf
  obtain ⟨f, hf, hft⟩ := hsl.out
  simp only at hft
  subst hft
  clear hf hsl
  by_cases hlt : k < O.length
  · have hltz : (k : Int) < (O.length : Int) := by omega
    rcases HV.out.head with ⟨_, e0⟩ | ⟨lg, lcap, cur, hlve, _, hll, hlle, _, hlcur, hlcell⟩
    · rw [e0] at hlt; cases hlt
    cases hlve
    have hlgw : lg ≠ wb := fun e => by
      rw [e, HBX0.out] at hlcur
      exact absurd (cells_ty hlcur) (by decide)
    have hX : X.heap[lg]? = W.heap[lg]? := hkept.block lg hll (by simpa using hlgw)
    have hcX : ∀ j u, (flatR O)[j]? = some u → X.cell? ⟨lg, j, none⟩ = some u := fun j u hu => (cell_of_same (a := ⟨lg, j, none⟩) hX).trans (hlcell j u hu)
    have c1 : X.cell? ⟨lg, k * 39 + 1, none⟩ = some (.int .i64 O[k].m.p.number) := rAt_cell hcX hlt (i := 1) rfl
    obtain ⟨i1, i2⟩ := rAt_id hcX hlt
    obtain ⟨l1, l2⟩ := rAt_rd hcX hlt
    have hidX : X.heap[g0 + 1]? = some (.cells (encId x).toArray 23 (0, 0)) := (hkept.block (g0 + 1) (Array.getElem?_eq_some_iff.1 HID.out).1 (by simpa using hne)).trans HID.out
    obtain ⟨j1, j2⟩ := rd_of_block hidX
    have HBX := Lib.hid hbx
    have hone := HV.out.one O[k] (List.getElem_mem hlt)
    have HF1s : Hid (n < O[k].m.p.number → a1 < 0 → FirstAt (fun r => decide (n < r.m.p.number)) O (k + 1) k) := Lib.hid fun h1 h2 => hf1.set h2 hlt (decide_eq_true h1)
    have HF1k : Hid (¬ (n < O[k].m.p.number ∧ a1 < 0) → FirstAt (fun r => decide (n < r.m.p.number)) O (k + 1) a1) := Lib.hid fun h => hf1.stay hlt fun h1 h2 => h ⟨of_decide_eq_true h1, h2⟩
    have HF2s : Hid (O[k].m.p.number < n → LastAt (fun r => decide (r.m.p.number < n)) O (k + 1) k) := Lib.hid fun h1 => LastAt.set hlt (decide_eq_true h1)
    have HF2k : Hid (¬ O[k].m.p.number < n → LastAt (fun r => decide (r.m.p.number < n)) O (k + 1) a2) := Lib.hid fun h1 => hf2.stay hlt (decide_eq_false h1)
    have HF3s : Hid (O[k].m.p.id = x → LastAt (fun r => decide (r.m.p.id = x)) O (k + 1) k) := Lib.hid fun h1 => LastAt.set hlt (decide_eq_true h1)
    have HF3k : Hid (¬ O[k].m.p.id = x → LastAt (fun r => decide (r.m.p.id = x)) O (k + 1) a3) := Lib.hid fun h1 => hf3.stay hlt (decide_eq_false h1)
    have HTK : Hid (withinR lo hi (O.take (k + 1)) = withinR lo hi (O.take k) ++ (if lo ≤ O[k].m.p.number ∧ O[k].m.p.number ≤ hi then [O[k]] else [])) := Lib.hid (by
      rw [List.take_succ_eq_append_getElem hlt]
      unfold withinR
      rw [List.filter_append]
      by_cases he : lo ≤ O[k].m.p.number ∧ O[k].m.p.number ≤ hi <;> simp [he])
    have hnmk := HV.out.names O[k] (List.getElem_mem hlt)
    have HIDS : Hid (∀ Y : World, Y.heap[lg]? = W.heap[lg]? → okCells Y ⟨lg, k * 39 + 2, none⟩ 32 = true ∧ rdCells Y ⟨lg, k * 39 + 2, none⟩ 32 = (encId O[k].m.p.id).toArray) := Lib.hid fun Y hY => rAt_id (fun j u hu => (cell_of_same (a := ⟨lg, j, none⟩) hY).trans (hlcell j u hu)) hlt
    clear hcX hlcell hX hf1 hf2 hf3 hidX hbx hlcur hlle
    generalize O[k] = r0 at c1 i2 l2 hone HF1s HF1k HF2s HF2k HF3s HF3k HTK hnmk HIDS
    have HONE := Lib.hid (rList_one hone)
    have HNM := Lib.hid hnmk
    clear hone hnmk
    have HOWN := Lib.hid hown
    have HKE := Lib.hid hkept
    clear hown hkept
    obtain ⟨num, hnum⟩ : ∃ num, num = r0.m.p.number := ⟨_, rfl⟩
    rw [← hnum] at c1 HF1s HF1k HF2s HF2k HTK
    have HNUM := Lib.hid hnum
    clear hnum
    go_upto_region 17 with fail
    go_cut [114] from 98 to 154 (fun c wx => (∃ c0 : Bool, c = .bool c0 ∧ Hid (c0 = true ↔ n < num ∧ a1 < 0)) ∧ X = wx)
    case first =>
      by_cases h1 : n < num
      · by_cases h2 : a1 < 0
        · go_wp2
          go_meet
          exact ⟨⟨_, rfl, Lib.hid (by simp [h1, h2])⟩, rfl⟩
        · go_wp2
          go_meet
          exact ⟨⟨_, rfl, Lib.hid (by simp [h1, h2])⟩, rfl⟩
      · go_wp2
        go_meet
        exact ⟨⟨_, rfl, Lib.hid ⟨fun h => (by cases h), fun h => (by omega)⟩⟩, rfl⟩
    case rest =>
    obtain ⟨⟨c0, rfl, HC0⟩, rfl⟩ := hcut
    go_upto_if 114 with fail
    go_cut [20] from 98 to 154 (fun c wx => (∃ a1' : Int, c = .int .i64 a1' ∧ Hid (FirstAt (fun r => decide (n < r.m.p.number)) O (k + 1) a1')) ∧ X = wx)
    case first =>
      cases hc0 : c0 with
      | true =>
        have h1 := HC0.out.1 hc0
        have HN := Lib.hid (HF1s.out h1.1 h1.2)
        clear h1
        go_wp2
        go_meet
        exact ⟨⟨_, rfl, HN⟩, rfl⟩
      | false =>
        have HN := Lib.hid (HF1k.out fun h => by rw [HC0.out.2 h] at hc0; cases hc0)
        go_wp2
        go_meet
        exact ⟨⟨_, rfl, HN⟩, rfl⟩
    case rest =>
    obtain ⟨⟨a1', rfl, HN1⟩, rfl⟩ := hcut
    clear HF1s HF1k HC0
    go_upto_if 122 with fail
    go_cut [21] from 98 to 154 (fun c wx => (∃ a2' : Int, c = .int .i64 a2' ∧ Hid (LastAt (fun r => decide (r.m.p.number < n)) O (k + 1) a2')) ∧ X = wx)
    case first =>
      by_cases h1 : num < n
      · have HN := Lib.hid (HF2s.out h1)
        go_wp2
        go_meet
        exact ⟨⟨_, rfl, HN⟩, rfl⟩
      · have HN := Lib.hid (HF2k.out h1)
        go_wp2
        go_meet
        exact ⟨⟨_, rfl, HN⟩, rfl⟩
    case rest =>
    obtain ⟨⟨a2', rfl, HN2⟩, rfl⟩ := hcut
    clear HF2s HF2k
    go_upto_region 21 with fail
    go_cut [139] from 98 to 154 (fun c wx => (∃ c0 : Bool, c = .bool c0 ∧ Hid (c0 = true ↔ lo ≤ num ∧ num ≤ hi)) ∧ X = wx)
    case first =>
      by_cases h1 : lo ≤ num
      · by_cases h2 : num ≤ hi
        · go_wp2
          go_meet
          exact ⟨⟨_, rfl, Lib.hid (by simp [h1, h2])⟩, rfl⟩
        · go_wp2
          go_meet
          exact ⟨⟨_, rfl, Lib.hid (by simp [h1, h2])⟩, rfl⟩
      · go_wp2
        go_meet
        exact ⟨⟨_, rfl, Lib.hid ⟨fun h => (by cases h), fun h => (by omega)⟩⟩, rfl⟩
    case rest =>
    obtain ⟨⟨c0, rfl, HC0⟩, rfl⟩ := hcut
    go_upto_if 139 with fail
    go_cut [20] from 98 to 154 (fun c wx => c = .int .i64 a1' ∧ ∃ wv', Hid (wx.heap[wb]? = some (.cells #[wv'] 49 (0, 0))) ∧ Hid (RefsAt W.heap.size wx wv' (withinR lo hi (O.take (k + 1)))) ∧ Hid (Kept [wb] W wx))
    case first =>
      cases hc0 : c0 with
      | true =>
        have h1 := HC0.out.1 hc0
        have HT := Lib.hid (show withinR lo hi (O.take (k + 1)) = withinR lo hi (O.take k) ++ [r0] by rw [HTK.out, if_pos h1])
        have q1 := cell_of_row X wb 0 _ _ _ HBX.out
        have q2 := frozen_of_row X wb 0 _ _ HBX.out
        have z1 : ∀ z : Later X, z.1.cell? ⟨wb, 0, none⟩ = some wv := fun z => (z.2.cell (block_lt_of_cell q1)).trans q1
        have z2 : ∀ z : Later X, okCells z.1 ⟨lg, k * 39, none⟩ 39 = true := fun z => Later.ok l1 z
        have z3 : ∀ z : Later X, rdCells z.1 ⟨lg, k * 39, none⟩ 39 = rlineCells r0.s r0.m.g := fun z => (Later.rd l1 z).trans l2
        obtain ⟨wa, wc', hwv⟩ : ∃ a c, wv = .slice a (withinR lo hi (O.take k)).length c := by
          rcases HOWN.out.head with ⟨e, h0⟩ | ⟨g', cap', _, e, _⟩
          · exact ⟨none, 0, by rw [e, h0]; rfl⟩
          · exact ⟨_, _, e⟩
        subst hwv
        clear h1 q1 q2 i1 i2 l1 l2 j1 j2 c1
        go_wp2_with fail
        refine wp_region_mix0 [0, 1, 2, 3, 4] [5, 6, 7] (fun w' => ∃ z : Later X, w' = z.1) (by kernel_rfl) (by kernel_rfl) (by kernel_rfl) ⟨⟨_, (Below.refl _ _).drew⟩, rfl⟩ ?_
        simp only [opsAt, List.map_cons, List.map_nil, Array.getD_eq_getD_getElem?, List.getElem?_toArray, List.getElem?_cons_zero, List.getElem?_cons_succ, Option.getD_some]
        repeat (go_big_quiet_step (fail))
        refine wpQuiet_nil ?_
        clear z1 z2 z3
        refine wpR_at true (by kernel_rfl) (by kernel_rfl) ?_
        simp only [opsAt, List.map_cons, List.map_nil, Array.getD_eq_getD_getElem?, List.getElem?_toArray, List.getElem?_cons_zero, List.getElem?_cons_succ, Option.getD_some]
        have hownA := HOWN.out.row.alloc (.cells (rlineCells r0.s r0.m.g) 26)
        have hlt2 := Lib.hid (fun j hj => (HOWN.out.row.lt j hj).1)
        obtain ⟨nn, hnn⟩ : ∃ nn, nn = (withinR lo hi (O.take k)).length := ⟨_, rfl⟩
        have hlen2 : nn ≤ k := by
          rw [hnn]
          unfold withinR
          exact Nat.le_trans (List.length_filter_le _ _) (by rw [List.length_take]; omega)
        rw [← hnn] at hownA ⊢
        have HNN := Lib.hid hnn
        clear hnn
        have hsz := HKE.out.size
        have hwbl : wb < X.heap.size := (Array.getElem?_eq_some_iff.1 HBX.out).1
        have hwbW : wb < W.heap.size := (Array.getElem?_eq_some_iff.1 HBX0.out).1
        go_wp2_with fail
        refine ⟨fun _ => ⟨⟨_, (Below.refl _ _).drew.alloc (Nat.le_refl _) _⟩, rfl⟩, wpR_list [6, 7] _ _ (by kernel_rfl) ?_⟩
        simp only [opsAt, List.map_cons, List.map_nil, Array.getD_eq_getD_getElem?, List.getElem?_toArray, List.getElem?_cons_zero, List.getElem?_cons_succ, Option.getD_some]
        go_wp2_with (at_builtin; refine wpList_append_own _ rfl (.tmp 140) (.tmp 145) 49 rfl W.heap.size 26 i0 (.agg (rlineCells ⟨#[]⟩ zeroLine)) 39 128 Tryz.underlying49 hii hz0 hz1 hz2 (rlineCells_size _ _) (by decide) _ _ _ rfl hownA ⟨X.heap.size, 0, none⟩ 1 1 (rList r0) rfl (rList_length r0) ?c1 HONE.out ?c3 ?c4 ?c5 ?_)
        case c1 =>
          intro j u hj
          rw [Addr.add_lit, Nat.zero_add]
          show (X.alloc (.cells (rlineCells r0.s r0.m.g) 26)).cell? ⟨X.heap.size, j, none⟩ = some u
          rw [cells_new, rList_cells]
          simpa using hj
        case c3 => unfold maxLen; omega
        case c4 => omega
        case c5 =>
          show W.heap.size ≤ (X.alloc (.cells (rlineCells r0.s r0.m.g) 26)).heap.size
          simp
          omega
        intro v' w3 hown' hgrow _
        have hb3 : Below W.heap.size X w3 := (((Below.refl W.heap.size X).alloc hsz _).drew).grown hgrow (by show W.heap.size ≤ (X.alloc (.cells (rlineCells r0.s r0.m.g) 26)).heap.size; simp; omega) (fun j hj => hlt2.out j (by rw [← HNN.out]; exact hj))
        have hw3 : w3.heap[wb]? = some (.cells #[.slice wa nn wc'] 49 (0, 0)) := by rw [HNN.out]; exact (hb3.block wb hwbW).trans HBX.out
        have p1 := cell_of_row w3 wb 0 _ _ _ hw3
        have p2 := frozen_of_row w3 wb 0 _ _ hw3
        have HW3 := Lib.hid hw3
        have HB3 := Lib.hid hb3
        have HOWN' : Hid (RefsAt W.heap.size w3 v' (withinR lo hi (O.take (k + 1)))) := Lib.hid (by
          refine ⟨?_, fun r hr => HV.out.one r ?_, fun r hr => HV.out.names r ?_, ?_⟩
          · rw [HT.out, flatR_append, flatR_one, List.length_append, ← HNN.out]
            exact hown'
          · exact List.mem_of_mem_take (List.mem_filter.1 hr).1
          · exact List.mem_of_mem_take (List.mem_filter.1 hr).1
          · rw [HT.out, List.length_append, ← HNN.out, List.length_singleton]
            omega)
        obtain ⟨va', vn', vc', hve⟩ : ∃ a n c, v' = .slice a n c := own_slice hown'
        subst hve
        clear hownA hgrow hown' hw3 hb3
        go_wp2
        refine NoPanic.normal ?_
        have ho : ∀ j, j ≠ wb → (w3.setCell ⟨wb, 0, none⟩ (.slice va' vn' vc')).heap[j]? = w3.heap[j]? := fun j hj => heap_setCell_other w3 ⟨wb, 0, none⟩ j _ hj
        have hsz3 : (w3.setCell ⟨wb, 0, none⟩ (.slice va' vn' vc')).heap.size = w3.heap.size := by simp
        have hc3 : (w3.setCell ⟨wb, 0, none⟩ (.slice va' vn' vc')).heap[wb]? = some (.cells #[.slice va' vn' vc'] 49 (0, 0)) := by
          rw [heap_setCell_same w3 wb 0 _ _ _ HW3.out]
          simp
        go_wp2
        go_meet
        refine ⟨rfl, .slice va' vn' vc', Lib.hid hc3, Lib.hid (HOWN'.out.keep fun j hj => ho j fun e => ?_), Lib.hid ⟨HB3.out.os.trans HKE.out.os, HB3.out.tape.trans HKE.out.tape, HB3.out.output.trans HKE.out.output, by rw [hsz3]; exact Nat.le_trans hsz HB3.out.size, fun j hj hn => ?_⟩⟩
        · have := (World.ownsRow.lt HOWN'.out.row j hj).1
          omega
        · exact (ho j (by simpa using hn)).trans ((HB3.out.block j hj).trans (HKE.out.block j hj hn))
      | false =>
        have HT := Lib.hid (show withinR lo hi (O.take (k + 1)) = withinR lo hi (O.take k) by rw [HTK.out, if_neg (fun h => by rw [HC0.out.2 h] at hc0; cases hc0), List.append_nil])
        go_wp2
        go_meet
        exact ⟨rfl, _, HBX, Lib.hid (by rw [HT.out]; exact HOWN.out), HKE⟩
    case rest =>
    obtain ⟨rfl, wv', HBX2, HOWN2, HKE2⟩ := hcut
    clear HTK HOWN HBX HKE HONE HNM c1 i1 i2 l1 l2 j1 j2
    obtain ⟨m1, m2⟩ := HIDS.out wc (HKE2.out.block lg hll (by simpa using hlgw))
    obtain ⟨m3, m4⟩ := rd_of_block ((HKE2.out.block (g0 + 1) (Array.getElem?_eq_some_iff.1 HID.out).1 (by simpa using hne)).trans HID.out)
    generalize r0.m.p.id = y at m2 HF3s HF3k
    go_upto_region 23 with fail
    go_cut [153] from 98 to 154 (fun c wx => (∃ c0 : Bool, c = .bool c0 ∧ Hid (c0 = true ↔ y = x)) ∧ ∃ q, wx = wc.drewN q)
    case first =>
      by_cases h1 : y = x
      · have hd : decide (y = x) = true := decide_eq_true h1
        have HD := Lib.hid h1
        clear h1
        go_quiet (fail)
        go_wp2
        go_meet
        exact ⟨⟨_, rfl, Lib.hid ⟨fun _ => HD.out, fun _ => rfl⟩⟩, _, rfl⟩
      · have hd : decide (y = x) = false := decide_eq_false h1
        have HD := Lib.hid h1
        clear h1
        go_quiet (fail)
        go_wp2
        go_meet
        exact ⟨⟨_, rfl, Lib.hid ⟨fun h => (by cases h), fun h => absurd h HD.out⟩⟩, _, rfl⟩
    case rest =>
    obtain ⟨⟨c0, rfl, HC0⟩, q, rfl⟩ := hcut
    clear m1 m2 m3 m4
    have HFIN : Hid (∀ (a3' : Int) (f' : Array Value), LastAt (fun r => decide (r.m.p.id = x)) O (k + 1) a3' → VS f' n lo hi g0 ib va vn vc (some ⟨lg, 0, none⟩) O.length lc wb a1' a2' a3' ((k : Int) + 1) → VwI n lo hi g0 ib va vn vc (some ⟨lg, 0, none⟩) lc wb x O W (k + 1) ⟨f', []⟩ (wc.drewN q)) := Lib.hid fun a3' f' h1 h2 =>
      ⟨hlt, rfl, ⟨a1', a2', a3', by rw [show ((k + 1 : Nat) : Int) = (k : Int) + 1 by omega]; exact h2, HN1.out, HN2.out, h1⟩, ⟨wv', by rw [World.heap_drewN]; exact HBX2.out, HOWN2.out.keep fun j _ => by rw [World.heap_drewN]⟩, ⟨HKE2.out.os, HKE2.out.tape, HKE2.out.output, HKE2.out.size, HKE2.out.block⟩⟩
    cases hc0 : c0 with
    | true =>
      have HN3 := Lib.hid (HF3s.out (HC0.out.1 hc0))
      go_wp2
      exact ⟨⟨k + 1, HFIN.out _ _ HN3.out ⟨rfl, rfl, rfl, rfl, rfl, rfl, rfl, rfl, rfl, rfl, rfl, rfl, rfl, rfl, rfl⟩⟩, HMU.out _ _ (HFIN.out _ _ HN3.out ⟨rfl, rfl, rfl, rfl, rfl, rfl, rfl, rfl, rfl, rfl, rfl, rfl, rfl, rfl, rfl⟩) hlt⟩
    | false =>
      have HN3 := Lib.hid (HF3k.out fun h => by rw [HC0.out.2 h] at hc0; cases hc0)
      go_wp2
      exact ⟨⟨k + 1, HFIN.out _ _ HN3.out ⟨rfl, rfl, rfl, rfl, rfl, rfl, rfl, rfl, rfl, rfl, rfl, rfl, rfl, rfl, rfl⟩⟩, HMU.out _ _ (HFIN.out _ _ HN3.out ⟨rfl, rfl, rfl, rfl, rfl, rfl, rfl, rfl, rfl, rfl, rfl, rfl, rfl, rfl, rfl⟩) hlt⟩
  · obtain rfl : k = O.length := by omega
    have hltz : ¬ (O.length : Int) < (O.length : Int) := by omega
    have HF := Lib.hid (And.intro hf1 (And.intro hf2 hf3))
    have HBO := Lib.hid (And.intro hbx hown)
    have HKP := Lib.hid hkept
    clear HINV HMU hf1 hf2 hf3 hbx hown hkept
    go_wp2
    exact HQ.out _ _ ⟨hle, rfl, ⟨a1, a2, a3, ⟨rfl, rfl, rfl, rfl, rfl, rfl, rfl, rfl, rfl, rfl, rfl, rfl, rfl, rfl, rfl⟩, HF.out⟩, ⟨_, HBO.out⟩, HKP.out⟩

end Go.Proofs.YtdjaphcelpchaaaGreatDoor

namespace Go.Proofs.YtdjaphcelpchaaaGreatDoor
open Go Go.RowKit Go.Proofs

attribute [local go_sem ↓] ex_load_id ex_store_id ex_load_line ex_store_line ex_load_rline ex_store_rline ex_alloc_line ex_build_line ex_alloc_rline ex_build_rline

attribute [local go_sem] ld_id st_id ld_line st_line ld_rline st_rline guard_id okCells_drew rdCells_drew okCells_drewN rdCells_drewN rowOk_drew rowOk_cells okCells_cells rdCells_cells setRow_drew setRow_new setRow_past

set_option maxRecDepth 100000 in
set_option maxHeartbeats 4000000 in
theorem vw28a {ops : Array Oper} (hreg : vwReg 28 = .region 28 ops true) (Q : Exit → Act → World → Prop) (t : Array Value) (c : Nat → Value) (g0 : Nat) (la : Option Addr) (ln lc : Nat) (a1 a2 a3 : Int) (y1 y2 y3 : Nat) (b1 b2 b3 : Bool) (O : List MR) (g : GLine) (hs : S28 t c g0 la ln lc a1 a2 a3 y1 y2 y3 b1 b2 b3) (W : World) (hh : Hit 0 W O a1 b1 g)
    (hK : ∀ t' W', S28 t' c g0 la ln lc a1 a2 a3 y1 y2 y3 b1 b2 b3 → t'.getD 180 undef = .bool false → Below W.heap.size W W' → wpSt Tryz.prog ops Q [0, 1, 2, 3, 4] 80 ⟨t', []⟩ W') : wpSt Tryz.prog ops Q [] 85 ⟨t, []⟩ W := by
  conv at hreg => lhs; whnf
  simp only [List.append_eq, List.cons_append, List.nil_append] at hreg
  cases hreg
  obtain ⟨f, hf, hft⟩ := hs.out
  rw [hft]
  have HK := Lib.hid hK
  clear hK hft hf hs
  rcases hh with ⟨rfl, rfl, -⟩ | ⟨j, r, v, rfl, -, rfl, -, -⟩
  · refine wp_stage [0, 1] [2, 3, 4] 80 (fun w' => ∃ z : Later W, w' = z.1) (by kernel_rfl) (by kernel_rfl) (by kernel_rfl) rfl rfl ⟨⟨_, Below.refl _ _⟩, rfl⟩ ?_
    simp only [opsAt, List.map_cons, List.map_nil, Array.getD_eq_getD_getElem?, List.getElem?_toArray, List.getElem?_cons_zero, List.getElem?_cons_succ, Option.getD_some]
    repeat (go_big_quiet_step (fail))
    refine wpQuiet_nil ?_
    refine wpN_at true (by kernel_rfl) (by kernel_rfl) ?_
    simp only [opsAt, List.map_cons, List.map_nil, Array.getD_eq_getD_getElem?, List.getElem?_toArray, List.getElem?_cons_zero, List.getElem?_cons_succ, Option.getD_some]
    go_wp2_with fail
    refine ⟨fun _ => ⟨⟨_, Below.refl _ _⟩, rfl⟩, wpN_list [3, 4] _ _ (by kernel_rfl) ?_⟩
    simp only [opsAt, List.map_cons, List.map_nil, Array.getD_eq_getD_getElem?, List.getElem?_toArray, List.getElem?_cons_zero, List.getElem?_cons_succ, Option.getD_some]
    go_wp2
    refine NoPanic.normal ?_
    rw [QS_normal]
    exact HK.out _ _ ⟨rfl, rfl, rfl, rfl, rfl, rfl, rfl, rfl, rfl, rfl, rfl, rfl, rfl, rfl, rfl, rfl, rfl, rfl, rfl⟩ rfl (Below.refl _ _)
  · have hjz : (0 : Int) ≤ (j : Int) := by omega
    refine wp_stage [0, 1] [2, 3, 4] 80 (fun w' => ∃ z : Later W, w' = z.1) (by kernel_rfl) (by kernel_rfl) (by kernel_rfl) rfl rfl ⟨⟨_, Below.refl _ _⟩, rfl⟩ ?_
    simp only [opsAt, List.map_cons, List.map_nil, Array.getD_eq_getD_getElem?, List.getElem?_toArray, List.getElem?_cons_zero, List.getElem?_cons_succ, Option.getD_some]
    repeat (go_big_quiet_step (fail))
    refine wpQuiet_nil ?_
    refine wpN_at true (by kernel_rfl) (by kernel_rfl) ?_
    simp only [opsAt, List.map_cons, List.map_nil, Array.getD_eq_getD_getElem?, List.getElem?_toArray, List.getElem?_cons_zero, List.getElem?_cons_succ, Option.getD_some]
    go_wp2_with fail
    refine ⟨fun _ => ⟨⟨_, Below.refl _ _⟩, rfl⟩, wpN_list [3, 4] _ _ (by kernel_rfl) ?_⟩
    simp only [opsAt, List.map_cons, List.map_nil, Array.getD_eq_getD_getElem?, List.getElem?_toArray, List.getElem?_cons_zero, List.getElem?_cons_succ, Option.getD_some]
    go_wp2
    refine NoPanic.normal ?_
    rw [QS_normal]
    exact HK.out _ _ ⟨rfl, rfl, rfl, rfl, rfl, rfl, rfl, rfl, rfl, rfl, rfl, rfl, rfl, rfl, rfl, rfl, rfl, rfl, rfl⟩ rfl (Below.refl _ _)

set_option maxRecDepth 100000 in
set_option maxHeartbeats 4000000 in
theorem vw28b {ops : Array Oper} (hreg : vwReg 28 = .region 28 ops true) (Q : Exit → Act → World → Prop) (t : Array Value) (c : Nat → Value) (g0 : Nat) (la : Option Addr) (ln lc : Nat) (a1 a2 a3 : Int) (y1 y2 y3 : Nat) (b1 b2 b3 : Bool) (O : List MR) (g : GLine) (hs : S28 t c g0 la ln lc a1 a2 a3 y1 y2 y3 b1 b2 b3) (hc : t.getD 180 undef = .bool false) (W : World) (hh : Hit 0 W O a2 b2 g)
    (hK : ∀ t' W', S28 t' c g0 la ln lc a1 a2 a3 y1 y2 y3 b1 b2 b3 → t'.getD 186 undef = .bool false → Below W.heap.size W W' → wpSt Tryz.prog ops Q [0, 1, 2, 3, 4, 5, 6, 7, 8, 9, 10] 74 ⟨t', []⟩ W') : wpSt Tryz.prog ops Q [0, 1, 2, 3, 4] 80 ⟨t, []⟩ W := by
  conv at hreg => lhs; whnf
  simp only [List.append_eq, List.cons_append, List.nil_append] at hreg
  cases hreg
  obtain ⟨f, hf, hft⟩ := hs.out
  have hc' : f 180 = .bool false := (hf 180).trans hc
  rw [hft, hc']
  have HK := Lib.hid hK
  clear hK hft hf hs hc hc'
  rcases hh with ⟨rfl, rfl, -⟩ | ⟨j, r, v, rfl, -, rfl, -, -⟩
  · refine wp_stage [5, 6] [7, 8, 9, 10] 74 (fun w' => ∃ z : Later W, w' = z.1) (by kernel_rfl) (by kernel_rfl) (by kernel_rfl) rfl rfl ⟨⟨_, Below.refl _ _⟩, rfl⟩ ?_
    simp only [opsAt, List.map_cons, List.map_nil, Array.getD_eq_getD_getElem?, List.getElem?_toArray, List.getElem?_cons_zero, List.getElem?_cons_succ, Option.getD_some]
    repeat (go_big_quiet_step (fail))
    refine wpQuiet_nil ?_
    refine wpN_at true (by kernel_rfl) (by kernel_rfl) ?_
    simp only [opsAt, List.map_cons, List.map_nil, Array.getD_eq_getD_getElem?, List.getElem?_toArray, List.getElem?_cons_zero, List.getElem?_cons_succ, Option.getD_some]
    go_wp2_with fail
    refine ⟨fun _ => ⟨⟨_, Below.refl _ _⟩, rfl⟩, wpN_list [8, 9, 10] _ _ (by kernel_rfl) ?_⟩
    simp only [opsAt, List.map_cons, List.map_nil, Array.getD_eq_getD_getElem?, List.getElem?_toArray, List.getElem?_cons_zero, List.getElem?_cons_succ, Option.getD_some]
    go_wp2
    refine NoPanic.normal ?_
    rw [QS_normal]
    exact HK.out _ _ ⟨rfl, rfl, rfl, rfl, rfl, rfl, rfl, rfl, rfl, rfl, rfl, rfl, rfl, rfl, rfl, rfl, rfl, rfl, rfl⟩ rfl (Below.refl _ _)
  · have hjz : (0 : Int) ≤ (j : Int) := by omega
    refine wp_stage [5, 6] [7, 8, 9, 10] 74 (fun w' => ∃ z : Later W, w' = z.1) (by kernel_rfl) (by kernel_rfl) (by kernel_rfl) rfl rfl ⟨⟨_, Below.refl _ _⟩, rfl⟩ ?_
    simp only [opsAt, List.map_cons, List.map_nil, Array.getD_eq_getD_getElem?, List.getElem?_toArray, List.getElem?_cons_zero, List.getElem?_cons_succ, Option.getD_some]
    repeat (go_big_quiet_step (fail))
    refine wpQuiet_nil ?_
    refine wpN_at true (by kernel_rfl) (by kernel_rfl) ?_
    simp only [opsAt, List.map_cons, List.map_nil, Array.getD_eq_getD_getElem?, List.getElem?_toArray, List.getElem?_cons_zero, List.getElem?_cons_succ, Option.getD_some]
    go_wp2_with fail
    refine ⟨fun _ => ⟨⟨_, Below.refl _ _⟩, rfl⟩, wpN_list [8, 9, 10] _ _ (by kernel_rfl) ?_⟩
    simp only [opsAt, List.map_cons, List.map_nil, Array.getD_eq_getD_getElem?, List.getElem?_toArray, List.getElem?_cons_zero, List.getElem?_cons_succ, Option.getD_some]
    go_wp2
    refine NoPanic.normal ?_
    rw [QS_normal]
    exact HK.out _ _ ⟨rfl, rfl, rfl, rfl, rfl, rfl, rfl, rfl, rfl, rfl, rfl, rfl, rfl, rfl, rfl, rfl, rfl, rfl, rfl⟩ rfl (Below.refl _ _)

set_option maxRecDepth 100000 in
set_option maxHeartbeats 4000000 in
theorem vw28c {ops : Array Oper} (hreg : vwReg 28 = .region 28 ops true) (Q : Exit → Act → World → Prop) (t : Array Value) (c : Nat → Value) (g0 : Nat) (la : Option Addr) (ln lc : Nat) (a1 a2 a3 : Int) (y1 y2 y3 : Nat) (b1 b2 b3 : Bool) (O : List MR) (g : GLine) (hs : S28 t c g0 la ln lc a1 a2 a3 y1 y2 y3 b1 b2 b3) (hc : t.getD 186 undef = .bool false) (W : World) (hh : Hit 0 W O a3 b3 g)
    (hK : ∀ t' W', S28 t' c g0 la ln lc a1 a2 a3 y1 y2 y3 b1 b2 b3 → t'.getD 192 undef = .bool false → Below W.heap.size W W' → wpSt Tryz.prog ops Q [0, 1, 2, 3, 4, 5, 6, 7, 8, 9, 10, 11, 12, 13, 14, 15, 16] 68 ⟨t', []⟩ W') : wpSt Tryz.prog ops Q [0, 1, 2, 3, 4, 5, 6, 7, 8, 9, 10] 74 ⟨t, []⟩ W := by
  conv at hreg => lhs; whnf
  simp only [List.append_eq, List.cons_append, List.nil_append] at hreg
  cases hreg
  obtain ⟨f, hf, hft⟩ := hs.out
  have hc' : f 186 = .bool false := (hf 186).trans hc
  rw [hft, hc']
  have HK := Lib.hid hK
  clear hK hft hf hs hc hc'
  rcases hh with ⟨rfl, rfl, -⟩ | ⟨j, r, v, rfl, -, rfl, -, -⟩
  · refine wp_stage [11, 12] [13, 14, 15, 16] 68 (fun w' => ∃ z : Later W, w' = z.1) (by kernel_rfl) (by kernel_rfl) (by kernel_rfl) rfl rfl ⟨⟨_, Below.refl _ _⟩, rfl⟩ ?_
    simp only [opsAt, List.map_cons, List.map_nil, Array.getD_eq_getD_getElem?, List.getElem?_toArray, List.getElem?_cons_zero, List.getElem?_cons_succ, Option.getD_some]
    repeat (go_big_quiet_step (fail))
    refine wpQuiet_nil ?_
    refine wpN_at true (by kernel_rfl) (by kernel_rfl) ?_
    simp only [opsAt, List.map_cons, List.map_nil, Array.getD_eq_getD_getElem?, List.getElem?_toArray, List.getElem?_cons_zero, List.getElem?_cons_succ, Option.getD_some]
    go_wp2_with fail
    refine ⟨fun _ => ⟨⟨_, Below.refl _ _⟩, rfl⟩, wpN_list [14, 15, 16] _ _ (by kernel_rfl) ?_⟩
    simp only [opsAt, List.map_cons, List.map_nil, Array.getD_eq_getD_getElem?, List.getElem?_toArray, List.getElem?_cons_zero, List.getElem?_cons_succ, Option.getD_some]
    go_wp2
    refine NoPanic.normal ?_
    rw [QS_normal]
    exact HK.out _ _ ⟨rfl, rfl, rfl, rfl, rfl, rfl, rfl, rfl, rfl, rfl, rfl, rfl, rfl, rfl, rfl, rfl, rfl, rfl, rfl⟩ rfl (Below.refl _ _)
  · have hjz : (0 : Int) ≤ (j : Int) := by omega
    refine wp_stage [11, 12] [13, 14, 15, 16] 68 (fun w' => ∃ z : Later W, w' = z.1) (by kernel_rfl) (by kernel_rfl) (by kernel_rfl) rfl rfl ⟨⟨_, Below.refl _ _⟩, rfl⟩ ?_
    simp only [opsAt, List.map_cons, List.map_nil, Array.getD_eq_getD_getElem?, List.getElem?_toArray, List.getElem?_cons_zero, List.getElem?_cons_succ, Option.getD_some]
    repeat (go_big_quiet_step (fail))
    refine wpQuiet_nil ?_
    refine wpN_at true (by kernel_rfl) (by kernel_rfl) ?_
    simp only [opsAt, List.map_cons, List.map_nil, Array.getD_eq_getD_getElem?, List.getElem?_toArray, List.getElem?_cons_zero, List.getElem?_cons_succ, Option.getD_some]
    go_wp2_with fail
    refine ⟨fun _ => ⟨⟨_, Below.refl _ _⟩, rfl⟩, wpN_list [14, 15, 16] _ _ (by kernel_rfl) ?_⟩
    simp only [opsAt, List.map_cons, List.map_nil, Array.getD_eq_getD_getElem?, List.getElem?_toArray, List.getElem?_cons_zero, List.getElem?_cons_succ, Option.getD_some]
    go_wp2
    refine NoPanic.normal ?_
    rw [QS_normal]
    exact HK.out _ _ ⟨rfl, rfl, rfl, rfl, rfl, rfl, rfl, rfl, rfl, rfl, rfl, rfl, rfl, rfl, rfl, rfl, rfl, rfl, rfl⟩ rfl (Below.refl _ _)

end Go.Proofs.YtdjaphcelpchaaaGreatDoor

namespace Go.Proofs.YtdjaphcelpchaaaGreatDoor
open Go Go.RowKit Go.Proofs

attribute [local go_sem ↓] ex_load_id ex_store_id ex_load_line ex_store_line ex_load_rline ex_store_rline ex_alloc_line ex_build_line ex_alloc_rline ex_build_rline

attribute [local go_sem] ld_id st_id ld_line st_line ld_rline st_rline guard_id okCells_drew rdCells_drew okCells_drewN rdCells_drewN rowOk_drew rowOk_cells okCells_cells rdCells_cells setRow_drew setRow_new setRow_past

set_option maxRecDepth 100000 in
set_option maxHeartbeats 4000000 in
theorem vw28n {ops : Array Oper} (hreg : vwReg 28 = .region 28 ops true) (Q : Exit → Act → World → Prop) (t : Array Value) (c : Nat → Value) (g0 : Nat) (la : Option Addr) (ln lc : Nat) (a1 a2 a3 : Int) (y1 y2 y3 : Nat) (b1 b2 b3 : Bool) (s : ByteArray) (O : List MR) (g : GLine) (hln : ln = O.length) (hs : S28 t c g0 la ln lc a1 a2 a3 y1 y2 y3 b1 b2 b3) (hc : t.getD 192 undef = .bool false) (W : World) (hw : VwL g0 s la lc O W) (hy : LineVar W y1 g) (hh : Hit 0 W O a1 b1 g) (hO : ∀ (j : Nat) (r : MR), a1 = (j : Int) → O[j]? = some r → r.s = s ∧ r.m.p.ids.length ≤ 20)
    (hK : ∀ t' W', S28 t' c g0 la ln lc a1 a2 a3 y1 y2 y3 b1 b2 b3 → t'.getD 206 undef = .bool false → Below W.heap.size W W' → wpSt Tryz.prog ops Q [0, 1, 2, 3, 4, 5, 6, 7, 8, 9, 10, 11, 12, 13, 14, 15, 16, 17, 18, 19, 20, 21, 22, 23, 24, 25, 26, 27, 28, 29, 30] 54 ⟨t', []⟩ W') : wpSt Tryz.prog ops Q [0, 1, 2, 3, 4, 5, 6, 7, 8, 9, 10, 11, 12, 13, 14, 15, 16] 68 ⟨t, []⟩ W := by
  conv at hreg => lhs; whnf
  simp only [List.append_eq, List.cons_append, List.nil_append] at hreg
  cases hreg
  subst hln
  obtain ⟨f, hf, hft⟩ := hs.out
  have hc' : f 192 = .bool false := (hf 192).trans hc
  rw [hft, hc']
  have HK := Lib.hid hK
  have HW := Lib.hid hw
  have HOO := Lib.hid hO
  have hfew := hw.refs.few
  have q1 := cell_of_row W g0 0 _ _ _ hw.g
  obtain ⟨q2, q3⟩ := hy.rd
  clear hK hft hc hc' hf hs
  rcases hh with ⟨rfl, rfl, rfl⟩ | ⟨j, r, v, rfl, hr, rfl, rfl, hI⟩
  · clear hy
    refine wp_stage [] [17, 18] 66 (fun w' => ∃ z : Later W, w' = z.1) (by kernel_rfl) (by kernel_rfl) (by kernel_rfl) rfl rfl ⟨⟨_, Below.refl _ _⟩, rfl⟩ ?_
    simp only [opsAt, List.map_nil]
    refine wpQuiet_nil ?_
    refine wpN_list [17, 18] _ _ (by kernel_rfl) ?_
    simp only [opsAt, List.map_cons, List.map_nil, Array.getD_eq_getD_getElem?, List.getElem?_toArray, List.getElem?_cons_zero, List.getElem?_cons_succ, Option.getD_some]
    go_wp2
    refine NoPanic.normal ?_
    rw [QS_normal]
    refine wp_stage [19, 20, 22, 23, 24, 25] [21, 26, 27, 28, 29, 30] 54 (fun w' => ∃ z : Later W, w' = z.1) (by kernel_rfl) (by kernel_rfl) (by kernel_rfl) rfl rfl ⟨⟨_, Below.refl _ _⟩, rfl⟩ ?_
    simp only [opsAt, List.map_cons, List.map_nil, Array.getD_eq_getD_getElem?, List.getElem?_toArray, List.getElem?_cons_zero, List.getElem?_cons_succ, Option.getD_some]
    repeat (go_big_quiet_step (fail))
    refine wpQuiet_nil ?_
    refine wpN_at true (by kernel_rfl) (by kernel_rfl) ?_
    simp only [opsAt, List.map_cons, List.map_nil, Array.getD_eq_getD_getElem?, List.getElem?_toArray, List.getElem?_cons_zero, List.getElem?_cons_succ, Option.getD_some]
    go_wp2
    refine ⟨fun _ => ⟨⟨_, Below.refl _ _⟩, rfl⟩, wpN_list [26, 27, 28, 29, 30] _ _ (by kernel_rfl) ?_⟩
    simp only [opsAt, List.map_cons, List.map_nil, Array.getD_eq_getD_getElem?, List.getElem?_toArray, List.getElem?_cons_zero, List.getElem?_cons_succ, Option.getD_some]
    go_wp2
    refine NoPanic.normal ?_
    rw [QS_normal]
    exact HK.out _ _ ⟨rfl, rfl, rfl, rfl, rfl, rfl, rfl, rfl, rfl, rfl, rfl, rfl, rfl, rfl, rfl, rfl, rfl, rfl, rfl⟩ rfl (Below.refl _ _)
  · obtain ⟨hjl, hrj⟩ := List.getElem?_eq_some_iff.1 hr
    have hjz : (0 : Int) ≤ (j : Int) := by omega
    have hjlz : (j : Int) < (O.length : Int) := by omega
    obtain ⟨hrs, hrl⟩ := hO j r rfl hr
    rcases hw.refs.head with ⟨_, e0⟩ | ⟨lg, lcap, cur, hlve, _, hll, hle, _, hlcur, hlcell⟩
    · rw [e0] at hjl; cases hjl
    cases hlve
    obtain ⟨i1, i2⟩ := rAt_rd hlcell hjl
    rw [hrj, hrs] at i2
    have z1 : ∀ z : Later W, z.1.cell? ⟨g0, 0, none⟩ = some (.string s) := fun z => (z.2.cell (block_lt_of_cell q1)).trans q1
    have z2 : ∀ z : Later W, okCells z.1 ⟨y1, 0, none⟩ 38 = true := fun z => Later.ok q2 z
    have z3 : ∀ z : Later W, rdCells z.1 ⟨y1, 0, none⟩ 38 = lineCells { r.m.g with refs := v } := fun z => (Later.rd q2 z).trans q3
    have z4 : ∀ z : Later W, okCells z.1 ⟨lg, j * 39, none⟩ 39 = true := fun z => Later.ok i1 z
    have z5 : ∀ z : Later W, rdCells z.1 ⟨lg, j * 39, none⟩ 39 = rlineCells s { r.m.g with refs := r.m.v } := fun z => (Later.rd i1 z).trans i2
    have HI := Lib.hid hI
    have HI2 := Lib.hid (hw.ids r (List.mem_of_getElem? hr))
    clear q1 q2 q3 i1 i2 hlcell hlcur hr hrj hrs hy hw hO hI hle
    refine wp_stage [] [17, 18] 66 (fun w' => ∃ z : Later W, w' = z.1) (by kernel_rfl) (by kernel_rfl) (by kernel_rfl) rfl rfl ⟨⟨_, Below.refl _ _⟩, rfl⟩ ?_
    simp only [opsAt, List.map_nil]
    refine wpQuiet_nil ?_
    refine wpN_list [17, 18] _ _ (by kernel_rfl) ?_
    simp only [opsAt, List.map_cons, List.map_nil, Array.getD_eq_getD_getElem?, List.getElem?_toArray, List.getElem?_cons_zero, List.getElem?_cons_succ, Option.getD_some]
    go_wp2
    refine NoPanic.normal ?_
    rw [QS_normal]
    refine wp_stage [19, 20, 22, 23, 24, 25] [21, 26, 27, 28, 29, 30] 54 (fun w' => ∃ z : Later W, w' = z.1) (by kernel_rfl) (by kernel_rfl) (by kernel_rfl) rfl rfl ⟨⟨_, Below.refl _ _⟩, rfl⟩ ?_
    simp only [opsAt, List.map_cons, List.map_nil, Array.getD_eq_getD_getElem?, List.getElem?_toArray, List.getElem?_cons_zero, List.getElem?_cons_succ, Option.getD_some]
    repeat (go_big_quiet_step (fail))
    refine wpQuiet_nil ?_
    clear z1 z2 z3 z4 z5
    refine wpN_at true (by kernel_rfl) (by kernel_rfl) ?_
    simp only [opsAt, List.map_cons, List.map_nil, Array.getD_eq_getD_getElem?, List.getElem?_toArray, List.getElem?_cons_zero, List.getElem?_cons_succ, Option.getD_some]
    have honx : v.oneCell' = true := HI.out.one
    have hcs : ({ r.m.g with refs := v } : GLine).refs.cells = #[({ r.m.g with refs := v } : GLine).refs] := by
      obtain ⟨a', c', he, _⟩ := HI.out.at
      show v.cells = #[v]
      rw [he]; rfl
    go_wp2_with fail
    refine (back_any s { r.m.g with refs := v } W hcs honx).mono ?_
    rintro r0 W2 ⟨rfl, hb2⟩
    have HB2 := Lib.hid hb2
    go_wp2_with fail
    refine ⟨fun _ => ⟨⟨_, hb2⟩, rfl⟩, wpN_list [26, 27, 28, 29, 30] _ _ (by kernel_rfl) ?_⟩
    clear hb2
    simp only [opsAt, List.map_cons, List.map_nil, Array.getD_eq_getD_getElem?, List.getElem?_toArray, List.getElem?_cons_zero, List.getElem?_cons_succ, Option.getD_some]
    have HSM := Lib.hid (same_true s r.m.g v r.m.v r.m.p.ids W2 (HI.out.at.below HB2.out) (HI2.out.below HB2.out) (by omega))
    go_wp2_with fail
    refine HSM.out.mono ?_
    rintro r0 W3 ⟨rfl, hb3⟩
    have HB3 := Lib.hid (HB2.out.trans (hb3.mono HB2.out.size) : Below W.heap.size W W3)
    clear hb3 HSM
    go_wp2
    refine NoPanic.normal ?_
    rw [QS_normal]
    exact HK.out _ _ ⟨rfl, rfl, rfl, rfl, rfl, rfl, rfl, rfl, rfl, rfl, rfl, rfl, rfl, rfl, rfl, rfl, rfl, rfl, rfl⟩ rfl HB3.out

end Go.Proofs.YtdjaphcelpchaaaGreatDoor
