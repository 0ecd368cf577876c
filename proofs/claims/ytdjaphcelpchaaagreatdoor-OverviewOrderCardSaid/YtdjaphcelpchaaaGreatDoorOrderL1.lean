/- Parts of the proofs about bulletinlaw28: Join, OpenLine, Range, LawSame, LawOps, OpenOps, Equal, EqualM, Groups2. -/
import Derived.Test.YtdjaphcelpchaaaGreatDoorShelf
import Derived.Test.YtdjaphcelpchaaaGreatDoorK1
import Derived.Test.YtdjaphcelpchaaaGreatDoorK2
import Derived.Test.YtdjaphcelpchaaaGreatDoorK3
import Derived.Test.YtdjaphcelpchaaaGreatDoorK4
import Derived.Test.YtdjaphcelpchaaaGreatDoorK5
import Derived.Test.YtdjaphcelpchaaaGreatDoorK6
import Derived.Test.YtdjaphcelpchaaaGreatDoorShelf2
import Derived.Test.YtdjaphcelpchaaaGreatDoorK7
import Derived.Test.YtdjaphcelpchaaaGreatDoorK8
import Derived.Test.YtdjaphcelpchaaaGreatDoorCards
import Derived.Test.YtdjaphcelpchaaaGreatDoorTie
import Derived.ProofKit
import Derived.OpenShut
import Derived.Lay
import Derived.LaidSub
import Derived.Deep.DeepHandedRow
import Derived.Lib.LaidTab
import Derived.Shelf.Vars
import Derived.SizedLaws
import Derived.Maps.RangeRun

namespace Go.Proofs.YtdjaphcelpchaaaGreatDoor
open Go Go.RowKit Go.Proofs Go.ChangeShapes Go.WideShapes Go.ChangeAt

theorem own : ownKnob Tryz.prog.godebug = none := by kernel_rfl
theorem laidOut : laidOutB Tryz.prog = true := by kernel_rfl

/-- The list of variables that every row of this seat names with what they hold. -/
def laidAll : List (String × DataW Unit) := Rows.overviewParseRow.laid

theorem gl_of {W : World} (h : laidMetH Tryz.prog laidAll W) (hs : W.ShapedOpen Tryz.prog) : Gl W where
  tab := by
    have h1 := h.filter (fun x => x.1 == "internal/strconv.uint64pow10")
    have e : laidAll.filter (fun x => x.1 == "internal/strconv.uint64pow10") = [("internal/strconv.uint64pow10", Lib.tabData .u64 Lib.pow10Tab)] := by kernel_rfl
    rw [e] at h1
    exact Lib.tabIs_of_head (rest := []) (g := 1) (by kernel_rfl) (by kernel_rfl) Tryz.underlying210 Tryz.underlying174 (by kernel_rfl) (by kernel_rfl) h1
  len := cell_of_shapedOpen_int (g := 0) (t := 3) (zero := #[.int .i64 0]) hs (by rw [globals_size]; decide) (by kernel_rfl) rfl (by kernel_rfl) (by kernel_rfl) Tryz.underlying3
  size := by
    have h0 : (((begin Tryz.prog (fun _ _ => 0) default).world.heap[5]?).bind Obj.row?).isSome = true := by kernel_rfl
    obtain ⟨⟨zero, t⟩, hz⟩ := Option.isSome_iff_exists.1 h0
    obtain ⟨cs, hh, _, _⟩ := hs.1 5 zero t (by rw [globals_size]; decide) hz
    rw [globals_size]
    have := (Array.getElem?_eq_some_iff.1 hh).1
    omega

section
variable {H : Type} {enc : TypeId × Value → H}

theorem trodAll_stays {P : Program} {W W' : World} (hl : laidOutB P = true) (hb : Below W.heap.size W W') (sp : Nat → Bool) (ts : List TypeId) : ∀ (vs : List Value) (ds : List (DataW H)) (p : List MemPlace),
    (∀ t ∈ ts, P.readableRec t = true ∧ t < P.types.size) → DataW.TrodAll enc P W 0 (fun _ => true) true ts vs ds p → (∀ x ∈ p, x.block < W.heap.size) → (∀ x ∈ p, sp x.block = true) → DataW.TrodAll enc P W' 0 sp true ts vs ds p := by
  induction ts with
  | nil =>
    intro vs ds p _ h _ _
    obtain ⟨rfl, rfl, rfl⟩ := trodAll_nil h
    exact trodAll_mk0
  | cons t ts ih =>
    intro vs ds p hr h hlt hsp
    obtain ⟨v, vs', d, ds', p1, q1, rfl, rfl, rfl, h1, h2⟩ := trodAll_cons h
    have ht := hr t (by simp)
    exact trodAll_cons_mk (WideElems.Trod_stays hl ht.1 ht.2 h1 (fun x hx => hb.same (hlt x (List.mem_append_left _ hx))) (fun x hx => hsp x (List.mem_append_left _ hx)))
      (ih vs' ds' q1 (fun u hu => hr u (by simp [hu])) h2 (fun x hx => hlt x (List.mem_append_right _ hx)) (fun x hx => hsp x (List.mem_append_right _ hx)))

/-- A law of this seat: its walk returned true and left all that was there as it was: the row's post holds. -/
theorem law_post {f : Func} {s : ChangeSpec} {W W' : World} {args : Array Value} {ds gs : List (DataW H)} {before : List MemPlace} (hvars : s.vars = []) (hrt : f.resultTypes = #[4])
    (hW : DataW.Whole enc Tryz.prog f.params.toList s.vars false W args.toList ds gs before) (hr : ∀ t ∈ f.params.toList, Tryz.prog.readableRec t = true ∧ t < Tryz.prog.types.size)
    (hfn : s.fn H ds = { results := [.lit (.bool true)], args := ds }) (hb : Below W.heap.size W W') : s.post enc Tryz.prog f false true false false W args (.bool true) W' := by
  have hlt : ∀ x ∈ before, x.block < W.heap.size := fun x hx => hW.lt x hx
  have hW0 := hW
  obtain ⟨p, q, hA, hV, rfl, _, _⟩ := hW
  rw [hvars] at hV
  obtain ⟨rfl, rfl⟩ := trodVars_none hV
  rw [List.append_nil] at hW0 hlt
  refine ⟨ds, [], p, [], p, [], hW0, ?_, ?_, ?_, ?_, fun h => by cases h⟩
  · rw [List.append_nil, hfn, hrt]
    exact trodAll_mk1 (shut_bool Tryz.underlying4 _)
  · rw [List.append_nil, hfn]
    exact trodAll_stays laidOut hb _ _ _ _ _ hr hA hlt (fun x hx => by simpa using hlt x hx)
  · rw [List.append_nil, hfn, hvars]
    rfl
  · exact World.keptBut_mono (fun x hx => ⟨hx, .inr (.inl hx)⟩) (hb.frame (· ∈ p))
end

end Go.Proofs.YtdjaphcelpchaaaGreatDoor

namespace Go.Proofs.YtdjaphcelpchaaaGreatDoor
open Go Go.RowKit Go.Proofs Go.ChangeShapes Go.WideShapes Go.ChangeAt

section
variable {H : Type} {enc : TypeId × Value → H} {W : World} {base fuel : Nat} {sp : Nat → Bool} {held : Bool}

theorem cells_id : Tryz.prog.cellsOf 23 = 32 := by kernel_rfl
theorem cells_byte : Tryz.prog.cellsOf 5 = 1 := by kernel_rfl
theorem cells_int : Tryz.prog.cellsOf 3 = 1 := by kernel_rfl
theorem cells_string : Tryz.prog.cellsOf 9 = 1 := by kernel_rfl
theorem cells_ids : Tryz.prog.cellsOf 24 = 1 := by kernel_rfl
theorem cells_rline : Tryz.prog.cellsOf 26 = 39 := by kernel_rfl
theorem bytes_id : Tryz.prog.bytesOf 23 = 32 := by kernel_rfl

theorem take_one {cs : List Value} {i : Nat} {v : Value} (h : (cs.drop i).take 1 = [v]) : cs[i]? = some v := by
  have h0 : ((cs.drop i).take 1)[0]? = some v := by rw [h]; rfl
  simpa using h0

theorem open_idcells {cs : List Value} {x : DataW H × List MemPlace} (h : DataW.trod enc Tryz.prog W base sp held fuel 23 cs = some x) : ∃ id : Id32, cs = encId id := by
  obtain ⟨xs, m, _, _, hl, hn, hel⟩ := DataW.trod_array Tryz.underlying23 h
  rw [cells_id] at hl
  have each : ∀ i, i < 32 → ∃ b : UInt8, cs[i]? = some (.int .u8 b.toNat) := fun i hi => by
    have hE := hel i hi
    rw [cells_byte, Nat.mul_one, List.getElem?_eq_getElem (by omega)] at hE
    obtain ⟨z, e1, _, hw⟩ := DataW.trod_int Tryz.underlying5 hE
    have hz : 0 ≤ z ∧ z ≤ 255 := by simpa [Lit.wf, IntKind.min, IntKind.max, IntKind.signed, IntKind.bits] using hw
    refine ⟨UInt8.ofNat z.toNat, ?_⟩
    rw [take_one e1]
    have : (UInt8.ofNat z.toNat).toNat = z.toNat := by simp; omega
    rw [this]
    congr 2
    omega
  refine ⟨⟨cs.map fun v => match v with | .int _ n => UInt8.ofNat n.toNat | _ => 0, by simp [hl]⟩, ?_⟩
  apply List.ext_getElem?
  intro i
  by_cases hi : i < 32
  · obtain ⟨b, hb⟩ := each i hi
    rw [hb]
    simp [encId, hb]
  · rw [List.getElem?_eq_none (by omega)]
    exact (List.getElem?_eq_none (Nat.le_trans (Nat.le_of_eq (encId_length _)) (by omega))).symm

/-- The references: nil or a slice of identities. -/
theorem open_ids {cs : List Value} {d : DataW H} {ps : List MemPlace} (h : DataW.trod enc Tryz.prog W base sp held fuel 24 cs = some (d, ps)) (hw : ∀ n ∈ d.weights Tryz.prog 24, n ≤ reachBytes) :
    ∃ v ids, cs = [v] ∧ IdsAt W v ids ∧ ids.length * 32 ≤ reachBytes := by
  rcases DataW.trod_slice Tryz.underlying24 h with ⟨rfl, _⟩ | ⟨a, len, cap, elems, rest, m, _, rfl, hx, hb, hl, hm, hlen, hel, _, _⟩
  · exact ⟨_, [], rfl, ⟨none, 0, rfl, Nat.le_refl _, fun h => absurd rfl h⟩, by simp⟩
  · have hd : d = .slice (elems.map (·.1)) (rest.map (·.1)) := (Prod.mk.inj hx).1
    have hwt : (elems.length + rest.length) * 32 ≤ reachBytes := by
      refine hw _ ?_
      rw [hd]
      unfold DataW.weights
      rw [Tryz.underlying24]
      simp [bytes_id]
    have each : ∀ i, i < len → ∃ id : Id32, ∀ j u, (encId id)[j]? = some u → W.cell? ((a.add (i * 32)).add j) = some u := fun i hi => by
      have hE := hel i hi
      rw [cells_id, List.getElem?_eq_getElem (by omega)] at hE
      obtain ⟨cs', hcs, ht⟩ := Option.bind_eq_some_iff.1 hE
      obtain ⟨id, rfl⟩ := open_idcells ht
      obtain ⟨_, hll, hcell⟩ := World.cells?_some hcs
      exact ⟨id, fun j u hj => (hcell j (by have := (List.getElem?_eq_some_iff.1 hj).1; rw [encId_length] at this; exact this)).trans hj⟩
    have hall : ∃ f : Nat → Id32, ∀ i, i < len → ∀ j u, (encId (f i))[j]? = some u → W.cell? ((a.add (i * 32)).add j) = some u := by
      refine ⟨fun i => if hi : i < len then Classical.choose (each i hi) else default, fun i hi => ?_⟩
      simp only [hi, dif_pos]
      exact Classical.choose_spec (each i hi)
    obtain ⟨f, hf⟩ := hall
    refine ⟨_, (List.range len).map f, rfl, ⟨some a, cap, by simp, by simpa using hl, fun hne => ?_⟩, ?_⟩
    · have h0 : 0 < len := by
        cases len with
        | zero => simp at hne
        | succ n => omega
      have hspot : a.spot = none := by
        have h00 := hf 0 h0 0 _ (encId_get (f 0) 0 (by omega))
        simpa [Addr.add] using World.cell?_spot h00
      obtain ⟨b, off, spot⟩ := a
      simp only at hspot
      subst hspot
      refine ⟨b, off, rfl, fun j hj i u hu => ?_⟩
      have hj' : j < len := by simpa using hj
      have e1 : ((List.range len).map f)[j]! = f j := by
        rw [getElem!_pos _ j (by simpa using hj')]; simp
      rw [e1] at hu
      have := hf j hj' i u hu
      rwa [Addr.add_lit, Addr.add_lit] at this
    · simp
      omega

/-- A line of the reference: its 39 cells. -/
theorem open_rlinecells {cs : List Value} {d : DataW H} {ps : List MemPlace} (h : DataW.trod enc Tryz.prog W base sp held fuel 26 cs = some (d, ps)) (hw : ∀ n ∈ d.weights Tryz.prog 26, n ≤ reachBytes) :
    ∃ (s : ByteArray) (g : GLine) (ids : List Id32), cs = .string s :: lineList g ∧ IdsAt W g.refs ids ∧ ids.length * 32 ≤ reachBytes ∧ s.size ≤ reachBytes ∧ g.name.size ≤ reachBytes ∧ g.subject.size ≤ reachBytes := by
  have hu := Tryz.underlying26
  obtain ⟨xs, m, _, hx, hl, hn, hel⟩ := DataW.trod_struct hu h
  rw [cells_rline] at hl
  have hd : d = .agg (xs.map (·.1)) := (Prod.mk.inj hx).1
  obtain ⟨x0, x1, x2, x3, x4, x5, x6, x7, rfl⟩ : ∃ x0 x1 x2 x3 x4 x5 x6 x7, xs = [x0, x1, x2, x3, x4, x5, x6, x7] := by
    match xs, hn with
    | [x0, x1, x2, x3, x4, x5, x6, x7], _ => exact ⟨x0, x1, x2, x3, x4, x5, x6, x7, rfl⟩
  have h0 : DataW.trod enc Tryz.prog W base sp held m 9 ((cs.drop 0).take (Tryz.prog.cellsOf 9)) = some x0 := hel 0 _ rfl
  rw [cells_string] at h0
  have h1 : DataW.trod enc Tryz.prog W base sp held m 3 ((cs.drop 1).take (Tryz.prog.cellsOf 3)) = some x1 := hel 1 _ rfl
  rw [cells_int] at h1
  have h2 : DataW.trod enc Tryz.prog W base sp held m 23 ((cs.drop 2).take (Tryz.prog.cellsOf 23)) = some x2 := hel 2 _ rfl
  rw [cells_id] at h2
  have h3 : DataW.trod enc Tryz.prog W base sp held m 9 ((cs.drop 34).take (Tryz.prog.cellsOf 9)) = some x3 := hel 3 _ rfl
  rw [cells_string] at h3
  have h4 : DataW.trod enc Tryz.prog W base sp held m 3 ((cs.drop 35).take (Tryz.prog.cellsOf 3)) = some x4 := hel 4 _ rfl
  rw [cells_int] at h4
  have h5 : DataW.trod enc Tryz.prog W base sp held m 9 ((cs.drop 36).take (Tryz.prog.cellsOf 9)) = some x5 := hel 5 _ rfl
  rw [cells_string] at h5
  have h6 : DataW.trod enc Tryz.prog W base sp held m 24 ((cs.drop 37).take (Tryz.prog.cellsOf 24)) = some x6 := hel 6 _ rfl
  rw [cells_ids] at h6
  have h7 : DataW.trod enc Tryz.prog W base sp held m 3 ((cs.drop 38).take (Tryz.prog.cellsOf 3)) = some x7 := hel 7 _ rfl
  rw [cells_int] at h7
  clear hel hn
  have hwt : ∀ (j : Nat) (t : TypeId) (y : DataW H), ([9, 3, 23, 9, 3, 9, 24, 3] : List TypeId)[j]? = some t → ([x0, x1, x2, x3, x4, x5, x6, x7].map (·.1))[j]? = some y → ∀ n ∈ y.weights Tryz.prog t, n ≤ reachBytes := fun j t y ht hy n hn => by
    refine hw n ?_
    rw [hd]
    unfold DataW.weights
    rw [hu]
    exact DataW.weights_mem_each ht hy n hn
  obtain ⟨s, e0, f0, _⟩ := DataW.trod_string Tryz.underlying9 h0
  obtain ⟨n, e1, f1, _⟩ := DataW.trod_int Tryz.underlying3 h1
  obtain ⟨id, e2⟩ := open_idcells h2
  obtain ⟨nm, e3, f3, _⟩ := DataW.trod_string Tryz.underlying9 h3
  obtain ⟨dt, e4, f4, _⟩ := DataW.trod_int Tryz.underlying3 h4
  obtain ⟨sj, e5, f5, _⟩ := DataW.trod_string Tryz.underlying9 h5
  obtain ⟨v, ids, e6, hI, hil⟩ := open_ids (d := x6.1) (ps := x6.2) h6 (hwt 6 _ _ rfl rfl)
  obtain ⟨bt, e7, f7, _⟩ := DataW.trod_int Tryz.underlying3 h7
  have hstr : ∀ (z : ByteArray) (y : DataW H × List MemPlace), y = (.lit (.string z.data.toList), []) → (∀ k ∈ y.1.weights Tryz.prog 9, k ≤ reachBytes) → z.size ≤ reachBytes := fun z y hy hk => by
    refine hk _ ?_
    rw [hy]
    unfold DataW.weights
    exact List.mem_singleton.2 rfl
  refine ⟨s, ⟨n, id, nm, dt, sj, v, bt⟩, ids, ?_, hI, hil, hstr s x0 f0 (hwt 0 _ _ rfl rfl), hstr nm x3 f3 (hwt 3 _ _ rfl rfl), hstr sj x5 f5 (hwt 5 _ _ rfl rfl)⟩
  have cut : ∀ k a, cs.drop k = (cs.drop k).take a ++ cs.drop (k + a) := fun k a => by rw [← List.drop_drop, List.take_append_drop]
  have c0 := cut 0 1
  rw [e0, cut 1 1, e1, cut 2 32, e2, cut 34 1, e3, cut 35 1, e4, cut 36 1, e5, cut 37 1, e6, cut 38 1, e7, List.drop_eq_nil_of_le (by omega : cs.length ≤ 38 + 1), List.drop_zero] at c0
  rw [c0]
  simp [lineList]
end

end Go.Proofs.YtdjaphcelpchaaaGreatDoor

namespace Go.Proofs.YtdjaphcelpchaaaGreatDoor
open Go Go.RowKit Go.Proofs

attribute [local go_sem ↓] ex_load_id ex_store_id ex_load_line ex_store_line ex_alloc_line ex_build_line

attribute [local go_sem] ld_id st_id ld_line st_line guard_id okCells_drew rdCells_drew okCells_drewN rdCells_drewN rowOk_drew rowOk_cells okCells_cells rdCells_cells setRow_drew setRow_new setRow_past

theorem ex_bs_line (ρ : Operand → Value) (d : Option Tmp) (x : Operand) (ty : TypeId) (pos : String) (af : Array Edge) (g : Option (Nat × Bool)) (w : World) :
    Sem.run Tryz.prog (execOp ρ ⟨d, .buildSlice 107 1 #[(0, x)], ty, pos, af, g⟩) w = bsRes Tryz.prog 107 w (ρ x) := by kernel_rfl
theorem bs_line (w : World) (g : GLine) : bsRes Tryz.prog 107 w (.agg (lineCells g)) = .ok (.value (.slice (some ⟨w.heap.size, 0, none⟩) 1 1)) (w.alloc (.cells (lineCells g) 34)) := by
  obtain ⟨i0, hi, hz0, hz1, hz2⟩ := info_parts Tryz.info_line
  unfold bsRes
  rw [Sem.run_bind, run_buildSlice w 107 34 1 _ (lineCells g) i0 _ Tryz.underlying107 hi hz0 (by rw [hz1]; decide) (by rw [hz1]; decide) (by
    rw [hz1]
    exact fill_one _ _ 38 (lineCells_size g) (by simp))]
  rfl
attribute [local go_sem ↓] ex_bs_line exI_load_line exI_store_line exI_alloc_line exI_load_id exI_store_id

attribute [local go_sem] bs_line

set_option maxHeartbeats 1000000 in
theorem range_call (p : Option Addr) (s : ByteArray) (lo hi : Int) (w : World) : Calls Tryz.prog 30 #[.pointer p, .string s, .int .i64 lo, .int .i64 hi] w fun r w' =>
    r = .returned (.func (.func 67) #[] #[.pointer (some ⟨w.heap.size, 0, none⟩), .pointer (some ⟨w.heap.size + 1, 0, none⟩), .pointer (some ⟨w.heap.size + 1 + 1, 0, none⟩), .pointer (some ⟨w.heap.size + 1 + 1 + 1, 0, none⟩)]) ∧
    (((w.alloc (.cells #[.pointer p] 47)).alloc (.cells #[.string s] 9)).alloc (.cells #[.int .i64 lo] 3)).alloc (.cells #[.int .i64 hi] 3) = w' := by
  go_enter Tryz.func30, Tryz.ntmps30
  go_wp2
  go_ret
  exact ⟨rfl, rfl⟩

/-- The lines between two numbers. -/
def rangeP (ms : List ML) (lo hi : Int) : List PLine := (ms.map (·.p)).filter fun p => decide (lo ≤ p.number ∧ p.number ≤ hi)
/-- What a loop's body may know of what is yielded. -/
structure GdL (T : List PLine) (A B : Nat) (pre : List ML) (x : ML) (X : World) : Prop where
  here : T[pre.length]? = some x.p
  past : pre.map (·.p) = T.take pre.length
  refs : IdsOwn A X x.v x.p.ids
  lt : ∀ k, x.v.ownBlock = some k → k < B
theorem GdL.below {T : List PLine} {A B : Nat} {pre : List ML} {x : ML} {X Y : World} (h : GdL T A B pre x X) (hb : Below X.heap.size X Y) : GdL T A B pre x Y := ⟨h.here, h.past, h.refs.below hb, h.lt⟩
/-- What it must keep. -/
def KpL (A B : Nat) (x : ML) (X Y : World) : Prop := X.heap.size ≤ Y.heap.size ∧ ∀ k, A ≤ k → k < B → x.v.ownBlock ≠ some k → Y.heap[k]? = X.heap[k]?

/-- The copied lines: a row of their own, each with references of its own. -/
structure RowAt (A : Nat) (w : World) (v : Value) (ls : List ML) : Prop where
  lin : LinesAt A w v ls
  apart : (ls.filterMap fun m => m.v.ownBlock).Nodup
theorem RowAt.nil (A : Nat) (w : World) : RowAt A w (.slice none 0 0) [] := ⟨⟨World.ownsRow_nil _ _ _ _, fun _ h => by cases h⟩, .nil⟩
/-- What the rounds have kept so far. -/
def IterKeep (A : Nat) (w0 : World) (pre : List ML) (w : World) : Prop := w0.heap.size ≤ w.heap.size ∧ ∀ k, A ≤ k → k < w0.heap.size → (∀ m ∈ pre, m.v.ownBlock ≠ some k) → w.heap[k]? = w0.heap[k]?
theorem iter_row {A : Nat} {w0 w : World} {v : Value} {ls : List ML} (h : RowAt A w0 v ls) {j : Nat} (hk : IterKeep A w0 (ls.take j) w) (k rb : Nat) (hv : v.ownBlock = some rb) (i : Nat) : w.cell? ⟨rb, k * 38 + i, none⟩ = w0.cell? ⟨rb, k * 38 + i, none⟩ := by
  obtain ⟨c, hc⟩ := ownsRow_typed h.lin.row hv
  have hlt := World.ownsRow.lt h.lin.row rb hv
  refine cell_of_same (a := ⟨rb, k * 38 + i, none⟩) (hk.2 rb hlt.1 hlt.2 fun m hm he => ?_)
  obtain ⟨c2, hc2⟩ := ownsRow_typed (h.lin.refs m (List.mem_of_mem_take hm)) he
  rw [hc] at hc2
  exact absurd (cells_ty hc2) (by decide)
theorem iter_gd {A : Nat} {w0 w : World} {v : Value} {ls : List ML} {T : List PLine} (h : RowAt A w0 v ls) (hT : ls.map (·.p) = T) {k : Nat} (hk : IterKeep A w0 (ls.take k) w) (hlt : k < ls.length) : GdL T A w0.heap.size (ls.take k) ls[k] w := by
  have hl : (ls.take k).length = k := by rw [List.length_take]; omega
  have hr := h.lin.refs ls[k] (List.getElem_mem hlt)
  refine ⟨?_, ?_, hr.block fun j hj => ?_, fun j hj => (hr.lt hj).2⟩
  · rw [hl, ← hT, List.getElem?_map, List.getElem?_eq_getElem hlt]; rfl
  · rw [hl, ← hT, List.map_take]
  · refine hk.2 j (hr.lt hj).1 (hr.lt hj).2 fun m hm he => ?_
    have hn := h.apart
    have e : ls = ls.take k ++ ls[k] :: ls.drop (k + 1) := by
      rw [← List.drop_eq_getElem_cons hlt, List.take_append_drop]
    rw [e, List.filterMap_append, List.filterMap_cons_some (f := fun m : ML => m.v.ownBlock) hj, List.nodup_append] at hn
    exact hn.2.2 j (List.mem_filterMap.2 ⟨m, hm, he⟩) j (by simp) rfl
theorem iter_next {A : Nat} {w0 w : World} {ls : List ML} {k : Nat} (hk : IterKeep A w0 (ls.take k) w) (hlt : k < ls.length) {X' : World} (h : KpL A w0.heap.size ls[k] (w.alloc (.cells (lineCells ls[k].g) 34)) X') : IterKeep A w0 (ls.take k ++ [ls[k]]) X' := by
  have hs : (w.alloc (.cells (lineCells ls[k].g) 34)).heap.size = w.heap.size + 1 := by simp
  refine ⟨by have := hk.1; have := h.1; omega, fun j hA hB hm => ?_⟩
  have h1 := hk.1
  rw [h.2 j hA hB (hm _ (List.mem_append_right _ (List.mem_singleton.2 rfl))), heap_alloc_old _ _ (by omega), hk.2 j hA hB fun m hm' => hm m (List.mem_append_left _ hm')]
/-- One line more. -/
theorem RowAt.snoc {A : Nat} {w w' : World} {v v' : Value} {ls : List ML} {x : ML} (h : RowAt A w v ls) (hrow : w'.ownsRow A 34 38 v' (ls.length + 1) (flatLines ls ++ lineList x.g)) (hr : ∀ m ∈ ls, IdsOwn A w' m.v m.p.ids) (hx : IdsOwn A w' x.v x.p.ids) (hn : ∀ k, x.v.ownBlock = some k → w.heap.size ≤ k) : RowAt A w' v' (ls ++ [x]) := by
  refine ⟨⟨?_, fun m hm => ?_⟩, ?_⟩
  · rw [List.length_append, List.length_singleton, flat_append]
    have : flatLines [x] = lineList x.g := by simp [flatLines]
    rw [this]
    exact hrow
  · rcases List.mem_append.1 hm with hm | hm
    · exact hr m hm
    · rw [List.mem_singleton.1 hm]; exact hx
  · rw [List.filterMap_append, List.nodup_append]
    refine ⟨h.apart, ?_, fun a ha b hb => ?_⟩
    · cases hv : x.v.ownBlock with
      | none => rw [List.filterMap_cons_none (f := fun m : ML => m.v.ownBlock) hv]; exact .nil
      | some k => rw [List.filterMap_cons_some (f := fun m : ML => m.v.ownBlock) hv]; simp
    · obtain ⟨m, hm, he⟩ := List.mem_filterMap.1 ha
      obtain ⟨y, hy, he2⟩ := List.mem_filterMap.1 hb
      rw [List.mem_singleton.1 hy] at he2
      have h1 := ((h.lin.refs m hm).lt he).2
      have h2 := hn b he2
      omega

theorem ids_grown {A : Nat} {w w' : World} {v : Value} {ids : List Id32} {row : Option Nat} (h : IdsOwn A w v ids) (hg : w.grownBy w' row) (hr : ∀ k, row = some k → ∃ c, w.heap[k]? = some (.cells c 34 (0, 0))) : IdsOwn A w' v ids := by
  refine h.block fun k hk => hg.block k (h.lt hk).2 fun e => ?_
  obtain ⟨c, hc⟩ := hr k e.symm
  obtain ⟨c2, hc2⟩ := ownsRow_typed h hk
  rw [hc] at hc2
  exact absurd (cells_ty hc2) (by decide)
/-- The lines from a place on, up to a number. -/
theorem range_split {ms : List ML} {lo hi : Int} {i j : Nat} (hb : Between (nums ms) lo i i) (hs : (nums ms).Pairwise (· < ·)) (hj : j ≤ ms.length - i) (h1 : ∀ m ∈ (ms.drop i).take j, m.p.number ≤ hi) (h2 : ∀ (hx : i + j < ms.length), hi < ms[i + j].p.number) : ((ms.drop i).take j).map (·.p) = rangeP ms lo hi := by
  obtain ⟨_, hi2, hlow, hhigh⟩ := hb
  have hln : (nums ms).length = ms.length := by unfold nums; rw [List.length_map]
  have hget : ∀ k (h : k < ms.length), (nums ms)[k]'(by rw [hln]; exact h) = ms[k].p.number := fun k h => by unfold nums; rw [List.getElem_map]
  have hps := hs
  rw [List.pairwise_iff_getElem] at hps
  unfold rangeP
  have e : ms = ms.take i ++ ((ms.drop i).take j ++ (ms.drop i).drop j) := by rw [List.take_append_drop, List.take_append_drop]
  conv => rhs; rw [e]
  rw [List.map_append, List.filter_append, List.map_append, List.filter_append]
  have f1 : ((ms.take i).map (·.p)).filter (fun p => decide (lo ≤ p.number ∧ p.number ≤ hi)) = [] := by
    rw [List.filter_eq_nil_iff]
    intro p hp
    obtain ⟨m, hm, rfl⟩ := List.mem_map.1 hp
    obtain ⟨k, hk, rfl⟩ := List.getElem_of_mem hm
    rw [List.length_take] at hk
    have h3 := hlow k (by omega) (by omega)
    rw [hget k (by omega)] at h3
    rw [List.getElem_take]
    simp only [decide_eq_true_eq, not_and]
    intro h4
    omega
  have f2 : (((ms.drop i).take j).map (·.p)).filter (fun p => decide (lo ≤ p.number ∧ p.number ≤ hi)) = ((ms.drop i).take j).map (·.p) := by
    rw [List.filter_eq_self]
    intro p hp
    obtain ⟨m, hm, rfl⟩ := List.mem_map.1 hp
    rw [decide_eq_true_eq]
    refine ⟨?_, h1 m hm⟩
    obtain ⟨k, hk, rfl⟩ := List.getElem_of_mem hm
    rw [List.length_take, List.length_drop] at hk
    have h3 := hhigh (i + k) (by omega) (by omega)
    rw [hget (i + k) (by omega)] at h3
    rw [List.getElem_take, List.getElem_drop]
    exact h3
  have f3 : (((ms.drop i).drop j).map (·.p)).filter (fun p => decide (lo ≤ p.number ∧ p.number ≤ hi)) = [] := by
    rw [List.filter_eq_nil_iff]
    intro p hp
    obtain ⟨m, hm, rfl⟩ := List.mem_map.1 hp
    rw [List.drop_drop] at hm
    obtain ⟨k, hk, rfl⟩ := List.getElem_of_mem hm
    rw [List.length_drop] at hk
    have hx : i + j < ms.length := by omega
    have h3 := h2 hx
    rw [List.getElem_drop]
    simp only [decide_eq_true_eq, not_and]
    intro _ h5
    by_cases hk0 : k = 0
    · subst hk0
      simp only [Nat.add_zero] at h5
      omega
    · have h6 := hps (i + j) (i + j + k) (by omega) (by omega) (by omega)
      rw [hget _ hx, hget _ (by omega)] at h6
      omega
  rw [f1, f2, f3, List.append_nil, List.nil_append]

/-- How the iterator may end. -/
def SeqEnd (W : World) (S : List ML → Prop) (J Jx : Nat → List ML → World → Prop) (e : Ending) (W' : World) : Prop := (∃ v, e = .returned v) ∧ ((∃ B xs, W.heap.size ≤ B ∧ B ≤ W'.heap.size ∧ S xs ∧ J B xs W') ∨ (∃ B pre, W.heap.size ≤ B ∧ Jx B pre W'))

set_option maxRecDepth 100000 in
set_option maxHeartbeats 8000000 in
/-- The iterator. -/
theorem rangeSeq_any (n : Nat) (b0 b1 b2 b3 B ib M mc : Nat) (gs : List MG) (s : ByteArray) (lo hi : Int) (W : World) (h0 : W.cell? ⟨b0, 0, none⟩ = some (.pointer (some ⟨ib, 0, none⟩))) (h1 : W.cell? ⟨b1, 0, none⟩ = some (.string s)) (h2 : W.cell? ⟨b2, 0, none⟩ = some (.int .i64 lo)) (h3 : W.cell? ⟨b3, 0, none⟩ = some (.int .i64 hi)) (h : IdxAt B W ib M gs mc) :
    SeqG Fence.wide n Tryz.prog 67 #[.pointer (some ⟨b0, 0, none⟩), .pointer (some ⟨b1, 0, none⟩), .pointer (some ⟨b2, 0, none⟩), .pointer (some ⟨b3, 0, none⟩)]
      (fun x : ML => #[.agg (lineCells x.g)]) (GdL (rangeP (linesIn gs s) lo hi)) KpL (fun xs => xs.map (·.p) = rangeP (linesIn gs s) lo hi) W := fun l J Jx hJ hJx hJ0 hY => by
  show CallsIn _ _ _ _ _ _ (SeqEnd W (fun xs => xs.map (·.p) = rangeP (linesIn gs s) lo hi) J Jx)
  have HJs := Lib.hid hJ
  have HJ0 := Lib.hid hJ0
  have HY := Lib.hid hY
  clear hJ hJx hJ0 hY
  have hso := h.sorted s
  have HL := Lib.hid (linesOf_any B ib M mc gs s W h)
  have HS := Lib.hid (search_any B (valueOf gs s) (linesIn gs s) lo W (h.lines s) (h.len s) hso)
  have hlen := h.len s
  have HLI := Lib.hid (h.lines s)
  have HSO := Lib.hid hso
  have HGOOD : Hid (∀ m ∈ linesIn gs s, pErr m.p = 0) := Lib.hid fun m hm => by
    have hne : linesIn gs s ≠ [] := fun e => by rw [e] at hm; cases hm
    obtain ⟨G, hG, hms, _⟩ := linesIn_ne hne
    exact (h.grps G (groupOf_mem hG).1).good m (hms ▸ hm)
  clear h hso
  generalize linesIn gs s = ms at HS hlen HLI HSO HGOOD HY ⊢
  generalize valueOf gs s = v at HL HS HLI
  refine callsIn_wide.2 ?_
  rcases HLI.out.head with ⟨rfl, rfl⟩ | ⟨gb, cap, rfl, hgB, hgl, hle, hmx, hcell⟩
  · have HT : Hid ((([] : List ML).map (·.p)) = rangeP [] lo hi) := Lib.hid rfl
    go_enter Tryz.func67, Tryz.ntmps67
    go_wp2_with fail
    refine HL.out.mono ?_
    rintro r w' ⟨rfl, rfl⟩
    go_wp2_with fail
    refine HS.out.mono ?_
    rintro r w1 ⟨i, hbt, rfl, hb1⟩
    obtain rfl : i = 0 := Nat.le_zero.1 hbt.2.1
    have HB1 := Lib.hid hb1
    clear hb1 HS HL hbt
    go_wp2
    go_loop [6, 27] (fun p a => p = .slice none 0 0 ∧ a = .int .i64 0) (fun _ _ => 0)
    case atStart => exact ⟨rfl, rfl⟩
    case round =>
      obtain ⟨rfl, rfl⟩ := hrel
      go_wp2
      go_loop [43] (fun a => a = .int .i64 0) (fun _ => 0)
      case atStart => exact rfl
      case round =>
        obtain rfl := hrel
        go_wp2
        go_end0
        exact ⟨⟨_, rfl⟩, .inl ⟨w1.heap.size, [], HB1.out.size, Nat.le_refl _, HT.out, HJ0.out w1 HB1.out⟩⟩
  · have HC := Lib.hid hcell
    clear hcell
    obtain ⟨i0, hi0, hz0, hz1, hz2⟩ := info_parts Tryz.info_line
    go_enter Tryz.func67, Tryz.ntmps67
    go_wp2_with fail
    refine HL.out.mono ?_
    rintro r w' ⟨rfl, rfl⟩
    go_wp2_with fail
    refine HS.out.mono ?_
    rintro r w1 ⟨i, hbt, rfl, hb1⟩
    have hil : i ≤ ms.length := by have := hbt.2.1; unfold nums at this; rw [List.length_map] at this; exact this
    have hiz : (i : Int) ≤ (ms.length : Int) := by omega
    have HB1 := Lib.hid hb1
    have HBT := Lib.hid hbt
    have hb3l : b3 < W.heap.size := block_lt_of_cell h3
    have h3' := h3
    obtain ⟨gx, ox, had, hxl, hcx⟩ : ∃ gx ox : Nat, (if cap = i then some (⟨gb, 0, none⟩ : Addr) else some ⟨gb, i * 38, none⟩) = some ⟨gx, ox, none⟩ ∧ gx < W.heap.size ∧ ∀ j (hj : i + j < ms.length) k u, (lineList ms[i + j].g)[k]? = some u → W.cell? ⟨gx, ox + j * 38 + k, none⟩ = some u := by
      by_cases hc : cap = i
      · exact ⟨gb, 0, if_pos hc, hgl, fun j hj => by omega⟩
      · refine ⟨gb, i * 38, if_neg hc, hgl, fun j hj k u hu => ?_⟩
        have := HC.out (i + j) hj k u hu
        rwa [show (i + j) * 38 + k = i * 38 + j * 38 + k by omega] at this
    have HCX := Lib.hid hcx
    have HH3 := Lib.hid h3'
    clear hb1 hbt HS HL hcx HC h0 h1 h2 h3 h3'
    go_wp2
    try rw [had]
    clear had
    go_loopw [6, 27] (fun lv a wr => ∃ (k : Nat) (ls : List ML), k ≤ ms.length - i ∧ a = .int .i64 k ∧ Hid (ls.map (·.p) = ((ms.drop i).take k).map (·.p)) ∧ Hid (∀ m ∈ (ms.drop i).take k, m.p.number ≤ hi) ∧ Hid (RowAt W.heap.size wr lv ls) ∧ Hid (Below W.heap.size W wr)) (fun _ a _ => ms.length - (intOf a).toNat)
    case atStart => exact ⟨0, [], by omega, rfl, Lib.hid rfl, Lib.hid (fun m hm => by simp at hm), Lib.hid (RowAt.nil _ _), HB1⟩
    case round =>
      obtain ⟨k, ls, hk, rfl, HP, HLE, HROW, HBr⟩ := hrel
      have hlsk : ls.length = k := by
        have := congrArg List.length HP.out
        rw [List.length_map, List.length_map, List.length_take, List.length_drop] at this
        omega
      have HLL : Hid (ls.length ≤ 65536) := Lib.hid (by omega)
      have HLK := Lib.hid hlsk
      clear hlsk
      obtain ⟨la, ln, lc, hle'⟩ : ∃ a n c, u6 = .slice a n c := own_slice HROW.out.lin.row
      subst hle'
      by_cases hltk : k < ms.length - i
      · have hltz : (k : Int) < (ms.length : Int) - (i : Int) := by omega
        have hik : i + k < ms.length := by omega
        obtain ⟨o1, d1⟩ := lineAt_rd (w := wr) (g := gx) (off := ox + k * 38) (l := ms[i + k].g) (fun j u hu => (HBr.out.cell (p := ⟨gx, ox + k * 38 + j, none⟩) hxl).trans (HCX.out k hik j u hu))
        have hv3 : wr.cell? ⟨b3, 0, none⟩ = some (.int .i64 hi) := (HBr.out.cell (p := ⟨b3, 0, none⟩) hb3l).trans HH3.out
        have hmem : ms[i + k] ∈ ms := List.getElem_mem hik
        have hrl := refs_len (HGOOD.out _ hmem)
        have HTK : Hid ((ms.drop i).take (k + 1) = (ms.drop i).take k ++ [ms[i + k]]) := Lib.hid (by
          rw [List.take_succ_eq_append_getElem (by rw [List.length_drop]; omega), List.getElem_drop])
        have HRF := Lib.hid (HLI.out.refs _ hmem)
        obtain ⟨m, hmE⟩ : ∃ m, m = ms[i + k] := ⟨_, rfl⟩
        rw [← hmE] at d1 hrl HTK HRF hmem
        have HEQ := Lib.hid hmE
        clear hmE
        obtain ⟨W1, hW1⟩ : ∃ W1, W1 = wr.alloc (.cells (lineCells m.g) 34) := ⟨_, rfl⟩
        have hb1' : Below wr.heap.size wr W1 := by rw [hW1]; exact (Below.refl _ _).alloc (Nat.le_refl _) _
        have hLV : LineVar W1 wr.heap.size m.g := by rw [hW1]; exact heap_alloc_new _ _
        have hn0 := (hLV.cell 0).trans (lc0 m.g)
        have hv31 : W1.cell? ⟨b3, 0, none⟩ = some (.int .i64 hi) := (hb1'.cell (block_lt_of_cell hv3)).trans hv3
        obtain ⟨o2, d2⟩ := hLV.rd
        have hzs : ((lineCells zeroLine).size == 38) = true := by rw [lineCells_size]; rfl
        have hone := HRF.out.one
        have hft := fits_line (g := m.g) hone
        have HBW1 := Lib.hid (HBr.out.trans (hb1'.mono HBr.out.size) : Below W.heap.size W W1)
        have HROW1 : Hid (RowAt W.heap.size W1 (.slice la ln lc) ls) := Lib.hid ⟨HROW.out.lin.below hb1', HROW.out.apart⟩
        have hmn : (ML.g m).number = m.p.number := rfl
        rw [hmn] at hn0
        rw [hW1] at hn0 hv31 o2 d2
        by_cases hgt : hi < m.p.number
        · have HT : Hid (ls.map (·.p) = rangeP ms lo hi) := Lib.hid (HP.out.trans (range_split HBT.out HSO.out (by omega) HLE.out (fun hx => by rw [← HEQ.out]; exact hgt)))
          clear HP HLE HROW HBr
          have HROW := HROW1
          have HBr := HBW1
          clear HROW1 HBW1
          rcases HROW.out.lin.head with ⟨hln, hls⟩ | ⟨rb, rcap, hlv, hrA, hrl, hrle, hrm, hrc⟩
          · cases hln
            have HLS := Lib.hid hls
            clear hls
            go_wp2
            rw [← hW1]
            clear hW1 hn0 hv31 o1 d1 o2 d2
            go_loop [43] (fun i => i = .int .i64 0) (fun _ => 0)
            case atStart => exact rfl
            case round =>
              obtain rfl := hrel
              go_wp2
              go_end0
              exact ⟨⟨_, rfl⟩, .inl ⟨W1.heap.size, ls, HBr.out.size, Nat.le_refl _, HT.out, by rw [HLS.out]; exact HJ0.out W1 HBr.out⟩⟩
          · cases hlv
            have hll : ls.length ≤ 65536 := HLL.out
            have HRC := Lib.hid hrc
            have hrbB : rb < W1.heap.size := hrl
            clear hrc
            go_wp2
            rw [← hW1]
            clear hW1 hn0 hv31 o1 d1 o2 d2
            refine (wpIn_wide (n := n)).1 ?_
            obtain ⟨wr0, hwr0⟩ : ∃ x, x = W1 := ⟨_, rfl⟩
            rw [← hwr0] at HROW HBr HRC hrbB ⊢
            clear hwr0
            gi_loopw [43] (fun i wy => ∃ k : Nat, k ≤ ls.length ∧ i = .int .i64 k ∧ Hid (J wr0.heap.size (ls.take k) wy) ∧ Hid (IterKeep W.heap.size wr0 (ls.take k) wy)) (fun i _ => ls.length - (intOf i).toNat)
            case atStart => exact ⟨0, by omega, rfl, Lib.hid (HJ0.out wr0 HBr.out), Lib.hid ⟨Nat.le_refl _, fun _ _ _ _ => rfl⟩⟩
            case round =>
              obtain ⟨k, hk, rfl, HJk, HKk⟩ := hrel
              by_cases hltk : k < ls.length
              · have hltz : (k : Int) < (ls.length : Int) := by omega
                obtain ⟨o1, d1⟩ := lineAt_rd (w := wr) (g := rb) (off := k * 38) (l := ls[k].g) (fun i u hu => (iter_row HROW.out HKk.out k rb rfl i).trans (HRC.out k hltk i u hu))
                have HGD := Lib.hid (iter_gd HROW.out HT.out HKk.out hltk)
                have HTK := Lib.hid (List.take_succ_eq_append_getElem hltk)
                have HNX := Lib.hid (fun X' => iter_next HKk.out hltk (X' := X'))
                have hone := (HROW.out.lin.refs ls[k] (List.getElem_mem hltk)).one
                have hft := fits_line (g := ls[k].g) hone
                have o2 := ok_new_line wr ls[k].g 34
                have d2 := rd_new_line wr ls[k].g 34
                have hY2 := HY.out wr0.heap.size (ls.take k) ls[k] (wr.alloc (.cells (lineCells ls[k].g) 34)) (HJs.out _ _ _ _ HJk.out HBr.out.size HKk.out.1 (Beside.of_below ((Below.refl _ _).alloc (Nat.le_refl _) _))) HBr.out.size (by have := HKk.out.1; simp; omega) (HGD.out.below ((Below.refl _ _).alloc (Nat.le_refl _) _))
                obtain ⟨fn, tmps, assign, body, hy, hR⟩ := hY2
                try dsimp only at hy
                have hzs : ((lineCells zeroLine).size == 38) = true := by rw [lineCells_size]; rfl
                have HRR := Lib.hid hR
                clear hR HGD
                generalize ls[k] = x at o1 d1 o2 d2 HTK HNX hft hone hy HRR
                gi_wp2
                refine ⟨fun hd => (by cases hd), HRR.out.mono ?_⟩
                rintro e W3 (⟨rfl, hJ3, hk3⟩ | ⟨rfl, hJx3⟩)
                · have HJ3 := Lib.hid hJ3
                  have HK3 := Lib.hid (HNX.out W3 hk3)
                  clear hJ3 hk3 HRR hy
                  gi_wp2
                  go_roundw
                  case rel => exact ⟨k + 1, by omega, by go_num, Lib.hid (by rw [HTK.out]; exact HJ3.out), Lib.hid (by rw [HTK.out]; exact HK3.out)⟩
                  case measure => simp [intOf]; omega
                · have HJx3 := Lib.hid hJx3
                  clear hJx3 HRR hy
                  gi_wp2
                  refine bodyPost_ret (results_none rfl _ _ _) rfl ?_
                  exact ⟨⟨_, rfl⟩, .inr ⟨wr0.heap.size, _, HBr.out.size, HJx3.out⟩⟩
              · have HE : Hid (ls.take k = ls) := Lib.hid (List.take_of_length_le (by omega))
                gi_wp2
                go_end0
                exact ⟨⟨_, rfl⟩, .inl ⟨wr0.heap.size, ls, HBr.out.size, HKk.out.1, HT.out, by have := HJk.out; rw [HE.out] at this; exact this⟩⟩
        · have hle2 : m.p.number ≤ hi := by omega
          have HLE2 : Hid (∀ x ∈ (ms.drop i).take (k + 1), x.p.number ≤ hi) := Lib.hid fun x hx => by
            rw [HTK.out] at hx
            rcases List.mem_append.1 hx with hx | hx
            · exact HLE.out x hx
            · rw [List.mem_singleton.1 hx]; exact hle2
          have HCL := Lib.hid (clone_any B m.g m.p.ids W1 (HRF.out.below HBW1.out) (by omega))
          clear HROW HBr HRF
          go_wp2_with fail
          rw [← hW1]
          clear hW1 hn0 hv31 o1 d1 o2 d2
          refine HCL.out.mono ?_
          rintro r w2 ⟨v', rfl, hI2, hb2⟩
          obtain ⟨x, hx⟩ : ∃ x : ML, x = ⟨m.p, v'⟩ := ⟨_, rfl⟩
          have hxg : ({ m.g with refs := v' } : GLine) = x.g := by rw [hx]; rfl
          have hxp : x.p = m.p := by rw [hx]
          have hxv : x.v = v' := by rw [hx]
          rw [hxg]
          have HI2 : Hid (IdsOwn W1.heap.size w2 x.v x.p.ids) := Lib.hid (by rw [hxp, hxv]; exact hI2)
          have HXP := Lib.hid hxp
          have honex : ∀ u ∈ lineList x.g, u.oneCell' = true := lineList_one (g := x.g) (by show x.v.oneCell' = true; exact HI2.out.one)
          have HONEX := Lib.hid honex
          have HBW2 := Lib.hid (HBW1.out.trans (hb2.mono HBW1.out.size) : Below W.heap.size W w2)
          have hrow2 := (HROW1.out.lin.below hb2)
          have HROW2 : Hid (RowAt W.heap.size w2 (.slice la ln lc) ls) := Lib.hid ⟨hrow2, HROW1.out.apart⟩
          have hs12 : W1.heap.size ≤ w2.heap.size := hb2.size
          have hownA := hrow2.row.alloc (.cells (lineCells x.g) 34)
          have HLT := Lib.hid (fun j hj => (World.ownsRow.lt hrow2.row j hj).1)
          have hsW1 : W.heap.size ≤ W1.heap.size := HBW1.out.size
          clear hI2 hb2 hx hxg hxp hxv honex hrow2 HBW1 HCL
          have HLL2 := HLL.out
          rw [HLK.out] at hownA
          go_wp2_with (at_builtin; refine wpList_append_own _ rfl (.tmp 35) (.tmp 38) 107 rfl W.heap.size 34 i0 (.agg (lineCells zeroLine)) 38 112 Tryz.underlying107 hi0 hz0 hz1 hz2 (lineCells_size _) (by decide) _ _ _ rfl hownA ⟨w2.heap.size, 0, none⟩ 1 1 (lineList x.g) rfl (lineList_length _) ?c1 HONEX.out ?c3 ?c4 ?c5 ?_)
          case c1 =>
            intro j u hj
            rw [Addr.add_lit, Nat.zero_add, cells_new]
            unfold lineCells
            rw [List.getElem?_toArray]
            exact hj
          case c3 => unfold maxLen; omega
          case c4 => omega
          case c5 => have := HBW2.out.size; simp; omega
          intro v2 w3 hown3 hgr3 _
          have hb3 : Below W.heap.size W w3 := (HBW2.out.alloc HBW2.out.size _).grown hgr3 (by have := HBW2.out.size; simp; omega) (fun j hj => HLT.out j hj)
          have hty : ∀ k, (Value.slice la ln lc).ownBlock = some k → ∃ c, (w2.alloc (.cells (lineCells x.g) 34)).heap[k]? = some (.cells c 34 (0, 0)) := fun k hk => ownsRow_typed hownA hk
          have hal : Below w2.heap.size w2 (w2.alloc (.cells (lineCells x.g) 34)) := (Below.refl _ _).alloc (Nat.le_refl _) _
          have hrow3 : RowAt W.heap.size w3 v2 (ls ++ [x]) := by
            refine HROW1.out.snoc ?_ (fun y hy => ids_grown ((HROW2.out.lin.refs y hy).below hal) hgr3 hty) (ids_grown ((HI2.out.below hal).mono (by have := HBW2.out.size; omega)) hgr3 hty) ?_
            · rw [HLK.out]; exact hown3
            · exact fun k hk => (HI2.out.lt hk).1
          have HROW3 := Lib.hid hrow3
          have HB3 := Lib.hid hb3
          have HP3 : Hid ((ls ++ [x]).map (·.p) = ((ms.drop i).take (k + 1)).map (·.p)) := Lib.hid (by rw [HTK.out, List.map_append, List.map_append, HP.out]; simp [HXP.out])
          clear hown3 hgr3 hb3 hty hal hrow3 hownA
          go_wp2
          go_roundw
          case rel => exact ⟨k + 1, ls ++ [x], by omega, by go_num, HP3, HLE2, HROW3, HB3⟩
          case measure => simp [intOf]; omega
      · have HT : Hid (ls.map (·.p) = rangeP ms lo hi) := Lib.hid (HP.out.trans (range_split HBT.out HSO.out (by omega) HLE.out (fun hx => by omega)))
        clear HP HLE
        rcases HROW.out.lin.head with ⟨hln, hls⟩ | ⟨rb, rcap, hlv, hrA, hrl, hrle, hrm, hrc⟩
        · cases hln
          have HLS := Lib.hid hls
          clear hls
          go_wp2
          go_loop [43] (fun i => i = .int .i64 0) (fun _ => 0)
          case atStart => exact rfl
          case round =>
            obtain rfl := hrel
            go_wp2
            go_end0
            exact ⟨⟨_, rfl⟩, .inl ⟨wr.heap.size, ls, HBr.out.size, Nat.le_refl _, HT.out, by rw [HLS.out]; exact HJ0.out wr HBr.out⟩⟩
        · cases hlv
          have hll : ls.length ≤ 65536 := HLL.out
          have HRC := Lib.hid hrc
          have hrbB : rb < wr.heap.size := hrl
          clear hrc
          go_wp2
          refine (wpIn_wide (n := n)).1 ?_
          obtain ⟨wr0, hwr0⟩ : ∃ x, x = wr := ⟨_, rfl⟩
          rw [← hwr0] at HROW HBr HRC hrbB ⊢
          clear hwr0
          gi_loopw [43] (fun i wy => ∃ k : Nat, k ≤ ls.length ∧ i = .int .i64 k ∧ Hid (J wr0.heap.size (ls.take k) wy) ∧ Hid (IterKeep W.heap.size wr0 (ls.take k) wy)) (fun i _ => ls.length - (intOf i).toNat)
          case atStart => exact ⟨0, by omega, rfl, Lib.hid (HJ0.out wr0 HBr.out), Lib.hid ⟨Nat.le_refl _, fun _ _ _ _ => rfl⟩⟩
          case round =>
            obtain ⟨k, hk, rfl, HJk, HKk⟩ := hrel
            by_cases hltk : k < ls.length
            · have hltz : (k : Int) < (ls.length : Int) := by omega
              obtain ⟨o1, d1⟩ := lineAt_rd (w := wr) (g := rb) (off := k * 38) (l := ls[k].g) (fun i u hu => (iter_row HROW.out HKk.out k rb rfl i).trans (HRC.out k hltk i u hu))
              have HGD := Lib.hid (iter_gd HROW.out HT.out HKk.out hltk)
              have HTK := Lib.hid (List.take_succ_eq_append_getElem hltk)
              have HNX := Lib.hid (fun X' => iter_next HKk.out hltk (X' := X'))
              have hone := (HROW.out.lin.refs ls[k] (List.getElem_mem hltk)).one
              have hft := fits_line (g := ls[k].g) hone
              have o2 := ok_new_line wr ls[k].g 34
              have d2 := rd_new_line wr ls[k].g 34
              have hY2 := HY.out wr0.heap.size (ls.take k) ls[k] (wr.alloc (.cells (lineCells ls[k].g) 34)) (HJs.out _ _ _ _ HJk.out HBr.out.size HKk.out.1 (Beside.of_below ((Below.refl _ _).alloc (Nat.le_refl _) _))) HBr.out.size (by have := HKk.out.1; simp; omega) (HGD.out.below ((Below.refl _ _).alloc (Nat.le_refl _) _))
              obtain ⟨fn, tmps, assign, body, hy, hR⟩ := hY2
              try dsimp only at hy
              have hzs : ((lineCells zeroLine).size == 38) = true := by rw [lineCells_size]; rfl
              have HRR := Lib.hid hR
              clear hR HGD
              generalize ls[k] = x at o1 d1 o2 d2 HTK HNX hft hone hy HRR
              gi_wp2
              refine ⟨fun hd => (by cases hd), HRR.out.mono ?_⟩
              rintro e W3 (⟨rfl, hJ3, hk3⟩ | ⟨rfl, hJx3⟩)
              · have HJ3 := Lib.hid hJ3
                have HK3 := Lib.hid (HNX.out W3 hk3)
                clear hJ3 hk3 HRR hy
                gi_wp2
                go_roundw
                case rel => exact ⟨k + 1, by omega, by go_num, Lib.hid (by rw [HTK.out]; exact HJ3.out), Lib.hid (by rw [HTK.out]; exact HK3.out)⟩
                case measure => simp [intOf]; omega
              · have HJx3 := Lib.hid hJx3
                clear hJx3 HRR hy
                gi_wp2
                refine bodyPost_ret (results_none rfl _ _ _) rfl ?_
                exact ⟨⟨_, rfl⟩, .inr ⟨wr0.heap.size, _, HBr.out.size, HJx3.out⟩⟩
            · have HE : Hid (ls.take k = ls) := Lib.hid (List.take_of_length_le (by omega))
              gi_wp2
              go_end0
              exact ⟨⟨_, rfl⟩, .inl ⟨wr0.heap.size, ls, HBr.out.size, HKk.out.1, HT.out, by have := HJk.out; rw [HE.out] at this; exact this⟩⟩

end Go.Proofs.YtdjaphcelpchaaaGreatDoor

namespace Go.Proofs.YtdjaphcelpchaaaGreatDoor
open Go Go.RowKit Go.Proofs

attribute [local go_sem ↓] ex_load_id ex_store_id ex_load_line ex_store_line ex_load_rline ex_store_rline ex_alloc_line ex_build_line ex_alloc_rline ex_build_rline

attribute [local go_sem] ld_id st_id ld_line st_line ld_rline st_rline guard_id okCells_drew rdCells_drew okCells_drewN rdCells_drewN rowOk_drew rowOk_cells okCells_cells rdCells_cells setRow_drew setRow_new setRow_past

attribute [local go_sem] Oper.semAt_some

attribute [local go_sem ↓] exI_load_line exI_store_line exI_alloc_line exI_load_id exI_store_id exI_load_rline exI_store_rline

/-- What the walk of same keeps from one round of its loop to the next. -/
structure SameSt (w : World) (gbx : Nat) (ga ra : Option Addr) (gc : Nat) (ns : List ByteArray) (ds : List Nat) (ic i : Nat) (W : World) : Prop where
  bl : Below w.heap.size w W
  rc : W.heap[w.heap.size]? = some (.cells #[.bool false] 4 (0, 0))
  gx : W.heap[gbx]? = some (.cells #[.slice ga ns.length gc] 78 (0, 0))
  gr : ns ≠ [] → ∃ b, ga = some ⟨b, 0, none⟩ ∧ b < W.heap.size ∧ StrRow W b 0 ns
  rr : ns ≠ [] → ∃ b, ra = some ⟨b, 0, none⟩ ∧ b < W.heap.size ∧ StrRow W b 0 ns
  ix : W.heap[ic]? = some (.cells #[.int .i64 i] 3 (0, 0))
  ms : ∀ D ∈ ds, W.heap[D]? = some (.deferred (some []))
  md : ds.Nodup
  mb : ∀ D ∈ ds, w.heap.size < D
theorem SameSt.step {w : World} {gbx : Nat} {ga ra : Option Addr} {gc : Nat} {ns : List ByteArray} {ds : List Nat} {ic i : Nat} {W W' : World} (h : SameSt w gbx ga ra gc ns ds ic i W) (hb : Below W.heap.size W W') : SameSt w gbx ga ra gc ns ds ic i W' where
  bl := h.bl.trans (hb.mono h.bl.size)
  rc := (hb.block _ (Array.getElem?_eq_some_iff.1 h.rc).1).trans h.rc
  gx := (hb.block _ (Array.getElem?_eq_some_iff.1 h.gx).1).trans h.gx
  gr := fun hn => let ⟨b, e, hl, hr⟩ := h.gr hn; ⟨b, e, Nat.lt_of_lt_of_le hl hb.size, hr.below' hb hl⟩
  rr := fun hn => let ⟨b, e, hl, hr⟩ := h.rr hn; ⟨b, e, Nat.lt_of_lt_of_le hl hb.size, hr.below' hb hl⟩
  ix := (hb.block _ (Array.getElem?_eq_some_iff.1 h.ix).1).trans h.ix
  ms := fun D hD => (hb.block _ (Array.getElem?_eq_some_iff.1 (h.ms D hD)).1).trans (h.ms D hD)
  md := h.md
  mb := h.mb
theorem results_cell1' {P : Program} {fn : Func} {p : Tmp} {ty : Nat} (h : fn.results = #[.cell p ty]) (hA : ∀ w, Sem.run P (isAgg ty) w = .ok false w) (tmps : Array Value) (w : World) (a : Addr) (v : Value) (hp : tmps.getD p undef = .pointer (some a)) (hc : w.cell? a = some v) :
    (results fn tmps).run P w = .ok v w := by
  have hp' : tmps[p]?.getD undef = .pointer (some a) := by simpa using hp
  simp [results, h, asAddr, hp', loadVar, hA, hc]
/-- A mark among the deferred calls. -/
def markD (D : Nat) : Deferred := { target := .collected D, args := #[] }
def leftI (n : Nat) (a : Act) (w : World) : Nat := match a.tmps.getD 7 undef with
  | .pointer (some p) => n - (intOf ((w.cell? p).getD undef)).toNat
  | _ => 0
/-- A frame written out. -/
theorem tmps_range (t : Array Value) (n : Nat) (h : t.size = n) : t = ((List.range n).map fun k => t.getD k undef).toArray := by
  subst h
  apply Array.ext
  · simp
  · intro i h1 h2
    simp [h1]
theorem slots89 (t : Array Value) (h : t.size = 89) : ∃ f : Nat → Value, (∀ k, f k = t.getD k undef) ∧ t = #[f 0, f 1, f 2, f 3, f 4, f 5, f 6, f 7, f 8, f 9, f 10, f 11, f 12, f 13, f 14, f 15, f 16, f 17, f 18, f 19, f 20, f 21, f 22, f 23, f 24, f 25, f 26, f 27, f 28, f 29, f 30, f 31, f 32, f 33, f 34, f 35, f 36, f 37, f 38, f 39, f 40, f 41, f 42, f 43, f 44, f 45, f 46, f 47, f 48, f 49, f 50, f 51, f 52, f 53, f 54, f 55, f 56, f 57, f 58, f 59, f 60, f 61, f 62, f 63, f 64, f 65, f 66, f 67, f 68, f 69, f 70, f 71, f 72, f 73, f 74, f 75, f 76, f 77, f 78, f 79, f 80, f 81, f 82, f 83, f 84, f 85, f 86, f 87, f 88] := ⟨fun k => t.getD k undef, fun _ => rfl, (tmps_range t 89 h).trans rfl⟩
/-- The loop's invariant. -/
structure SameInv (ib : Nat) (v : Value) (rs : List MR) (w : World) (gbx : Nat) (ga ra : Option Addr) (gc rcp : Nat) (ds : List Nat) (ic i : Nat) (a : Act) (W : World) : Prop where
  le : i ≤ (groupsR rs).length
  st : SameSt w gbx ga ra gc (groupsR rs) ds ic i W
  size : a.tmps.size = 89
  s0 : a.tmps.getD 0 undef = .pointer (some ⟨ib, 0, none⟩)
  s1 : a.tmps.getD 1 undef = v
  s4 : a.tmps.getD 4 undef = .pointer (some ⟨w.heap.size, 0, none⟩)
  s5 : a.tmps.getD 5 undef = .pointer (some ⟨gbx, 0, none⟩)
  s6 : a.tmps.getD 6 undef = .slice ra (groupsR rs).length rcp
  s7 : a.tmps.getD 7 undef = .pointer (some ⟨ic, 0, none⟩)
  df : a.defers = ds.map markD
theorem SameInv.left {ib : Nat} {v : Value} {rs : List MR} {w : World} {gbx : Nat} {ga ra : Option Addr} {gc rcp : Nat} {ds : List Nat} {ic i : Nat} {a : Act} {W : World} (h : SameInv ib v rs w gbx ga ra gc rcp ds ic i a W) (n : Nat) : leftI n a W = n - i := by
  unfold leftI
  rw [h.s7]
  show n - (intOf ((W.cell? ⟨ic, 0, none⟩).getD undef)).toNat = _
  rw [cell_of_row W ic 0 _ _ _ h.st.ix]
  rfl

/-- What the slots hold in a round. -/
structure RSlots (t : Array Value) (ib : Nat) (v : Value) (rc gbx : Nat) (rv : Value) (ic kb : Nat) : Prop where
  size : t.size = 89
  s0 : t.getD 0 undef = .pointer (some ⟨ib, 0, none⟩)
  s1 : t.getD 1 undef = v
  s4 : t.getD 4 undef = .pointer (some ⟨rc, 0, none⟩)
  s5 : t.getD 5 undef = .pointer (some ⟨gbx, 0, none⟩)
  s6 : t.getD 6 undef = rv
  s7 : t.getD 7 undef = .pointer (some ⟨ic, 0, none⟩)
  s8 : t.getD 8 undef = .pointer (some ⟨kb, 0, none⟩)
  s9 : t.getD 9 undef = .pointer (some ⟨kb + 1, 0, none⟩)
theorem getD_setv {t : Array Value} {i j : Nat} (v d : Value) (h : i ≠ j) : (t.setIfInBounds i v).getD j d = t.getD j d := by
  simp [h]
theorem RSlots.set {t : Array Value} {ib : Nat} {v : Value} {rc gbx : Nat} {rv : Value} {ic kb : Nat} (h : RSlots t ib v rc gbx rv ic kb) {k : Nat} (hk : 10 ≤ k) (u : Value) : RSlots (t.setIfInBounds k u) ib v rc gbx rv ic kb :=
  ⟨by simpa using h.size, (getD_setv _ _ (by omega)).trans h.s0, (getD_setv _ _ (by omega)).trans h.s1, (getD_setv _ _ (by omega)).trans h.s4, (getD_setv _ _ (by omega)).trans h.s5, (getD_setv _ _ (by omega)).trans h.s6, (getD_setv _ _ (by omega)).trans h.s7, (getD_setv _ _ (by omega)).trans h.s8, (getD_setv _ _ (by omega)).trans h.s9⟩
theorem RSlots.out {t : Array Value} {ib : Nat} {v : Value} {rc gbx : Nat} {rv : Value} {ic kb : Nat} (h : RSlots t ib v rc gbx rv ic kb) : ∃ f : Nat → Value, (∀ k, f k = t.getD k undef) ∧ t = #[.pointer (some ⟨ib, 0, none⟩), v, f 2, f 3, .pointer (some ⟨rc, 0, none⟩), .pointer (some ⟨gbx, 0, none⟩), rv, .pointer (some ⟨ic, 0, none⟩), .pointer (some ⟨kb, 0, none⟩), .pointer (some ⟨kb + 1, 0, none⟩), f 10, f 11, f 12, f 13, f 14, f 15, f 16, f 17, f 18, f 19, f 20, f 21, f 22, f 23, f 24, f 25, f 26, f 27, f 28, f 29, f 30, f 31, f 32, f 33, f 34, f 35, f 36, f 37, f 38, f 39, f 40, f 41, f 42, f 43, f 44, f 45, f 46, f 47, f 48, f 49, f 50, f 51, f 52, f 53, f 54, f 55, f 56, f 57, f 58, f 59, f 60, f 61, f 62, f 63, f 64, f 65, f 66, f 67, f 68, f 69, f 70, f 71, f 72, f 73, f 74, f 75, f 76, f 77, f 78, f 79, f 80, f 81, f 82, f 83, f 84, f 85, f 86, f 87, f 88] := by
  obtain ⟨f, hf, hft⟩ := slots89 t h.size
  refine ⟨f, hf, ?_⟩
  have e0 := (hf 0).trans h.s0
  have e1 := (hf 1).trans h.s1
  have e4 := (hf 4).trans h.s4
  have e5 := (hf 5).trans h.s5
  have e6 := (hf 6).trans h.s6
  have e7 := (hf 7).trans h.s7
  have e8 := (hf 8).trans h.s8
  have e9 := (hf 9).trans h.s9
  rw [← e0, ← e1, ← e4, ← e5, ← e6, ← e7, ← e8, ← e9]
  exact hft
theorem foldl_one (p : Nat) (v : Value) (t : Array Value) : (((#[p] : Array Tmp).zip #[v]).foldl (fun t (p, v) => t.setIfInBounds p v) t) = t.setIfInBounds p v := by
  simp
theorem name_act {P : Program} {c : Code} {Q : Exit → Act → World → Prop} {a : Act} {w : World} (h : ∀ a', a' = a → c.wp P Q a' w) : c.wp P Q a w := h a rfl
/-- Between two rounds: the counter; all else lies as it lay. -/
structure KbAt (W8 : World) (kb n : Nat) (X : World) : Prop where
  kept : Kept [kb] W8 X
  cell : X.heap[kb]? = some (.cells #[.int .i64 n] 3 (0, 0))
theorem KbAt.beside {W8 : World} {kb n : Nat} {X Y : World} {B : Nat} (h : KbAt W8 kb n X) (hk : kb < W8.heap.size) (hb : Beside W8.heap.size B X Y) : KbAt W8 kb n Y :=
  ⟨⟨hb.os.trans h.kept.os, hb.tape.trans h.kept.tape, hb.output.trans h.kept.output, Nat.le_trans h.kept.size hb.size, fun k hk' hn => (hb.block k (Nat.lt_of_lt_of_le hk' h.kept.size) (.inl hk')).trans (h.kept.block k hk' hn)⟩, (hb.block kb (Nat.lt_of_lt_of_le hk h.kept.size) (.inl hk)).trans h.cell⟩
theorem KbAt.later {W8 : World} {kb n : Nat} {X Y : World} (h : KbAt W8 kb n X) (hb : Below X.heap.size X Y) : KbAt W8 kb n Y :=
  ⟨h.kept.trans (Kept.of_below (F := []) hb) (fun _ hk => by cases hk), (hb.block kb (Array.getElem?_eq_some_iff.1 h.cell).1).trans h.cell⟩
/-- Ahead of a round's body. -/
structure SameAx (T : List PLine) (ib : Nat) (v : Value) (rc gbx : Nat) (rv : Value) (ic kb : Nat) (W8 : World) (B : Nat) (pre : List ML) (x : ML) (a : Act) (X : World) : Prop where
  cnt : KbAt W8 kb pre.length X
  gd : GdL T (W8.heap.size + 2) B pre x X
  sl : RSlots a.tmps ib v rc gbx rv ic kb
  df : a.defers = []
  yb : ∃ yb, LineVar X yb x.g ∧ W8.heap.size + 2 ≤ yb ∧ a.tmps.getD 10 undef = .pointer (some ⟨yb, 0, none⟩)

theorem IdxAt.good_in {B : Nat} {w : World} {ib M mc : Nat} {gs : List MG} (h : IdxAt B w ib M gs mc) {s : ByteArray} {m : ML} (hm : m ∈ linesIn gs s) : pErr m.p = 0 := by
  have hne : linesIn gs s ≠ [] := fun e => by rw [e] at hm; cases hm
  obtain ⟨G, hG, hms, _⟩ := linesIn_ne hne
  exact (h.grps G (groupOf_mem hG).1).good m (hms ▸ hm)
theorem num_range {p : PLine} (h : pErr p = 0) : 1 ≤ p.number ∧ p.number ≤ 2147483646 := by
  obtain ⟨f1, _⟩ := lineErr_zero h
  exact f1
theorem range_all {ms : List ML} (h : ∀ m ∈ ms, pErr m.p = 0) : rangeP ms (-1) 1099511627776 = ms.map (·.p) := by
  unfold rangeP
  rw [List.filter_eq_self]
  intro p hp
  obtain ⟨m, hm, rfl⟩ := List.mem_map.1 hp
  have := num_range (h m hm)
  rw [decide_eq_true_eq]
  omega
/-- The worlds in which the old blocks lie as they lay. -/
theorem KbAt.old {W8 : World} {kb n : Nat} {X : World} (h : KbAt W8 kb n X) {k : Nat} (hk : k < W8.heap.size) (hn : k ≠ kb) : X.heap[k]? = W8.heap[k]? := h.kept.block k hk (by simpa using hn)

set_option maxRecDepth 100000 in
set_option maxHeartbeats 8000000 in
theorem same_any (B B2 ib M mc : Nat) (gs : List MG) (v : Value) (rs : List MR) (w : World) (hG : Gl w) (h : IdxAt B w ib M gs mc) (hv : RefsAt B2 w v rs) (hr : RelR gs rs) (ho : ordR rs) (hI : ∀ r ∈ rs, IdsAt w r.m.v r.m.p.ids) :
    Calls Tryz.prog 27 #[.pointer (some ⟨ib, 0, none⟩), v] w fun r w' => r = .returned (.bool true) ∧ Below w.heap.size w w' := by
  obtain ⟨W, hW⟩ : ∃ W, W = w.alloc (.cells #[.bool false] 4) := ⟨_, rfl⟩
  have hb0 : Below w.heap.size w W := by rw [hW]; exact (Below.refl _ _).alloc (Nat.le_refl _) _
  have hs0 : W.heap.size = w.heap.size + 1 := by rw [hW]; simp
  have hC0 : W.heap[w.heap.size]? = some (.cells #[.bool false] 4 (0, 0)) := by rw [hW]; exact heap_alloc_new _ _
  have HGR := Lib.hid (groups_any B ib M mc gs W (hG.later hb0) (h.below hb0))
  obtain ⟨va, vn, vc, hve⟩ : ∃ a n c, v = .slice a n c := own_slice hv.row
  subst hve
  have HX := Lib.hid h
  have HV := Lib.hid hv
  have HR := Lib.hid hr
  have HO := Lib.hid ho
  have HI := Lib.hid hI
  have HB0 := Lib.hid hb0
  have HC0 := Lib.hid hC0
  have HS0 := Lib.hid hs0
  clear h hv hr ho hI hb0 hC0 hs0
  refine (callsIn_wide (n := 3)).1 (callsIn_of_wp_marks Tryz.func27 rfl trivial ?_ rfl)
  simp only [Tryz.ntmps27, List.size_toArray, List.length_cons, List.length_nil, Nat.reduceAdd, Nat.reduceSub, Array.replicate_succ, Array.replicate_zero, List.push_toArray, List.append_toArray, List.nil_append, List.cons_append]
  refine wpIn_wide.2 ?_
  go_wp2_with fail
  rw [← hW]
  clear hW
  refine HGR.out.mono ?_
  rintro r w1 ⟨gv, ns, rfl, hns, hord, hmem, hb1⟩
  have hnse := rel_names HX.out HR.out HO.out hord hmem
  subst hnse
  have HB1 := Lib.hid (HB0.out.trans (hb1.mono HB0.out.size) : Below w.heap.size w w1)
  have HC1 : Hid (w1.heap[w.heap.size]? = some (.cells #[.bool false] 4 (0, 0))) := Lib.hid ((hb1.block _ (by rw [HS0.out]; omega)).trans HC0.out)
  have HGR2 := Lib.hid (groupsRef_any B2 (.slice va vn vc) rs w1 (HV.out.below HB1.out))
  clear hb1 HGR hord hmem HB0 HC0
  go_wp2_with fail
  refine HGR2.out.mono ?_
  rintro r w2 ⟨rv, rfl, hown, hb2⟩
  have HB2 := Lib.hid (HB1.out.trans (hb2.mono HB1.out.size) : Below w.heap.size w w2)
  have HRN := Lib.hid (ownsRow_base hown (Nat.zero_le _))
  obtain ⟨ga, gc, hge, hgr⟩ : ∃ ga gc, gv = .slice ga (groupsR rs).length gc ∧ (groupsR rs ≠ [] → ∃ b, ga = some ⟨b, 0, none⟩ ∧ b < w2.heap.size ∧ StrRow w2 b 0 (groupsR rs)) := by
    rcases hns with ⟨e1, rfl⟩ | ⟨b, c, rfl, _, hrow, _, hbl⟩
    · exact ⟨none, 0, by rw [e1]; rfl, fun h => absurd e1 h⟩
    · exact ⟨_, c, rfl, fun _ => ⟨b, rfl, Nat.lt_of_lt_of_le hbl hb2.size, hrow.below' hb2 hbl⟩⟩
  obtain ⟨ra, rcp, hre, hrr⟩ : ∃ ra rcp, rv = .slice ra (groupsR rs).length rcp ∧ (groupsR rs ≠ [] → ∃ b, ra = some ⟨b, 0, none⟩ ∧ b < w2.heap.size ∧ StrRow w2 b 0 (groupsR rs)) := by
    by_cases hne : groupsR rs = []
    · rcases hown.2 with ⟨e, _⟩ | ⟨g', cap', cur', e, _⟩
      · exact ⟨none, 0, by rw [e, hne]; rfl, fun h => absurd hne h⟩
      · exact ⟨_, cap', e, fun h => absurd hne h⟩
    · obtain ⟨b, c, e, hrow, _, hbl⟩ := row_strs hown hne
      exact ⟨_, c, e, fun _ => ⟨b, rfl, hbl, hrow⟩⟩
  subst hge hre
  have HC2 : Hid (w2.heap[w.heap.size]? = some (.cells #[.bool false] 4 (0, 0))) := Lib.hid ((hb2.block _ (Array.getElem?_eq_some_iff.1 HC1.out).1).trans HC1.out)
  have HGRR := Lib.hid hgr
  have HRR := Lib.hid hrr
  have hnl : (groupsR rs).length ≤ 100000 := Nat.le_trans (groups_length rs) HV.out.few
  clear hgr hrr hown hns hb2 HGR2 HC1 HB1
  have hW3 : SameSt w w2.heap.size ga ra gc (groupsR rs) [] (w2.heap.size + 1) 0 ((w2.alloc (.cells #[.slice ga (groupsR rs).length gc] 78)).alloc (.cells #[.int .i64 0] 3)) := by
    have hba : Below w2.heap.size w2 ((w2.alloc (.cells #[.slice ga (groupsR rs).length gc] 78)).alloc (.cells #[.int .i64 0] 3)) := ((Below.refl _ _).alloc (Nat.le_refl _) _).alloc (by simp) _
    refine ⟨HB2.out.trans (hba.mono HB2.out.size), (hba.block _ (Array.getElem?_eq_some_iff.1 HC2.out).1).trans HC2.out, ?_, fun hn => ?_, fun hn => ?_, ?_, fun D hD => (by cases hD), List.nodup_nil, fun D hD => (by cases hD)⟩
    · rw [heap_alloc_old _ _ (by simp), heap_alloc_new]
    · obtain ⟨b, e, hl, hr⟩ := HGRR.out hn; exact ⟨b, e, Nat.lt_of_lt_of_le hl hba.size, hr.below' hba hl⟩
    · obtain ⟨b, e, hl, hr⟩ := HRR.out hn; exact ⟨b, e, Nat.lt_of_lt_of_le hl hba.size, hr.below' hba hl⟩
    · have := heap_alloc_new (w2.alloc (.cells #[.slice ga (groupsR rs).length gc] 78)) (.cells #[.int .i64 0] 3)
      simpa using this
  have HW3 := Lib.hid hW3
  clear hW3
  go_wp2
  generalize (w2.alloc (.cells #[.slice ga (groupsR rs).length gc] 78)).alloc (.cells #[.int .i64 0] 3) = w3 at HW3 ⊢
  obtain ⟨gbx, hgbx⟩ : ∃ x, x = w2.heap.size := ⟨_, rfl⟩
  rw [← hgbx] at HW3 ⊢
  clear hgbx HB2 HC2 HGRR HRR HRN
  refine wp_loop (fun a W => ∃ ds ic i, SameInv ib (.slice va vn vc) rs w gbx ga ra gc rcp ds ic i a W) (leftI (groupsR rs).length) ?start ?round
  case start => exact ⟨[], gbx + 1, 0, Nat.zero_le _, HW3.out, rfl, rfl, rfl, rfl, rfl, rfl, rfl, rfl⟩
  case round =>
    rintro a W ⟨ds, ic, i, hinv⟩
    have hmu := hinv.left (groupsR rs).length
    have HMU : Hid (∀ ds' ic' a' W', SameInv ib (.slice va vn vc) rs w gbx ga ra gc rcp ds' ic' (i + 1) a' W' → i < (groupsR rs).length → leftI (groupsR rs).length a' W' < leftI (groupsR rs).length a W) := Lib.hid fun ds' ic' a' W' h hl => by rw [h.left, hmu]; omega
    generalize leftI (groupsR rs).length a W = mu at HMU
    clear hmu
    have ha : ∃ f : Nat → Value, a = { tmps := #[.pointer (some ⟨ib, 0, none⟩), .slice va vn vc, f 2, f 3, .pointer (some ⟨w.heap.size, 0, none⟩), .pointer (some ⟨gbx, 0, none⟩), .slice ra (groupsR rs).length rcp, .pointer (some ⟨ic, 0, none⟩), f 8, f 9, f 10, f 11, f 12, f 13, f 14, f 15, f 16, f 17, f 18, f 19, f 20, f 21, f 22, f 23, f 24, f 25, f 26, f 27, f 28, f 29, f 30, f 31, f 32, f 33, f 34, f 35, f 36, f 37, f 38, f 39, f 40, f 41, f 42, f 43, f 44, f 45, f 46, f 47, f 48, f 49, f 50, f 51, f 52, f 53, f 54, f 55, f 56, f 57, f 58, f 59, f 60, f 61, f 62, f 63, f 64, f 65, f 66, f 67, f 68, f 69, f 70, f 71, f 72, f 73, f 74, f 75, f 76, f 77, f 78, f 79, f 80, f 81, f 82, f 83, f 84, f 85, f 86, f 87, f 88], defers := ds.map markD } := by
      obtain ⟨f, hf, hft⟩ := slots89 a.tmps hinv.size
      refine ⟨f, ?_⟩
      obtain ⟨tm, df⟩ := a
      have hdf : df = ds.map markD := hinv.df
      have e0 := (hf 0).trans hinv.s0
      have e1 := (hf 1).trans hinv.s1
      have e4 := (hf 4).trans hinv.s4
      have e5 := (hf 5).trans hinv.s5
      have e6 := (hf 6).trans hinv.s6
      have e7 := (hf 7).trans hinv.s7
      simp only at hft
      rw [hft, hdf, e0, e1, e4, e5, e6, e7]
    obtain ⟨f, rfl⟩ := ha
    have hst := hinv.st
    clear hinv
    have HST := Lib.hid hst
    clear HW3
    have k1 := cell_of_row W ic 0 _ _ _ hst.ix
    have k2 := cell_of_row W gbx 0 _ _ _ hst.gx
    by_cases hlt : i < (groupsR rs).length
    · have hltz : (i : Int) < ((groupsR rs).length : Int) := by omega
      have hne : groupsR rs ≠ [] := fun e => by rw [e] at hlt; cases hlt
      obtain ⟨gb, hga, hgl, hgr⟩ := hst.gr hne
      obtain ⟨rb, hra, hrl, hrr⟩ := hst.rr hne
      subst hga hra
      obtain ⟨t, ht⟩ : ∃ t, (groupsR rs)[i]? = some t := ⟨_, List.getElem?_eq_getElem hlt⟩
      have z1 : ∀ z : Later W, z.1.cell? ⟨ic, 0, none⟩ = some (.int .i64 i) := fun z => cell_of_row _ ic 0 _ _ _ ((hst.step z.2).ix)
      have z2 : ∀ z : Later W, z.1.cell? ⟨gbx, 0, none⟩ = some (.slice (some ⟨gb, 0, none⟩) (groupsR rs).length gc) := fun z => cell_of_row _ gbx 0 _ _ _ ((hst.step z.2).gx)
      have z3 : ∀ z : Later W, z.1.cell? ⟨gb, i, none⟩ = some (.string t) := fun z => by have := hgr.below' z.2 hgl i t ht; rwa [Nat.zero_add] at this
      have Z3 := Lib.hid z3
      have HBW : Hid (Below W.heap.size W W) := Lib.hid (Below.refl _ _)
      have z4 : ∀ z : Later W, z.1.cell? ⟨rb, i, none⟩ = some (.string t) := fun z => by have := hrr.below' z.2 hrl i t ht; rwa [Nat.zero_add] at this
      have hnm : ∃ r ∈ rs, r.s = t := ((groupsR_ok rs HO.out).2.1 t).1 (List.mem_of_getElem? ht)
      have hll : (linesIn gs t).length = (ofR rs t).length := by
        have := congrArg List.length (rel_lines HX.out HR.out HO.out t)
        rwa [List.length_map, List.length_map] at this
      have HLL := Lib.hid hll
      have hofl : (ofR rs t).length ≤ 100000 := by unfold ofR; exact Nat.le_trans (List.length_filter_le _ _) HV.out.few
      have HLN := Lib.hid (len_any B ib M mc gs t W.drew ((HX.out.below hst.bl).below (Below.refl _ _).drew))
      clear hst hgr hrr ht hne hll
      go_wp2_with fail
      refine wp_region_mix0 [0, 1, 2, 3, 4, 5, 6, 7, 8, 9, 10, 11, 12, 13, 14, 16, 17, 18, 19, 20] [15, 21, 22, 23, 24] (fun w' => ∃ z : Later W, w' = z.1) (by kernel_rfl) (by kernel_rfl) (by kernel_rfl) ⟨⟨_, (Below.refl _ _).drew⟩, rfl⟩ ?_
      simp only [opsAt, List.map_cons, List.map_nil, Array.getD_eq_getD_getElem?, List.getElem?_toArray, List.getElem?_cons_zero, List.getElem?_cons_succ, Option.getD_some]
      repeat (go_big_quiet_step (fail))
      refine wpQuiet_nil ?_
      refine wpR_at true (by kernel_rfl) (by kernel_rfl) ?_
      simp only [opsAt, List.map_cons, List.map_nil, Array.getD_eq_getD_getElem?, List.getElem?_toArray, List.getElem?_cons_zero, List.getElem?_cons_succ, Option.getD_some]
      go_wp2_with fail
      refine HLN.out.mono ?_
      rintro r w' ⟨rfl, rfl⟩
      go_wp2_with fail
      refine ⟨fun _ => ⟨⟨_, (Below.refl _ _).drew⟩, rfl⟩, wpR_list [21, 22, 23, 24] _ _ (by kernel_rfl) ?_⟩
      simp only [opsAt, List.map_cons, List.map_nil, Array.getD_eq_getD_getElem?, List.getElem?_toArray, List.getElem?_cons_zero, List.getElem?_cons_succ, Option.getD_some]
      have HST1 := Lib.hid (HST.out.step ((Below.refl _ _).drew : Below W.heap.size W W.drew))
      have HOF := Lib.hid (of_any B2 (.slice va vn vc) rs t W.drew (HV.out.below HST1.out.bl))
      clear z1 z2 z3 z4 HLN
      go_wp2_with fail
      refine HOF.out.mono ?_
      rintro r w4 ⟨lv, rfl, hlv, hb4⟩
      obtain ⟨la, lc, hle⟩ : ∃ a c, lv = .slice a (ofR rs t).length c := by
        rcases hlv.head with ⟨e, h0⟩ | ⟨g', cap', _, e, _⟩
        · exact ⟨none, 0, by rw [e, h0]; rfl⟩
        · exact ⟨_, _, e⟩
      subst hle
      have HST4 := Lib.hid (HST1.out.step hb4)
      have HBW4 : Hid (Below W.heap.size W w4) := Lib.hid (HBW.out.drew.trans (hb4.mono HBW.out.size))
      have hlz : (((linesIn gs t).length : Int) != ((ofR rs t).length : Int)) = false := by rw [HLL.out]; simp
      have q1 := cell_of_row w4 ic 0 _ _ _ HST4.out.ix
      have q2 := cell_of_row w4 gbx 0 _ _ _ HST4.out.gx
      have q3 : w4.cell? ⟨gb, i, none⟩ = some (.string t) := Z3.out ⟨w4, HBW.out.drew.trans (hb4.mono HBW.out.size)⟩
      have HOF2 := Lib.hid (of_any B2 (.slice va vn vc) rs t w4 (HV.out.below HST4.out.bl))
      clear hlv hb4 HOF HST1
      go_wp2_with fail
      refine NoPanic.normal ?_
      go_wp2_with fail
      refine HOF2.out.mono ?_
      rintro r w5 ⟨lv, rfl, hlv, hb5⟩
      obtain ⟨la, lc, hle⟩ : ∃ a c, lv = .slice a (ofR rs t).length c := by
        rcases hlv.head with ⟨e, h0⟩ | ⟨g', cap', _, e, _⟩
        · exact ⟨none, 0, by rw [e, h0]; rfl⟩
        · exact ⟨_, _, e⟩
      subst hle
      have HST5 := Lib.hid (HST4.out.step hb5)
      have HLV := Lib.hid hlv
      obtain ⟨W6, hW6⟩ : ∃ W6, W6 = (w5.alloc (.cells #[.int .i64 0] 3)).alloc (.cells #[.slice la (ofR rs t).length lc] 49) := ⟨_, rfl⟩
      have hb6 : Below w5.heap.size w5 W6 := by rw [hW6]; exact ((Below.refl _ _).alloc (Nat.le_refl _) _).alloc (by simp) _
      have hs6 : W6.heap.size = w5.heap.size + 2 := by rw [hW6]; simp
      have HKB : Hid (W6.heap[w5.heap.size]? = some (.cells #[.int .i64 0] 3 (0, 0))) := Lib.hid (by rw [hW6, heap_alloc_old _ _ (by simp), heap_alloc_new])
      have HLB : Hid (W6.heap[w5.heap.size + 1]? = some (.cells #[.slice la (ofR rs t).length lc] 49 (0, 0))) := Lib.hid (by
        have := heap_alloc_new (w5.alloc (.cells #[.int .i64 0] 3)) (.cells #[.slice la (ofR rs t).length lc] 49)
        rw [hW6]
        simpa using this)
      have HST6 := Lib.hid (HST5.out.step hb6)
      have q1 := cell_of_row W6 ic 0 _ _ _ HST6.out.ix
      have q2 := cell_of_row W6 gbx 0 _ _ _ HST6.out.gx
      have hb56 : Below W.heap.size W W6 := (HBW4.out.trans ((hb5.trans (hb6.mono hb5.size)).mono HBW4.out.size))
      have q3 : W6.cell? ⟨gb, i, none⟩ = some (.string t) := Z3.out ⟨W6, hb56⟩
      have Q3 := Lib.hid q3
      have HB56 := Lib.hid hb56
      have HLV6 := Lib.hid (hlv.below hb6)
      have hb45 : w4.heap.size ≤ w5.heap.size := hb5.size
      have HLVK : Hid (∀ g, (Value.slice la (ofR rs t).length lc).ownBlock = some g → g < w5.heap.size) := Lib.hid fun g hg => (World.ownsRow.lt hlv.row g hg).2
      have HS6 := Lib.hid hs6
      rw [hW6] at q1 q2 q3
      clear hlv HOF2 HST4 HST5 hb5 hb6 hb56 hs6
      go_wp2_with fail
      rw [← hW6]
      clear hW6 q1 q2 q3
      refine (range_call (some ⟨ib, 0, none⟩) t (-1) 1099511627776 W6).mono ?_
      rintro r W8 ⟨rfl, hW8⟩
      have hb8 : Below W6.heap.size W6 W8 := by rw [← hW8]; exact ((((Below.refl _ _).alloc (Nat.le_refl _) _).alloc (by simp) _).alloc (by simp; omega) _).alloc (by simp; omega) _
      have c0 : W8.cell? ⟨W6.heap.size, 0, none⟩ = some (.pointer (some ⟨ib, 0, none⟩)) := by
        rw [← hW8]; exact Lib.cell?_alloc_some _ (Lib.cell?_alloc_some _ (Lib.cell?_alloc_some _ (cells_new W6 _ _ 0)))
      have c1 : W8.cell? ⟨W6.heap.size + 1, 0, none⟩ = some (.string t) := by
        rw [← hW8]; exact Lib.cell?_alloc_some _ (Lib.cell?_alloc_some _ (by simp))
      have c2 : W8.cell? ⟨W6.heap.size + 1 + 1, 0, none⟩ = some (.int .i64 (-1)) := by
        rw [← hW8]; exact Lib.cell?_alloc_some _ (by simpa using cells_new ((W6.alloc (.cells #[.pointer (some ⟨ib, 0, none⟩)] 47)).alloc (.cells #[.string t] 9)) #[.int .i64 (-1)] 3 0)
      have c3 : W8.cell? ⟨W6.heap.size + 1 + 1 + 1, 0, none⟩ = some (.int .i64 1099511627776) := by
        rw [← hW8]; simpa using cells_new (((W6.alloc (.cells #[.pointer (some ⟨ib, 0, none⟩)] 47)).alloc (.cells #[.string t] 9)).alloc (.cells #[.int .i64 (-1)] 3)) #[.int .i64 1099511627776] 3 0
      have HC := Lib.hid (And.intro c0 (And.intro c1 (And.intro c2 c3)))
      have HST8 := Lib.hid (HST6.out.step hb8)
      have HBW8 : Hid (Below W.heap.size W W8) := Lib.hid (HB56.out.trans (hb8.mono HB56.out.size))
      have HG8 : Hid (W8.cell? ⟨gb, i, none⟩ = some (.string t)) := Lib.hid ((hb8.cell (block_lt_of_cell Q3.out)).trans Q3.out)
      have HKB8 : Hid (W8.heap[w5.heap.size]? = some (.cells #[.int .i64 0] 3 (0, 0))) := Lib.hid ((hb8.block _ (by rw [HS6.out]; omega)).trans HKB.out)
      have HLB8 : Hid (W8.heap[w5.heap.size + 1]? = some (.cells #[.slice la (ofR rs t).length lc] 49 (0, 0))) := Lib.hid ((hb8.block _ (by rw [HS6.out]; omega)).trans HLB.out)
      have HLV8 := Lib.hid (HLV6.out.below hb8)
      obtain ⟨kb, hkb⟩ : ∃ kb, kb = w5.heap.size := ⟨_, rfl⟩
      obtain ⟨n6, hn6⟩ : ∃ n6, n6 = W6.heap.size := ⟨_, rfl⟩
      have hblk : ic < kb ∧ gbx < kb ∧ gb < kb ∧ w.heap.size ≤ kb := by
        have h1 := (Array.getElem?_eq_some_iff.1 HST.out.ix).1
        have h2 := (Array.getElem?_eq_some_iff.1 HST.out.gx).1
        have h3 := HBW4.out.size
        have h4 := hb45
        rw [hkb]
        have h5 := HST.out.bl.size
        exact ⟨by omega, by omega, by omega, by omega⟩
      have HWK : Hid (W.heap.size ≤ kb) := Lib.hid (by rw [hkb]; have := HBW4.out.size; omega)
      rw [← hkb] at HKB8 HLB8 HS6 HLVK ⊢
      rw [← hn6] at HC HS6 ⊢
      clear hW8 hb8 c0 c1 c2 c3 HST6 HKB HLB HLV6 hkb hn6
      go_wp2_with fail
      refine name_act fun a8 ha8 => ?_
      have hsl : RSlots a8.tmps ib (.slice va vn vc) w.heap.size gbx (.slice (some ⟨rb, 0, none⟩) (groupsR rs).length rcp) ic kb := by rw [ha8]; exact ⟨rfl, rfl, rfl, rfl, rfl, rfl, rfl, rfl, rfl⟩
      have HSL := Lib.hid hsl
      have HA8 := Lib.hid ha8
      have he62 : a8.eval (.tmp 62) = .func (.func 67) #[] #[.pointer (some ⟨n6, 0, none⟩), .pointer (some ⟨n6 + 1, 0, none⟩), .pointer (some ⟨n6 + 1 + 1, 0, none⟩), .pointer (some ⟨n6 + 1 + 1 + 1, 0, none⟩)] := by rw [ha8]; rfl
      have hkbl : kb < W8.heap.size := (Array.getElem?_eq_some_iff.1 HKB8.out).1
      have HX8 := Lib.hid (HX.out.below HST8.out.bl)
      clear hsl ha8
      have HRT : Hid (rangeP (linesIn gs t) (-1) 1099511627776 = (ofR rs t).map (·.m.p)) := Lib.hid (by
        rw [← rel_lines HX.out HR.out HO.out t]
        exact range_all fun m hm => HX.out.good_in hm)
      refine (wpIn_wide (n := 3)).1 (wpIn_rangeFunc_guard (F := Fence.wide) rfl (by omega) (gf := 67) he62 trivial (enters_of Tryz.func67 (by kernel_rfl) rfl) (encs := fun x : ML => #[.agg (lineCells x.g)]) (Gd := GdL (rangeP (linesIn gs t) (-1) 1099511627776)) (Kp := KpL) (S := fun xs => xs.map (·.p) = rangeP (linesIn gs t) (-1) 1099511627776)
        (fun W' hb' hs' => rangeSeq_any _ _ _ _ _ B ib M mc gs t (-1) 1099511627776 W' ((hb'.cell (block_lt_of_cell HC.out.1)).trans HC.out.1) ((hb'.cell (block_lt_of_cell HC.out.2.1)).trans HC.out.2.1) ((hb'.cell (block_lt_of_cell HC.out.2.2.1)).trans HC.out.2.2.1) ((hb'.cell (block_lt_of_cell HC.out.2.2.2)).trans HC.out.2.2.2) (HX8.out.below hb'))
        ?kl ?kr (fun _ => rfl) (fun _ pre X => KbAt W8 kb pre.length X) (fun _ _ _ _ => False) (fun B pre X Y hi _ _ hb => hi.beside hkbl hb) (fun _ _ _ _ _ h _ _ _ => h) (fun X hb _ => ⟨Kept.of_below hb, (hb.block kb hkbl).trans HKB8.out⟩)
        (SameAx (rangeP (linesIn gs t) (-1) 1099511627776) ib (.slice va vn vc) w.heap.size gbx (.slice (some ⟨rb, 0, none⟩) (groupsR rs).length rcp) ic kb W8) ?assign ?hax ?ka ?body ?done (fun _ _ _ _ _ h _ => h.elim) (fun _ _ _ _ h => h.elim))
      case kl =>
        rintro B x X Y Z l o h1 h2 hk rfl
        have hsz : (X.putObj l o).heap.size = X.heap.size := by simp [World.putObj]
        exact ⟨by have := hk.1; omega, fun k hA hB hne => (hk.2 k hA hB hne).trans (World.putObj_heap_other (by omega))⟩
      case kr =>
        rintro B x X Y l o h1 h2 hk
        have hsz : (Y.putObj l o).heap.size = Y.heap.size := by simp [World.putObj]
        exact ⟨by have := hk.1; omega, fun k hA hB hne => (World.putObj_heap_other (by omega)).trans (hk.2 k hA hB hne)⟩
      case ka =>
        rintro B x X Y Z hb hBX hk
        exact ⟨Nat.le_trans hb.size hk.1, fun k hA hB hne => (hk.2 k hA hB hne).trans (hb.block k (by omega))⟩
      case hax =>
        rintro B pre x a' X l o ⟨h1, h2, h3, h4, yb, h5, h6, h7⟩ hl1 hl2
        have hbs : Beside W8.heap.size (W8.heap.size + 2) X (X.putObj l o) := Beside.putObj X l o ⟨hl1, hl2⟩
        refine ⟨h1.beside hkbl hbs, ⟨h2.here, h2.past, h2.refs.block fun k hk => World.putObj_heap_other (by have := (h2.refs.lt hk).1; omega), h2.lt⟩, h3, h4, yb, ?_, h6, h7⟩
        exact (World.putObj_heap_other (by omega)).trans h5
      case assign =>
        intro l B pre x X K hi hB hBX hgd hK
        have hsl2 : RSlots (a8.tmps.setIfInBounds 63 (.agg (lineCells x.g))) ib (.slice va vn vc) w.heap.size gbx (.slice (some ⟨rb, 0, none⟩) (groupsR rs).length rcp) ic kb := HSL.out.set (by omega) _
        have h63 : (a8.tmps.setIfInBounds 63 (.agg (lineCells x.g))).getD 63 undef = .agg (lineCells x.g) := by
          have := HSL.out.size
          simp [this]
        rw [foldl_one]
        generalize a8.tmps.setIfInBounds 63 (.agg (lineCells x.g)) = t63 at hsl2 h63
        have HS2 := Lib.hid hsl2
        obtain ⟨f', hf', hft⟩ := hsl2.out
        have h63' : f' 63 = .agg (lineCells x.g) := (hf' 63).trans h63
        rw [hft, h63']
        have hone := hgd.refs.one
        have hft2 := fits_line (g := x.g) hone
        have hzs : ((lineCells zeroLine).size == 38) = true := by rw [lineCells_size]; rfl
        have HK := Lib.hid hK
        have HI8 := Lib.hid hi
        have HGD := Lib.hid hgd
        clear hK hi hgd hft hf' h63 h63' hsl2
        gi_wp2
        have hba : Below X.heap.size X (X.alloc (.cells (lineCells x.g) 34)) := (Below.refl _ _).alloc (Nat.le_refl _) _
        refine HK.out _ _ ⟨HI8.out.later hba, HGD.out.below hba, ⟨rfl, rfl, rfl, rfl, rfl, rfl, rfl, rfl, rfl⟩, rfl, X.heap.size, heap_alloc_new _ _, by omega, rfl⟩ hba
      case body =>
        rintro l B pre x a' X rfl hB hBX ⟨hcnt, hgd, hsl, hdf, yb, hyv, hyb, h10⟩
        obtain ⟨tm, df⟩ := a'
        obtain rfl : df = [] := hdf
        obtain ⟨f', hf', hft⟩ := hsl.out
        have h10' : f' 10 = .pointer (some ⟨yb, 0, none⟩) := (hf' 10).trans h10
        simp only at hft
        rw [h10'] at hft
        subst hft
        clear hf' h10 h10' hsl
        -- the line of the reference
        have hhere := hgd.here
        rw [HRT.out, List.getElem?_map] at hhere
        obtain ⟨r0, hr0, hr0p⟩ := Option.map_eq_some_iff.1 hhere
        obtain ⟨hkl, hgk⟩ := List.getElem?_eq_some_iff.1 hr0
        have hr0m : r0 ∈ rs ∧ r0.s = t := ofR_mem.1 (List.mem_of_getElem? hr0)
        have hgood : pErr x.p = 0 := by
          obtain ⟨m, hm, he⟩ := (HR.out t r0.m.p).2 ⟨r0, hr0m.1, hr0m.2, rfl⟩
          rw [← hr0p, ← he]
          exact HX.out.good_in hm
        have hrl := refs_len hgood
        have hbX : Below w.heap.size w X := HST8.out.bl.trans (hcnt.kept.below HST8.out.bl.size (fun k hk => by rw [List.mem_singleton.1 hk]; exact hblk.2.2.2))
        have hI0 : IdsAt X r0.m.v x.p.ids := by rw [← hr0p]; exact (HI.out r0 hr0m.1).below hbX
        rcases HLV8.out.head with ⟨_, e0⟩ | ⟨lg, lcap, _, hlve, hlB, hll8, hlle, _, _, hlcell⟩
        · rw [e0] at hkl; cases hkl
        have hlk : lg < kb := HLVK.out lg (by rw [hlve]; rfl)
        cases hlve
        have hlX : ∀ j u, (flatR (ofR rs t))[j]? = some u → X.cell? ⟨lg, j, none⟩ = some u := fun j u hu => (cell_of_same (a := ⟨lg, j, none⟩) (hcnt.old hll8 (Nat.ne_of_lt hlk))).trans (hlcell j u hu)
        obtain ⟨i1, i2⟩ := rAt_rd hlX hkl
        rw [hgk] at i2
        have hgg : r0.m.g = { x.g with refs := r0.m.v } := by
          unfold ML.g
          rw [hr0p]
        rw [hgg, hr0m.2] at i2
        have y1 := (Array.getElem?_eq_some_iff.1 HST8.out.ix).1
        have y2 := (Array.getElem?_eq_some_iff.1 HST8.out.gx).1
        have e1 : X.cell? ⟨kb, 0, none⟩ = some (.int .i64 pre.length) := cell_of_row X kb 0 _ _ _ hcnt.cell
        have e2 : X.cell? ⟨kb + 1, 0, none⟩ = some (.slice (some ⟨lg, 0, none⟩) (ofR rs t).length lc) := cell_of_row X (kb + 1) 0 _ _ _ ((hcnt.old (Array.getElem?_eq_some_iff.1 HLB8.out).1 (by omega)).trans HLB8.out)
        have e3 : X.cell? ⟨gbx, 0, none⟩ = some (.slice (some ⟨gb, 0, none⟩) (groupsR rs).length gc) := cell_of_row X gbx 0 _ _ _ ((hcnt.old y2 (by omega)).trans HST8.out.gx)
        have e4 : X.cell? ⟨ic, 0, none⟩ = some (.int .i64 i) := cell_of_row X ic 0 _ _ _ ((hcnt.old y1 (by omega)).trans HST8.out.ix)
        have e5 : X.cell? ⟨gb, i, none⟩ = some (.string t) := (cell_of_same (a := ⟨gb, i, none⟩) (hcnt.old (k := gb) (by omega) (by omega))).trans HG8.out
        obtain ⟨e6, e7⟩ := hyv.rd
        have hklz : (pre.length : Int) < ((ofR rs t).length : Int) := by omega
        have HGD := Lib.hid hgd
        have HCN := Lib.hid hcnt
        have HI0 := Lib.hid hI0
        have HBX := Lib.hid hbX
        clear hgd hcnt hI0 hbX hlX hlcell hr0 hr0p hgk hr0m hgood hhere hgg hyv hlle hlB
        gi_wp2_with fail
        refine wpIn_region_stages (by kernel_rfl) (fun ⟨_, _, h⟩ => h) (by kernel_rfl) ?_
        have hbd : Below X.heap.size X X.drew := (Below.refl _ _).drew
        have HBD : Hid (∀ z : Later X.drew, Below X.heap.size X z.1) := Lib.hid fun z => hbd.trans (z.2.mono hbd.size)
        have z1 : ∀ z : Later X.drew, z.1.cell? ⟨kb, 0, none⟩ = some (.int .i64 pre.length) := fun z => ((HBD.out z).cell (block_lt_of_cell e1)).trans e1
        have z2 : ∀ z : Later X.drew, z.1.cell? ⟨kb + 1, 0, none⟩ = some (.slice (some ⟨lg, 0, none⟩) (ofR rs t).length lc) := fun z => ((HBD.out z).cell (block_lt_of_cell e2)).trans e2
        have z3 : ∀ z : Later X.drew, z.1.cell? ⟨gbx, 0, none⟩ = some (.slice (some ⟨gb, 0, none⟩) (groupsR rs).length gc) := fun z => ((HBD.out z).cell (block_lt_of_cell e3)).trans e3
        have z4 : ∀ z : Later X.drew, z.1.cell? ⟨ic, 0, none⟩ = some (.int .i64 i) := fun z => ((HBD.out z).cell (block_lt_of_cell e4)).trans e4
        have z5 : ∀ z : Later X.drew, z.1.cell? ⟨gb, i, none⟩ = some (.string t) := fun z => ((HBD.out z).cell (block_lt_of_cell e5)).trans e5
        have z6 : ∀ z : Later X.drew, okCells z.1 ⟨yb, 0, none⟩ 38 = true := fun z => Later.ok e6 ⟨z.1, HBD.out z⟩
        have z7 : ∀ z : Later X.drew, rdCells z.1 ⟨yb, 0, none⟩ 38 = lineCells x.g := fun z => (Later.rd e6 ⟨z.1, HBD.out z⟩).trans e7
        have z8 : ∀ z : Later X.drew, okCells z.1 ⟨lg, pre.length * 39, none⟩ 39 = true := fun z => Later.ok i1 ⟨z.1, HBD.out z⟩
        have z9 : ∀ z : Later X.drew, rdCells z.1 ⟨lg, pre.length * 39, none⟩ 39 = rlineCells t { x.g with refs := r0.m.v } := fun z => (Later.rd i1 ⟨z.1, HBD.out z⟩).trans i2
        clear e2 e3 e4 e5 e6 e7 i1 i2
        generalize hXd : X.drew = Xd at hbd HBD z1 z2 z3 z4 z5 z6 z7 z8 z9 ⊢
        have HBXd := Lib.hid hbd
        clear hbd hXd
        refine wp_stage [0, 1] [2, 3, 4] 13 (fun w' => ∃ z : Later Xd, w' = z.1) (by kernel_rfl) (by kernel_rfl) (by kernel_rfl) rfl rfl ⟨⟨_, Below.refl _ _⟩, rfl⟩ ?_
        simp only [opsAt, List.map_cons, List.map_nil, Array.getD_eq_getD_getElem?, List.getElem?_toArray, List.getElem?_cons_zero, List.getElem?_cons_succ, Option.getD_some]
        repeat (go_big_quiet_step (fail))
        refine wpQuiet_nil ?_
        refine wpN_cons true rfl (by kernel_rfl) ?_
        go_wp2_with fail
        refine ⟨fun _ => ⟨⟨_, Below.refl _ _⟩, rfl⟩, wpN_list [3, 4] _ _ (by kernel_rfl) ?_⟩
        simp only [opsAt, List.map_cons, List.map_nil, Array.getD_eq_getD_getElem?, List.getElem?_toArray, List.getElem?_cons_zero, List.getElem?_cons_succ, Option.getD_some]
        go_wp2
        refine NoPanic.normal ?_
        rw [QS_normal]
        have hdg : decide ((ofR rs t).length ≤ pre.length) = false := decide_eq_false (by omega)
        simp only [hdg]
        clear hdg
        refine wp_stage [5, 6, 7, 8, 9, 11, 12, 13, 14] [10, 15, 16, 17] 0 (fun w' => ∃ z : Later Xd, w' = z.1) (by kernel_rfl) (by kernel_rfl) (by kernel_rfl) rfl rfl ⟨⟨_, Below.refl _ _⟩, rfl⟩ ?_
        simp only [opsAt, List.map_cons, List.map_nil, Array.getD_eq_getD_getElem?, List.getElem?_toArray, List.getElem?_cons_zero, List.getElem?_cons_succ, Option.getD_some]
        repeat (go_big_quiet_step (fail))
        refine wpQuiet_nil ?_
        clear z1 z2 z3 z4 z5 z6 z7 z8 z9
        refine wpN_cons true rfl (by kernel_rfl) ?_
        have honx := HGD.out.refs.one
        have hcs : x.g.refs.cells = #[x.g.refs] := by
          obtain ⟨a', c', he, _⟩ := HGD.out.refs.at
          show x.v.cells = #[x.v]
          rw [he]; rfl
        go_wp2_with fail
        refine (back_any t x.g Xd hcs honx).mono ?_
        rintro r X2 ⟨rfl, hb2⟩
        have HB2 := Lib.hid (HBXd.out.trans (hb2.mono HBXd.out.size) : Below X.heap.size X X2)
        go_wp2_with fail
        refine ⟨fun _ => ⟨⟨_, hb2⟩, rfl⟩, wpN_list [15, 16, 17] _ _ (by kernel_rfl) ?_⟩
        clear hb2
        simp only [opsAt, List.map_cons, List.map_nil, Array.getD_eq_getD_getElem?, List.getElem?_toArray, List.getElem?_cons_zero, List.getElem?_cons_succ, Option.getD_some]
        have HSM := Lib.hid (same_true t x.g x.v r0.m.v x.p.ids X2 (HGD.out.refs.at.below HB2.out) (HI0.out.below HB2.out) (by omega))
        go_wp2_with fail
        refine HSM.out.mono ?_
        rintro r X3 ⟨rfl, hb3⟩
        have HB3 := Lib.hid (HB2.out.trans (hb3.mono HB2.out.size) : Below X.heap.size X X3)
        clear hb3 HSM HB2 HBXd
        go_wp2
        refine NoPanic.normal ?_
        rw [QS_normal]
        refine wpSt_end (by kernel_rfl) ?_
        have hk3 : X3.heap[kb]? = some (.cells #[.int .i64 pre.length] 3 (0, 0)) := (HB3.out.block kb (Array.getElem?_eq_some_iff.1 HCN.out.cell).1).trans HCN.out.cell
        have g1 := cell_of_row X3 kb 0 _ _ _ hk3
        have g2 := frozen_of_row X3 kb 0 _ _ hk3
        have hpl : pre.length ≤ 100000 := by omega
        clear e1
        gi_wp2
        have hsz : (X3.setCell ⟨kb, 0, none⟩ (.int .i64 ((pre.length : Int) + 1))).heap.size = X3.heap.size := by simp
        have ho : ∀ k, k ≠ kb → (X3.setCell ⟨kb, 0, none⟩ (.int .i64 ((pre.length : Int) + 1))).heap[k]? = X3.heap[k]? := fun k hk => heap_setCell_other X3 ⟨kb, 0, none⟩ k _ hk
        have hc := heap_setCell_same X3 kb 0 _ _ (.int .i64 ((pre.length : Int) + 1)) hk3
        refine ⟨⟨by rw [hsz]; exact HB3.out.size, fun k hk hk2 => ?_⟩, ⟨by rw [hsz]; exact HB3.out.size, fun k hA hB' _ => ?_⟩, ⟨⟨HB3.out.os.trans HCN.out.kept.os, HB3.out.tape.trans HCN.out.kept.tape, HB3.out.output.trans HCN.out.kept.output, by rw [hsz]; exact Nat.le_trans HCN.out.kept.size HB3.out.size, fun k hk hn => ?_⟩, ?_⟩⟩
        · exact (ho k (by omega)).trans (HB3.out.block k (by omega))
        · exact (ho k (by omega)).trans (HB3.out.block k (by omega))
        · have hn' : k ≠ kb := by simpa using hn
          exact (ho k hn').trans ((HB3.out.block k (Nat.lt_of_lt_of_le hk HCN.out.kept.size)).trans (HCN.out.old hk hn'))
        · rw [hc, List.length_append, List.length_singleton]
          simp
      case done =>
        intro B xs W9 hB hBW hS hi hmk
        have hxl : xs.length = (ofR rs t).length := by
          have := congrArg List.length hS
          rw [HRT.out, List.length_map, List.length_map] at this
          exact this
        have hbK : Below kb W8 W9 := hi.kept.below (by omega) (fun k hk => by rw [List.mem_singleton.1 hk]; exact Nat.le_refl _)
        have hWk : W.heap.size ≤ kb := HWK.out
        have HB9 : Hid (Below W.heap.size W W9) := Lib.hid (HBW8.out.trans (hbK.mono hWk))
        have HST9 := Lib.hid (HST.out.step HB9.out)
        have g1 := cell_of_row W9 kb 0 _ _ _ hi.cell
        have g2 : W9.cell? ⟨kb + 1, 0, none⟩ = some (.slice la (ofR rs t).length lc) := cell_of_row W9 (kb + 1) 0 _ _ _ ((hi.old (Array.getElem?_eq_some_iff.1 HLB8.out).1 (by omega)).trans HLB8.out)
        have g3 := cell_of_row W9 ic 0 _ _ _ HST9.out.ix
        rw [hxl] at g1
        have HMK := Lib.hid hmk
        have HW89 := Lib.hid hi.kept.size
        clear hS hi hmk hbK hxl
        rw [HA8.out]
        go_wp2
        have hba : Below W9.heap.size W9 (W9.alloc (.cells #[.int .i64 ((i : Int) + 1)] 3)) := (Below.refl _ _).alloc (Nat.le_refl _) _
        have h9 := HST9.out.step hba
        have hDl : ∀ D ∈ ds, D < W.heap.size := fun D hD => (Array.getElem?_eq_some_iff.1 (HST.out.ms D hD)).1
        have hst10 : SameSt w gbx (some ⟨gb, 0, none⟩) (some ⟨rb, 0, none⟩) gc (groupsR rs) (W8.heap.size :: ds) W9.heap.size (i + 1) (W9.alloc (.cells #[.int .i64 ((i : Int) + 1)] 3)) := by
          refine ⟨h9.bl, h9.rc, h9.gx, h9.gr, h9.rr, heap_alloc_new _ _, fun D hD => ?_, ?_, fun D hD => ?_⟩
          · rcases List.mem_cons.1 hD with rfl | hD
            · exact (hba.block _ (Array.getElem?_eq_some_iff.1 HMK.out).1).trans HMK.out
            · exact h9.ms D hD
          · refine List.nodup_cons.2 ⟨fun hD => ?_, h9.md⟩
            have := hDl _ hD
            omega
          · rcases List.mem_cons.1 hD with rfl | hD
            · have := hblk.2.2.2; omega
            · exact h9.mb D hD
        exact ⟨⟨_, _, i + 1, by omega, hst10, rfl, rfl, rfl, rfl, rfl, rfl, rfl, rfl⟩, HMU.out (W8.heap.size :: ds) W9.heap.size _ _ ⟨by omega, hst10, rfl, rfl, rfl, rfl, rfl, rfl, rfl, rfl⟩ hlt⟩
    · have hltz : ¬ (i : Int) < ((groupsR rs).length : Int) := by omega
      have k3 := cell_of_row W w.heap.size 0 _ _ _ hst.rc
      have k4 := frozen_of_row W w.heap.size 0 _ _ hst.rc
      clear hst
      go_wp2
      refine leaves_marks ds _ HST.out.md (fun D hD => ?_) (fun w' e1 e2 e3 e4 e5 => ?_)
      · exact (heap_setCell_other W ⟨w.heap.size, 0, none⟩ D (.bool true) (by have := HST.out.mb D hD; simp; omega)).trans (HST.out.ms D hD)
      · have hn : w.heap.size ∉ ds := fun hD => by have := HST.out.mb _ hD; omega
        have hC := heap_setCell_same W w.heap.size 0 _ _ (.bool true) HST.out.rc
        have hC5 := (e5 _ hn).trans hC
        have hc5 := cell_of_row _ w.heap.size 0 _ _ _ hC5
        have hbs : Below w.heap.size w (W.setCell ⟨w.heap.size, 0, none⟩ (.bool true)) := HST.out.bl.setCell (p := ⟨w.heap.size, 0, none⟩) (by simp) _
        refine ⟨.bool true, ?_, rfl, ⟨e1.trans hbs.os, e2.trans hbs.tape, e3.trans hbs.output, by rw [e4]; exact hbs.size, fun k hk => (e5 k (fun hD => by have := HST.out.mb _ hD; omega)).trans (hbs.block k hk)⟩⟩
        exact results_cell1' Tryz.results27 Tryz.isAgg4 _ _ ⟨w.heap.size, 0, none⟩ _ rfl hc5

end Go.Proofs.YtdjaphcelpchaaaGreatDoor

namespace Go.Proofs.YtdjaphcelpchaaaGreatDoor
open Go Go.RowKit Go.Proofs

theorem ex_load_op (ρ : Operand → Value) (d : Option Tmp) (x : Operand) (ty : TypeId) (pos : String) (af : Array Edge) (g : Option (Nat × Bool)) (w : World) :
    Sem.run Tryz.prog (execOp ρ ⟨d, .load 53 x, ty, pos, af, g⟩) w = ldRes Tryz.prog 53 w (ρ x) := rfl
theorem ld_op (w : World) (a : Addr) (h : okCells w a 40 = true) : ldRes Tryz.prog 53 w (.pointer (some a)) = .ok (.value (.agg (rdCells w a 40))) w := ldRes_agg Tryz.isAgg53 Tryz.sizeOf53 w a h

attribute [local go_sem ↓] ex_load_id ex_store_id ex_load_line ex_store_line ex_load_rline ex_store_rline ex_alloc_line ex_build_line ex_alloc_rline ex_build_rline ex_load_op

attribute [local go_sem] ld_id st_id ld_line st_line ld_rline st_rline guard_id okCells_drew rdCells_drew okCells_drewN rdCells_drewN rowOk_drew rowOk_cells okCells_cells rdCells_cells setRow_drew setRow_new setRow_past ld_op

/-- An index without lines. -/
theorem IdxAt.fresh (B : Nat) (w : World) (hB : B ≤ w.heap.size) : IdxAt B ((w.alloc (.map #[] 0)).alloc (.cells #[.map (some w.heap.size), .int .i64 0] 104)) (w.heap.size + 1) w.heap.size [] 0 where
  blk := by
    have := heap_alloc_new (w.alloc (.map #[] 0)) (.cells #[.map (some w.heap.size), .int .i64 0] 104)
    simpa [total] using this
  map := by
    unfold MapAt
    rw [heap_alloc_old _ _ (by simp), heap_alloc_new]
    rfl
  names := List.nodup_nil
  grps := fun _ h => by cases h
  apart := by simp [foot]
  born := List.nodup_nil
  young := fun _ h => by cases h
  few := by simp [total]
  ibB := by omega
  MB := hB

theorem IdxAt.foot_base {B : Nat} {w : World} {ib M mc : Nat} {gs : List MG} (h : IdxAt B w ib M gs mc) : ∀ k ∈ foot ib M gs, B ≤ k := by
  exact fun k hk => (h.foot_lt k hk).1
end Go.Proofs.YtdjaphcelpchaaaGreatDoor

namespace Go.Proofs.YtdjaphcelpchaaaGreatDoor
open Go Go.RowKit Go.Proofs Go.ChangeShapes Go.WideShapes Go.ChangeAt

section
variable {H : Type} {enc : TypeId × Value → H} {W : World} {base fuel : Nat} {sp : Nat → Bool} {held : Bool}

theorem weights_all_mem {P : Program} {e : TypeId} : ∀ {l : List (DataW H)} {d : DataW H}, d ∈ l → ∀ n ∈ d.weights P e, n ∈ DataW.weightsAll P e l
  | x :: l, d, hd, n, hn => by
    unfold DataW.weightsAll
    rcases List.mem_cons.1 hd with rfl | hd
    · exact List.mem_append_left _ hn
    · exact List.mem_append_right _ (weights_all_mem hd n hn)

/-- A line as plain data, and its value. -/
def mkML (g : GLine) (ids : List Id32) : ML := ⟨⟨g.number, g.id, g.name, g.date, g.subject, ids, g.bytes⟩, g.refs⟩
end

end Go.Proofs.YtdjaphcelpchaaaGreatDoor

namespace Go.Proofs.YtdjaphcelpchaaaGreatDoor
open Go Go.RowKit Go.Proofs

attribute [local go_sem ↓] ex_load_id ex_store_id ex_load_line ex_store_line ex_load_rline ex_store_rline ex_alloc_line ex_build_line ex_alloc_rline ex_build_rline

attribute [local go_sem] ld_id st_id ld_line st_line ld_rline st_rline guard_id okCells_drew rdCells_drew okCells_drewN rdCells_drewN rowOk_drew rowOk_cells okCells_cells rdCells_cells setRow_drew setRow_new setRow_past

attribute [local go_sem] run_eql_id run_neq_id eqIn_id

theorem ids_ext {a b : List Id32} (hl : a.length = b.length) (h : ∀ j, j < a.length → a[j]! = b[j]!) : a = b := by
  refine List.ext_getElem hl fun j h1 h2 => ?_
  have := h j h1
  rwa [getElem!_pos a j h1, getElem!_pos b j h2] at this

set_option maxRecDepth 100000 in
set_option maxHeartbeats 2000000 in
theorem eqIds_any (v1 v2 : Value) (ids1 ids2 : List Id32) (w : World) (h1 : IdsAt w v1 ids1) (h2 : IdsAt w v2 ids2) (hn1 : ids1.length ≤ 1000000) :
    Calls Tryz.prog 113 #[v1, v2] w fun r w' => r = .returned (.bool (decide (ids1 = ids2))) ∧ Below w.heap.size w w' := by
  obtain ⟨a1, c1, rfl, hc1, hr1⟩ := h1
  obtain ⟨a2, c2, rfl, hc2, hr2⟩ := h2
  by_cases hl : ids1.length = ids2.length
  · have HR1 := Lib.hid hr1
    have HR2 := Lib.hid hr2
    have HL := Lib.hid hl
    have hlz : ((ids1.length : Int) != (ids2.length : Int)) = false := by rw [hl]; simp
    clear hr1 hr2 hl
    go_enter Tryz.func113, Tryz.ntmps113
    go_wp2
    go_loopw [5, 13] (fun _ i wr => ∃ k q : Nat, k ≤ ids1.length ∧ i = .int .i64 k ∧ wr = w.drewN q ∧ Hid (∀ j, j < k → ids1[j]! = ids2[j]!)) (fun _ i _ => ids1.length - (intOf i).toNat)
    case atStart => exact ⟨0, 0, Nat.zero_le _, rfl, rfl, Lib.hid fun _ h => by omega⟩
    case round =>
      obtain ⟨k, q, hk, rfl, rfl, HS⟩ := hrel
      by_cases hlt : k < ids1.length
      · have hltz : (k : Int) < (ids1.length : Int) := by omega
        have hlt2 : k < ids2.length := by have := HL.out; omega
        have hltz2 : (k : Int) < (ids2.length : Int) := by omega
        have hne : ids1 ≠ [] := by intro e; rw [e] at hlt; simp at hlt
        have hne2 : ids2 ≠ [] := by intro e; rw [e] at hlt2; simp at hlt2
        obtain ⟨b1, o1, rfl, hw1⟩ := HR1.out hne
        obtain ⟨b2, o2, rfl, hw2⟩ := HR2.out hne2
        have hr1 := hw1.rd hlt
        have hr2 := hw2.rd hlt2
        have HNX : Hid (ids1[k]! = ids2[k]! → ∀ j, j < k + 1 → ids1[j]! = ids2[j]!) := Lib.hid fun h j hj => by
          by_cases e : j = k
          · subst e; exact h
          · exact HS.out j (by omega)
        have HNO : Hid (ids1[k]! ≠ ids2[k]! → ids1 ≠ ids2) := Lib.hid fun h e => h (by rw [e])
        generalize ids1[k]! = x at hr1 HNX HNO
        generalize ids2[k]! = y at hr2 HNX HNO
        obtain ⟨e1, e2⟩ := hr1
        obtain ⟨e3, e4⟩ := hr2
        clear hw1 hw2 hne hne2 HS
        by_cases hxy : x = y
        · have HS2 := Lib.hid (HNX.out hxy)
          clear HNX HNO
          subst hxy
          go_wp2
          go_quiet (fail)
          go_wp2
          go_roundw
          case rel => exact ⟨k + 1, q + nq, by omega, by go_num, by first | rfl | rw [World.drewN_drewN], HS2⟩
          case measure => simp [intOf]; omega
        · have HE := Lib.hid (HNO.out hxy)
          have hd : decide (x = y) = false := decide_eq_false hxy
          clear HNX HNO hxy
          go_wp2
          go_quiet (fail)
          go_wp2
          go_ret
          exact ⟨by rw [decide_eq_false HE.out]; rfl, below_drewN' (below_drewN' (Below.refl _ _) q) nq⟩
      · have HE : Hid (ids1 = ids2) := Lib.hid (ids_ext HL.out fun j hj => HS.out j (by omega))
        have hltz : ¬ (k : Int) < (ids1.length : Int) := by omega
        go_wp2
        go_ret
        exact ⟨by rw [decide_eq_true HE.out]; rfl, below_drewN' (Below.refl _ _) q⟩
  · have hlz : ((ids1.length : Int) != (ids2.length : Int)) = true := by rw [bne_iff_ne]; omega
    have HE : Hid (ids1 ≠ ids2) := Lib.hid fun e => hl (by rw [e])
    clear hl hr1 hr2
    go_enter Tryz.func113, Tryz.ntmps113
    go_wp2
    go_ret
    exact ⟨by rw [decide_eq_false HE.out]; rfl, Below.refl _ _⟩

/-- Two lines with the same data. -/
def eqP (p q : PLine) : Bool := decide (p.number = q.number) && decide (p.id = q.id) && decide (p.name = q.name) && decide (p.date = q.date) && decide (p.subject = q.subject) && decide (p.ids = q.ids) && decide (p.bytes = q.bytes)
theorem eqP_iff (p q : PLine) : eqP p q = true ↔ p = q := by
  unfold eqP
  simp only [Bool.and_eq_true, decide_eq_true_eq]
  constructor
  · rintro ⟨⟨⟨⟨⟨⟨h1, h2⟩, h3⟩, h4⟩, h5⟩, h6⟩, h7⟩
    obtain ⟨_, _, _, _, _, _, _⟩ := p
    obtain ⟨_, _, _, _, _, _, _⟩ := q
    subst h1 h2 h3 h4 h5 h6 h7
    rfl
  · rintro rfl
    exact ⟨⟨⟨⟨⟨⟨rfl, rfl⟩, rfl⟩, rfl⟩, rfl⟩, rfl⟩, rfl⟩

section
attribute [local go_sem] lc0 lc33 lc34 lc35 lc36 lc37 okArr_lid rdArr_lid

set_option maxRecDepth 100000 in
set_option maxHeartbeats 4000000 in
theorem equal_any (p q : PLine) (v1 v2 : Value) (w : World) (h1 : IdsAt w v1 p.ids) (h2 : IdsAt w v2 q.ids) (hn1 : p.ids.length ≤ 1000000) :
    Calls Tryz.prog 79 #[.agg (lineCells (ML.g ⟨p, v1⟩)), .agg (lineCells (ML.g ⟨q, v2⟩))] w fun r w' => r = .returned (.bool (eqP p q)) ∧ Below w.heap.size w w' := by
  obtain ⟨n1, i1, m1, d1, s1, r1, b1⟩ := p
  obtain ⟨n2, i2, m2, d2, s2, r2, b2⟩ := q
  have HE := Lib.hid fun (W : World) (hb : Below w.heap.size w W) => eqIds_any v1 v2 r1 r2 W (h1.below hb) (h2.below hb) hn1
  obtain ⟨ra, rc, e1, _⟩ := h1
  obtain ⟨qa, qc, e2, _⟩ := h2
  subst e1 e2
  have hbA : Below w.heap.size w ((w.alloc (.cells (lineCells ⟨n1, i1, m1, d1, s1, .slice ra r1.length rc, b1⟩) 34)).alloc (.cells (lineCells ⟨n2, i2, m2, d2, s2, .slice qa r2.length qc, b2⟩) 34)) := ((Below.refl _ _).alloc (Nat.le_refl _) _).alloc (by simp) _
  have HB := Lib.hid hbA
  show Calls Tryz.prog 79 #[.agg (lineCells ⟨n1, i1, m1, d1, s1, .slice ra r1.length rc, b1⟩), .agg (lineCells ⟨n2, i2, m2, d2, s2, .slice qa r2.length qc, b2⟩)] w fun r w' => r = .returned (.bool (eqP ⟨n1, i1, m1, d1, s1, r1, b1⟩ ⟨n2, i2, m2, d2, s2, r2, b2⟩)) ∧ Below w.heap.size w w'
  have HD : Hid (eqP ⟨n1, i1, m1, d1, s1, r1, b1⟩ ⟨n2, i2, m2, d2, s2, r2, b2⟩ = (decide (n1 = n2) && decide (i1 = i2) && decide (m1 = m2) && decide (d1 = d2) && decide (s1 = s2) && decide (r1 = r2) && decide (b1 = b2))) := Lib.hid rfl
  generalize eqP ⟨n1, i1, m1, d1, s1, r1, b1⟩ ⟨n2, i2, m2, d2, s2, r2, b2⟩ = res at HD
  clear hbA
  go_enter Tryz.func79, Tryz.ntmps79
  by_cases h1 : n1 = n2
  · subst h1
    by_cases h2 : i1 = i2
    · subst h2
      by_cases h3 : m1 = m2
      · subst h3
        by_cases h4 : d1 = d2
        · subst h4
          by_cases h5 : s1 = s2
          · subst h5
            go_wp2_with fail
            refine (HE.out _ HB.out).mono ?_
            rintro r w1 ⟨rfl, hb1⟩
            have hk : ∀ k j, k < w.heap.size + 2 → w1.cell? ⟨k, j, none⟩ = ((w.alloc (.cells (lineCells ⟨n1, i1, m1, d1, s1, .slice ra r1.length rc, b1⟩) 34)).alloc (.cells (lineCells ⟨n1, i1, m1, d1, s1, .slice qa r2.length qc, b2⟩) 34)).cell? ⟨k, j, none⟩ := fun k j hk => hb1.cell (by simp; omega)
            have c1 : w1.cell? ⟨w.heap.size, 37, none⟩ = some (.int .i64 b1) := by
              rw [hk _ _ (by omega), cell_of_row _ w.heap.size 37 _ _ (0, 0) (by rw [heap_alloc_old _ _ (by simp), heap_alloc_new])]
              exact lc37 _
            have c2 : w1.cell? ⟨w.heap.size + 1, 37, none⟩ = some (.int .i64 b2) := by
              rw [hk _ _ (by omega), cell_of_row _ (w.heap.size + 1) 37 _ _ (0, 0) (by have := heap_alloc_new (w.alloc (.cells (lineCells ⟨n1, i1, m1, d1, s1, .slice ra r1.length rc, b1⟩) 34)) (.cells (lineCells ⟨n1, i1, m1, d1, s1, .slice qa r2.length qc, b2⟩) 34); simpa using this)]
              exact lc37 _
            have HB1 := Lib.hid (HB.out.trans (hb1.mono HB.out.size) : Below w.heap.size w w1)
            clear hk hb1 HE HB
            by_cases h6 : r1 = r2
            · have hd6 : decide (r1 = r2) = true := decide_eq_true h6
              by_cases h7 : b1 = b2
              · have hr : Hid (res = true) := Lib.hid (by rw [HD.out]; simp [h6, h7])
                clear h6
                subst h7
                go_wp2
                go_ret
                exact ⟨by rw [hr.out]; rfl, HB1.out⟩
              · have hr : Hid (res = false) := Lib.hid (by rw [HD.out]; simp [h7])
                have hb7 : (b1 == b2) = false := by rw [beq_eq_false_iff_ne]; exact h7
                clear h6
                go_wp2
                go_ret
                exact ⟨by rw [hr.out]; rfl, HB1.out⟩
            · have hr : Hid (res = false) := Lib.hid (by rw [HD.out]; simp [h6])
              have hd6 : decide (r1 = r2) = false := decide_eq_false h6
              clear h6
              go_wp2
              go_ret
              exact ⟨by rw [hr.out]; rfl, HB1.out⟩
          · have hr : Hid (res = false) := Lib.hid (by rw [HD.out]; simp [h5])
            have hs5 : (s1.toList == s2.toList) = false := by rw [str_eq_iff, decide_eq_false h5]
            go_wp2
            go_ret
            exact ⟨by rw [hr.out]; rfl, HB.out⟩
        · have hr : Hid (res = false) := Lib.hid (by rw [HD.out]; simp [h4])
          go_wp2
          go_ret
          exact ⟨by rw [hr.out]; rfl, HB.out⟩
      · have hr : Hid (res = false) := Lib.hid (by rw [HD.out]; simp [h3])
        have hs3 : (m1.toList == m2.toList) = false := by rw [str_eq_iff, decide_eq_false h3]
        go_wp2
        go_ret
        exact ⟨by rw [hr.out]; rfl, HB.out⟩
    · have hr : Hid (res = false) := Lib.hid (by rw [HD.out]; simp [h2])
      have hd2 : decide (i1 = i2) = false := decide_eq_false h2
      go_wp2
      go_ret
      exact ⟨by rw [hr.out]; rfl, HB.out⟩
  · have hr : Hid (res = false) := Lib.hid (by rw [HD.out]; simp [h1])
    go_wp2
    go_ret
    exact ⟨by rw [hr.out]; rfl, HB.out⟩
end

/-- Two rows of lines with the same data. -/
def eqMs (a b : List ML) : Bool := decide (a.length = b.length) && (List.range a.length).all fun j => eqP a[j]!.p b[j]!.p
theorem eqMs_iff (a b : List ML) : eqMs a b = true ↔ a.map (·.p) = b.map (·.p) := by
  unfold eqMs
  rw [Bool.and_eq_true, decide_eq_true_eq, List.all_eq_true]
  constructor
  · rintro ⟨hl, h⟩
    refine List.ext_getElem (by simpa using hl) fun j h1 h2 => ?_
    rw [List.length_map] at h1 h2
    have := (eqP_iff _ _).1 (h j (by simpa using h1))
    rw [getElem!_pos a j h1, getElem!_pos b j h2] at this
    simpa using this
  · intro h
    have hl : a.length = b.length := by
      have := congrArg List.length h
      rwa [List.length_map, List.length_map] at this
    refine ⟨hl, fun j hj => ?_⟩
    have hj1 : j < a.length := by simpa using hj
    rw [eqP_iff, getElem!_pos a j hj1, getElem!_pos b j (by omega)]
    have := congrArg (·[j]?) h
    simp only [List.getElem?_map, List.getElem?_eq_getElem hj1, List.getElem?_eq_getElem (show j < b.length by omega), Option.map_some, Option.some.injEq] at this
    exact this
theorem eqMs_no {a b : List ML} {j : Nat} (h1 : j < a.length) (h2 : j < b.length) (h : eqP a[j].p b[j].p = false) : eqMs a b = false := by
  cases he : eqMs a b with
  | false => rfl
  | true =>
    have := (eqMs_iff a b).1 he
    have := congrArg (·[j]?) this
    simp only [List.getElem?_map, List.getElem?_eq_getElem h1, List.getElem?_eq_getElem h2, Option.map_some, Option.some.injEq] at this
    rw [this, (eqP_iff _ _).2 rfl] at h
    cases h
theorem eqMs_yes {a b : List ML} (hl : a.length = b.length) (h : ∀ j (h1 : j < a.length) (h2 : j < b.length), eqP a[j].p b[j].p = true) : eqMs a b = true := by
  rw [eqMs_iff]
  refine List.ext_getElem (by simpa using hl) fun j h1 h2 => ?_
  rw [List.length_map] at h1 h2
  simpa using (eqP_iff _ _).1 (h j h1 h2)

set_option maxRecDepth 100000 in
set_option maxHeartbeats 4000000 in
theorem eqLines_any (B1 B2 : Nat) (v1 v2 : Value) (ms1 ms2 : List ML) (w : World) (h1 : LinesAt B1 w v1 ms1) (h2 : LinesAt B2 w v2 ms2) (hn1 : ms1.length ≤ 65536) (hi1 : ∀ m ∈ ms1, m.p.ids.length ≤ 20) (hi2 : ∀ m ∈ ms2, m.p.ids.length ≤ 20) :
    Calls Tryz.prog 78 #[v1, v2, .func (.func 79) #[] #[]] w fun r w' => r = .returned (.bool (eqMs ms1 ms2)) ∧ Below w.heap.size w w' := by
  have HL1 := Lib.hid h1
  have HL2 := Lib.hid h2
  obtain ⟨a1, c1, e1⟩ : ∃ a c, v1 = .slice a ms1.length c := by
    rcases h1.head with ⟨e, e2⟩ | ⟨g, cap, e, _⟩
    · exact ⟨none, 0, by rw [e, e2]; rfl⟩
    · exact ⟨_, _, e⟩
  obtain ⟨a2, c2, e2⟩ : ∃ a c, v2 = .slice a ms2.length c := by
    rcases h2.head with ⟨e, e2⟩ | ⟨g, cap, e, _⟩
    · exact ⟨none, 0, by rw [e, e2]; rfl⟩
    · exact ⟨_, _, e⟩
  subst e1 e2
  clear h1 h2
  have HI1 := Lib.hid hi1
  have HI2 := Lib.hid hi2
  clear hi1 hi2
  have hzs : ((lineCells zeroLine).size == 38) = true := by rw [lineCells_size]; rfl
  by_cases hl : ms1.length = ms2.length
  · have HLE := Lib.hid hl
    have hlz : ((ms1.length : Int) != (ms2.length : Int)) = false := by rw [hl]; simp
    clear hl
    go_enter Tryz.func78, Tryz.ntmps78
    go_wp2
    go_loopw [7, 8, 9, 17] (fun _ _ _ i wr => ∃ k : Nat, k ≤ ms1.length ∧ i = .int .i64 k ∧ Hid (Below w.heap.size w wr) ∧ Hid (∀ j (h1 : j < ms1.length) (h2 : j < ms2.length), j < k → eqP ms1[j].p ms2[j].p = true)) (fun _ _ _ i _ => ms1.length - (intOf i).toNat)
    case atStart => exact ⟨0, Nat.zero_le _, rfl, Lib.hid (Below.refl _ _), Lib.hid fun _ _ _ h => by omega⟩
    case round =>
      obtain ⟨k, hk, rfl, HB, HS⟩ := hrel
      by_cases hlt : k < ms1.length
      · have hltz : (k : Int) < (ms1.length : Int) := by omega
        have hlt2 : k < ms2.length := by have := HLE.out; omega
        have hltz2 : (k : Int) < (ms2.length : Int) := by omega
        rcases HL1.out.head with ⟨_, e⟩ | ⟨g1, cap1, hv1, _, hgl1, _, _, hcell1⟩
        · rw [e] at hlt; cases hlt
        cases hv1
        rcases HL2.out.head with ⟨_, e⟩ | ⟨g2, cap2, hv2, _, hgl2, _, _, hcell2⟩
        · rw [e] at hlt2; cases hlt2
        cases hv2
        have hone1 := (HL1.out.refs ms1[k] (List.getElem_mem hlt)).one
        have hone2 := (HL2.out.refs ms2[k] (List.getElem_mem hlt2)).one
        have hft1 := fits_line (g := ms1[k].g) hone1
        have hft2 := fits_line (g := ms2[k].g) hone2
        obtain ⟨o1, d1⟩ := lineAt_rd (w := wr) (g := g1) (off := k * 38) (l := ms1[k].g) (fun i u hu => (HB.out.cell (p := ⟨g1, k * 38 + i, none⟩) hgl1).trans (hcell1 k hlt i u hu))
        have HBa : Hid (Below w.heap.size w (wr.alloc (.cells (lineCells ms1[k].g) 34))) := Lib.hid (HB.out.alloc HB.out.size _)
        obtain ⟨o2, d2⟩ := lineAt_rd (w := wr.alloc (.cells (lineCells ms1[k].g) 34)) (g := g2) (off := k * 38) (l := ms2[k].g) (fun i u hu => (HBa.out.cell (p := ⟨g2, k * 38 + i, none⟩) hgl2).trans (hcell2 k hlt2 i u hu))
        have o3 := ok_new_line wr ms1[k].g 34
        have d3 := rd_new_line wr ms1[k].g 34
        have o4 : okCells ((wr.alloc (.cells (lineCells ms1[k].g) 34)).alloc (.cells (lineCells ms2[k].g) 34)) ⟨wr.heap.size, 0, none⟩ 38 = true := ok_alloc _ o3
        have d4 : rdCells ((wr.alloc (.cells (lineCells ms1[k].g) 34)).alloc (.cells (lineCells ms2[k].g) 34)) ⟨wr.heap.size, 0, none⟩ 38 = lineCells ms1[k].g := (rd_alloc _ o3).trans d3
        have o5 : okCells ((wr.alloc (.cells (lineCells ms1[k].g) 34)).alloc (.cells (lineCells ms2[k].g) 34)) ⟨wr.heap.size + 1, 0, none⟩ 38 = true := by
          have := ok_new_line (wr.alloc (.cells (lineCells ms1[k].g) 34)) ms2[k].g 34
          simpa using this
        have d5 : rdCells ((wr.alloc (.cells (lineCells ms1[k].g) 34)).alloc (.cells (lineCells ms2[k].g) 34)) ⟨wr.heap.size + 1, 0, none⟩ 38 = lineCells ms2[k].g := by
          have := rd_new_line (wr.alloc (.cells (lineCells ms1[k].g) 34)) ms2[k].g 34
          simpa using this
        have HB2 : Hid (Below w.heap.size w ((wr.alloc (.cells (lineCells ms1[k].g) 34)).alloc (.cells (lineCells ms2[k].g) 34))) := Lib.hid (HBa.out.alloc HBa.out.size _)
        have HC := Lib.hid (equal_any ms1[k].p ms2[k].p ms1[k].v ms2[k].v _ (((HL1.out.refs ms1[k] (List.getElem_mem hlt)).at).below HB2.out) (((HL2.out.refs ms2[k] (List.getElem_mem hlt2)).at).below HB2.out) (Nat.le_trans (HI1.out _ (List.getElem_mem hlt)) (by omega)))
        have HNO : Hid (eqP ms1[k].p ms2[k].p = false → eqMs ms1 ms2 = false) := Lib.hid fun h => eqMs_no hlt hlt2 h
        have HNX : Hid (eqP ms1[k].p ms2[k].p = true → ∀ j (h1 : j < ms1.length) (h2 : j < ms2.length), j < k + 1 → eqP ms1[j].p ms2[j].p = true) := Lib.hid fun h j h1 h2 hj => by
          by_cases e : j = k
          · subst e; exact h
          · exact HS.out j h1 h2 (by omega)
        clear hcell1 hcell2 HS hone1 hone2
        generalize ms1[k] = x1 at *
        generalize ms2[k] = x2 at *
        generalize eqP x1.p x2.p = res at HC HNO HNX
        go_wp2_with fail
        refine HC.out.mono ?_
        rintro r w2 ⟨rfl, hb2⟩
        have HB3 := Lib.hid (HB2.out.trans (hb2.mono HB2.out.size) : Below w.heap.size w w2)
        clear hb2 HC HB2 HBa HB o1 d1 o2 d2 o3 d3 o4 d4 o5 d5
        cases res with
        | true =>
          have HS2 := Lib.hid (HNX.out rfl)
          clear HNX HNO
          go_wp2
          go_roundw
          case rel => exact ⟨k + 1, by omega, by go_num, HB3, HS2⟩
          case measure => simp [intOf]; omega
        | false =>
          have HE := Lib.hid (HNO.out rfl)
          clear HNX HNO
          go_wp2
          go_ret
          exact ⟨by rw [HE.out]; rfl, HB3.out⟩
      · have HE : Hid (eqMs ms1 ms2 = true) := Lib.hid (eqMs_yes HLE.out fun j h1 h2 => HS.out j h1 h2 (by omega))
        have hltz : ¬ (k : Int) < (ms1.length : Int) := by omega
        go_wp2
        go_ret
        exact ⟨by rw [HE.out]; rfl, HB.out⟩
  · have hlz : ((ms1.length : Int) != (ms2.length : Int)) = true := by rw [bne_iff_ne]; omega
    have HE : Hid (eqMs ms1 ms2 = false) := Lib.hid (by unfold eqMs; rw [decide_eq_false hl]; rfl)
    clear hl
    go_enter Tryz.func78, Tryz.ntmps78
    go_wp2
    go_ret
    exact ⟨by rw [HE.out]; rfl, Below.refl _ _⟩

end Go.Proofs.YtdjaphcelpchaaaGreatDoor

namespace Go.Proofs.YtdjaphcelpchaaaGreatDoor
open Go Go.RowKit Go.Proofs
open Go.ChangeMaps (setBlock)

theorem GrpAt.slice {B : Nat} {w : World} {G : MG} (h : GrpAt B w G) : ∃ a c, G.v = .slice a G.ms.length c := by
  rcases h.lines.head with ⟨e, e2⟩ | ⟨g, cap, e, _⟩
  · exact ⟨none, 0, by rw [e, e2]; rfl⟩
  · exact ⟨_, _, e⟩
set_option maxRecDepth 100000 in
set_option maxHeartbeats 2000000 in
theorem eqGroup_any (B1 B2 : Nat) (G1 G2 : MG) (w : World) (h1 : GrpAt B1 w G1) (h2 : GrpAt B2 w G2) (hn1 : G1.ms.length ≤ 65536) :
    Calls Tryz.prog 77 #[.pointer (some ⟨G1.gb, 0, none⟩), .pointer (some ⟨G2.gb, 0, none⟩)] w fun r w' => r = .returned (.bool (eqMs G1.ms G2.ms)) ∧ Below w.heap.size w w' := by
  have hb0 : Below w.heap.size w w.drew := (Below.refl _ _).drew
  have HE := Lib.hid (eqLines_any B1 B2 G1.v G2.v G1.ms G2.ms w.drew (h1.lines.below hb0) (h2.lines.below hb0) hn1 (fun m hm => refs_len (h1.good m hm)) (fun m hm => refs_len (h2.good m hm)))
  have HB0 := Lib.hid hb0
  have c1 : w.cell? ⟨G1.gb, 0, none⟩ = some G1.v := cell_of_row w G1.gb 0 _ _ _ h1.blk
  have c2 : w.cell? ⟨G2.gb, 0, none⟩ = some G2.v := cell_of_row w G2.gb 0 _ _ _ h2.blk
  obtain ⟨a1, e1, hv1⟩ := h1.slice
  obtain ⟨a2, e2, hv2⟩ := h2.slice
  rw [hv1] at HE c1
  rw [hv2] at HE c2
  have z1 : ∀ z : Later w, z.1.cell? ⟨G1.gb, 0, none⟩ = some (.slice a1 G1.ms.length e1) := fun z => Later.cell c1 z
  have z2 : ∀ z : Later w, z.1.cell? ⟨G2.gb, 0, none⟩ = some (.slice a2 G2.ms.length e2) := fun z => Later.cell c2 z
  clear h1 h2 hb0 c1 c2 hv1 hv2
  go_enter Tryz.func77, Tryz.ntmps77
  go_wp2_with fail
  refine wp_region_mix0 [0, 1, 2, 3, 4, 5, 6, 7] [8, 9] (fun w' => ∃ z : Later w, w' = z.1) (by kernel_rfl) (by kernel_rfl) (by kernel_rfl) ⟨⟨_, (Below.refl _ _).drew⟩, rfl⟩ ?_
  simp only [opsAt, List.map_cons, List.map_nil, Array.getD_eq_getD_getElem?, List.getElem?_toArray, List.getElem?_cons_zero, List.getElem?_cons_succ, Option.getD_some]
  repeat (go_big_quiet_step (fail))
  refine wpQuiet_nil ?_
  clear z1 z2
  refine wpR_list [8, 9] _ _ (by kernel_rfl) ?_
  simp only [opsAt, List.map_cons, List.map_nil, Array.getD_eq_getD_getElem?, List.getElem?_toArray, List.getElem?_cons_zero, List.getElem?_cons_succ, Option.getD_some]
  go_wp2_with fail
  refine HE.out.mono ?_
  rintro r w1 ⟨rfl, hb1⟩
  have HB1 := Lib.hid (HB0.out.trans (hb1.mono HB0.out.size) : Below w.heap.size w w1)
  clear hb1 HE HB0
  go_wp2
  refine NoPanic.normal ?_
  go_wp2
  go_ret
  exact ⟨rfl, HB1.out⟩

/-- Two indexes with the same lines. -/
def eqG (gs1 gs2 : List MG) : Bool := decide (gs1.length = gs2.length) && gs1.all fun G => match groupOf gs2 G.name with | some H => eqMs G.ms H.ms | none => false
def okG (gs2 : List MG) (G : MG) : Bool := match groupOf gs2 G.name with | some H => eqMs G.ms H.ms | none => false
theorem eqG_eq (gs1 gs2 : List MG) : eqG gs1 gs2 = (decide (gs1.length = gs2.length) && gs1.all (okG gs2)) := rfl
theorem okG_no {gs2 : List MG} {G : MG} (h : groupOf gs2 G.name = none) : okG gs2 G = false := by unfold okG; rw [h]
theorem okG_some {gs2 : List MG} {G H : MG} (h : groupOf gs2 G.name = some H) : okG gs2 G = eqMs G.ms H.ms := by unfold okG; rw [h]

theorem heap_setBlock (w : World) (b : Nat) (o : Obj) (h : b < w.heap.size) : (setBlock w b o).heap[b]? = some o := by
  unfold setBlock
  simp [h]
theorem heap_setBlock_ne (w : World) (b k : Nat) (o : Obj) (h : k ≠ b) : (setBlock w b o).heap[k]? = w.heap[k]? := by
  unfold setBlock
  simp [Ne.symm h]
theorem below_setBlock {B : Nat} (w : World) (b : Nat) (o : Obj) (h : B ≤ b) : Below B w (setBlock w b o) :=
  ⟨rfl, rfl, rfl, by unfold setBlock; simp, fun k hk => heap_setBlock_ne w b k o (by omega)⟩
/-- The entries of an index's map. -/
def entsOf (gs : List MG) : Array MapEntry := ((gs.map MG.e).map (enE ekS)).toArray
theorem mem_ents {gs : List MG} {e : MapEntry} (h : e ∈ (entsOf gs).toList) : ∃ G ∈ gs, e = enE ekS G.e := by
  unfold entsOf at h
  simp only [List.mem_map] at h
  obtain ⟨_, ⟨G, hG, rfl⟩, rfl⟩ := h
  exact ⟨G, hG, rfl⟩
theorem ents_born (gs : List MG) : (entsOf gs).toList.map (·.born) = gs.map (·.born) := by
  unfold entsOf
  simp only [List.map_map]
  rfl

theorem born_inj : ∀ {l : List MG}, (l.map fun G => G.born).Nodup → ∀ A ∈ l, ∀ C ∈ l, A.born = C.born → A = C := by
  intro l hl
  induction l with
  | nil => intro A hA; cases hA
  | cons D l ih =>
    rw [List.map_cons, List.nodup_cons] at hl
    intro A hA C hC he
    rcases List.mem_cons.1 hA with hA' | hA'
    · rcases List.mem_cons.1 hC with hC' | hC'
      · rw [hA', hC']
      · exact absurd (hA' ▸ he ▸ List.mem_map.2 ⟨C, hC', rfl⟩) hl.1
    · rcases List.mem_cons.1 hC with hC' | hC'
      · exact absurd (hC' ▸ List.mem_map.2 ⟨A, hA', he⟩) hl.1
      · exact ih hl.2 A hA' C hC' he
/-- In the middle of the range over the groups of an index: which have come up is told by the iterator's block. -/
structure RdSt (B : Nat) (w : World) (ib M mc : Nat) (gs : List MG) (D : MG → Prop) (r : Nat) (X : World) (seen : Array Nat) : Prop where
  iter : X.heap[r]? = some (.mapIter (some M) mc seen mc)
  bl : Below w.heap.size w X
  lo : w.heap.size ≤ r
  idx : IdxAt B w ib M gs mc
  did : ∀ G ∈ gs, seen.contains G.born = true → D G
theorem RdSt.step {B : Nat} {w : World} {ib M mc : Nat} {gs : List MG} {D : MG → Prop} {r : Nat} {X Y : World} {seen : Array Nat} (h : RdSt B w ib M mc gs D r X seen) (hb : Below X.heap.size X Y) : RdSt B w ib M mc gs D r Y seen :=
  ⟨(hb.block r (Array.getElem?_eq_some_iff.1 h.iter).1).trans h.iter, h.bl.trans (hb.mono h.bl.size), h.lo, h.idx, h.did⟩
theorem RdSt.start {B : Nat} {w W : World} {ib M mc : Nat} {gs : List MG} {D : MG → Prop} (h : IdxAt B w ib M gs mc) (hb : Below w.heap.size w W) : RdSt B w ib M mc gs D W.heap.size (W.alloc (.mapIter (some M) mc #[] mc)) #[] :=
  ⟨heap_alloc_new _ _, hb.alloc hb.size _, hb.size, h, fun G _ hs => by simp at hs⟩
/-- One step: nothing is left, or one group comes up. -/
theorem RdSt.next {B : Nat} {w : World} {ib M mc : Nat} {gs : List MG} {D : MG → Prop} {r : Nat} {X : World} {seen : Array Nat} (h : RdSt B w ib M mc gs D r X seen) (ty : TypeId) :
    ((∀ G ∈ gs, D G) ∧ (Instr.next (.pointer (some ⟨r, 0, none⟩)) false ty).run Tryz.prog X = .ok (.tuple #[.bool false]) X) ∨
    ∃ G ∈ gs, ∃ X', (Instr.next (.pointer (some ⟨r, 0, none⟩)) false ty).run Tryz.prog X = .ok (.tuple #[.bool true, .string G.name, .pointer (some ⟨G.gb, 0, none⟩)]) X' ∧ Below w.heap.size X X' ∧
      (Instr.entry (.pointer (some ⟨r, 0, none⟩))).run Tryz.prog X' = .ok (.tuple #[.string G.name, .pointer (some ⟨G.gb, 0, none⟩)]) X' ∧ (leftOf (entsOf gs) (seen.push G.born)).size < (leftOf (entsOf gs) seen).size ∧
      (D G → RdSt B w ib M mc gs D r X' (seen.push G.born)) ∧ X'.heap[r]? = some (.mapIter (some M) mc (seen.push G.born) mc) ∧ seen.contains G.born = false := by
  have hX := h.idx.below h.bl
  have hmap : X.heap[M]? = some (.map (entsOf gs) mc) := hX.map
  have hrM : r ≠ M := fun e => by
    have := h.iter
    rw [e, hmap] at this
    cases this
  have hold : ∀ e ∈ (entsOf gs).toList, e.born < mc := fun e he => by
    obtain ⟨G, hG, rfl⟩ := mem_ents he
    exact h.idx.young G hG
  rcases run_next_at (P := Tryz.prog) X ty r M mc mc seen (entsOf gs) mc h.iter hmap hold (Nat.le_refl _) with ⟨h0, hr⟩ | ⟨e, he, X1, hX1, hr⟩
  · refine .inl ⟨fun G hG => h.did G hG ?_, hr⟩
    have := all_seen (entsOf gs) seen h0 (enE ekS G.e) (by unfold entsOf; simp only [List.mem_map]; exact ⟨_, ⟨G, hG, rfl⟩, rfl⟩)
    exact this
  · obtain ⟨hm, hns⟩ := mem_left he
    obtain ⟨G, hG, rfl⟩ := mem_ents hm
    have hrl := (Array.getElem?_eq_some_iff.1 h.iter).1
    have hX1h : X1.heap = X.heap := by rcases hX1 with rfl | rfl <;> rfl
    have hb1 : Below w.heap.size X X1 := by
      rcases hX1 with rfl | rfl
      · exact Below.refl _ _
      · exact (Below.refl _ _).drew
    have hit : (setBlock X1 r (.mapIter (some M) mc (seen.push G.born) mc)).heap[r]? = some (.mapIter (some M) mc (seen.push G.born) mc) := heap_setBlock _ _ _ (by rw [hX1h]; exact hrl)
    have hmp : (setBlock X1 r (.mapIter (some M) mc (seen.push G.born) mc)).heap[M]? = some (.map (entsOf gs) mc) := by
      rw [heap_setBlock_ne _ _ _ _ (Ne.symm hrM), hX1h]
      exact hmap
    have hb2 : Below w.heap.size X (setBlock X1 r (.mapIter (some M) mc (seen.push G.born) mc)) := hb1.trans (below_setBlock X1 r _ h.lo)
    refine .inr ⟨G, hG, _, hr, hb2, run_entry_at _ r M mc seen (entsOf gs) mc (enE ekS G.e) hit hmp hm (by rw [ents_born]; exact h.idx.born), left_shrinks _ _ _ he, fun hD => ⟨hit, h.bl.trans hb2, h.lo, h.idx, fun H hH hs => ?_⟩, hit, hns⟩
    rw [Array.contains_push] at hs
    rw [Bool.or_eq_true] at hs
    rcases hs with hs | hs
    · exact h.did H hH hs
    · have hb : H.born = G.born := by simpa using hs
      have : H = G := by
        have h1 := h.idx.born
        exact born_inj h1 H hH G hG hb
      rw [this]; exact hD

/-- How many are still to come, off the iterator's block. -/
def leftR (gs : List MG) (r : Nat) (w : World) : Nat := match w.heap[r]? with
  | some (.mapIter _ _ seen _) => (leftOf (entsOf gs) seen).size
  | _ => 0
theorem leftR_eq {gs : List MG} {r : Nat} {w : World} {m : Option Nat} {s c : Nat} {seen : Array Nat} (h : w.heap[r]? = some (.mapIter m s seen c)) : leftR gs r w = (leftOf (entsOf gs) seen).size := by
  unfold leftR
  rw [h]
theorem look_grp {B : Nat} {w : World} {ib M mc : Nat} {gs : List MG} (h : IdxAt B w ib M gs mc) (s : ByteArray) :
    (Instr.lookup 102 (.map (some M)) (.string s) true).run Tryz.prog w = .ok (.tuple #[((groupOf gs s).map fun G => Value.pointer (some ⟨G.gb, 0, none⟩)).getD (.pointer none), .bool (groupOf gs s).isSome]) w := by
  have h1 := look_ok keyS Tryz.underlying102 (.pointer none) zero_ptr w M _ mc h.map s
  have h2 := find_groups s gs 0
  have h3 : (findK s (gs.map MG.e) 0).isSome = (groupOf gs s).isSome := by
    have := congrArg Option.isSome h2
    rwa [Option.isSome_map, Option.isSome_map] at this
  rw [h2, h3] at h1
  exact h1
theorem len_map {B : Nat} {w : World} {ib M mc : Nat} {gs : List MG} (h : IdxAt B w ib M gs mc) (ty : TypeId) : (Builtin.len_ #[102] ty #[.map (some M)]).run Tryz.prog w = .ok (.int .i64 gs.length) w := by
  have := run_len_map (P := Tryz.prog) (w := w) 102 ty M _ mc (by kernel_rfl) h.map
  simpa [goInt] using this

set_option maxRecDepth 100000 in
set_option maxHeartbeats 4000000 in
theorem eqMaps_any (B1 B2 ib1 ib2 M1 M2 mc1 mc2 : Nat) (gs1 gs2 : List MG) (w : World) (h1 : IdxAt B1 w ib1 M1 gs1 mc1) (h2 : IdxAt B2 w ib2 M2 gs2 mc2) :
    Calls Tryz.prog 76 #[.map (some M1), .map (some M2), .func (.func 77) #[] #[]] w fun r w' => r = .returned (.bool (eqG gs1 gs2)) ∧ Below w.heap.size w w' := by
  have l1 := len_map h1
  have l2 := len_map h2
  have H1 := Lib.hid h1
  have H2 := Lib.hid h2
  have hrg := run_range_map (P := Tryz.prog) w 102 _ _ M1 _ mc1 Tryz.underlying102 h1.map
  have hg1 := h1.groups
  have hg2 := h2.groups
  have HST : Hid (RdSt B1 w ib1 M1 mc1 gs1 (fun G => okG gs2 G = true) w.heap.size (w.alloc (.mapIter (some M1) mc1 #[] mc1)) #[]) := Lib.hid (RdSt.start h1 (Below.refl _ _))
  clear h1 h2
  by_cases hl : gs1.length = gs2.length
  · have hlz : ((gs1.length : Int) != (gs2.length : Int)) = false := by rw [hl]; simp
    have HLE := Lib.hid hl
    clear hl
    go_enter Tryz.func76, Tryz.ntmps76
    go_wp2
    clear hrg l1 l2
    go_loopw [7, 8, 9, 10] (fun _ _ _ _ wr => ∃ seen, Hid (RdSt B1 w ib1 M1 mc1 gs1 (fun G => okG gs2 G = true) w.heap.size wr seen)) (fun _ _ _ _ wr => leftR gs1 w.heap.size wr)
    case atStart => exact ⟨_, HST⟩
    case round =>
      obtain ⟨seen, HR⟩ := hrel
      have HMU := Lib.hid (leftR_eq (gs := gs1) HR.out.iter)
      rcases HR.out.next 0 with ⟨hall, hn⟩ | ⟨G, hG, X', hn, hb, hen, hlt, hst, hit, hns⟩
      · have HE : Hid (eqG gs1 gs2 = true) := Lib.hid (by
          rw [eqG_eq, HLE.out, decide_eq_true rfl, Bool.true_and, List.all_eq_true]
          exact hall)
        have HB := Lib.hid HR.out.bl
        clear hall
        go_wp2
        go_ret
        exact ⟨by rw [HE.out]; rfl, HB.out⟩
      · have HB := Lib.hid (HR.out.bl.trans hb)
        have hlk := look_grp (H2.out.below HB.out) G.name
        have HST' := Lib.hid hst
        have HLT := Lib.hid hlt
        have HIT := Lib.hid hit
        have HGM := Lib.hid hG
        clear hb hst hlt hit hns hG
        cases hg : groupOf gs2 G.name with
        | none =>
          rw [hg] at hlk
          have HE : Hid (eqG gs1 gs2 = false) := Lib.hid (by
            rw [eqG_eq, Bool.and_eq_false_iff]
            right
            rw [List.all_eq_false]
            exact ⟨G, HGM.out, by rw [okG_no hg]; simp⟩)
          clear hg
          go_wp2
          go_ret
          exact ⟨by rw [HE.out]; rfl, HB.out⟩
        | some H =>
          rw [hg] at hlk
          have HEG := Lib.hid (eqGroup_any B1 B2 G H X' ((H1.out.below HB.out).grps G HGM.out) ((H2.out.below HB.out).grps H (groupOf_mem hg).1) (Nat.le_trans (length_le_total HGM.out) H1.out.few))
          have HOK := Lib.hid (okG_some hg)
          clear hg
          generalize eqMs G.ms H.ms = res at HEG HOK
          go_wp2_with fail
          refine HEG.out.mono ?_
          rintro r w2 ⟨rfl, hb2⟩
          have HB2 := Lib.hid hb2
          clear hb2 HEG hn hen hlk
          cases res with
          | true =>
            have HST2 := Lib.hid ((HST'.out HOK.out).step HB2.out)
            go_wp2
            go_roundw
            case rel => exact ⟨_, HST2⟩
            case measure =>
              rw [HMU.out, leftR_eq HST2.out.iter]
              exact HLT.out
          | false =>
            have HE : Hid (eqG gs1 gs2 = false) := Lib.hid (by
              rw [eqG_eq, Bool.and_eq_false_iff]
              right
              rw [List.all_eq_false]
              exact ⟨G, HGM.out, by rw [HOK.out]; simp⟩)
            go_wp2
            go_ret
            exact ⟨by rw [HE.out]; rfl, HB.out.trans (HB2.out.mono HB.out.size)⟩
  · have hlz : ((gs1.length : Int) != (gs2.length : Int)) = true := by rw [bne_iff_ne]; omega
    have HE : Hid (eqG gs1 gs2 = false) := Lib.hid (by unfold eqG; rw [decide_eq_false hl]; rfl)
    clear hl hrg
    go_enter Tryz.func76, Tryz.ntmps76
    go_wp2
    go_ret
    exact ⟨by rw [HE.out]; rfl, Below.refl _ _⟩

set_option maxRecDepth 100000 in
set_option maxHeartbeats 1000000 in
theorem equalIdx_any (B1 B2 ib1 ib2 M1 M2 mc1 mc2 : Nat) (gs1 gs2 : List MG) (w : World) (h1 : IdxAt B1 w ib1 M1 gs1 mc1) (h2 : IdxAt B2 w ib2 M2 gs2 mc2) :
    Calls Tryz.prog 34 #[.pointer (some ⟨ib1, 0, none⟩), .pointer (some ⟨ib2, 0, none⟩)] w fun r w' => r = .returned (.bool (eqG gs1 gs2)) ∧ Below w.heap.size w w' := by
  have hb0 : Below w.heap.size w w.drew := (Below.refl _ _).drew
  have HE := Lib.hid (eqMaps_any B1 B2 ib1 ib2 M1 M2 mc1 mc2 gs1 gs2 w.drew (h1.below hb0) (h2.below hb0))
  have HB0 := Lib.hid hb0
  have c1 := h1.cell0
  have c2 := h2.cell0
  have z1 : ∀ z : Later w, z.1.cell? ⟨ib1, 0, none⟩ = some (.map (some M1)) := fun z => Later.cell c1 z
  have z2 : ∀ z : Later w, z.1.cell? ⟨ib2, 0, none⟩ = some (.map (some M2)) := fun z => Later.cell c2 z
  clear h1 h2 hb0 c1 c2
  go_enter Tryz.func34, Tryz.ntmps34
  go_wp2_with fail
  refine wp_region_mix0 [0, 1, 2, 3, 4, 5, 6, 7] [8, 9] (fun w' => ∃ z : Later w, w' = z.1) (by kernel_rfl) (by kernel_rfl) (by kernel_rfl) ⟨⟨_, (Below.refl _ _).drew⟩, rfl⟩ ?_
  simp only [opsAt, List.map_cons, List.map_nil, Array.getD_eq_getD_getElem?, List.getElem?_toArray, List.getElem?_cons_zero, List.getElem?_cons_succ, Option.getD_some]
  repeat (go_big_quiet_step (fail))
  refine wpQuiet_nil ?_
  clear z1 z2
  refine wpR_list [8, 9] _ _ (by kernel_rfl) ?_
  simp only [opsAt, List.map_cons, List.map_nil, Array.getD_eq_getD_getElem?, List.getElem?_toArray, List.getElem?_cons_zero, List.getElem?_cons_succ, Option.getD_some]
  go_wp2_with fail
  refine HE.out.mono ?_
  rintro r w1 ⟨rfl, hb1⟩
  have HB1 := Lib.hid (HB0.out.trans (hb1.mono HB0.out.size) : Below w.heap.size w w1)
  clear hb1 HE HB0
  go_wp2
  refine NoPanic.normal ?_
  go_wp2
  go_ret
  exact ⟨rfl, HB1.out⟩

/-- Equal tells whether all groups have the same lines. -/
theorem eqG_iff {B1 B2 ib1 ib2 M1 M2 mc1 mc2 : Nat} {gs1 gs2 : List MG} {w1 w2 : World} (h1 : IdxAt B1 w1 ib1 M1 gs1 mc1) (h2 : IdxAt B2 w2 ib2 M2 gs2 mc2) : eqG gs1 gs2 = true ↔ ∀ t, (linesIn gs1 t).map (·.p) = (linesIn gs2 t).map (·.p) := by
  have hne1 : ∀ G ∈ gs1, G.ms ≠ [] := fun G hG => (h1.grps G hG).some'
  have hne2 : ∀ G ∈ gs2, G.ms ≠ [] := fun G hG => (h2.grps G hG).some'
  rw [eqG_eq, Bool.and_eq_true, decide_eq_true_eq, List.all_eq_true]
  constructor
  · rintro ⟨hl, hall⟩ t
    have hsub : ∀ G ∈ gs1, ∃ H, groupOf gs2 G.name = some H ∧ G.ms.map (·.p) = H.ms.map (·.p) := fun G hG => by
      have := hall G hG
      unfold okG at this
      cases hg : groupOf gs2 G.name with
      | none => rw [hg] at this; cases this
      | some H => rw [hg] at this; exact ⟨H, rfl, (eqMs_iff _ _).1 this⟩
    have hss : (gs1.map fun G => G.name) ⊆ gs2.map fun G => G.name := fun x hx => by
      obtain ⟨G, hG, rfl⟩ := List.mem_map.1 hx
      obtain ⟨H, hH, _⟩ := hsub G hG
      obtain ⟨e1, e2⟩ := groupOf_mem hH
      exact List.mem_map.2 ⟨H, e1, e2⟩
    by_cases ht : t ∈ gs1.map fun G => G.name
    · obtain ⟨G, hG, rfl⟩ := List.mem_map.1 ht
      obtain ⟨H, hH, e⟩ := hsub G hG
      unfold linesIn
      rw [groupOf_of h1.names hG, hH]
      exact e
    · have hn1 : groupOf gs1 t = none := by
        cases hg : groupOf gs1 t with
        | none => rfl
        | some G => exact absurd (List.mem_map.2 ⟨G, groupOf_mem hg⟩) ht
      have hn2 : groupOf gs2 t = none := by
        cases hg : groupOf gs2 t with
        | none => rfl
        | some G =>
          exfalso
          have h3 : (t :: gs1.map fun G => G.name).Nodup := List.nodup_cons.2 ⟨ht, h1.names⟩
          have h4 := h3.length_le_of_subset (l₂ := gs2.map fun G => G.name) (fun x hx => by
            rcases List.mem_cons.1 hx with rfl | hx
            · exact List.mem_map.2 ⟨G, groupOf_mem hg⟩
            · exact hss hx)
          rw [List.length_cons, List.length_map, List.length_map] at h4
          omega
      unfold linesIn
      rw [hn1, hn2]
  · intro h
    have hsub : ∀ {gsa gsb : List MG}, (∀ G ∈ gsa, G.ms ≠ []) → (gsa.map fun G => G.name).Nodup → (∀ t, (linesIn gsa t).map (·.p) = (linesIn gsb t).map (·.p)) → ∀ G ∈ gsa, ∃ H, groupOf gsb G.name = some H ∧ G.ms.map (·.p) = H.ms.map (·.p) := fun {gsa gsb} hn hd hh G hG => by
      have h0 := hh G.name
      unfold linesIn at h0
      rw [groupOf_of hd hG] at h0
      cases hg : groupOf gsb G.name with
      | none =>
        rw [hg] at h0
        exact absurd (List.map_eq_nil_iff.1 h0) (hn G hG)
      | some H => rw [hg] at h0; exact ⟨H, rfl, h0⟩
    have p1 : (gs1.map fun G => G.name) ⊆ gs2.map fun G => G.name := fun x hx => by
      obtain ⟨G, hG, rfl⟩ := List.mem_map.1 hx
      obtain ⟨H, hH, _⟩ := hsub hne1 h1.names h G hG
      obtain ⟨e1, e2⟩ := groupOf_mem hH
      exact List.mem_map.2 ⟨H, e1, e2⟩
    have p2 : (gs2.map fun G => G.name) ⊆ gs1.map fun G => G.name := fun x hx => by
      obtain ⟨G, hG, rfl⟩ := List.mem_map.1 hx
      obtain ⟨H, hH, _⟩ := hsub hne2 h2.names (fun t => (h t).symm) G hG
      obtain ⟨e1, e2⟩ := groupOf_mem hH
      exact List.mem_map.2 ⟨H, e1, e2⟩
    refine ⟨?_, fun G hG => ?_⟩
    · have a1 := h1.names.length_le_of_subset p1
      have a2 := h2.names.length_le_of_subset p2
      rw [List.length_map, List.length_map] at a1 a2
      omega
    · obtain ⟨H, hH, e⟩ := hsub hne1 h1.names h G hG
      rw [okG_some hH, eqMs_iff]
      exact e

end Go.Proofs.YtdjaphcelpchaaaGreatDoor

namespace Go.Proofs.YtdjaphcelpchaaaGreatDoor
open Go Go.RowKit Go.Proofs

/-- What Groups answers, and the type of its row. -/
def GroupsPostT (gs : List MG) (w : World) (r : Ending) (w' : World) : Prop := ∃ v ns, r = .returned v ∧ StrsAt w.heap.size w' v ns ∧ ordN ns ∧ (∀ t, t ∈ ns ↔ ∃ G ∈ gs, G.name = t) ∧ Below w.heap.size w w' ∧ ∀ b, v.ownBlock = some b → ∃ cs fz, w'.heap[b]? = some (.cells cs 9 fz)
theorem sortWorld_typed (w : World) (blk off m : Nat) (dk : Array SName) (os : Array Obj) {cur : Array Value} {ty : TypeId} {fz : Nat × Nat} (h : w.heap[blk]? = some (.cells cur ty fz)) : ∃ cs fz', (sortWorld encN w blk off m dk os).heap[blk]? = some (.cells cs ty fz') := by
  have hl := (Array.getElem?_eq_some_iff.1 h).1
  have h' : (Go.Sort.ahead w m).heap[blk]? = some (.cells cur ty fz) := h
  unfold sortWorld
  rw [Go.Sort.heap_grow_old _ _ (by simp; omega)]
  unfold Go.Sort.putRow Go.Sort.mapBlock
  simp only [Array.getElem?_modify]
  rw [if_pos trivial, h']
  exact ⟨_, _, rfl⟩

set_option maxRecDepth 100000 in
set_option maxHeartbeats 4000000 in
theorem groups_typed (B ib M mc : Nat) (gs : List MG) (w : World) (hG : Gl w) (h : IdxAt B w ib M gs mc) :
    Calls Tryz.prog 47 #[.pointer (some ⟨ib, 0, none⟩)] w fun r w' => GroupsPostT gs w r w' := by
  have hc := h.cell0
  obtain ⟨W1, hW1⟩ : ∃ W1, W1 = w.alloc (.cells #[.map (some M)] 102) := ⟨_, rfl⟩
  have hb1 : Below w.heap.size w W1 := by rw [hW1]; exact (Below.refl _ _).alloc (Nat.le_refl _) _
  have hX1 := h.below hb1
  have hs1 : W1.heap.size = w.heap.size + 1 := by rw [hW1]; simp
  have hm1 : W1.cell? ⟨w.heap.size, 0, none⟩ = some (.map (some M)) := by rw [hW1]; exact cells_new w _ _ 0
  have hown := hX1.owns h.groups
  have hseq : SeqGives Fence.wide 2 Tryz.prog 119 #[.pointer (some ⟨w.heap.size, 0, none⟩)] encStr (fun ss => ss.Perm (Go.strKeys (datumP Tryz.prog gs))) (Go.Maps.size (datumP Tryz.prog gs)) W1 :=
    AnyZ.keys_gives (ρ := Tryz.keysA_ren) { Tryz.keysA with } Fence.wide _ trivial rfl (by omega) w.heap.size M gs.length _ _ (by omega) hm1 hown
  have hK : Calls Tryz.prog 85 #[.map (some M)] w fun e w' => e = .returned (.func (.func 119) #[] #[.pointer (some ⟨w.heap.size, 0, none⟩)]) ∧ w' = W1 := by
    rw [hW1]
    exact (callsIn_wide (n := 5)).1 (AnyZ.keys_in Tryz.keysA Fence.wide 5 trivial rfl (some M) w)
  have hgl := h.groups
  have hC : Calls Tryz.prog 117 #[.func (.func 119) #[] #[.pointer (some ⟨w.heap.size, 0, none⟩)]] W1 fun e w' => ∃ (v : Value) (ss : List (List UInt8)), e = .returned v ∧ ss.Perm (Go.strKeys (datumP Tryz.prog gs)) ∧ w'.ownsRow W1.heap.size 9 1 v ss.length (ss.map encStr) ∧ (v = .slice none 0 0 ↔ ss = []) ∧ Below W1.heap.size W1 w' :=
    (callsIn_wide (n := 4)).1 (AnyZ.collect_in Tryz.collectA Fence.wide 4 trivial trivial rfl (by omega) 119 _ trivial (enters_of Tryz.func119 (by kernel_rfl) rfl) _ _ (by rw [size_datum]; unfold maxLen; omega) (by rw [size_datum]; omega) W1 hseq)
  have hkeys := strKeys_datum h
  have hnames : ∀ G ∈ gs, G.name.size ≤ 80 := fun G hG => name_size (h.grps G hG).named
  have hnd := h.names
  have HS : Hid (Calls Tryz.prog 84 #[.func (.func 119) #[] #[.pointer (some ⟨w.heap.size, 0, none⟩)], .func (.func 86) #[] #[]] W1 fun r w' => GroupsPostT gs w r w') := Lib.hid (by
    have HC := Lib.hid hC
    have HG := Lib.hid (hG.later hb1)
    have HB1 := Lib.hid hb1
    clear hC hK hseq hown hX1 hc h hG hb1 hm1 hW1
    go_enter Tryz.func84, Tryz.ntmps84
    go_wp2_with fail
    refine HC.out.mono ?_
    rintro r w2 ⟨v, ss, rfl, hp, hrow, hnil, hb2⟩
    have hB2 := HB1.out.trans (hb2.mono (by omega))
    have hpn : ss.Perm (gs.map fun G => G.name.data.toList) := hp.trans hkeys
    have hG2 := HG.out.later hb2
    have HB2 := Lib.hid hB2
    rcases hrow.2 with ⟨rfl, h0⟩ | ⟨g, cap, cur, rfl, hg, hcur, hle, hmx, hcs, htk⟩
    · have hss : ss = [] := List.length_eq_zero_iff.1 h0
      have hgs : gs = [] := by
        rw [hss] at hpn
        have := hpn.symm.eq_nil
        simpa using this
      clear hrow hnil hb2 hB2 hp hpn hG2 HG HC HB1 hkeys h0 hnames hnd hs1 hgl
      go_wp2_with fail
      refine (AnyF.slices_SortFunc_none (L := { Tryz.sortA with }) none 0 _ w2).mono ?_
      rintro r w' ⟨rfl, rfl⟩
      go_wp2
      go_ret
      exact ⟨_, [], rfl, .inl ⟨rfl, rfl⟩, .nil, fun t => by rw [hgs]; simp, HB2.out, fun b hb => by cases hb⟩
    · obtain ⟨bs, hbs⟩ : ∃ bs : List ByteArray, bs = ss.map str := ⟨_, rfl⟩
      have hbl : bs.length = ss.length := by rw [hbs]; simp
      have hbp : bs.Perm (gs.map fun G => G.name) := by
        rw [hbs]
        refine (hpn.map str).trans ?_
        rw [List.map_map]
        refine List.Perm.of_eq (List.map_congr_left fun G _ => ?_)
        rfl
      have hbn : bs.Nodup := hbp.nodup_iff.2 hnd
      have hbz : ∀ s ∈ bs, s.size ≤ 100000 := fun s hs => by
        obtain ⟨G, hG, e⟩ := List.mem_map.1 (hbp.mem_iff.1 hs)
        have := hnames G hG
        rw [← e]; omega
      have hlen : ss.length = gs.length := by
        have := hpn.length_eq
        simpa using this
      have hglt := (Array.getElem?_eq_some_iff.1 hcur).1
      have hsr : StrRow w2 g 0 bs := fun k x hx => by
        have := World.ownsRow.cells hrow (g := g) rfl k (.string x) (by
          rw [hbs, List.getElem?_map] at hx
          rw [List.getElem?_map]
          cases hk : ss[k]? with
          | none => rw [hk] at hx; cases hx
          | some l => rw [hk] at hx; cases hx; rfl)
        rwa [Addr.add_lit] at this
      have hHo : Go.Sort.Holds encN w2 g 0 (bs.pmap mkN hbz).toArray := fun j hj => by
        have hj' : j < bs.length := by simpa using hj
        refine ⟨?_, ?_⟩
        · rw [hsr j bs[j] (List.getElem?_eq_getElem hj'), getElem!_pos _ j hj]
          simp only [List.getElem_toArray, List.getElem_pmap]
          rfl
        · unfold World.frozen?
          rw [hcur]
          simp
      have hsz : (bs.pmap mkN hbz).toArray.size = ss.length := by simp [hbl]
      have HSO := Lib.hid (sort_any' g cap ss.length bs w2 hG2 hbz hglt (Nat.le_trans (HG.out.size) hg) hHo (by omega) hbl.symm)
      have HCUR := Lib.hid hcur
      have HFIN := Lib.hid (fun (w' : World) (d' : Array SName) n os hp hs hw => sorted_row (w := w2) (w' := w') hbz hbn hsr hglt d' n os hHo hp hs hw)
      have HMEM : Hid (∀ t, t ∈ bs ↔ ∃ G ∈ gs, G.name = t) := Lib.hid (fun t => by rw [hbp.mem_iff, List.mem_map])
      have HBL := Lib.hid hbl
      have HLEN := Lib.hid hlen
      clear hHo hsr hrow hnil hb2 hB2 hp hpn hG2 HC hkeys hnames hnd hcs htk hbn hbp hbs hcur hbl hlen hsz
      clear HG HB1
      go_wp2_with fail
      refine HSO.out.mono ?_
      rintro r w3 ⟨rfl, d', n, os, hp, hs, hw⟩
      obtain ⟨ns, hnl, hr3, ho3, hm3⟩ := HFIN.out w3 d' n os hp hs hw
      have hB3 : Below g w2 w3 := by rw [hw]; exact below_sortWorld w2 g 0 n d' os (by omega)
      have HB3 := Lib.hid (HB2.out.trans (hB3.mono (by omega)))
      have hl3 : g < w3.heap.size := Nat.lt_of_lt_of_le hglt hB3.size
      have HTY : Hid (∃ cs fz, w3.heap[g]? = some (.cells cs 9 fz)) := Lib.hid (by rw [hw]; exact sortWorld_typed w2 g 0 n d' os HCUR.out)
      clear hp hs hw HFIN HSO hB3
      have hnl' := Lib.hid (show ns.length = ss.length by rw [hnl, HBL.out])
      clear hnl
      go_wp2
      go_ret
      exact ⟨_, ns, rfl, .inr ⟨g, cap, by rw [hnl'.out]; rfl, by rw [hnl'.out]; exact hle, hr3, by omega, hl3⟩, ho3, fun t => (hm3 t).trans (HMEM.out t), HB3.out, fun b hb => by cases hb; exact HTY.out⟩)
  have HK := Lib.hid hK
  clear hC hK hseq hown hX1 h hG hb1 hm1 hkeys hnames hnd hs1 hgl
  clear hW1
  go_enter Tryz.func47, Tryz.ntmps47
  go_wp2_with fail
  refine HK.out.mono ?_
  rintro r w' ⟨rfl, rfl⟩
  go_wp2_with fail
  refine HS.out.mono ?_
  rintro r w' ⟨v, ns, rfl, hpost⟩
  have HP := Lib.hid hpost
  obtain ⟨va, vc, rfl⟩ := hpost.1.slice
  clear hpost
  go_wp2
  go_ret
  exact ⟨_, ns, rfl, HP.out⟩

end Go.Proofs.YtdjaphcelpchaaaGreatDoor
