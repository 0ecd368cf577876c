/- Parts of the proofs about bulletinlaw28: Add, NameOrd, Names, RNames, Stage, Round. -/
import Derived.Test.YtdjaphcelpchaaaGreatDoorShelf
import Derived.Test.YtdjaphcelpchaaaGreatDoorK1
import Derived.Test.YtdjaphcelpchaaaGreatDoorK2
import Derived.Test.YtdjaphcelpchaaaGreatDoorShelf2
import Derived.Test.YtdjaphcelpchaaaGreatDoorDecodesL1
import Derived.Test.YtdjaphcelpchaaaGreatDoorDecodesL2
import Derived.Deep.LoopGhost
import Derived.Deep.RegionWith
import Derived.RangeFuncNested
import Derived.RangeFuncBound
import Derived.RangeFuncCalls
import Derived.RangeFuncLeaves
import Derived.OwnWalkIn
import Derived.TacticsInMore
import Derived.LoopNIn
import Derived.LoopIn

namespace Go.Proofs.YtdjaphcelpchaaaGreatDoor
open Go Go.RowKit Go.Proofs

attribute [local go_sem ↓] ex_load_id ex_store_id ex_load_line ex_store_line ex_alloc_line ex_build_line

attribute [local go_sem] ld_id st_id ld_line st_line guard_id okCells_drew rdCells_drew okCells_drewN rdCells_drewN rowOk_drew rowOk_cells okCells_cells rdCells_cells setRow_drew setRow_new setRow_past

theorem search_at (B : Nat) (v : Value) (ms : List ML) (n : Int) (w : World) (h : LinesAt B w v ms) (hn : ms.length ≤ 65536) (hs : (nums ms).Pairwise (· < ·)) :
    Calls Tryz.prog 69 #[v, .int .i64 n] w fun r w' => r = .returned (.tuple #[.int .i64 (posN (nums ms) n), .bool (hasNum ms n)]) ∧ Below w.heap.size w w' := by
  refine (search_any B v ms n w h hn hs).mono ?_
  rintro r w' ⟨i, hi, rfl, hb⟩
  rw [pos_between hi]
  exact ⟨rfl, hb⟩
theorem between_pos {ns : List Int} (hs : ns.Pairwise (· < ·)) (n : Int) : Between ns n (posN ns n) (posN ns n) := by
  unfold posN
  induction ns with
  | nil => exact ⟨Nat.le_refl _, Nat.le_refl _, fun k h => absurd h (by simp), fun k h => absurd h (by simp)⟩
  | cons a ns ih =>
    rw [List.pairwise_cons] at hs
    obtain ⟨_, h2, h3, h4⟩ := ih hs.2
    by_cases ha : a < n
    · rw [List.countP_cons_of_pos (by simpa using ha)]
      refine ⟨Nat.le_refl _, by simpa using h2, fun k hk hki => ?_, fun k hk hki => ?_⟩
      · cases k with
        | zero => exact ha
        | succ k => exact h3 k (by simpa using hk) (by omega)
      · cases k with
        | zero => omega
        | succ k => exact h4 k (by simpa using hk) (by omega)
    · rw [List.countP_cons_of_neg (by simpa using ha)]
      have h0 : ns.countP (fun k => decide (k < n)) = 0 := by
        rw [List.countP_eq_zero]
        intro k hk
        have := hs.1 k hk
        simp
        omega
      rw [h0]
      refine ⟨Nat.le_refl _, Nat.zero_le _, fun k _ hk => absurd hk (Nat.not_lt_zero _), fun k hk _ => ?_⟩
      cases k with
      | zero => simp; omega
      | succ k =>
        have := hs.1 (ns[k]'(by simpa using hk)) (List.getElem_mem _)
        simp
        omega

theorem find_all (B ib M mc : Nat) (gs : List MG) (s : ByteArray) (x : Id32) (w : World) (h : IdxAt B w ib M gs mc) :
    Calls Tryz.prog 41 #[.pointer (some ⟨ib, 0, none⟩), .string s, .agg (encId x).toArray] w fun r w' => FindPost (linesIn gs s) x w r w' := by
  by_cases hne : linesIn gs s = []
  · refine (find_empty B ib M mc gs s x w h hne).mono ?_
    rintro r w' ⟨rfl, hb⟩
    exact ⟨.inl ⟨fun m hm => absurd (hne ▸ hm) (by simp), rfl⟩, hb⟩
  · exact find_any B ib M mc gs s x w h hne

/-- The error of Add. -/
def hasId (ms : List ML) (x : Id32) : Bool := ms.any fun m => decide (m.p.id = x)
def addErr (ms : List ML) (s : ByteArray) (p : PLine) : Int := if nameErr s ≠ 0 then nameErr s else if pErr p ≠ 0 then pErr p else if hasNum ms p.number || hasId ms p.id then 7 else 0

/-- What Add does. -/
structure Added (B ib M : Nat) (gs : List MG) (s : ByteArray) (p : PLine) (w w' : World) (gs' : List MG) (mc' : Nat) : Prop where
  idx : IdxAt B w' ib M gs' mc'
  kept : Kept (foot ib M gs) w w'
  foot : FootOk (Go.Proofs.YtdjaphcelpchaaaGreatDoor.foot ib M gs) (Go.Proofs.YtdjaphcelpchaaaGreatDoor.foot ib M gs') w
  lines : ∃ v, (∀ k, v.ownBlock = some k → w.heap.size ≤ k) ∧ ∀ t, linesIn gs' t = if t = s then addMs (linesIn gs s) (posN (nums (linesIn gs s)) p.number) ⟨p, v⟩ else linesIn gs t
  tot : total gs' = total gs + 1
def AddPost (B ib M : Nat) (gs : List MG) (s : ByteArray) (p : PLine) (w : World) (r : Ending) (w' : World) : Prop :=
  r = .returned (.int .i64 (addErr (linesIn gs s) s p)) ∧ ((addErr (linesIn gs s) s p ≠ 0 ∧ Below w.heap.size w w') ∨ (addErr (linesIn gs s) s p = 0 ∧ ∃ gs' mc', Added B ib M gs s p w w' gs' mc'))


theorem flat_cells {ms : List ML} (h : ∀ m ∈ ms, m.v.oneCell' = true) : ∀ u ∈ flatLines ms, u.oneCell' = true := by
  intro u hu
  unfold flatLines at hu
  obtain ⟨m, hm, hu⟩ := List.mem_flatMap.1 hu
  exact lineList_one (g := m.g) (h m hm) u hu

/-- What Add knows ahead of the insertion. -/
structure S21 (B ib gb nb lb tot M : Nat) (vL : Value) (ms : List ML) (nl : List (KE Id32)) (nc : Nat) (g : GLine) (ids : List Id32) (w : World) : Prop where
  grp : w.heap[gb]? = some (.cells #[vL, .map (some nb)] 115 (0, 0))
  num : MapAt ekI w nb nl nc
  lines : LinesAt B w vL ms
  line : LineVar w lb g
  idx : w.heap[ib]? = some (.cells #[.map (some M), .int .i64 tot] 104 (0, 0))
  vlb : vL.ownBlock ≠ some lb
  refs : IdsOwn 0 w g.refs ids
/-- The worlds between the reads and the store of region 21. -/
def Cls (gb lb : Nat) (vL : Value) (g : GLine) : Type := { w : World // w.cell? ⟨gb, 0, none⟩ = some vL ∧ LineVar w lb g }

theorem cells_ty {a b : Array Value} {s t : TypeId} {f f' : Nat × Nat} (h : some (Obj.cells a s f) = some (.cells b t f')) : s = t := by cases h; rfl
theorem S21.lts {B ib gb nb lb tot M : Nat} {vL : Value} {ms : List ML} {nl : List (KE Id32)} {nc : Nat} {g : GLine} {ids : List Id32} {w : World} (h : S21 B ib gb nb lb tot M vL ms nl nc g ids w) : gb < w.heap.size ∧ nb < w.heap.size ∧ lb < w.heap.size ∧ ib < w.heap.size :=
  ⟨(Array.getElem?_eq_some_iff.1 h.grp).1, h.num.lt, h.line.lt, (Array.getElem?_eq_some_iff.1 h.idx).1⟩
theorem S21.cls {B ib gb nb lb tot M : Nat} {vL : Value} {ms : List ML} {nl : List (KE Id32)} {nc : Nat} {g : GLine} {ids : List Id32} {w w' : World} (h : S21 B ib gb nb lb tot M vL ms nl nc g ids w) (hb : Below w.heap.size w w') : w'.cell? ⟨gb, 0, none⟩ = some vL ∧ LineVar w' lb g :=
  ⟨cell_of_row w' gb 0 _ _ _ ((hb.block gb h.lts.1).trans h.grp), h.line.below hb h.lts.2.2.1⟩
theorem S21.apart {B ib gb nb lb tot M : Nat} {vL : Value} {ms : List ML} {nl : List (KE Id32)} {nc : Nat} {g : GLine} {ids : List Id32} {w : World} (h : S21 B ib gb nb lb tot M vL ms nl nc g ids w) :
    vL.ownBlock ≠ some gb ∧ nb ≠ gb ∧ lb ≠ gb ∧ lb ≠ nb ∧ vL.ownBlock ≠ some nb ∧ vL.ownBlock ≠ some ib ∧ ib ≠ gb ∧ ib ≠ nb ∧ lb ≠ ib := by
  have hn := h.num
  have hl := h.line
  unfold MapAt at hn
  unfold LineVar at hl
  refine ⟨fun e => ?_, fun e => ?_, fun e => ?_, fun e => ?_, fun e => ?_, fun e => ?_, fun e => ?_, fun e => ?_, fun e => ?_⟩
  · obtain ⟨c, h1⟩ := ownsRow_typed h.lines.row e
    rw [h.grp] at h1; cases h1
  · rw [e, h.grp] at hn; cases hn
  · rw [e, h.grp] at hl; exact absurd (cells_ty hl) (by decide)
  · rw [e, hn] at hl; cases hl
  · obtain ⟨c, h1⟩ := ownsRow_typed h.lines.row e
    rw [hn] at h1; cases h1
  · obtain ⟨c, h1⟩ := ownsRow_typed h.lines.row e
    rw [h.idx] at h1; cases h1
  · have := h.idx; rw [e, h.grp] at this; cases this
  · have := h.idx; rw [e, hn] at this; cases this
  · rw [e, h.idx] at hl; exact absurd (cells_ty hl) (by decide)

/-- What Add leaves. -/
structure S24 (B ib gb nb tot M : Nat) (vL v' : Value) (ms' : List ML) (nl : List (KE Id32)) (nc : Nat) (w6 w' : World) : Prop where
  grp : w'.heap[gb]? = some (.cells #[v', .map (some nb)] 115 (0, 0))
  num : MapAt ekI w' nb nl nc
  lines : LinesAt B w' v' ms'
  idx : w'.heap[ib]? = some (.cells #[.map (some M), .int .i64 ((tot + 1 : Nat) : Int)] 104 (0, 0))
  own : v'.ownBlock = vL.ownBlock ∨ ∃ k, v'.ownBlock = some k ∧ w6.heap.size ≤ k
  kept : Kept (ib :: ([gb, nb] ++ vL.ownBlock.toList)) w6 w'
theorem IdsOwn.typed {B : Nat} {w : World} {v : Value} {ids : List Id32} (h : IdsOwn B w v ids) {k : Nat} (hk : v.ownBlock = some k) : ∃ cur, w.heap[k]? = some (.cells cur 23 (0, 0)) := ownsRow_typed h hk

/-- Where the group was there. -/
theorem added_old {B ib M mc : Nat} {gs : List MG} {s : ByteArray} {p : PLine} {w w6 w' : World} (h : IdxAt B w ib M gs mc) (hb : Below w.heap.size w w6) {G : MG} (hG : groupOf gs s = some G) {v' v : Value} (hv : ∀ k, v.ownBlock = some k → w.heap.size ≤ k) (hn : hasNum (linesIn gs s) p.number = false) (hi : hasId (linesIn gs s) p.id = false) (hp : pErr p = 0) (hfew : total gs < 65536)
    (hs : S24 B ib G.gb G.nb (total gs) M G.v v' (addMs G.ms (posN (nums (linesIn gs s)) p.number) ⟨p, v⟩) (G.nl ++ [⟨p.id, .int .i64 p.number, G.nc⟩]) (G.nc + 1) w6 w') : ∃ gs' mc', Added B ib M gs s p w w' gs' mc' := by
  obtain ⟨hGm, hGs⟩ := groupOf_mem hG
  have hms : linesIn gs s = G.ms := by unfold linesIn; rw [hG]
  have hgr := h.grps G hGm
  have hpos := between_pos (h.sorted s) p.number
  rw [hms] at hn hi hpos hs
  have hle : posN (nums G.ms) p.number ≤ G.ms.length := by have := hpos.2.1; rwa [nums_length] at this
  have hpure := hgr.pure.add (i := posN (nums G.ms) p.number) (m := ⟨p, v⟩) G.nc hpos hn (fun x hx e => by
    unfold hasId at hi
    rw [List.any_eq_false] at hi
    exact hi x hx (by simpa using e)) hp
  obtain ⟨G', hG'⟩ : ∃ G' : MG, G' = ⟨G.name, G.born, G.gb, G.nb, v', addMs G.ms (posN (nums G.ms) p.number) ⟨p, v⟩, G.nl ++ [⟨p.id, .int .i64 p.number, G.nc⟩], G.nc + 1⟩ := ⟨_, rfl⟩
  have hat : GrpAt B w' G' := by
    rw [hG']
    exact ⟨hs.grp, hs.lines, hs.num, hpure.agree, hpure.ids, hpure.sorted, hpure.good, hgr.named, by unfold addMs; simp, hgr.gbB, hgr.nbB⟩
  have ht := total_swapG (G' := G') h.names hG
  have hlen : G'.ms.length = G.ms.length + 1 := by rw [hG']; exact addMs_length hle
  have ht' : total (swapG gs s G') = total gs + 1 := by omega
  have hk : Kept (ib :: G.foot) w w' := by
    refine Kept.trans (F := ib :: G.foot) (F' := ib :: G.foot) (Kept.of_below hb) ?_ (fun k hk => .inl hk)
    exact hs.kept
  have := h.upd (w' := w') (G' := G') hG (by rw [hG']) (by rw [hG']) (by rw [hG']) (by rw [hG']) (by
      rw [hG']
      rcases hs.own with h1 | ⟨k, h1, h2⟩
      · exact .inl h1
      · exact .inr ⟨k, h1, by have := hb.size; omega⟩) hat (by rw [ht']; exact hs.idx) hk (by omega)
  refine ⟨_, mc, this.1, hk.mono fun k hk _ => ?_, this.2, ⟨v, hv, fun t => ?_⟩, ht'⟩
  · unfold foot
    rcases List.mem_cons.1 hk with rfl | hk
    · simp
    · exact List.mem_cons.2 (.inr (List.mem_cons.2 (.inr (List.mem_flatMap.2 ⟨G, hGm, hk⟩))))
  · rw [linesIn_swapG t hG (by rw [hG']; exact hGs), hms, hG']

/-- Where it was not. -/
theorem added_new {B ib M mc gb nb : Nat} {gs : List MG} {s : ByteArray} {p : PLine} {w w6 w' : World} (h : IdxAt B w ib M gs mc) (hG : groupOf gs s = none) {v' v : Value} (hv : ∀ k, v.ownBlock = some k → w.heap.size ≤ k) (hn : nameErr s = 0) (hp : pErr p = 0) (hfew : total gs < 65536)
    (hk6 : Kept [M] w w6) (hM6 : MapAt ekS w6 M (gs.map MG.e ++ [⟨s, .pointer (some ⟨gb, 0, none⟩), mc⟩]) (mc + 1)) (hgb : w.heap.size ≤ gb) (hnb : w.heap.size ≤ nb) (hgn : gb ≠ nb) (hgl : gb < w6.heap.size) (hnl : nb < w6.heap.size) (hib : ib ≠ M)
    (hs : S24 B ib gb nb (total gs) M (.slice none 0 0) v' (addMs [] (posN (nums (linesIn gs s)) p.number) ⟨p, v⟩) ([] ++ [⟨p.id, .int .i64 p.number, 0⟩]) (0 + 1) w6 w') : ∃ gs' mc', Added B ib M gs s p w w' gs' mc' := by
  have hms : linesIn gs s = [] := by unfold linesIn; rw [hG]
  have hB : B ≤ w.heap.size := by have := h.foot_lt ib (by simp [foot]); omega
  have hMl := h.map.lt
  rw [hms] at hs
  have hpure := GrpPure.nil.add (i := 0) (m := ⟨p, v⟩) 0 ⟨Nat.le_refl _, Nat.le_refl _, fun k h => absurd h (by simp [nums]), fun k h => absurd h (by simp [nums])⟩ rfl (fun x hx => by cases hx) hp
  obtain ⟨G', hG'⟩ : ∃ G' : MG, G' = ⟨s, mc, gb, nb, v', addMs [] (posN (nums []) p.number) ⟨p, v⟩, [] ++ [⟨p.id, .int .i64 p.number, 0⟩], 0 + 1⟩ := ⟨_, rfl⟩
  have hat : GrpAt B w' G' := by
    rw [hG']
    exact ⟨hs.grp, hs.lines, hs.num, hpure.agree, hpure.ids, hpure.sorted, hpure.good, hn, by unfold addMs; simp, by simp; omega, by simp; omega⟩
  have hown : ∀ k, v'.ownBlock = some k → w6.heap.size ≤ k := by
    intro k hk
    rcases hs.own with h1 | ⟨k', h1, h2⟩
    · rw [h1] at hk; cases hk
    · rw [h1] at hk; cases hk; exact h2
  have hfoot : ∀ k ∈ G'.foot, w.heap.size ≤ k := by
    intro k hk
    rw [hG'] at hk
    unfold MG.foot at hk
    simp only [List.mem_append, List.mem_cons, List.mem_nil_iff, or_false, Option.mem_toList] at hk
    rcases hk with (rfl | rfl) | hk
    · exact hgb
    · exact hnb
    · have := hown k hk; have := hk6.size; omega
  have hnod : G'.foot.Nodup := by
    rw [hG']
    unfold MG.foot
    cases hv : v'.ownBlock with
    | none => simp [hgn]
    | some k =>
      have := hown k hv
      simp [hgn]
      omega
  have ht' : total (gs ++ [G']) = total gs + 1 := by rw [total_new, hG']; rfl
  have hk : Kept [ib, M] w w' := by
    refine Kept.trans (F := [ib, M]) (hk6.mono fun k hk _ => by simp at hk ⊢; exact .inr hk) hs.kept (fun k hk => ?_)
    simp only [Value.ownBlock, Option.toList_none, List.append_nil, List.mem_cons, List.mem_nil_iff, or_false] at hk
    rcases hk with rfl | rfl | rfl
    · simp
    · exact .inr hgb
    · exact .inr hnb
  have hM' : MapAt ekS w' M ((gs ++ [G']).map MG.e) (mc + 1) := by
    unfold MapAt at hM6 ⊢
    rw [hs.kept.block M (by have := hk6.size; omega) (by simp [Value.ownBlock]; exact ⟨fun e => hib e.symm, by omega, by omega⟩), hM6, hG']
    simp only [List.map_append]
    rfl
  have := h.new (w' := w') (G' := G') hG (by rw [hG']) (by rw [hG']) hfoot hnod hat (by rw [ht']; exact hs.idx) hM' hk (by omega)
  refine ⟨_, mc + 1, this.1, hk.mono fun k hk _ => ?_, this.2, ⟨v, hv, fun t => ?_⟩, ht'⟩
  · unfold foot
    simp only [List.mem_cons, List.mem_nil_iff, or_false] at hk
    rcases hk with rfl | rfl
    · simp
    · simp
  · rw [linesIn_new t hG (by rw [hG']), hms, hG']

set_option maxRecDepth 100000 in
set_option maxHeartbeats 8000000 in
theorem add_any (B ib M mc : Nat) (gs : List MG) (s : ByteArray) (p : PLine) (v0 : Value) (w : World) (hG : Gl w) (h : IdxAt B w ib M gs mc) (hs : s.size ≤ maxLen) (hO : LineOk w (ML.g ⟨p, v0⟩) p.ids) (hI : IdsOwn 0 w v0 p.ids) (hfew : total gs < 65536) :
    Calls Tryz.prog 32 #[.pointer (some ⟨ib, 0, none⟩), .string s, .agg (lineCells (ML.g ⟨p, v0⟩))] w fun r w' => AddPost B ib M gs s p w r w' := by
  obtain ⟨g, hg⟩ : ∃ g, g = ML.g ⟨p, v0⟩ := ⟨_, rfl⟩
  have hgn : g.number = p.number := by rw [hg]; rfl
  have hgi : g.id = p.id := by rw [hg]; rfl
  have hgr : g.refs = v0 := by rw [hg]; rfl
  have hge : lineErr g p.ids = pErr p := by rw [hg]; rfl
  have hgv : ∀ v, { g with refs := v } = ML.g ⟨p, v⟩ := fun v => by rw [hg]; rfl
  rw [← hg] at hO ⊢
  rw [← hgr] at hI
  have hb0 : Below w.heap.size w (w.alloc (.cells (lineCells g) 34)) := (Below.refl _ _).alloc (Nat.le_refl _) _
  have hL0 : LineVar (w.alloc (.cells (lineCells g) 34)) w.heap.size g := heap_alloc_new _ _
  have HL0 := Lib.hid hL0
  have HB0 := Lib.hid hb0
  have HX := Lib.hid h
  have HO := Lib.hid hO
  have HI := Lib.hid hI
  have HGV := Lib.hid hgv
  have HGN := Lib.hid hgn
  have HGI := Lib.hid hgi
  have HGE := Lib.hid hge
  clear hL0 hb0 h hO hI hgv hgn hgi hge hg hgr
  go_enter Tryz.func32, Tryz.ntmps32
  go_wp2_with fail
  refine (nameCheck_any s _ (hG.later HB0.out) hs).mono ?_
  rintro r w1 ⟨rfl, hb1⟩
  have hL1 : LineVar w1 w.heap.size g := HL0.out.below hb1 (by simp)
  have hB1 : Below w.heap.size w w1 := HB0.out.trans (hb1.mono (by simp))
  have hs1 : w.heap.size < w1.heap.size := hL1.lt
  by_cases hne : nameErr s = 0
  case neg =>
    have HA : Hid (addErr (linesIn gs s) s p = nameErr s) := Lib.hid (by unfold addErr; rw [if_pos hne])
    have HB1 := Lib.hid hB1
    clear hb1 hL1 hB1 HL0 HB0
    generalize nameErr s = e at hne HA ⊢
    have hbe : (e != 0) = true := by simpa using hne
    have hbe2 : (e == 0) = false := by simpa using hne
    go_wp2
    go_ret
    exact ⟨by rw [HA.out]; try rfl, .inl ⟨by rw [HA.out]; exact hne, HB1.out⟩⟩
  have HNE := Lib.hid hne
  rw [hne]
  obtain ⟨o1, d1⟩ := hL1.rd
  have HL1 := Lib.hid hL1
  have HB1 := Lib.hid hB1
  clear hb1 hL1 hB1 HL0 HB0
  go_wp2_with fail
  refine (lineCheck_any g p.ids w1 (HO.out.below HB1.out)).mono ?_
  rintro r w2 ⟨rfl, hb2⟩
  rw [HGE.out]
  have hL2 : LineVar w2 w.heap.size g := HL1.out.below hb2 hs1
  have hB2 : Below w.heap.size w w2 := HB1.out.trans (hb2.mono HB1.out.size)
  have hs2 : w.heap.size < w2.heap.size := hL2.lt
  clear o1 d1 hb2 HL1 HB1 hs1
  by_cases hpe : pErr p = 0
  case neg =>
    have HA : Hid (addErr (linesIn gs s) s p = pErr p) := Lib.hid (by unfold addErr; rw [if_neg (by simpa using HNE.out), if_pos hpe])
    have HB2 := Lib.hid hB2
    clear hL2 hB2
    clear hne
    generalize pErr p = e at hpe HA ⊢
    have hbe : (e != 0) = true := by simpa using hpe
    have hbe2 : (e == 0) = false := by simpa using hpe
    go_wp2
    go_ret
    exact ⟨by rw [HA.out]; try rfl, .inl ⟨by rw [HA.out]; exact hpe, HB2.out⟩⟩
  have HPE := Lib.hid hpe
  rw [hpe]
  clear hpe hne
  have hX2 := HX.out.below hB2
  have n2 : ∀ z : Later w2, z.1.cell? ⟨w.heap.size, 0, none⟩ = some (.int .i64 g.number) := fun z => z.cell ((hL2.cell 0).trans (lc0 g))
  have HL2 := Lib.hid hL2
  have HB2 := Lib.hid hB2
  have c1 : ∀ z : Later w2, Calls Tryz.prog 68 #[.pointer (some ⟨ib, 0, none⟩), .string s] z.1 fun r w' => r = .returned (valueOf gs s) ∧ ∃ z' : Later w2, w' = z'.1 := fun z => Later.call ((linesOf_any B ib M mc gs s z.1 (hX2.below z.2)).mono fun _ _ ⟨a, b⟩ => ⟨a, b ▸ Below.refl _ _⟩)
  have c2 : ∀ z : Later w2, Calls Tryz.prog 69 #[valueOf gs s, .int .i64 g.number] z.1 fun r w' => r = .returned (.tuple #[.int .i64 (posN (nums (linesIn gs s)) g.number), .bool (hasNum (linesIn gs s) g.number)]) ∧ ∃ z' : Later w2, w' = z'.1 := fun z => Later.call (search_at B _ _ _ z.1 ((hX2.below z.2).lines s) (hX2.len s) (hX2.sorted s))
  obtain ⟨va, vc, hval⟩ := valueOf_slice hX2 s
  have HVAL := Lib.hid hval
  have C1 := Lib.hid c1
  have C2 := Lib.hid c2
  clear c1 c2 hL2 hB2 hX2 hval
  rw [HVAL.out] at C1 C2
  obtain ⟨pos, hpos⟩ : ∃ i : Nat, i = posN (nums (linesIn gs s)) g.number := ⟨_, rfl⟩
  rw [← hpos] at C2
  have HPOS := Lib.hid hpos
  clear hpos
  generalize (linesIn gs s).length = len at C1 C2 HVAL
  go_wp2_with fail
  refine wp_region_ht 10 (fun w' => ∃ z : Later w2, w' = z.1) (by kernel_rfl) (by kernel_rfl) ⟨⟨_, (Below.refl _ _).drew⟩, rfl⟩ ?_
  simp only [List.take_succ_cons, List.take_zero, List.drop_succ_cons, List.drop_zero]
  repeat (go_big_quiet_step (first | (go_at_call 68; exact C1.out _) | (go_at_call 69; exact C2.out _)))
  refine wpQuiet_nil ?_
  rintro _ ⟨z, rfl⟩
  clear n2 C1 C2
  obtain ⟨w3, hb3⟩ := z
  simp only
  have hL3 : LineVar w3 w.heap.size g := HL2.out.below hb3 hs2
  have hB3 : Below w.heap.size w w3 := HB2.out.trans (hb3.mono HB2.out.size)
  have hs3 : w.heap.size < w3.heap.size := hL3.lt
  clear HL2 HB2 hs2 hb3
  obtain ⟨o3, d3⟩ := hL3.idAt
  have HF := Lib.hid (find_all B ib M mc gs s g.id w3 (HX.out.below hB3))
  have HL3 := Lib.hid hL3
  have HB3 := Lib.hid hB3
  have hft : fitsRow 38 (lineCells zeroLine) = true := fits_line rfl
  have hzs : ((lineCells zeroLine).size == 38) = true := by rw [lineCells_size]; rfl
  clear hL3 hB3
  go_wp2_with fail
  refine HF.out.mono ?_
  rintro r w4 ⟨hres, hb4⟩
  have hL4 : LineVar w4 w.heap.size g := HL3.out.below hb4 hs3
  have hB4 : Below w.heap.size w w4 := HB3.out.trans (hb4.mono HB3.out.size)
  have hs4 : w.heap.size < w4.heap.size := hL4.lt
  clear o3 d3 HF HL3 HB3 hb4 hs3
  have hfound : ∃ fl : GLine, refsOne fl ∧ r = .returned (.tuple #[.agg (lineCells fl), .bool (hasId (linesIn gs s) p.id)]) := by
    rcases hres with ⟨hno, rfl⟩ | ⟨m, hm, hid, v, rfl, hIv⟩
    · refine ⟨zeroLine, rfl, ?_⟩
      have : hasId (linesIn gs s) p.id = false := by
        unfold hasId
        rw [List.any_eq_false]
        intro m hm
        have := hno m hm
        rw [HGI.out] at this
        simpa using this
      rw [this]
    · refine ⟨{ m.g with refs := v }, hIv.one, ?_⟩
      have : hasId (linesIn gs s) p.id = true := by
        unfold hasId
        rw [List.any_eq_true]
        exact ⟨m, hm, by rw [← HGI.out]; simpa using hid⟩
      rw [this]
  obtain ⟨fl, hfl, rfl⟩ := hfound
  clear hres
  have hb5 : Below w4.heap.size w4 (w4.alloc (.cells (lineCells fl) 34)) := (Below.refl _ _).alloc (Nat.le_refl _) _
  have hL5 : LineVar (w4.alloc (.cells (lineCells fl) 34)) w.heap.size g := hL4.below hb5 hs4
  have hB5 : Below w.heap.size w (w4.alloc (.cells (lineCells fl) 34)) := hB4.trans (hb5.mono hB4.size)
  have hs5 : w.heap.size < (w4.alloc (.cells (lineCells fl) 34)).heap.size := hL5.lt
  have HL5 := Lib.hid hL5
  have HB5 := Lib.hid hB5
  have hft2 := fits_line (g := fl) hfl
  have hzs2 : ((lineCells fl).size == 38) = true := by rw [lineCells_size]; rfl
  clear hb5 hL5 hB5 hL4 hB4 hs4
  rw [HGN.out]
  go_upto_region 11 with (fail)
  generalize w4.alloc (.cells (lineCells fl) 34) = w5 at HL5 HB5 hs5 ⊢
  clear hft hzs hft2 hzs2
  by_cases hdup : (hasNum (linesIn gs s) p.number || hasId (linesIn gs s) p.id) = true
  · have HA : Hid (addErr (linesIn gs s) s p = 7) := Lib.hid (by unfold addErr; rw [if_neg (by simpa using HNE.out), if_neg (by simpa using HPE.out), if_pos hdup])
    generalize hasNum (linesIn gs s) p.number = b1 at hdup ⊢
    generalize hasId (linesIn gs s) p.id = b2 at hdup ⊢
    cases b1 with
    | true =>
      go_wp2
      go_ret
      exact ⟨by rw [HA.out]; try rfl, .inl ⟨by rw [HA.out]; decide, HB5.out⟩⟩
    | false =>
      obtain rfl : b2 = true := by simpa using hdup
      go_wp2
      go_ret
      exact ⟨by rw [HA.out]; try rfl, .inl ⟨by rw [HA.out]; decide, HB5.out⟩⟩
  have HA : Hid (addErr (linesIn gs s) s p = 0) := Lib.hid (by unfold addErr; rw [if_neg (by simpa using HNE.out), if_neg (by simpa using HPE.out), if_neg hdup])
  obtain ⟨hn1, hn2⟩ : hasNum (linesIn gs s) p.number = false ∧ hasId (linesIn gs s) p.id = false := by simpa using hdup
  have HN1 := Lib.hid hn1
  have HN2 := Lib.hid hn2
  rw [hn1, hn2]
  clear hdup hn1 hn2
  have hX5 := HX.out.below HB5.out
  have hc0 := hX5.cell0
  have hc1 := hX5.cell1
  have hlk := hX5.look s
  have hlim : ¬ (65536 : Int) ≤ (total gs : Int) := by omega
  have hlim2 : decide ((total gs : Int) ≥ 65536) = false := by simp; omega
  have hmn := fun (u : World) => run_eql_map_nil (P := Tryz.prog) u 102 9 112 (some M) Tryz.underlying102
  cases hgo : groupOf gs s with
  | some G =>
    rw [hgo] at hlk
    simp only [Option.map_some, Option.getD_some] at hlk
    obtain ⟨hGm, hGs⟩ := groupOf_mem hgo
    have hgr := hX5.grps G hGm
    have hms : linesIn gs s = G.ms := by unfold linesIn; rw [hgo]
    have HS : Hid (S21 B ib G.gb G.nb w.heap.size (total gs) M G.v G.ms G.nl G.nc g p.ids w5) := Lib.hid {
      grp := hgr.blk
      num := hgr.nums
      lines := hgr.lines
      line := HL5.out
      idx := hX5.blk
      vlb := fun e => by have := (World.ownsRow.lt (HX.out.grps G hGm).lines.row _ e).2; omega
      refs := HI.out.below HB5.out }
    have HWS : Hid (w.heap.size ≤ w5.heap.size) := Lib.hid HB5.out.size
    have HEND : Hid (∀ w' v' v, (∀ k, v.ownBlock = some k → w.heap.size ≤ k) → S24 B ib G.gb G.nb (total gs) M G.v v' (addMs G.ms pos ⟨p, v⟩) (G.nl ++ [⟨p.id, .int .i64 p.number, G.nc⟩]) (G.nc + 1) w5 w' → ∃ gs' mc', Added B ib M gs s p w w' gs' mc') := Lib.hid (fun w' v' v hv h24 => added_old HX.out HB5.out hgo hv HN1.out HN2.out HPE.out hfew (by rw [← HGN.out, ← HPOS.out]; rw [HGN.out]; exact h24))
    have HKEY : Hid (findK p.id G.nl 0 = none) := Lib.hid (hgr.find_no fun m hm e => by
      have := HN2.out
      unfold hasId at this
      rw [List.any_eq_false] at this
      exact this m (hms ▸ hm) (by simpa using e))
    have HPL : Hid (pos ≤ G.ms.length) := Lib.hid (by
      have := (between_pos (hX5.sorted s) g.number).2.1
      rw [nums_length, hms] at this
      rw [HPOS.out, hms]; exact this)
    have HLEN : Hid (G.ms.length ≤ 65536) := Lib.hid (by rw [← hms]; exact hX5.len s)
    have HBB : Hid (B ≤ w5.heap.size) := Lib.hid (by have := (hX5.foot_lt ib (by simp [foot])); omega)
    clear hX5 hgr hms hGm hGs
    generalize G.gb = gb at hlk HS HEND
    generalize G.nb = nb at HS HEND
    generalize G.v = vL at HS HEND
    generalize G.ms = ms at HS HEND HPL HLEN
    generalize G.nl = nl at HS HEND HKEY
    generalize G.nc = nc at HS HEND
    go_upto_region 21 with (fail)
    clear hgo hlk hc0 hc1 hlim hlim2 hmn HL5 HB5 HX HN1 HN2 HVAL HPOS hs5 G
    obtain ⟨vla, vln, vlc, hvl⟩ : ∃ a n c, vL = .slice a n c := by
      rcases HS.out.lines.head with ⟨e, _⟩ | ⟨_, cap, e, _⟩
      · exact ⟨_, _, _, e⟩
      · exact ⟨_, _, _, e⟩
    have HVL := Lib.hid hvl
    haveI : Nonempty (Cls gb w.heap.size vL g) := ⟨⟨w5, HS.out.cls (Below.refl _ _)⟩⟩
    have q1 : ∀ z : Cls gb w.heap.size vL g, z.1.cell? ⟨gb, 0, none⟩ = some (.slice vla vln vlc) := fun z => hvl ▸ z.2.1
    have q2 : ∀ z : Cls gb w.heap.size vL g, okCells z.1 ⟨w.heap.size, 0, none⟩ 38 = true := fun z => z.2.2.rd.1
    have q3 : ∀ z : Cls gb w.heap.size vL g, rdCells z.1 ⟨w.heap.size, 0, none⟩ 38 = lineCells g := fun z => z.2.2.rd.2
    clear hvl
    refine wp_region_mix0 [0, 1, 2, 3, 4, 5, 6] [7, 8, 9, 10, 11, 12] (fun w' => ∃ z : Cls gb w.heap.size vL g, w' = z.1) (by kernel_rfl) (by kernel_rfl) (by kernel_rfl) ⟨⟨_, HS.out.cls (Below.refl _ _).drew⟩, rfl⟩ ?_
    simp only [opsAt, List.map_cons, List.map_nil, Array.getD_eq_getD_getElem?, List.getElem?_toArray, List.getElem?_cons_zero, List.getElem?_cons_succ, Option.getD_some]
    repeat (go_big_quiet_step (fail))
    refine wpQuiet_nil ?_
    clear q1 q2 q3
    have hbd : Below w5.heap.size w5 w5.drew := (Below.refl _ _).drew
    generalize w5.drew = w7 at hbd ⊢
    refine wpR_cons true rfl (by kernel_rfl) ?_
    go_wp2_with fail
    refine (clone_any 0 g p.ids w7 (HS.out.refs.below hbd) (by have := refs_len HPE.out; omega)).mono ?_
    rintro r w8 ⟨v, rfl, hI8, hb8⟩
    have hone := hI8.one
    have hb8' : Below w5.heap.size w5 w8 := hbd.trans (hb8.mono hbd.size)
    have hc8 := HS.out.cls hb8'
    obtain ⟨g8, hg8⟩ : ∃ g8 : GLine, g8 = ML.g ⟨p, v⟩ := ⟨_, rfl⟩
    have hone8 : refsOne g8 := by rw [hg8]; exact hone
    rw [HGV.out v, ← hg8]
    have HG8 := Lib.hid hg8
    clear hg8
    have HI8 := Lib.hid (hI8.mono hbd.size)
    obtain ⟨i0, hi, hz0, hz1, hz2⟩ := info_parts Tryz.info_line
    go_wp2_with fail
    refine ⟨fun _ => ⟨⟨_, hc8⟩, rfl⟩, wpR_cons true rfl (by kernel_rfl) ?_⟩
    refine wpList_buildSlice rfl 107 34 1 _ rfl (lineCells g8) i0 _ Tryz.underlying107 hi hz0 (by rw [hz1]; decide) (by rw [hz1]; decide) (by rw [hz1]; simp only [List.map_toArray, List.map_cons, List.map_nil]; refine fill_one _ _ 38 (lineCells_size _) ?_; rw [Array.size_map, Array.size_range]) ?_
    obtain ⟨w9, hw9⟩ : ∃ w9, w9 = w8.alloc (.cells (lineCells g8) 34) := ⟨_, rfl⟩
    have hb89 : Below w8.heap.size w8 w9 := by rw [hw9]; exact (Below.refl _ _).alloc (Nat.le_refl _) _
    have hb9 : Below w5.heap.size w5 w9 := hb8'.trans (hb89.mono hb8'.size)
    have hn9 : w9.heap[w8.heap.size]? = some (.cells (lineCells g8) 34 (0, 0)) := by rw [hw9]; exact heap_alloc_new _ _
    have hL9 := HS.out.lines.below hb9
    have hIns : Calls Tryz.prog 73 #[.slice vla vln vlc, .int .i64 pos, .slice (some ⟨w8.heap.size, 0, none⟩) 1 1] w9 fun r w' => ∃ v', r = .returned v' ∧ w'.ownsRow B 34 38 v' (ms.length + 1) ((flatLines ms).take (pos * 38) ++ lineList g8 ++ (flatLines ms).drop (pos * 38)) ∧ w9.grownBy w' vL.ownBlock ∧ (v'.ownBlock = vL.ownBlock ∨ v'.ownBlock = some w9.heap.size) := by
      have := insert_any B vL ms.length pos w8.heap.size (flatLines ms) g8 w9 hone8 (flat_cells fun m hm => (hL9.refs m hm).one) hL9.row (by have := HBB.out; have := hb9.size; omega) HLEN.out HPL.out hn9 (fun e => by have := (World.ownsRow.lt HS.out.lines.row _ e).2; have := hb8'.size; omega)
      rw [HVL.out] at this ⊢
      exact this
    rw [← hw9]
    have HIns := Lib.hid hIns
    have HB9 := Lib.hid hb9
    have HI9 := Lib.hid (HI8.out.below hb89)
    have hc9 := HS.out.cls hb9
    clear hIns hb9 hb89 hw9 hL9 hn9 HI8 hI8 hb8 hb8' hc8 hbd
    go_wp2_with fail
    refine ⟨fun _ => ⟨⟨_, hc9⟩, rfl⟩, wpR_cons true rfl (by kernel_rfl) ?_⟩
    clear hc9
    go_wp2_with fail
    refine HIns.out.mono ?_
    rintro r w10 ⟨v', rfl, hown, hgrow, hat⟩
    have e10 : ∀ k, k < w5.heap.size → vL.ownBlock ≠ some k → w10.heap[k]? = w5.heap[k]? := fun k hk hv => (hgrow.block k (by have := HB9.out.size; omega) (fun e => hv e.symm)).trans (HB9.out.block k hk)
    obtain ⟨d1, d2, d3, d4, d5, d6, d7, d8, d9⟩ := HS.out.apart
    obtain ⟨l1, l2, l3, l4⟩ := HS.out.lts
    have hg10 := (e10 gb l1 d1).trans HS.out.grp
    have hc10 : w10.cell? ⟨gb, 0, none⟩ = some vL ∧ LineVar w10 w.heap.size g := ⟨cell_of_row w10 gb 0 _ _ _ hg10, (e10 _ l3 HS.out.vlb).trans HS.out.line⟩
    obtain ⟨va, vc, hv'⟩ : ∃ va vc, v' = .slice (some ⟨va, 0, none⟩) (ms.length + 1) vc := by
      rcases hown.2 with ⟨_, h0⟩ | ⟨g', cap', _, e, _⟩
      · omega
      · exact ⟨g', cap', e⟩
    go_wp2_with fail
    refine ⟨fun _ => ⟨⟨_, hc10⟩, rfl⟩, wpR_list [10, 11, 12] _ _ (by kernel_rfl) ?_⟩
    simp only [opsAt, List.map_cons, List.map_nil, Array.getD_eq_getD_getElem?, List.getElem?_toArray, List.getElem?_cons_zero, List.getElem?_cons_succ, Option.getD_some]
    have hcg := hc10.1
    rw [HVL.out] at hcg
    have hfg := frozen_of_row w10 gb 0 _ _ hg10
    obtain ⟨w11, hw11⟩ : ∃ w11, w11 = w10.setCell ⟨gb, 0, none⟩ v' := ⟨_, rfl⟩
    have hg11 : w11.heap[gb]? = some (.cells #[v', .map (some nb)] 115 (0, 0)) := by rw [hw11]; exact heap_setCell_same w10 gb 0 _ _ v' hg10
    have e11 : ∀ k, k ≠ gb → w11.heap[k]? = w10.heap[k]? := fun k hk => by rw [hw11]; exact heap_setCell_other w10 ⟨gb, 0, none⟩ k _ hk
    have hs11 : w11.heap.size = w10.heap.size := by rw [hw11]; simp [World.setCell]
    have ho11 : w11.os = w10.os ∧ w11.tape = w10.tape ∧ w11.output = w10.output := by rw [hw11]; exact ⟨rfl, rfl, rfl⟩
    have HOWN := Lib.hid hown
    have HGROW := Lib.hid hgrow
    have HAT := Lib.hid hat
    have HE10 := Lib.hid e10
    have HG11 := Lib.hid hg11
    have HE11 := Lib.hid e11
    have HO11 := Lib.hid ho11
    have HC10 := Lib.hid hc10
    have HV' := Lib.hid hv'
    have HW11 := Lib.hid hw11
    have HS11 := Lib.hid hs11
    clear hown hgrow hat e10 hg11 e11 ho11 hg10 hc10 hw11 hs11
    subst hv'
    go_wp2
    refine NoPanic.normal ?_
    go_upto_region 22 with (fail)
    rw [← HW11.out]
    clear hcg hfg HW11 HIns
    have hL11 : LineVar w11 w.heap.size g := (HE11.out _ d3).trans HC10.out.2
    have hN11 : MapAt ekI w11 nb nl nc := ((HE11.out _ d2).trans (HE10.out nb l2 d5)).trans HS.out.num
    have hL11s := hL11.lt
    have q1 : ∀ z : Later w11, z.1.cell? ⟨gb, 1, none⟩ = some (.map (some nb)) := fun z => z.cell (cell_of_row w11 gb 1 _ _ _ HG11.out)
    have q2 : ∀ z : Later w11, okCells z.1 ⟨w.heap.size, 1, none⟩ 32 = true := fun z => (hL11.below z.2 hL11s).idAt.1
    have q3 : ∀ z : Later w11, rdCells z.1 ⟨w.heap.size, 1, none⟩ 32 = (encId p.id).toArray := fun z => (hL11.below z.2 hL11s).idAt.2.trans (by rw [HGI.out])
    have q4 : ∀ z : Later w11, z.1.cell? ⟨w.heap.size, 0, none⟩ = some (.int .i64 p.number) := fun z => ((hL11.below z.2 hL11s).cell 0).trans ((lc0 g).trans (by rw [HGN.out]))
    have HN11 := Lib.hid hN11
    clear hN11 hL11 hL11s
    refine wp_region_mix0 [0, 1, 2, 3, 4, 5, 6, 7] [8] (fun w' => ∃ z : Later w11, w' = z.1) (by kernel_rfl) (by kernel_rfl) (by kernel_rfl) ⟨⟨_, (Below.refl _ _).drew⟩, rfl⟩ ?_
    simp only [opsAt, List.map_cons, List.map_nil, Array.getD_eq_getD_getElem?, List.getElem?_toArray, List.getElem?_cons_zero, List.getElem?_cons_succ, Option.getD_some]
    repeat (go_big_quiet_step (fail))
    refine wpQuiet_nil ?_
    clear q1 q2 q3 q4
    have hup : (Instr.mapUpdate 113 (.map (some nb)) (.agg (encId p.id).toArray) (.int .i64 p.number)).run Tryz.prog w11.drew = .ok () (w11.drew.putObj nb (.map ((nl ++ [(⟨p.id, .int .i64 p.number, nc⟩ : KE Id32)]).map (enE ekI)).toArray (nc + 1))) :=
      put_new keyI Tryz.underlying113 w11.drew nb nl nc HN11.out p.id _ HKEY.out
    obtain ⟨w12, hw12⟩ : ∃ w12, w12 = w11.drew.putObj nb (.map ((nl ++ [(⟨p.id, .int .i64 p.number, nc⟩ : KE Id32)]).map (enE ekI)).toArray (nc + 1)) := ⟨_, rfl⟩
    have e12 : ∀ k, k ≠ nb → w12.heap[k]? = w11.heap[k]? := fun k hk => by rw [hw12, World.putObj_heap_other hk]; rfl
    have hs12 : w12.heap.size = w11.heap.size := by rw [hw12]; simp only [World.putObj, Array.size_setIfInBounds]; rfl
    have hN12 : MapAt ekI w12 nb (nl ++ [⟨p.id, .int .i64 p.number, nc⟩]) (nc + 1) := by rw [hw12]; exact MapAt.put (w := w11.drew) HN11.out
    have ho12 : w12.os = w11.os ∧ w12.tape = w11.tape ∧ w12.output = w11.output := by rw [hw12]; exact ⟨rfl, rfl, rfl⟩
    rw [← hw12] at hup
    have HE12 := Lib.hid e12
    have HS12 := Lib.hid hs12
    have HN12 := Lib.hid hN12
    have HO12 := Lib.hid ho12
    have hI12 := (e12 ib d8).trans ((HE11.out ib d7).trans ((HE10.out ib l4 d6).trans HS.out.idx))
    have HI12 := Lib.hid hI12
    clear hw12 e12 hs12 hN12 ho12 hI12
    refine wpR_list [8] _ _ (by kernel_rfl) ?_
    simp only [opsAt, List.map_cons, List.map_nil, Array.getD_eq_getD_getElem?, List.getElem?_toArray, List.getElem?_cons_zero, List.getElem?_cons_succ, Option.getD_some]
    go_wp2
    refine NoPanic.normal ?_
    have hci := cell_of_row w12 ib 1 _ _ _ HI12.out
    have hfi := frozen_of_row w12 ib 1 _ _ HI12.out
    clear hup
    go_wp2
    obtain ⟨w13, hw13⟩ : ∃ w13, w13 = w12.setCell ⟨ib, 1, none⟩ (.int .i64 ((total gs : Int) + 1)) := ⟨_, rfl⟩
    have hI13 : w13.heap[ib]? = some (.cells #[.map (some M), .int .i64 ((total gs + 1 : Nat) : Int)] 104 (0, 0)) := by
      rw [hw13]
      have := heap_setCell_same w12 ib 1 _ _ (.int .i64 ((total gs : Int) + 1)) HI12.out
      rw [this]
      rfl
    have e13 : ∀ k, k ≠ ib → w13.heap[k]? = w12.heap[k]? := fun k hk => by rw [hw13]; exact heap_setCell_other w12 ⟨ib, 1, none⟩ k _ hk
    have hs13 : w13.heap.size = w12.heap.size := by rw [hw13]; simp [World.setCell]
    have ho13 : w13.os = w12.os ∧ w13.tape = w12.tape ∧ w13.output = w12.output := by rw [hw13]; exact ⟨rfl, rfl, rfl⟩
    rw [← hw13]
    have eAll : ∀ k, k ≠ ib → k ≠ gb → k ≠ nb → w13.heap[k]? = w10.heap[k]? := fun k k1 k2 k3 => (e13 k k1).trans ((HE12.out k k3).trans (HE11.out k k2))
    have h24 : S24 B ib gb nb (total gs) M vL (.slice (some ⟨va, 0, none⟩) (ms.length + 1) vc) (addMs ms pos ⟨p, v⟩) (nl ++ [⟨p.id, .int .i64 p.number, nc⟩]) (nc + 1) w5 w13 := by
      have hid : ∀ {k : Nat} {cur : Array Value}, w10.heap[k]? = some (Obj.cells cur 23 (0, 0)) → w13.heap[k]? = w10.heap[k]? := fun {k cur} hk => eAll k
        (fun e => by rw [e, HE10.out ib l4 d6, HS.out.idx] at hk; cases hk) (fun e => by rw [e, HE10.out gb l1 d1, HS.out.grp] at hk; cases hk)
        (fun e => by have h1 := HS.out.num; unfold MapAt at h1; rw [e, HE10.out nb l2 d5, h1] at hk; cases hk)
      refine ⟨(e13 gb (fun e => d7 e.symm)).trans ((HE12.out gb (fun e => d2 e.symm)).trans HG11.out), (e13 nb (fun e => d8 e.symm)).trans HN12.out, ⟨?_, ?_⟩, hI13, ?_, ?_⟩
      · have h1 := HOWN.out
        rw [HG8.out, ← flat_add, ← addMs_length HPL.out] at h1
        have h2 : (addMs ms pos ⟨p, v⟩).length = ms.length + 1 := addMs_length HPL.out
        rw [← h2]
        rw [h2] at h1 ⊢
        refine ⟨h1.1, ?_⟩
        rcases h1.2 with h0 | ⟨g', cap', cur, e, hg, hcur, hx⟩
        · exact .inl h0
        · refine .inr ⟨g', cap', cur, e, hg, (eAll g' (fun e => ?_) (fun e => ?_) (fun e => ?_)).trans hcur, hx⟩
          · rw [e, HE10.out ib l4 d6, HS.out.idx] at hcur; cases hcur
          · rw [e, HE10.out gb l1 d1, HS.out.grp] at hcur; cases hcur
          · have h3 := HS.out.num; unfold MapAt at h3; rw [e, HE10.out nb l2 d5, h3] at hcur; cases hcur
      · intro m hm
        rcases addMs_mem.1 hm with rfl | hm
        · have h1 := HI9.out
          refine (h1.mono (B' := B) HBB.out).block fun k hk => ?_
          obtain ⟨cur, h2⟩ := h1.typed hk
          have h3 : w10.heap[k]? = w9.heap[k]? := HGROW.out.block k (h1.lt hk).2 (fun e => by
            have h4 := (h1.lt hk).1
            have h5 := (World.ownsRow.lt HS.out.lines.row k e.symm).2
            omega)
          rw [hid (h3.trans h2), h3]
        · have h1 := HS.out.lines.refs m hm
          refine h1.block fun k hk => ?_
          obtain ⟨cur, h2⟩ := h1.typed hk
          have h3 : w10.heap[k]? = w5.heap[k]? := HE10.out k (h1.lt hk).2 (fun e => by
            obtain ⟨c3, h4⟩ := ownsRow_typed HS.out.lines.row e
            rw [h4] at h2; cases h2)
          rw [hid (h3.trans h2), h3]
      · rcases HAT.out with h1 | h1
        · exact .inl h1
        · exact .inr ⟨_, h1, HB9.out.size⟩
      · refine ⟨?_, ?_, ?_, ?_, fun k hk hn => ?_⟩
        · exact ho13.1.trans (HO12.out.1.trans (HO11.out.1.trans (HGROW.out.os.trans HB9.out.os)))
        · exact ho13.2.1.trans (HO12.out.2.1.trans (HO11.out.2.1.trans (HGROW.out.tape.trans HB9.out.tape)))
        · exact ho13.2.2.trans (HO12.out.2.2.trans (HO11.out.2.2.trans (HGROW.out.output.trans HB9.out.output)))
        · have h1 := HS12.out
          have h2 := HS11.out
          have h3 := HGROW.out.size
          have h4 := HB9.out.size
          omega
        · simp only [List.mem_cons, List.mem_append, List.mem_nil_iff, or_false, Option.mem_toList, not_or] at hn
          exact (eAll k hn.1 hn.2.1.1 hn.2.1.2).trans (HE10.out k hk hn.2.2)
    clear hw13 hI13 e13 hs13 ho13 eAll hci hfi
    go_ret
    exact ⟨by rw [HA.out]; try rfl, .inr ⟨HA.out, HEND.out _ _ v (fun k hk => Nat.le_trans HWS.out (HI9.out.lt hk).1) h24⟩⟩
  | none =>
    rw [hgo] at hlk
    simp only [Option.map_none, Option.getD_none] at hlk
    have hms : linesIn gs s = [] := by unfold linesIn; rw [hgo]
    have hMl := hX5.map.lt
    have hIl := (Array.getElem?_eq_some_iff.1 hX5.blk).1
    have hMw := HX.out.map.lt
    have hIw := (Array.getElem?_eq_some_iff.1 HX.out.blk).1
    have hib : ib ≠ M := (apart_iff.1 HX.out.apart).1
    have hmm := @run_makeMap Tryz.prog
    obtain ⟨W, hW⟩ : ∃ W, W = (w5.alloc (.map #[] 0)).alloc (.cells #[.slice none 0 0, .map (some w5.heap.size)] 115) := ⟨_, rfl⟩
    have hWM : MapAt ekS W M (gs.map MG.e) mc := by
      unfold MapAt
      rw [hW, heap_alloc_old _ _ (by simp; omega), heap_alloc_old _ _ hMl]
      exact hX5.map
    have hfk : findK s (gs.map MG.e) 0 = none := findK_none fun e he => by
      obtain ⟨G, hG, rfl⟩ := List.mem_map.1 he
      exact groupOf_none hgo G hG
    obtain ⟨arr, harr⟩ : ∃ arr : Value → Array MapEntry, ∀ v, arr v = ((gs.map MG.e ++ [(⟨s, v, mc⟩ : KE ByteArray)]).map (enE ekS)).toArray := ⟨_, fun _ => rfl⟩
    have hup : ∀ v, (Instr.mapUpdate 102 (.map (some M)) (.string s) v).run Tryz.prog ((w5.alloc (.map #[] 0)).alloc (.cells #[.slice none 0 0, .map (some w5.heap.size)] 115)) = .ok () (((w5.alloc (.map #[] 0)).alloc (.cells #[.slice none 0 0, .map (some w5.heap.size)] 115)).putObj M (.map (arr v) (mc + 1))) := fun v => by
      rw [← hW, harr]
      exact put_new keyS Tryz.underlying102 W M (gs.map MG.e) mc hWM s v hfk
    have hc6 : ((w5.alloc (.map #[] 0)).alloc (.cells #[.slice none 0 0, .map (some w5.heap.size)] 115)).cell? ⟨ib, 0, none⟩ = some (.map (some M)) := Lib.cell?_alloc_some _ (Lib.cell?_alloc_some _ hc0)
    have HX5 := Lib.hid hX5
    have HWM := Lib.hid hWM
    have HARR := Lib.hid harr
    clear hX5 hWM harr
    go_upto_region 21 with (fail)
    obtain ⟨gb, hgb⟩ : ∃ gb, gb = w5.heap.size + 1 := ⟨_, rfl⟩
    obtain ⟨nb, hnb⟩ : ∃ nb, nb = w5.heap.size := ⟨_, rfl⟩
    obtain ⟨w6, hw6⟩ : ∃ w6, w6 = ((w5.alloc (.map #[] 0)).alloc (.cells #[.slice none 0 0, .map (some w5.heap.size)] 115)).putObj M (.map (arr (.pointer (some ⟨w5.heap.size + 1, 0, none⟩))) (mc + 1)) := ⟨_, rfl⟩
    have hs6 : w6.heap.size = w5.heap.size + 2 := by rw [hw6]; simp [World.putObj]
    have blk6 : ∀ k, k < w5.heap.size → k ≠ M → w6.heap[k]? = w5.heap[k]? := fun k hk hkM => by
      rw [hw6, World.putObj_heap_other hkM, heap_alloc_old _ _ (by simp; omega), heap_alloc_old _ _ hk]
    have hM6 : MapAt ekS w6 M (gs.map MG.e ++ [⟨s, .pointer (some ⟨gb, 0, none⟩), mc⟩]) (mc + 1) := by
      rw [hw6, hgb, ← hW, HARR.out]
      exact HWM.out.put
    have hg6 : w6.heap[gb]? = some (.cells #[.slice none 0 0, .map (some nb)] 115 (0, 0)) := by
      rw [hw6, World.putObj_heap_other (by omega), hgb, hnb]
      have := heap_alloc_new (w5.alloc (.map #[] 0)) (.cells #[.slice none 0 0, .map (some w5.heap.size)] 115)
      simpa using this
    have hn6 : MapAt ekI w6 nb [] 0 := by
      unfold MapAt
      rw [hw6, World.putObj_heap_other (by omega), heap_alloc_old _ _ (by simp; omega), hnb, heap_alloc_new]
      rfl
    have hk6 : Kept [M] w w6 := by
      have h1 := HB5.out
      refine ⟨?_, ?_, ?_, by have := h1.size; omega, fun k hk hkM => (blk6 k (by have := h1.size; omega) (by simpa using hkM)).trans (h1.block k hk)⟩
      · rw [hw6]; exact h1.os
      · rw [hw6]; exact h1.tape
      · rw [hw6]; exact h1.output
    have HS : Hid (S21 B ib gb nb w.heap.size (total gs) M (.slice none 0 0) [] [] 0 g p.ids w6) := Lib.hid {
      grp := hg6
      num := hn6
      lines := ⟨World.ownsRow_nil _ _ _ _, fun m hm => by cases hm⟩
      line := (blk6 _ hs5 (by omega)).trans HL5.out
      idx := (blk6 _ hIl hib).trans HX5.out.blk
      vlb := by simp [Value.ownBlock]
      refs := (HI.out.below HB5.out).block fun k hk => by
        have h1 := HI.out.below HB5.out
        obtain ⟨cur, h2⟩ := h1.typed hk
        refine blk6 k (h1.lt hk).2 ?_
        rintro rfl
        have h3 := HX5.out.map
        unfold MapAt at h3
        rw [h3] at h2
        cases h2 }
    have hsz := HB5.out.size
    obtain ⟨nl, hnlz⟩ : ∃ nl : List (KE Id32), nl = [] := ⟨_, rfl⟩
    have HWS : Hid (w.heap.size ≤ w6.heap.size) := Lib.hid hk6.size
    have HEND : Hid (∀ w' v' v, (∀ k, v.ownBlock = some k → w.heap.size ≤ k) → S24 B ib gb nb (total gs) M (.slice none 0 0) v' (addMs [] pos ⟨p, v⟩) (nl ++ [⟨p.id, .int .i64 p.number, 0⟩]) (0 + 1) w6 w' → ∃ gs' mc', Added B ib M gs s p w w' gs' mc') := by
      rw [hnlz]
      exact Lib.hid (fun w' v' v hv h24 => added_new (nb := nb) HX.out hgo hv HNE.out HPE.out hfew hk6 hM6 (by omega) (by omega) (by omega) (by omega) (by omega) hib (by rw [← HGN.out, ← HPOS.out]; rw [HGN.out]; exact h24))
    have HKEY : Hid (findK p.id [] 0 = none) := Lib.hid rfl
    have HPL : Hid (pos ≤ ([] : List ML).length) := Lib.hid (by
      have := (between_pos (HX5.out.sorted s) g.number).2.1
      rw [nums_length, hms] at this
      rw [HPOS.out, hms]; exact this)
    have HLEN : Hid (([] : List ML).length ≤ 65536) := Lib.hid (by simp)
    have HBB : Hid (B ≤ w6.heap.size) := Lib.hid (by have := (HX5.out.foot_lt ib (by simp [foot])); omega)
    rw [← hw6, ← hgb, ← hnb]
    clear hw6 hgb hnb hs6 blk6 hM6 hg6 hn6 hk6 hgo hlk hc0 hc1 hlim hlim2 hmn HL5 HB5 HX HX5 HN1 HN2 HVAL HPOS hs5 hsz hms hMl hIl hMw hIw hib hmm hW hfk hup hc6 HWM HARR
    clear W arr
    obtain ⟨vL, hvL⟩ : ∃ v : Value, v = .slice none 0 0 := ⟨_, rfl⟩
    rw [← hvL] at HS HEND
    clear hvL
    obtain ⟨ms, hmsz⟩ : ∃ ms : List ML, ms = [] := ⟨_, rfl⟩
    rw [← hmsz] at HS HEND HPL HLEN
    clear hmsz
    rw [← hnlz] at HS HKEY
    clear hnlz
    obtain ⟨nc, hncz⟩ : ∃ nc : Nat, nc = 0 := ⟨_, rfl⟩
    rw [← hncz] at HS HEND
    clear hncz
    obtain ⟨vla, vln, vlc, hvl⟩ : ∃ a n c, vL = .slice a n c := by
      rcases HS.out.lines.head with ⟨e, _⟩ | ⟨_, cap, e, _⟩
      · exact ⟨_, _, _, e⟩
      · exact ⟨_, _, _, e⟩
    have HVL := Lib.hid hvl
    haveI : Nonempty (Cls gb w.heap.size vL g) := ⟨⟨w6, HS.out.cls (Below.refl _ _)⟩⟩
    have q1 : ∀ z : Cls gb w.heap.size vL g, z.1.cell? ⟨gb, 0, none⟩ = some (.slice vla vln vlc) := fun z => hvl ▸ z.2.1
    have q2 : ∀ z : Cls gb w.heap.size vL g, okCells z.1 ⟨w.heap.size, 0, none⟩ 38 = true := fun z => z.2.2.rd.1
    have q3 : ∀ z : Cls gb w.heap.size vL g, rdCells z.1 ⟨w.heap.size, 0, none⟩ 38 = lineCells g := fun z => z.2.2.rd.2
    clear hvl
    refine wp_region_mix0 [0, 1, 2, 3, 4, 5, 6] [7, 8, 9, 10, 11, 12] (fun w' => ∃ z : Cls gb w.heap.size vL g, w' = z.1) (by kernel_rfl) (by kernel_rfl) (by kernel_rfl) ⟨⟨_, HS.out.cls (Below.refl _ _).drew⟩, rfl⟩ ?_
    simp only [opsAt, List.map_cons, List.map_nil, Array.getD_eq_getD_getElem?, List.getElem?_toArray, List.getElem?_cons_zero, List.getElem?_cons_succ, Option.getD_some]
    repeat (go_big_quiet_step (fail))
    refine wpQuiet_nil ?_
    clear q1 q2 q3
    have hbd : Below w6.heap.size w6 w6.drew := (Below.refl _ _).drew
    generalize w6.drew = w7 at hbd ⊢
    refine wpR_cons true rfl (by kernel_rfl) ?_
    go_wp2_with fail
    refine (clone_any 0 g p.ids w7 (HS.out.refs.below hbd) (by have := refs_len HPE.out; omega)).mono ?_
    rintro r w8 ⟨v, rfl, hI8, hb8⟩
    have hone := hI8.one
    have hb8' : Below w6.heap.size w6 w8 := hbd.trans (hb8.mono hbd.size)
    have hc8 := HS.out.cls hb8'
    obtain ⟨g8, hg8⟩ : ∃ g8 : GLine, g8 = ML.g ⟨p, v⟩ := ⟨_, rfl⟩
    have hone8 : refsOne g8 := by rw [hg8]; exact hone
    rw [HGV.out v, ← hg8]
    have HG8 := Lib.hid hg8
    clear hg8
    have HI8 := Lib.hid (hI8.mono hbd.size)
    obtain ⟨i0, hi, hz0, hz1, hz2⟩ := info_parts Tryz.info_line
    go_wp2_with fail
    refine ⟨fun _ => ⟨⟨_, hc8⟩, rfl⟩, wpR_cons true rfl (by kernel_rfl) ?_⟩
    refine wpList_buildSlice rfl 107 34 1 _ rfl (lineCells g8) i0 _ Tryz.underlying107 hi hz0 (by rw [hz1]; decide) (by rw [hz1]; decide) (by rw [hz1]; simp only [List.map_toArray, List.map_cons, List.map_nil]; refine fill_one _ _ 38 (lineCells_size _) ?_; rw [Array.size_map, Array.size_range]) ?_
    obtain ⟨w9, hw9⟩ : ∃ w9, w9 = w8.alloc (.cells (lineCells g8) 34) := ⟨_, rfl⟩
    have hb89 : Below w8.heap.size w8 w9 := by rw [hw9]; exact (Below.refl _ _).alloc (Nat.le_refl _) _
    have hb9 : Below w6.heap.size w6 w9 := hb8'.trans (hb89.mono hb8'.size)
    have hn9 : w9.heap[w8.heap.size]? = some (.cells (lineCells g8) 34 (0, 0)) := by rw [hw9]; exact heap_alloc_new _ _
    have hL9 := HS.out.lines.below hb9
    have hIns : Calls Tryz.prog 73 #[.slice vla vln vlc, .int .i64 pos, .slice (some ⟨w8.heap.size, 0, none⟩) 1 1] w9 fun r w' => ∃ v', r = .returned v' ∧ w'.ownsRow B 34 38 v' (ms.length + 1) ((flatLines ms).take (pos * 38) ++ lineList g8 ++ (flatLines ms).drop (pos * 38)) ∧ w9.grownBy w' vL.ownBlock ∧ (v'.ownBlock = vL.ownBlock ∨ v'.ownBlock = some w9.heap.size) := by
      have := insert_any B vL ms.length pos w8.heap.size (flatLines ms) g8 w9 hone8 (flat_cells fun m hm => (hL9.refs m hm).one) hL9.row (by have := HBB.out; have := hb9.size; omega) HLEN.out HPL.out hn9 (fun e => by have := (World.ownsRow.lt HS.out.lines.row _ e).2; have := hb8'.size; omega)
      rw [HVL.out] at this ⊢
      exact this
    rw [← hw9]
    have HIns := Lib.hid hIns
    have HB9 := Lib.hid hb9
    have HI9 := Lib.hid (HI8.out.below hb89)
    have hc9 := HS.out.cls hb9
    clear hIns hb9 hb89 hw9 hL9 hn9 HI8 hI8 hb8 hb8' hc8 hbd
    go_wp2_with fail
    refine ⟨fun _ => ⟨⟨_, hc9⟩, rfl⟩, wpR_cons true rfl (by kernel_rfl) ?_⟩
    clear hc9
    go_wp2_with fail
    refine HIns.out.mono ?_
    rintro r w10 ⟨v', rfl, hown, hgrow, hat⟩
    have e10 : ∀ k, k < w6.heap.size → vL.ownBlock ≠ some k → w10.heap[k]? = w6.heap[k]? := fun k hk hv => (hgrow.block k (by have := HB9.out.size; omega) (fun e => hv e.symm)).trans (HB9.out.block k hk)
    obtain ⟨d1, d2, d3, d4, d5, d6, d7, d8, d9⟩ := HS.out.apart
    obtain ⟨l1, l2, l3, l4⟩ := HS.out.lts
    have hg10 := (e10 gb l1 d1).trans HS.out.grp
    have hc10 : w10.cell? ⟨gb, 0, none⟩ = some vL ∧ LineVar w10 w.heap.size g := ⟨cell_of_row w10 gb 0 _ _ _ hg10, (e10 _ l3 HS.out.vlb).trans HS.out.line⟩
    obtain ⟨va, vc, hv'⟩ : ∃ va vc, v' = .slice (some ⟨va, 0, none⟩) (ms.length + 1) vc := by
      rcases hown.2 with ⟨_, h0⟩ | ⟨g', cap', _, e, _⟩
      · omega
      · exact ⟨g', cap', e⟩
    go_wp2_with fail
    refine ⟨fun _ => ⟨⟨_, hc10⟩, rfl⟩, wpR_list [10, 11, 12] _ _ (by kernel_rfl) ?_⟩
    simp only [opsAt, List.map_cons, List.map_nil, Array.getD_eq_getD_getElem?, List.getElem?_toArray, List.getElem?_cons_zero, List.getElem?_cons_succ, Option.getD_some]
    have hcg := hc10.1
    rw [HVL.out] at hcg
    have hfg := frozen_of_row w10 gb 0 _ _ hg10
    obtain ⟨w11, hw11⟩ : ∃ w11, w11 = w10.setCell ⟨gb, 0, none⟩ v' := ⟨_, rfl⟩
    have hg11 : w11.heap[gb]? = some (.cells #[v', .map (some nb)] 115 (0, 0)) := by rw [hw11]; exact heap_setCell_same w10 gb 0 _ _ v' hg10
    have e11 : ∀ k, k ≠ gb → w11.heap[k]? = w10.heap[k]? := fun k hk => by rw [hw11]; exact heap_setCell_other w10 ⟨gb, 0, none⟩ k _ hk
    have hs11 : w11.heap.size = w10.heap.size := by rw [hw11]; simp [World.setCell]
    have ho11 : w11.os = w10.os ∧ w11.tape = w10.tape ∧ w11.output = w10.output := by rw [hw11]; exact ⟨rfl, rfl, rfl⟩
    have HOWN := Lib.hid hown
    have HGROW := Lib.hid hgrow
    have HAT := Lib.hid hat
    have HE10 := Lib.hid e10
    have HG11 := Lib.hid hg11
    have HE11 := Lib.hid e11
    have HO11 := Lib.hid ho11
    have HC10 := Lib.hid hc10
    have HV' := Lib.hid hv'
    have HW11 := Lib.hid hw11
    have HS11 := Lib.hid hs11
    clear hown hgrow hat e10 hg11 e11 ho11 hg10 hc10 hw11 hs11
    subst hv'
    go_wp2
    refine NoPanic.normal ?_
    go_upto_region 22 with (fail)
    rw [← HW11.out]
    clear hcg hfg HW11 HIns
    have hL11 : LineVar w11 w.heap.size g := (HE11.out _ d3).trans HC10.out.2
    have hN11 : MapAt ekI w11 nb nl nc := ((HE11.out _ d2).trans (HE10.out nb l2 d5)).trans HS.out.num
    have hL11s := hL11.lt
    have q1 : ∀ z : Later w11, z.1.cell? ⟨gb, 1, none⟩ = some (.map (some nb)) := fun z => z.cell (cell_of_row w11 gb 1 _ _ _ HG11.out)
    have q2 : ∀ z : Later w11, okCells z.1 ⟨w.heap.size, 1, none⟩ 32 = true := fun z => (hL11.below z.2 hL11s).idAt.1
    have q3 : ∀ z : Later w11, rdCells z.1 ⟨w.heap.size, 1, none⟩ 32 = (encId p.id).toArray := fun z => (hL11.below z.2 hL11s).idAt.2.trans (by rw [HGI.out])
    have q4 : ∀ z : Later w11, z.1.cell? ⟨w.heap.size, 0, none⟩ = some (.int .i64 p.number) := fun z => ((hL11.below z.2 hL11s).cell 0).trans ((lc0 g).trans (by rw [HGN.out]))
    have HN11 := Lib.hid hN11
    clear hN11 hL11 hL11s
    refine wp_region_mix0 [0, 1, 2, 3, 4, 5, 6, 7] [8] (fun w' => ∃ z : Later w11, w' = z.1) (by kernel_rfl) (by kernel_rfl) (by kernel_rfl) ⟨⟨_, (Below.refl _ _).drew⟩, rfl⟩ ?_
    simp only [opsAt, List.map_cons, List.map_nil, Array.getD_eq_getD_getElem?, List.getElem?_toArray, List.getElem?_cons_zero, List.getElem?_cons_succ, Option.getD_some]
    repeat (go_big_quiet_step (fail))
    refine wpQuiet_nil ?_
    clear q1 q2 q3 q4
    have hup : (Instr.mapUpdate 113 (.map (some nb)) (.agg (encId p.id).toArray) (.int .i64 p.number)).run Tryz.prog w11.drew = .ok () (w11.drew.putObj nb (.map ((nl ++ [(⟨p.id, .int .i64 p.number, nc⟩ : KE Id32)]).map (enE ekI)).toArray (nc + 1))) :=
      put_new keyI Tryz.underlying113 w11.drew nb nl nc HN11.out p.id _ HKEY.out
    obtain ⟨w12, hw12⟩ : ∃ w12, w12 = w11.drew.putObj nb (.map ((nl ++ [(⟨p.id, .int .i64 p.number, nc⟩ : KE Id32)]).map (enE ekI)).toArray (nc + 1)) := ⟨_, rfl⟩
    have e12 : ∀ k, k ≠ nb → w12.heap[k]? = w11.heap[k]? := fun k hk => by rw [hw12, World.putObj_heap_other hk]; rfl
    have hs12 : w12.heap.size = w11.heap.size := by rw [hw12]; simp only [World.putObj, Array.size_setIfInBounds]; rfl
    have hN12 : MapAt ekI w12 nb (nl ++ [⟨p.id, .int .i64 p.number, nc⟩]) (nc + 1) := by rw [hw12]; exact MapAt.put (w := w11.drew) HN11.out
    have ho12 : w12.os = w11.os ∧ w12.tape = w11.tape ∧ w12.output = w11.output := by rw [hw12]; exact ⟨rfl, rfl, rfl⟩
    rw [← hw12] at hup
    have HE12 := Lib.hid e12
    have HS12 := Lib.hid hs12
    have HN12 := Lib.hid hN12
    have HO12 := Lib.hid ho12
    have hI12 := (e12 ib d8).trans ((HE11.out ib d7).trans ((HE10.out ib l4 d6).trans HS.out.idx))
    have HI12 := Lib.hid hI12
    clear hw12 e12 hs12 hN12 ho12 hI12
    refine wpR_list [8] _ _ (by kernel_rfl) ?_
    simp only [opsAt, List.map_cons, List.map_nil, Array.getD_eq_getD_getElem?, List.getElem?_toArray, List.getElem?_cons_zero, List.getElem?_cons_succ, Option.getD_some]
    go_wp2
    refine NoPanic.normal ?_
    have hci := cell_of_row w12 ib 1 _ _ _ HI12.out
    have hfi := frozen_of_row w12 ib 1 _ _ HI12.out
    clear hup
    go_wp2
    obtain ⟨w13, hw13⟩ : ∃ w13, w13 = w12.setCell ⟨ib, 1, none⟩ (.int .i64 ((total gs : Int) + 1)) := ⟨_, rfl⟩
    have hI13 : w13.heap[ib]? = some (.cells #[.map (some M), .int .i64 ((total gs + 1 : Nat) : Int)] 104 (0, 0)) := by
      rw [hw13]
      have := heap_setCell_same w12 ib 1 _ _ (.int .i64 ((total gs : Int) + 1)) HI12.out
      rw [this]
      rfl
    have e13 : ∀ k, k ≠ ib → w13.heap[k]? = w12.heap[k]? := fun k hk => by rw [hw13]; exact heap_setCell_other w12 ⟨ib, 1, none⟩ k _ hk
    have hs13 : w13.heap.size = w12.heap.size := by rw [hw13]; simp [World.setCell]
    have ho13 : w13.os = w12.os ∧ w13.tape = w12.tape ∧ w13.output = w12.output := by rw [hw13]; exact ⟨rfl, rfl, rfl⟩
    rw [← hw13]
    have eAll : ∀ k, k ≠ ib → k ≠ gb → k ≠ nb → w13.heap[k]? = w10.heap[k]? := fun k k1 k2 k3 => (e13 k k1).trans ((HE12.out k k3).trans (HE11.out k k2))
    have h24 : S24 B ib gb nb (total gs) M vL (.slice (some ⟨va, 0, none⟩) (ms.length + 1) vc) (addMs ms pos ⟨p, v⟩) (nl ++ [⟨p.id, .int .i64 p.number, nc⟩]) (nc + 1) w6 w13 := by
      have hid : ∀ {k : Nat} {cur : Array Value}, w10.heap[k]? = some (Obj.cells cur 23 (0, 0)) → w13.heap[k]? = w10.heap[k]? := fun {k cur} hk => eAll k
        (fun e => by rw [e, HE10.out ib l4 d6, HS.out.idx] at hk; cases hk) (fun e => by rw [e, HE10.out gb l1 d1, HS.out.grp] at hk; cases hk)
        (fun e => by have h1 := HS.out.num; unfold MapAt at h1; rw [e, HE10.out nb l2 d5, h1] at hk; cases hk)
      refine ⟨(e13 gb (fun e => d7 e.symm)).trans ((HE12.out gb (fun e => d2 e.symm)).trans HG11.out), (e13 nb (fun e => d8 e.symm)).trans HN12.out, ⟨?_, ?_⟩, hI13, ?_, ?_⟩
      · have h1 := HOWN.out
        rw [HG8.out, ← flat_add, ← addMs_length HPL.out] at h1
        have h2 : (addMs ms pos ⟨p, v⟩).length = ms.length + 1 := addMs_length HPL.out
        rw [← h2]
        rw [h2] at h1 ⊢
        refine ⟨h1.1, ?_⟩
        rcases h1.2 with h0 | ⟨g', cap', cur, e, hg, hcur, hx⟩
        · exact .inl h0
        · refine .inr ⟨g', cap', cur, e, hg, (eAll g' (fun e => ?_) (fun e => ?_) (fun e => ?_)).trans hcur, hx⟩
          · rw [e, HE10.out ib l4 d6, HS.out.idx] at hcur; cases hcur
          · rw [e, HE10.out gb l1 d1, HS.out.grp] at hcur; cases hcur
          · have h3 := HS.out.num; unfold MapAt at h3; rw [e, HE10.out nb l2 d5, h3] at hcur; cases hcur
      · intro m hm
        rcases addMs_mem.1 hm with rfl | hm
        · have h1 := HI9.out
          refine (h1.mono (B' := B) HBB.out).block fun k hk => ?_
          obtain ⟨cur, h2⟩ := h1.typed hk
          have h3 : w10.heap[k]? = w9.heap[k]? := HGROW.out.block k (h1.lt hk).2 (fun e => by
            have h4 := (h1.lt hk).1
            have h5 := (World.ownsRow.lt HS.out.lines.row k e.symm).2
            omega)
          rw [hid (h3.trans h2), h3]
        · have h1 := HS.out.lines.refs m hm
          refine h1.block fun k hk => ?_
          obtain ⟨cur, h2⟩ := h1.typed hk
          have h3 : w10.heap[k]? = w6.heap[k]? := HE10.out k (h1.lt hk).2 (fun e => by
            obtain ⟨c3, h4⟩ := ownsRow_typed HS.out.lines.row e
            rw [h4] at h2; cases h2)
          rw [hid (h3.trans h2), h3]
      · rcases HAT.out with h1 | h1
        · exact .inl h1
        · exact .inr ⟨_, h1, HB9.out.size⟩
      · refine ⟨?_, ?_, ?_, ?_, fun k hk hn => ?_⟩
        · exact ho13.1.trans (HO12.out.1.trans (HO11.out.1.trans (HGROW.out.os.trans HB9.out.os)))
        · exact ho13.2.1.trans (HO12.out.2.1.trans (HO11.out.2.1.trans (HGROW.out.tape.trans HB9.out.tape)))
        · exact ho13.2.2.trans (HO12.out.2.2.trans (HO11.out.2.2.trans (HGROW.out.output.trans HB9.out.output)))
        · have h1 := HS12.out
          have h2 := HS11.out
          have h3 := HGROW.out.size
          have h4 := HB9.out.size
          omega
        · simp only [List.mem_cons, List.mem_append, List.mem_nil_iff, or_false, Option.mem_toList, not_or] at hn
          exact (eAll k hn.1 hn.2.1.1 hn.2.1.2).trans (HE10.out k hk hn.2.2)
    clear hw13 hI13 e13 hs13 ho13 eAll hci hfi
    go_ret
    exact ⟨by rw [HA.out]; try rfl, .inr ⟨HA.out, HEND.out _ _ v (fun k hk => Nat.le_trans HWS.out (HI9.out.lt hk).1) h24⟩⟩

end Go.Proofs.YtdjaphcelpchaaaGreatDoor

namespace Go.Proofs.YtdjaphcelpchaaaGreatDoor
open Go Go.RowKit Go.Proofs

theorem less_irr : ∀ a : List UInt8, Op.bytesLess a a = false
  | [] => rfl
  | a :: x => by
    unfold Op.bytesLess
    rw [less_irr x]
    simp
theorem less_trans : ∀ a b c : List UInt8, Op.bytesLess a b = true → Op.bytesLess b c = true → Op.bytesLess a c = true
  | _, _, [], _, h => by cases ‹List UInt8› <;> simp [Op.bytesLess] at h
  | [], _, _ :: _, _, _ => rfl
  | _ :: _, [], _ :: _, h, _ => by simp [Op.bytesLess] at h
  | a :: x, b :: y, c :: z, h1, h2 => by
    unfold Op.bytesLess at h1 h2 ⊢
    simp only [Bool.or_eq_true, decide_eq_true_eq, Bool.and_eq_true, beq_iff_eq] at h1 h2 ⊢
    rcases h1 with h1 | ⟨h1, g1⟩
    · rcases h2 with h2 | ⟨h2, g2⟩
      · exact .inl (by rw [UInt8.lt_iff_toNat_lt] at *; omega)
      · exact .inl (h2 ▸ h1)
    · rcases h2 with h2 | ⟨h2, g2⟩
      · exact .inl (h1 ▸ h2)
      · exact .inr ⟨h1.trans h2, less_trans x y z g1 g2⟩
theorem less_total : ∀ a b : List UInt8, Op.bytesLess a b = false → Op.bytesLess b a = false → a = b
  | [], [], _, _ => rfl
  | [], _ :: _, h, _ => by simp [Op.bytesLess] at h
  | _ :: _, [], _, h => by simp [Op.bytesLess] at h
  | a :: x, b :: y, h1, h2 => by
    unfold Op.bytesLess at h1 h2
    simp only [Bool.or_eq_false_iff, decide_eq_false_iff_not] at h1 h2
    have e : a = b := by
      apply UInt8.toNat_inj.1
      have := h1.1
      have := h2.1
      rw [UInt8.lt_iff_toNat_lt] at *
      omega
    subst e
    simp only [beq_self_eq_true, Bool.true_and] at h1 h2
    rw [less_total x y h1.2 h2.2]
theorem less_asymm {a b : List UInt8} (h : Op.bytesLess a b = true) : Op.bytesLess b a = false := by
  cases h2 : Op.bytesLess b a with
  | false => rfl
  | true =>
    have := less_trans a b a h h2
    rw [less_irr] at this
    cases this

/-- How two lists of parts compare. -/
def cmpL : List (List UInt8) → List (List UInt8) → Int
  | [], [] => 0
  | [], _ :: _ => -1
  | _ :: _, [] => 1
  | a :: x, b :: y => if Op.bytesLess a b then -1 else if Op.bytesLess b a then 1 else cmpL x y
/-- How two names compare. -/
def cmpN (a b : ByteArray) : Int := cmpL (splitL 46 a.data.toList) (splitL 46 b.data.toList)

theorem cmpL_range : ∀ x y, cmpL x y = -1 ∨ cmpL x y = 0 ∨ cmpL x y = 1
  | [], [] => .inr (.inl rfl)
  | [], _ :: _ => .inl rfl
  | _ :: _, [] => .inr (.inr rfl)
  | a :: x, b :: y => by
    unfold cmpL
    split
    · exact .inl rfl
    · split
      · exact .inr (.inr rfl)
      · exact cmpL_range x y
theorem cmpL_swap : ∀ x y, cmpL y x = - cmpL x y
  | [], [] => rfl
  | [], _ :: _ => rfl
  | _ :: _, [] => rfl
  | a :: x, b :: y => by
    unfold cmpL
    cases h1 : Op.bytesLess a b with
    | true => simp [less_asymm h1]
    | false =>
      cases h2 : Op.bytesLess b a with
      | true => simp
      | false => simpa using cmpL_swap x y
theorem cmpL_refl (x : List (List UInt8)) : cmpL x x = 0 := by have := cmpL_swap x x; omega
theorem cmpL_zero : ∀ x y, cmpL x y = 0 → x = y
  | [], [], _ => rfl
  | [], _ :: _, h => by simp [cmpL] at h
  | _ :: _, [], h => by simp [cmpL] at h
  | a :: x, b :: y, h => by
    unfold cmpL at h
    cases h1 : Op.bytesLess a b with
    | true => simp [h1] at h
    | false =>
      cases h2 : Op.bytesLess b a with
      | true => simp [h1, h2] at h
      | false =>
        simp [h1, h2] at h
        rw [less_total a b h1 h2, cmpL_zero x y h]
theorem cmpL_trans : ∀ x y z, cmpL x y < 0 → cmpL y z < 0 → cmpL x z < 0
  | [], [], _, h, _ => by simp [cmpL] at h
  | _ :: _, [], _, h, _ => by simp [cmpL] at h
  | _, _ :: _, [], _, h => by simp [cmpL] at h
  | [], _ :: _, _ :: _, _, _ => by simp [cmpL]
  | a :: x, b :: y, c :: z, h1, h2 => by
    unfold cmpL at h1 h2 ⊢
    cases ab : Op.bytesLess a b with
    | true =>
      cases bc : Op.bytesLess b c with
      | true => simp [less_trans a b c ab bc]
      | false =>
        cases cb : Op.bytesLess c b with
        | true => simp [bc, cb] at h2
        | false =>
          obtain rfl := less_total b c bc cb
          simp [ab]
    | false =>
      cases ba : Op.bytesLess b a with
      | true => simp [ab, ba] at h1
      | false =>
        obtain rfl := less_total a b ab ba
        cases bc : Op.bytesLess a c with
        | true => simp
        | false =>
          cases cb : Op.bytesLess c a with
          | true => simp [bc, cb] at h2
          | false =>
            simp [ab] at h1
            simp [bc, cb] at h2
            simpa using cmpL_trans x y z h1 h2

theorem cmpN_swap (a b : ByteArray) : cmpN b a = - cmpN a b := cmpL_swap _ _
theorem cmpN_refl (a : ByteArray) : cmpN a a = 0 := cmpL_refl _
theorem cmpN_zero {a b : ByteArray} (h : cmpN a b = 0) : a = b := by
  have := cmpL_zero _ _ h
  have h2 := congrArg (fun l => Lib.join l [46]) this
  simp only [join_split] at h2
  cases a; cases b
  simp only [Array.toList_inj] at h2
  rw [h2]
theorem cmpN_trans {a b c : ByteArray} (h1 : cmpN a b < 0) (h2 : cmpN b c < 0) : cmpN a c < 0 := cmpL_trans _ _ _ h1 h2
theorem cmpN_total {a b : ByteArray} (h1 : ¬ cmpN a b < 0) (h2 : ¬ cmpN b a < 0) : a = b := by
  have := cmpN_swap a b
  exact cmpN_zero (by omega)

/-- Two lists in strict order with the same members are equal. -/
theorem sorted_ext {α : Type} {R : α → α → Prop} (irr : ∀ a, ¬ R a a) (tr : ∀ a b c, R a b → R b c → R a c) : ∀ {l1 l2 : List α}, l1.Pairwise R → l2.Pairwise R → (∀ x, x ∈ l1 ↔ x ∈ l2) → l1 = l2
  | [], [], _, _, _ => rfl
  | [], b :: y, _, _, h => by have := (h b).2 (by simp); cases this
  | a :: x, [], _, _, h => by have := (h a).1 (by simp); cases this
  | a :: x, b :: y, h1, h2, h => by
    rw [List.pairwise_cons] at h1 h2
    have e : a = b := by
      rcases List.mem_cons.1 ((h a).1 (by simp)) with e | ha
      · exact e
      · rcases List.mem_cons.1 ((h b).2 (by simp)) with e | hb
        · exact e.symm
        · exact absurd (tr a b a (h1.1 b hb) (h2.1 a ha)) (irr a)
    subst e
    rw [sorted_ext irr tr h1.2 h2.2 fun z => ?_]
    constructor
    · intro hz
      rcases List.mem_cons.1 ((h z).1 (by simp [hz])) with e | h3
      · subst e; exact absurd (h1.1 z hz) (irr z)
      · exact h3
    · intro hz
      rcases List.mem_cons.1 ((h z).2 (by simp [hz])) with e | h3
      · subst e; exact absurd (h2.1 z hz) (irr z)
      · exact h3

/-- Names in strict order. -/
def ordN (l : List ByteArray) : Prop := l.Pairwise fun a b => cmpN a b < 0
theorem ordN_ext {l1 l2 : List ByteArray} (h1 : ordN l1) (h2 : ordN l2) (h : ∀ x, x ∈ l1 ↔ x ∈ l2) : l1 = l2 :=
  sorted_ext (R := fun a b => cmpN a b < 0) (fun a ha => by rw [cmpN_refl] at ha; omega) (fun _ _ _ => cmpN_trans) h1 h2 h

/-- A line of the reference in memory: its group; the line. -/
structure MR where
  s : ByteArray
  m : ML
/-- The order of the reference's lines. -/
def ltR (a b : MR) : Prop := cmpN a.s b.s < 0 ∨ (a.s = b.s ∧ a.m.p.number < b.m.p.number)
theorem ltR_irr (a : MR) : ¬ ltR a a := by
  rintro (h | ⟨_, h⟩)
  · rw [cmpN_refl] at h; omega
  · omega
theorem ltR_trans (a b c : MR) (h1 : ltR a b) (h2 : ltR b c) : ltR a c := by
  rcases h1 with h1 | ⟨e1, h1⟩ <;> rcases h2 with h2 | ⟨e2, h2⟩
  · exact .inl (cmpN_trans h1 h2)
  · exact .inl (e2 ▸ h1)
  · exact .inl (e1 ▸ h2)
  · exact .inr ⟨e1.trans e2, by omega⟩
theorem ltR_total {a b : MR} (h1 : ¬ ltR a b) (h2 : ¬ ltR b a) : a.s = b.s ∧ a.m.p.number = b.m.p.number := by
  unfold ltR at h1 h2
  rw [not_or, not_and] at h1 h2
  have e := cmpN_total h1.1 h2.1
  have := h1.2 e
  have := h2.2 e.symm
  exact ⟨e, by omega⟩
/-- What 'before' of the reference answers. -/
def beforeB (a b : MR) : Bool := decide (cmpN a.s b.s < 0) || (decide (cmpN a.s b.s = 0) && decide (a.m.p.number < b.m.p.number))
theorem beforeB_iff (a b : MR) : beforeB a b = true ↔ ltR a b := by
  unfold beforeB ltR
  simp only [Bool.or_eq_true, decide_eq_true_eq, Bool.and_eq_true]
  constructor
  · rintro (h | ⟨h, h2⟩)
    · exact .inl h
    · exact .inr ⟨cmpN_zero h, h2⟩
  · rintro (h | ⟨h, h2⟩)
    · exact .inl h
    · exact .inr ⟨by rw [h, cmpN_refl], h2⟩

/-- The reference's lists are in this order. -/
def ordR (rs : List MR) : Prop := rs.Pairwise ltR
/-- The place that the reference's Add finds. -/
def atR : List MR → MR → Nat → Nat → Nat
  | [], _, _, at' => at'
  | a :: rs, r, i, at' => atR rs r (i + 1) (if beforeB a r then i + 1 else at')
theorem atR_stay : ∀ (rs : List MR) (r : MR) (i k : Nat), (∀ a ∈ rs, ¬ ltR a r) → atR rs r i k = k
  | [], _, _, _, _ => rfl
  | a :: rs, r, i, k, h => by
    unfold atR
    have hf : beforeB a r = false := by
      rw [Bool.eq_false_iff]
      exact fun e => h a (by simp) ((beforeB_iff a r).1 e)
    rw [hf]
    exact atR_stay rs r (i + 1) k fun b hb => h b (by simp [hb])
theorem atR_split : ∀ (rs : List MR) (r : MR) (i k : Nat), ordR rs → k ≤ i → ∃ x y, rs = x ++ y ∧ (∀ a ∈ x, ltR a r) ∧ (∀ a ∈ y, ¬ ltR a r) ∧ atR rs r i k = if x = [] then k else i + x.length
  | [], r, i, k, _, hk => ⟨[], [], rfl, by simp, by simp, by simp [atR]⟩
  | a :: rs, r, i, k, ho, hk => by
    unfold ordR at ho
    rw [List.pairwise_cons] at ho
    by_cases h : ltR a r
    · obtain ⟨x, y, e, hx, hy, ha⟩ := atR_split rs r (i + 1) (i + 1) ho.2 (Nat.le_refl _)
      refine ⟨a :: x, y, by rw [e]; rfl, fun b hb => ?_, hy, ?_⟩
      · rcases List.mem_cons.1 hb with rfl | hb
        · exact h
        · exact hx b hb
      · unfold atR
        rw [(beforeB_iff a r).2 h]
        simp only [if_true]
        rw [ha]
        by_cases hxe : x = []
        · simp [hxe]
        · simp [hxe]; omega
    · refine ⟨[], a :: rs, rfl, by simp, fun b hb => ?_, ?_⟩
      · rcases List.mem_cons.1 hb with rfl | hb
        · exact h
        · exact fun hb2 => h (ltR_trans a b r (ho.1 b hb) hb2)
      · rw [atR_stay (a :: rs) r i k]
        · simp
        · intro b hb
          rcases List.mem_cons.1 hb with rfl | hb
          · exact h
          · exact fun hb2 => h (ltR_trans a b r (ho.1 b hb) hb2)
/-- A line put in. -/
def addR (rs : List MR) (r : MR) : List MR := rs.take (atR rs r 0 0) ++ r :: rs.drop (atR rs r 0 0)
theorem addR_mem {rs : List MR} {r a : MR} : a ∈ addR rs r ↔ a = r ∨ a ∈ rs := by
  unfold addR
  rw [List.perm_middle.mem_iff, List.mem_cons, List.take_append_drop]
theorem addR_ord {rs : List MR} (ho : ordR rs) {r : MR} (hn : ∀ a ∈ rs, ¬ (a.s = r.s ∧ a.m.p.number = r.m.p.number)) : ordR (addR rs r) := by
  obtain ⟨x, y, e, hx, hy, ha⟩ := atR_split rs r 0 0 ho (Nat.le_refl _)
  have ha' : atR rs r 0 0 = x.length := by
    rw [ha]
    split
    · rename_i h; rw [h]; rfl
    · omega
  unfold addR
  rw [ha', e, List.take_left, List.drop_left]
  have ho' : ordR (x ++ y) := e ▸ ho
  unfold ordR at ho' ⊢
  rw [List.pairwise_append] at ho' ⊢
  have hry : ∀ a ∈ y, ltR r a := fun a hay => Classical.byContradiction fun h => hn a (by rw [e]; simp [hay]) (ltR_total (hy a hay) h)
  refine ⟨ho'.1, List.pairwise_cons.2 ⟨hry, ho'.2.1⟩, fun a hax b hb => ?_⟩
  rcases List.mem_cons.1 hb with rfl | hb
  · exact hx a hax
  · exact ho'.2.2 a hax b hb

/-- The lines of a group. -/
def ofR (rs : List MR) (t : ByteArray) : List MR := rs.filter fun r => decide (r.s = t)
theorem ofR_mem {rs : List MR} {t : ByteArray} {r : MR} : r ∈ ofR rs t ↔ r ∈ rs ∧ r.s = t := by
  unfold ofR
  rw [List.mem_filter, decide_eq_true_eq]
/-- The groups, as the reference counts them. -/
def stepG (out : List ByteArray) (s : ByteArray) : List ByteArray := if out.getLast? = some s then out else out ++ [s]
def groupsR (rs : List MR) : List ByteArray := rs.foldl (fun o r => stepG o r.s) []
theorem groupsR_snoc (rs : List MR) (r : MR) : groupsR (rs ++ [r]) = stepG (groupsR rs) r.s := by
  unfold groupsR
  rw [List.foldl_append]; rfl
theorem snoc_ind {α : Type} {p : List α → Prop} (h0 : p []) (h1 : ∀ l a, p l → p (l ++ [a])) (l : List α) : p l := by
  have : ∀ n (l : List α), l.length = n → p l := by
    intro n
    induction n with
    | zero => intro l hl; rw [List.length_eq_zero_iff.1 hl]; exact h0
    | succ n ih =>
      intro l hl
      have hne : l ≠ [] := fun e => by rw [e] at hl; cases hl
      rw [← List.dropLast_concat_getLast hne]
      exact h1 _ _ (ih _ (by rw [List.length_dropLast]; omega))
  exact this _ l rfl
theorem groupsR_ok (rs : List MR) : ordR rs → ordN (groupsR rs) ∧ (∀ t, t ∈ groupsR rs ↔ ∃ r ∈ rs, r.s = t) ∧ (groupsR rs).getLast? = (rs.getLast?).map (·.s) := by
  refine snoc_ind (p := fun rs => ordR rs → ordN (groupsR rs) ∧ (∀ t, t ∈ groupsR rs ↔ ∃ r ∈ rs, r.s = t) ∧ (groupsR rs).getLast? = (rs.getLast?).map (·.s)) ?_ ?_ rs
  · intro _
    exact ⟨.nil, fun t => by simp [groupsR], rfl⟩
  · intro l a ih ho
    unfold ordR at ho
    rw [List.pairwise_append] at ho
    obtain ⟨h1, h2, h3⟩ := ih ho.1
    rw [groupsR_snoc]
    unfold stepG
    split
    · rename_i hl
      refine ⟨h1, fun t => ?_, ?_⟩
      · rw [h2 t]
        constructor
        · rintro ⟨r, hr, e⟩; exact ⟨r, by simp [hr], e⟩
        · rintro ⟨r, hr, e⟩
          rcases List.mem_append.1 hr with hr | hr
          · exact ⟨r, hr, e⟩
          · obtain rfl := List.mem_singleton.1 hr
            have := List.mem_of_getLast? hl
            rw [h2] at this
            obtain ⟨r', hr', e'⟩ := this
            exact ⟨r', hr', e'.trans e⟩
      · rw [hl]; simp
    · rename_i hl
      refine ⟨?_, fun t => ?_, by simp⟩
      · unfold ordN
        rw [List.pairwise_append]
        refine ⟨h1, List.pairwise_singleton _ _, fun x hx b hb => ?_⟩
        obtain rfl := List.mem_singleton.1 hb
        obtain ⟨r, hr, e⟩ := (h2 x).1 hx
        rcases ho.2.2 r hr a (by simp) with h | ⟨h, _⟩
        · exact e ▸ h
        · exfalso
          apply hl
          rw [h3]
          have hne : l ≠ [] := fun e => by rw [e] at hr; cases hr
          have hla := List.getLast?_eq_some_getLast hne
          rw [hla]
          simp only [Option.map_some, Option.some.injEq]
          by_cases hrl : r = l.getLast hne
          · rw [← hrl]; exact h
          · have hlt : ltR r (l.getLast hne) := by
              have hp := ho.1
              rw [← List.dropLast_concat_getLast hne, List.pairwise_append] at hp
              rw [← List.dropLast_concat_getLast hne] at hr
              rcases List.mem_append.1 hr with hr' | hr'
              · exact hp.2.2 r hr' _ (by simp)
              · exact absurd (List.mem_singleton.1 hr') hrl
            have hlt2 := ho.2.2 (l.getLast hne) (List.getLast_mem hne) a (by simp)
            rcases hlt2 with h5 | ⟨h5, _⟩
            · rcases hlt with h6 | ⟨h6, _⟩
              · have := cmpN_trans h6 h5
                rw [h, cmpN_refl] at this
                omega
              · rw [← h6, h, cmpN_refl] at h5
                omega
            · exact h5
      · rw [List.mem_append, List.mem_singleton, h2 t]
        constructor
        · rintro (⟨r, hr, e⟩ | e)
          · exact ⟨r, by simp [hr], e⟩
          · exact ⟨a, by simp, e.symm⟩
        · rintro ⟨r, hr, e⟩
          rcases List.mem_append.1 hr with hr | hr
          · exact .inl ⟨r, hr, e⟩
          · obtain rfl := List.mem_singleton.1 hr
            exact .inr e.symm
/-- The list is its groups' lines in a row. -/
theorem flat_groups {rs : List MR} (ho : ordR rs) : rs = (groupsR rs).flatMap (ofR rs) := by
  obtain ⟨h1, h2, _⟩ := groupsR_ok rs ho
  refine sorted_ext ltR_irr ltR_trans ho ?_ fun r => ?_
  · rw [List.pairwise_flatMap]
    refine ⟨fun t _ => ho.sublist List.filter_sublist, h1.imp fun {a b} hab x hx y hy => ?_⟩
    exact .inl (by rw [(ofR_mem.1 hx).2, (ofR_mem.1 hy).2]; exact hab)
  · rw [List.mem_flatMap]
    constructor
    · intro hr; exact ⟨r.s, (h2 r.s).2 ⟨r, hr, rfl⟩, ofR_mem.2 ⟨hr, rfl⟩⟩
    · rintro ⟨t, _, hr⟩; exact (ofR_mem.1 hr).1

end Go.Proofs.YtdjaphcelpchaaaGreatDoor

namespace Go.Proofs.YtdjaphcelpchaaaGreatDoor
open Go Go.RowKit Go.Proofs

theorem str_eq_iff (a b : ByteArray) : (a.toList == b.toList) = decide (a = b) := by
  rw [ByteArray.toList_eq, ByteArray.toList_eq, Bool.eq_iff_iff, decide_eq_true_eq, beq_iff_eq]
  constructor
  · intro h; cases a; cases b; simp only [Array.toList_inj] at h; rw [h]
  · intro h; rw [h]

set_option maxHeartbeats 1000000 in
theorem isNaN_str (a : ByteArray) (w : World) : Calls Tryz.prog 167 #[.string a] w fun r w' => r = .returned (.bool false) ∧ w = w' := by
  have h : (a.toList == a.toList) = true := by simp
  go_enter Tryz.func167, Tryz.ntmps167
  go_wp2
  go_ret
  exact ⟨rfl, rfl⟩

/-- How two strings compare. -/
def cmpS (a b : ByteArray) : Int := if Op.bytesLess a.toList b.toList then -1 else if Op.bytesLess b.toList a.toList then 1 else 0
theorem gtr_str (a b : ByteArray) : (!(Op.bytesLess a.toList b.toList || a.toList == b.toList)) = (Op.bytesLess b.toList a.toList) := by
  cases h1 : Op.bytesLess a.toList b.toList with
  | true => rw [less_asymm h1]; rfl
  | false =>
    cases h2 : Op.bytesLess b.toList a.toList with
    | true =>
      have : (a.toList == b.toList) = false := by
        rw [beq_eq_false_iff_ne]
        intro e
        rw [e, less_irr] at h2
        cases h2
      rw [this]; rfl
    | false =>
      rw [less_total _ _ h1 h2]
      simp
set_option maxHeartbeats 1000000 in
theorem cmpStr_any (a b : ByteArray) (w : World) : Calls Tryz.prog 143 #[.string a, .string b] w fun r w' => r = .returned (.int .i64 (cmpS a b)) ∧ w = w' := by
  have hg := gtr_str a b
  unfold cmpS
  generalize h1 : Op.bytesLess a.toList b.toList = x at hg
  generalize h2 : Op.bytesLess b.toList a.toList = y at hg
  generalize h3 : (a.toList == b.toList) = z at hg
  cases x with
  | true =>
    go_enter Tryz.func143, Tryz.ntmps143
    go_wp2_with fail
    refine (isNaN_str a w).mono ?_
    rintro r w' ⟨rfl, rfl⟩
    go_wp2_with fail
    refine (isNaN_str b w).mono ?_
    rintro r w' ⟨rfl, rfl⟩
    go_wp2
    go_ret
    exact ⟨rfl, rfl⟩
  | false =>
    cases y with
    | true =>
      obtain rfl : z = false := by cases z with | false => rfl | true => simp at hg
      clear hg
      go_enter Tryz.func143, Tryz.ntmps143
      go_wp2_with fail
      refine (isNaN_str a w).mono ?_
      rintro r w' ⟨rfl, rfl⟩
      go_wp2_with fail
      refine (isNaN_str b w).mono ?_
      rintro r w' ⟨rfl, rfl⟩
      go_wp2
      go_ret
      exact ⟨rfl, rfl⟩
    | false =>
      obtain rfl : z = true := by cases z with | true => rfl | false => simp at hg
      clear hg
      go_enter Tryz.func143, Tryz.ntmps143
      go_wp2_with fail
      refine (isNaN_str a w).mono ?_
      rintro r w' ⟨rfl, rfl⟩
      go_wp2_with fail
      refine (isNaN_str b w).mono ?_
      rintro r w' ⟨rfl, rfl⟩
      go_wp2
      go_ret
      exact ⟨rfl, rfl⟩

theorem drop_all {α : Type} (l : List α) (k : Nat) (h : l.length ≤ k) : l.drop k = [] := List.drop_eq_nil_of_le h
/-- Lists of strings compare. -/
def cmpB (xs ys : List ByteArray) : Int := cmpL (xs.map (·.data.toList)) (ys.map (·.data.toList))
theorem cmpB_step {xs ys : List ByteArray} {k : Nat} (hx : k < xs.length) (hy : k < ys.length) : cmpB (xs.drop k) (ys.drop k) = if cmpS xs[k] ys[k] ≠ 0 then cmpS xs[k] ys[k] else cmpB (xs.drop (k + 1)) (ys.drop (k + 1)) := by
  rw [List.drop_eq_getElem_cons hx, List.drop_eq_getElem_cons hy]
  unfold cmpB cmpS
  simp only [List.map_cons, ByteArray.toList_eq]
  conv => lhs; unfold cmpL
  cases Op.bytesLess xs[k].data.toList ys[k].data.toList with
  | true => simp
  | false => cases Op.bytesLess ys[k].data.toList xs[k].data.toList <;> simp
theorem cmpN_eq (a b : ByteArray) : cmpN a b = cmpB (splitS 46 a) (splitS 46 b) := by
  unfold cmpN cmpB splitS
  simp only [List.map_map]
  have : ((fun x : ByteArray => x.data.toList) ∘ str) = id := by funext l; simp [str_data]
  rw [this, List.map_id, List.map_id]

set_option maxRecDepth 100000 in
set_option maxHeartbeats 2000000 in
theorem cmpList_any (b1 b2 c1 c2 : Nat) (xs ys : List ByteArray) (w : World) (hx : StrRow w b1 0 xs) (hy : StrRow w b2 0 ys) (h1 : xs.length ≤ 1000000) (h2 : ys.length ≤ 1000000) :
    Calls Tryz.prog 120 #[.slice (some ⟨b1, 0, none⟩) xs.length c1, .slice (some ⟨b2, 0, none⟩) ys.length c2] w fun r w' => r = .returned (.int .i64 (cmpB xs ys)) ∧ w = w' := by
  have HX := Lib.hid hx
  have HY := Lib.hid hy
  clear hx hy
  go_enter Tryz.func120, Tryz.ntmps120
  go_wp2
  go_loop [11] (fun i => ∃ k : Nat, k ≤ xs.length ∧ k ≤ ys.length ∧ i = .int .i64 k ∧ Hid (cmpB xs ys = cmpB (xs.drop k) (ys.drop k))) (fun i => xs.length - (intOf i).toNat)
  case atStart => exact ⟨0, by omega, by omega, rfl, Lib.hid rfl⟩
  case round =>
    obtain ⟨k, hk, hk2, rfl, HB⟩ := hrel
    by_cases hlt : k < xs.length
    · have hltz : (k : Int) < (xs.length : Int) := by omega
      have hc1 := HX.out k _ (List.getElem?_eq_getElem hlt)
      rw [Nat.zero_add] at hc1
      by_cases hlt2 : k < ys.length
      · have hltz2 : ¬ ((ys.length : Int) ≤ (k : Int)) := by omega
        have hltz3 : ((k : Int) < (ys.length : Int)) := by omega
        have hc2 := HY.out k _ (List.getElem?_eq_getElem hlt2)
        rw [Nat.zero_add] at hc2
        have HST := Lib.hid (HB.out.trans (cmpB_step hlt hlt2))
        have HC := Lib.hid (cmpStr_any xs[k] ys[k] w)
        clear HB
        generalize cmpS xs[k] ys[k] = c at HST HC
        generalize xs[k] = x at hc1 HC
        generalize ys[k] = y at hc2 HC
        go_wp2_with fail
        refine HC.out.mono ?_
        rintro r w' ⟨rfl, rfl⟩
        by_cases hc0 : c = 0
        · subst hc0
          go_wp2
          go_round
          case rel => exact ⟨k + 1, by omega, by omega, by go_num, Lib.hid (by rw [HST.out]; simp)⟩
          case measure => simp [intOf]; omega
        · have hc0b : (c != 0) = true := by simpa using hc0
          have hc0c : (c == 0) = false := by simpa using hc0
          go_wp2
          go_ret
          exact ⟨ret_int (by rw [HST.out, if_pos hc0]), rfl⟩
      · have hltz2 : ((ys.length : Int) ≤ (k : Int)) := by omega
        have HE : Hid (cmpB xs ys = 1) := Lib.hid (by
          rw [HB.out, List.drop_eq_getElem_cons hlt, drop_all ys k (by omega)]; rfl)
        clear HB
        go_wp2
        go_ret
        exact ⟨ret_int HE.out.symm, rfl⟩
    · by_cases hlt2 : k < ys.length
      · have hl : (xs.length : Int) < (ys.length : Int) := by omega
        have HE : Hid (cmpB xs ys = -1) := Lib.hid (by
          rw [HB.out, List.drop_eq_getElem_cons hlt2, drop_all xs k (by omega)]; rfl)
        clear HB
        go_wp2
        go_ret
        exact ⟨ret_int HE.out.symm, rfl⟩
      · have hl : ¬ (xs.length : Int) < (ys.length : Int) := by omega
        have HE : Hid (cmpB xs ys = 0) := Lib.hid (by
          rw [HB.out, drop_all xs k (by omega), drop_all ys k (by omega)]; rfl)
        clear HB
        go_wp2
        go_ret
        exact ⟨ret_int HE.out.symm, rfl⟩

set_option maxHeartbeats 1000000 in
theorem compare_any (a b : ByteArray) (w : World) (hG : Gl w) (ha : a.size ≤ 100000) (hb : b.size ≤ 100000) :
    Calls Tryz.prog 86 #[.string a, .string b] w fun r w' => r = .returned (.int .i64 (cmpN a b)) ∧ Below w.heap.size w w' ∧ (w.alloc (.cells ((splitS 46 a).map Value.string).toArray 9)).alloc (.cells ((splitS 46 b).map Value.string).toArray 9) = w' := by
  have hl1 := (splitS_len 46 a).2
  have hl2 := (splitS_len 46 b).2
  have hB : Below w.heap.size w ((w.alloc (.cells ((splitS 46 a).map Value.string).toArray 9)).alloc (.cells ((splitS 46 b).map Value.string).toArray 9)) := ((Below.refl _ _).alloc (Nat.le_refl _) _).alloc (by simp) _
  have HB := Lib.hid hB
  clear hB
  have hr1 : StrRow ((w.alloc (.cells ((splitS 46 a).map Value.string).toArray 9)).alloc (.cells ((splitS 46 b).map Value.string).toArray 9)) w.heap.size 0 (splitS 46 a) := fun k x hx => Lib.cell?_alloc_some _ (split_row w 9 (splitS 46 a) k x hx)
  have hr2 : StrRow ((w.alloc (.cells ((splitS 46 a).map Value.string).toArray 9)).alloc (.cells ((splitS 46 b).map Value.string).toArray 9)) (w.heap.size + 1) 0 (splitS 46 b) := by
    have := split_row (w.alloc (.cells ((splitS 46 a).map Value.string).toArray 9)) 9 (splitS 46 b)
    simpa using this
  have HC := Lib.hid (cmpList_any w.heap.size (w.heap.size + 1) (splitS 46 a).length (splitS 46 b).length (splitS 46 a) (splitS 46 b) _ hr1 hr2 (by omega) (by omega))
  clear hr1 hr2
  rw [← cmpN_eq] at HC
  go_enter Tryz.func86, Tryz.ntmps86
  go_wp2_with fail
  refine (dots_any a w hG (by omega)).mono ?_
  rintro r w' ⟨rfl, rfl⟩
  go_wp2_with fail
  refine (dots_any b _ (hG.later ((Below.refl _ _).alloc (Nat.le_refl _) _)) (by omega)).mono ?_
  rintro r w' ⟨rfl, rfl⟩
  go_wp2_with fail
  refine HC.out.mono ?_
  rintro r w' ⟨rfl, rfl⟩
  go_wp2
  go_ret
  exact ⟨rfl, HB.out, rfl⟩

end Go.Proofs.YtdjaphcelpchaaaGreatDoor

namespace Go.Proofs.YtdjaphcelpchaaaGreatDoor
open Go Go.RowKit Go.Proofs

/-- A row of strings of its own, as a slice that is not nil. -/
theorem row_strs {B : Nat} {w : World} {v : Value} {xs : List ByteArray} (h : w.ownsRow B 9 1 v xs.length (xs.map Value.string)) (hne : xs ≠ []) : ∃ b c, v = .slice (some ⟨b, 0, none⟩) xs.length c ∧ StrRow w b 0 xs ∧ B ≤ b ∧ b < w.heap.size := by
  rcases h.2 with ⟨_, h0⟩ | ⟨g, cap, cur, e, hg, hcur, hr⟩
  · exact absurd (List.length_eq_zero_iff.1 h0) hne
  · refine ⟨g, cap, e, fun k x hx => ?_, hg, (Array.getElem?_eq_some_iff.1 hcur).1⟩
    have := World.ownsRow.cells h (g := g) (by rw [e]; rfl) k (.string x) (by rw [List.getElem?_map, hx]; rfl)
    rwa [Addr.add_lit] at this
theorem StrRow.below' {w w' : World} {b off : Nat} {xs : List ByteArray} (h : StrRow w b off xs) {B : Nat} (hb : Below B w w') (hB : b < B) : StrRow w' b off xs := fun k x hx => (hb.cell (p := ⟨b, _, none⟩) hB).trans (h k x hx)

set_option maxRecDepth 100000 in
set_option maxHeartbeats 4000000 in
theorem rcompare_any (a b : ByteArray) (w : World) (ha : a.size ≤ 100000) (hb : b.size ≤ 100000) :
    Calls Tryz.prog 112 #[.string a, .string b] w fun r w' => r = .returned (.int .i64 (cmpN a b)) ∧ Below w.heap.size w w' := by
  have hl1 := splitS_len 46 a
  have hl2 := splitS_len 46 b
  rw [cmpN_eq]
  have HP1 := Lib.hid (fun w => parts_any a 46 w (by omega))
  have HP2 := Lib.hid (fun w => parts_any b 46 w (by omega))
  generalize splitS 46 a = xs at hl1 HP1 ⊢
  generalize splitS 46 b = ys at hl2 HP2 ⊢
  go_enter Tryz.func112, Tryz.ntmps112
  go_wp2_with fail
  refine (HP1.out w).mono ?_
  rintro r w1 ⟨v1, rfl, hr1, hb1⟩
  go_wp2_with fail
  refine (HP2.out w1).mono ?_
  rintro r w2 ⟨v2, rfl, hr2, hb2⟩
  obtain ⟨g1, c1, rfl, hx1, hg1, hg1l⟩ := row_strs hr1 (by intro e; rw [e] at hl1; simp at hl1)
  obtain ⟨g2, c2, rfl, hx2, hg2, hg2l⟩ := row_strs hr2 (by intro e; rw [e] at hl2; simp at hl2)
  have HX := Lib.hid (hx1.below' hb2 hg1l)
  have HY := Lib.hid hx2
  have HB := Lib.hid (hb1.trans (hb2.mono hb1.size))
  clear hr1 hr2 hx1 hx2 hb1 hb2
  have h1 : xs.length ≤ 1000000 := by omega
  have h2 : ys.length ≤ 1000000 := by omega
  clear hl1 hl2 ha hb
  go_wp2
  go_loopw [7] (fun i wr => ∃ k q : Nat, k ≤ xs.length ∧ k ≤ ys.length ∧ i = .int .i64 k ∧ Hid (cmpB xs ys = cmpB (xs.drop k) (ys.drop k)) ∧ wr = w2.drewN q) (fun i _ => xs.length - (intOf i).toNat)
  case atStart => exact ⟨0, 0, by omega, by omega, rfl, Lib.hid rfl, rfl⟩
  case round =>
    obtain ⟨k, q, hk, hk2, rfl, HC, rfl⟩ := hrel
    by_cases hlt : k < xs.length
    · have hltz : (k : Int) < (xs.length : Int) := by omega
      have hc1 := HX.out k _ (List.getElem?_eq_getElem hlt)
      rw [Nat.zero_add] at hc1
      by_cases hlt2 : k < ys.length
      · have hltz2 : (k : Int) < (ys.length : Int) := by omega
        have hc2 := HY.out k _ (List.getElem?_eq_getElem hlt2)
        rw [Nat.zero_add] at hc2
        have HST := Lib.hid (HC.out.trans (cmpB_step hlt hlt2))
        have hgt := gtr_str xs[k] ys[k]
        clear HC
        unfold cmpS at HST
        generalize xs[k] = x at hc1 HST hgt
        generalize ys[k] = y at hc2 HST hgt
        generalize hl : Op.bytesLess x.toList y.toList = bl at HST hgt
        generalize hl' : Op.bytesLess y.toList x.toList = bl' at HST hgt
        generalize hz : (x.toList == y.toList) = z at hgt
        cases bl with
        | true =>
          go_wp2
          go_quiet (fail)
          go_wp2
          go_ret
          exact ⟨ret_int (by rw [HST.out]; rfl), below_drewN' (below_drewN' HB.out _) _⟩
        | false =>
          cases bl' with
          | true =>
            obtain rfl : z = false := by cases z with | false => rfl | true => simp at hgt
            clear hgt
            go_wp2
            go_quiet (fail)
            go_wp2
            go_quiet (fail)
            go_wp2
            go_ret
            exact ⟨ret_int (by rw [HST.out]; rfl), below_drewN' (below_drewN' (below_drewN' HB.out _) _) _⟩
          | false =>
            obtain rfl : z = true := by cases z with | true => rfl | false => simp at hgt
            clear hgt
            go_wp2
            go_quiet (fail)
            go_wp2
            go_quiet (fail)
            go_wp2
            go_roundw
            case rel => exact ⟨k + 1, _, by omega, by omega, by go_num, Lib.hid (by rw [HST.out]; rfl), by first | rfl | rw [World.drewN_drewN, World.drewN_drewN] | rw [World.drewN_drewN]⟩
            case measure => simp [intOf]; omega
      · have hltz2 : ¬ ((k : Int) < (ys.length : Int)) := by omega
        have hgl : ¬ ((xs.length : Int) < (ys.length : Int)) := by omega
        have hgl2 : ((ys.length : Int) < (xs.length : Int)) := by omega
        have HE : Hid (cmpB xs ys = 1) := Lib.hid (by
          rw [HC.out, List.drop_eq_getElem_cons hlt, drop_all ys k (by omega)]; rfl)
        clear HC
        go_wp2
        go_ret
        exact ⟨ret_int HE.out.symm, below_drewN' HB.out _⟩
    · by_cases hlt2 : k < ys.length
      · have hl : (xs.length : Int) < (ys.length : Int) := by omega
        have HE : Hid (cmpB xs ys = -1) := Lib.hid (by
          rw [HC.out, List.drop_eq_getElem_cons hlt2, drop_all xs k (by omega)]; rfl)
        clear HC
        go_wp2
        go_ret
        exact ⟨ret_int HE.out.symm, below_drewN' HB.out _⟩
      · have hl : ¬ (xs.length : Int) < (ys.length : Int) := by omega
        have hl2 : ¬ (ys.length : Int) < (xs.length : Int) := by omega
        have HE : Hid (cmpB xs ys = 0) := Lib.hid (by
          rw [HC.out, drop_all xs k (by omega), drop_all ys k (by omega)]; rfl)
        clear HC
        go_wp2
        go_ret
        exact ⟨ret_int HE.out.symm, below_drewN' HB.out _⟩

/-- The byte test of Component. -/
def goodB (c : UInt8) : Bool := (decide (97 ≤ c.toNat) && decide (c.toNat ≤ 122)) || (decide (48 ≤ c.toNat) && decide (c.toNat ≤ 57)) || c.toNat == 45 || c.toNat == 43 || c.toNat == 95
theorem goodB_badN : ∀ n : Nat, n < 256 → goodB (UInt8.ofNat n) = !badB (UInt8.ofNat n) := by decide +kernel
theorem goodB_bad (c : UInt8) : goodB c = !badB c := by
  have := goodB_badN c.toNat c.toNat_lt
  simpa using this
theorem low_good {c : UInt8} (h : lowB c = true) : goodB c = true := by
  unfold lowB at h
  unfold goodB
  rw [h]
  rfl

set_option maxRecDepth 100000 in
set_option maxHeartbeats 8000000 in
theorem component_any (s : ByteArray) (w : World) (hs : s.size ≤ 100000) :
    Calls Tryz.prog 111 #[.string s] w fun r w' => r = .returned (.bool (compB s.data.toList)) ∧ w = w' := by
  by_cases h0 : 0 < s.size
  case neg =>
    have e : compB s.data.toList = false := by
      have : s.data.toList = [] := List.length_eq_zero_iff.1 (by rw [size_list]; omega)
      rw [this]; rfl
    have hz : (s.size : Int) < 1 := by omega
    rw [e]
    go_enter Tryz.func111, Tryz.ntmps111
    go_wp2
    go_ret
    exact ⟨rfl, rfl⟩
  have hz : ¬ (s.size : Int) < 1 := by omega
  have hz0 : (0 : Int) < (s.size : Int) := by omega
  by_cases h20 : s.size ≤ 20
  case neg =>
    have e : compB s.data.toList = false := by rw [compB_eq h0, decide_eq_false h20]; rfl
    have hy : (20 : Int) < (s.size : Int) := by omega
    rw [e]
    go_enter Tryz.func111, Tryz.ntmps111
    go_wp2
    go_ret
    exact ⟨rfl, rfl⟩
  have hy : ¬ (20 : Int) < (s.size : Int) := by omega
  have hx0 : s[0]? = some s[0] := by simp [h0]
  by_cases hlow : lowB s[0] = true
  case neg =>
    have e : compB s.data.toList = false := by rw [compB_eq h0, Bool.eq_false_iff.2 hlow]; simp
    rw [e]
    unfold lowB at hlow
    simp only [Bool.and_eq_true, decide_eq_true_eq] at hlow
    by_cases h97 : s[0].toNat < 97
    · have h97z : ((s[0].toNat : Int) < 97) := by omega
      go_enter Tryz.func111, Tryz.ntmps111
      go_wp2
      go_ret
      exact ⟨rfl, rfl⟩
    · have h97z : ¬ ((s[0].toNat : Int) < 97) := by omega
      have h122z : ((122 : Int) < (s[0].toNat : Int)) := by omega
      go_enter Tryz.func111, Tryz.ntmps111
      go_wp2
      go_ret
      exact ⟨rfl, rfl⟩
  have HE : Hid (compB s.data.toList = !s.data.toList.any badB) := Lib.hid (by rw [compB_eq h0, decide_eq_true h20, hlow]; rfl)
  have HT : Hid ((s.data.toList.take 1).any badB = false) := Lib.hid (by
    have : s.data.toList.take 1 = [s[0]] := by
      have := take_snoc s 0 h0
      simpa using this
    rw [this]
    have h1 := low_good hlow
    rw [goodB_bad] at h1
    simpa using h1)
  have h97z : ¬ ((s[0].toNat : Int) < 97) := by
    unfold lowB at hlow
    simp only [Bool.and_eq_true, decide_eq_true_eq] at hlow
    omega
  have h122z : ¬ ((122 : Int) < (s[0].toNat : Int)) := by
    unfold lowB at hlow
    simp only [Bool.and_eq_true, decide_eq_true_eq] at hlow
    omega
  clear hlow
  go_enter Tryz.func111, Tryz.ntmps111
  go_wp2
  go_loop [3] (fun i => ∃ k : Nat, 1 ≤ k ∧ k ≤ s.size ∧ i = .int .i64 k ∧ Hid ((s.data.toList.take k).any badB = false)) (fun i => s.size - (intOf i).toNat)
  case atStart => exact ⟨1, by omega, by omega, rfl, HT⟩
  case round =>
    obtain ⟨k, hk1, hk, rfl, HA⟩ := hrel
    by_cases hlt : k < s.size
    · have hltz : (k : Int) < (s.size : Int) := by omega
      have hgb := goodB_bad s[k]
      have HN : Hid (badB s[k] = false → (s.data.toList.take (k + 1)).any badB = false) := Lib.hid (fun h => by
        rw [take_snoc s k hlt, List.any_append, HA.out]; simp [h])
      have HM : Hid (badB s[k] = true → s.data.toList.any badB = true) := Lib.hid (fun h => List.any_eq_true.2 ⟨s[k], mem_byte s k hlt, h⟩)
      clear h97z h122z
      by_cases hg : goodB s[k] = true
      · have HBf : Hid (badB s[k] = false) := Lib.hid (by rw [hg] at hgb; simpa using hgb.symm)
        clear hgb
        unfold goodB at hg
        simp only [Bool.or_eq_true, Bool.and_eq_true, decide_eq_true_eq, beq_iff_eq] at hg
        rcases hg with (((hg | hg) | hg) | hg) | hg
        · have g1 : (97 : Int) ≤ (s[k].toNat : Int) := by omega
          have g2 : (s[k].toNat : Int) ≤ 122 := by omega
          go_wp2
          go_round
          case rel => exact ⟨k + 1, by omega, by omega, by go_num, Lib.hid (HN.out HBf.out)⟩
          case measure => simp [intOf]; omega
        · have g1 : ¬ (97 : Int) ≤ (s[k].toNat : Int) := by omega
          have g3 : (48 : Int) ≤ (s[k].toNat : Int) := by omega
          have g4 : (s[k].toNat : Int) ≤ 57 := by omega
          go_wp2
          go_round
          case rel => exact ⟨k + 1, by omega, by omega, by go_num, Lib.hid (HN.out HBf.out)⟩
          case measure => simp [intOf]; omega
        · have g1 : ¬ (97 : Int) ≤ (s[k].toNat : Int) := by omega
          have g3 : ¬ (48 : Int) ≤ (s[k].toNat : Int) := by omega
          have g5 : ((s[k].toNat : Int) == 45) = true := by rw [beq_iff_eq]; omega
          clear hg
          go_wp2
          go_round
          case rel => exact ⟨k + 1, by omega, by omega, by go_num, Lib.hid (HN.out HBf.out)⟩
          case measure => simp [intOf]; omega
        · have g1 : ¬ (97 : Int) ≤ (s[k].toNat : Int) := by omega
          have g3 : ¬ (48 : Int) ≤ (s[k].toNat : Int) := by omega
          have g5 : ((s[k].toNat : Int) == 45) = false := by rw [beq_eq_false_iff_ne]; omega
          have g6 : ((s[k].toNat : Int) == 43) = true := by rw [beq_iff_eq]; omega
          clear hg
          go_wp2
          go_round
          case rel => exact ⟨k + 1, by omega, by omega, by go_num, Lib.hid (HN.out HBf.out)⟩
          case measure => simp [intOf]; omega
        · have g1 : ¬ (97 : Int) ≤ (s[k].toNat : Int) := by omega
          have g3 : (48 : Int) ≤ (s[k].toNat : Int) := by omega
          have g4 : ¬ (s[k].toNat : Int) ≤ 57 := by omega
          have g5 : ((s[k].toNat : Int) == 45) = false := by rw [beq_eq_false_iff_ne]; omega
          have g6 : ((s[k].toNat : Int) == 43) = false := by rw [beq_eq_false_iff_ne]; omega
          have g7 : ((s[k].toNat : Int) == 95) = true := by rw [beq_iff_eq]; omega
          clear hg
          go_wp2
          go_round
          case rel => exact ⟨k + 1, by omega, by omega, by go_num, Lib.hid (HN.out HBf.out)⟩
          case measure => simp [intOf]; omega
      · have HBt : Hid (badB s[k] = true) := Lib.hid (by rw [Bool.eq_false_iff.2 hg] at hgb; simpa using hgb.symm)
        have HF : Hid (compB s.data.toList = false) := Lib.hid (by rw [HE.out, HM.out HBt.out]; rfl)
        clear hgb
        unfold goodB at hg
        simp only [Bool.or_eq_true, Bool.and_eq_true, decide_eq_true_eq, beq_iff_eq, not_or, not_and] at hg
        obtain ⟨⟨⟨⟨n1, n2⟩, n3⟩, n4⟩, n5⟩ := hg
        have g5 : ((s[k].toNat : Int) == 45) = false := by rw [beq_eq_false_iff_ne]; omega
        have g6 : ((s[k].toNat : Int) == 43) = false := by rw [beq_eq_false_iff_ne]; omega
        have g7 : ((s[k].toNat : Int) == 95) = false := by rw [beq_eq_false_iff_ne]; omega
        by_cases a1 : (97 : Int) ≤ (s[k].toNat : Int)
        · have a2 : ¬ (s[k].toNat : Int) ≤ 122 := by omega
          have a3 : (48 : Int) ≤ (s[k].toNat : Int) := by omega
          have a4 : ¬ (s[k].toNat : Int) ≤ 57 := by omega
          clear n1 n2 n3 n4 n5
          go_wp2
          go_ret
          exact ⟨by rw [HF.out]; rfl, rfl⟩
        · by_cases a3 : (48 : Int) ≤ (s[k].toNat : Int)
          · have a4 : ¬ (s[k].toNat : Int) ≤ 57 := by omega
            clear n1 n2 n3 n4 n5
            go_wp2
            go_ret
            exact ⟨by rw [HF.out]; rfl, rfl⟩
          · clear n1 n2 n3 n4 n5
            go_wp2
            go_ret
            exact ⟨by rw [HF.out]; rfl, rfl⟩
    · have HF : Hid (compB s.data.toList = true) := Lib.hid (by
        have := HA.out
        rw [List.take_of_length_le (by rw [size_list]; omega)] at this
        rw [HE.out, this]; rfl)
      go_wp2
      go_ret
      exact ⟨by rw [HF.out]; rfl, rfl⟩

set_option maxRecDepth 100000 in
set_option maxHeartbeats 4000000 in
theorem rcheck_any (s : ByteArray) (w : World) (hs : s.size ≤ 100000) :
    Calls Tryz.prog 74 #[.string s] w fun r w' => r = .returned (.int .i64 (nameErr s)) ∧ Below w.heap.size w w' := by
  by_cases h80 : 80 < s.size
  · have e : nameErr s = 5 := if_pos h80
    have hz : (80 : Int) < (s.size : Int) := by omega
    rw [e]
    go_enter Tryz.func74, Tryz.ntmps74
    go_wp2
    go_ret
    exact ⟨rfl, Below.refl _ _⟩
  · have e : nameErr s = if (splitS 46 s).any (fun x => !compB x.data.toList) then 12 else if 10 < (splitS 46 s).length then 9 else 0 := if_neg h80
    have hz : ¬ (80 : Int) < (s.size : Int) := by omega
    have hl := splitS_len 46 s
    have hle := splitS_le 46 s
    have HP := Lib.hid (fun w => parts_any s 46 w (by omega))
    have HQ := Lib.hid e
    clear e
    generalize nameErr s = ee at HQ ⊢
    generalize splitS 46 s = xs at hl hle HP HQ
    go_enter Tryz.func74, Tryz.ntmps74
    go_wp2_with fail
    refine (HP.out w).mono ?_
    rintro r w1 ⟨v1, rfl, hr1, hb1⟩
    obtain ⟨g1, c1, rfl, hx1, hg1, hg1l⟩ := row_strs hr1 (by intro e; rw [e] at hl; simp at hl)
    have HX := Lib.hid hx1
    have HB := Lib.hid hb1
    have HL := Lib.hid hle
    clear hr1 hx1 hb1 hle
    have hn : xs.length ≤ 81 := by omega
    clear hl
    go_wp2
    go_loop [4] (fun i => ∃ k : Nat, k ≤ xs.length ∧ i = .int .i64 k ∧ Hid ((xs.take k).any (fun x => !compB x.data.toList) = false)) (fun i => xs.length - (intOf i).toNat)
    case atStart => exact ⟨0, by omega, rfl, Lib.hid rfl⟩
    case round =>
      obtain ⟨k, hk, rfl, HA⟩ := hrel
      by_cases hlt : k < xs.length
      · have hltz : (k : Int) < (xs.length : Int) := by omega
        have hc1 := HX.out k _ (List.getElem?_eq_getElem hlt)
        rw [Nat.zero_add] at hc1
        have hsz := HL.out xs[k] (List.getElem_mem hlt)
        have HC := Lib.hid (component_any xs[k] w1 (by omega))
        have HN : Hid (compB xs[k].data.toList = true → (xs.take (k + 1)).any (fun x => !compB x.data.toList) = false) := Lib.hid (fun h => by
          rw [List.take_succ_eq_append_getElem hlt, List.any_append, HA.out]; simp [h])
        have HM : Hid (compB xs[k].data.toList = false → xs.any (fun x => !compB x.data.toList) = true) := Lib.hid (fun h => List.any_eq_true.2 ⟨xs[k], List.getElem_mem hlt, by simp [h]⟩)
        clear hsz
        generalize compB xs[k].data.toList = bb at HC HN HM
        generalize xs[k] = x at hc1 HC
        cases bb with
        | true =>
          go_wp2_with fail
          refine HC.out.mono ?_
          rintro r w' ⟨rfl, rfl⟩
          go_wp2
          go_round
          case rel => exact ⟨k + 1, by omega, by go_num, Lib.hid (by first | exact HN.out trivial | exact HN.out rfl)⟩
          case measure => simp [intOf]; omega
        | false =>
          go_wp2_with fail
          refine HC.out.mono ?_
          rintro r w' ⟨rfl, rfl⟩
          go_wp2
          go_ret
          have hm : xs.any (fun x => !compB x.data.toList) = true := by first | exact HM.out trivial | exact HM.out rfl
          exact ⟨ret_int (by rw [HQ.out, if_pos hm]), HB.out⟩
      · have HF : Hid (xs.any (fun x => !compB x.data.toList) = false) := Lib.hid (by
          have := HA.out
          rwa [List.take_of_length_le (by omega)] at this)
        clear HA
        by_cases h10 : 10 < xs.length
        · have h10z : (10 : Int) < (xs.length : Int) := by omega
          go_wp2
          go_ret
          exact ⟨ret_int (by rw [HQ.out, if_neg (by rw [HF.out]; simp), if_pos h10]), HB.out⟩
        · have h10z : ¬ (10 : Int) < (xs.length : Int) := by omega
          go_wp2
          go_ret
          exact ⟨ret_int (by rw [HQ.out, if_neg (by rw [HF.out]; simp), if_neg h10]), HB.out⟩

end Go.Proofs.YtdjaphcelpchaaaGreatDoor

namespace Go.Proofs.YtdjaphcelpchaaaGreatDoor
open Go Go.RowKit

section
variable {P : Program} {ops : Array Oper} {C : World → Prop} {Q : Exit → Act → World → Prop}

/-- Which operations have come up. -/
def doneL (n : Nat) (S : List Nat) : Array Bool := ((List.range n).map fun i => S.contains i).toArray
theorem doneL_size (n : Nat) (S : List Nat) : (doneL n S).size = n := by simp [doneL]
theorem doneL_get (n : Nat) (S : List Nat) (i : Nat) (h' : i < (doneL n S).size) : (doneL n S)[i] = S.contains i := by simp [doneL]
theorem doneL_getD (n : Nat) (S : List Nat) (i : Nat) (h : i < n) (b : Bool) : (doneL n S).getD i b = S.contains i := by
  have h' : i < (doneL n S).size := by rw [doneL_size]; exact h
  simp [h', doneL_get n S i h']
theorem doneL_true {n : Nat} {S : List Nat} {i : Nat} (h : (doneL n S).getD i false = true) : i < n ∧ i ∈ S := by
  rcases Nat.lt_or_ge i n with hi | hi
  · rw [doneL_getD n S i hi] at h
    exact ⟨hi, by simpa using h⟩
  · simp [Array.getElem?_eq_none (by rw [doneL_size]; exact hi : (doneL n S).size ≤ i)] at h

/-- The post of a stage: what stands behind it, and the region's own for every other way out. -/
def QS (fin : Act → World → Prop) (Q : Exit → Act → World → Prop) : Exit → Act → World → Prop
  | .normal, a, w => fin a w
  | e, a, w => Q e a w

theorem wpOp_QS {fin : Act → World → Prop} {i : Nat} {K : Act → World → Prop} {a : Act} {w : World} (h : wpOp P ops (NoPanic (QS fin Q)) i K a w) : wpOp P ops (NoPanic Q) i K a w := by
  have hl : LetsOut (NoPanic (QS fin Q)) → LetsOut (NoPanic Q) := fun ⟨a, w, h⟩ => ⟨a, w, h⟩
  unfold wpOp at *
  cases ho : ops[i]? with
  | none => simp only [ho] at h ⊢; exact h
  | some o =>
    simp only [ho] at h ⊢
    split
    · rename_i hw
      rw [if_pos hw] at h
      rcases h with h | ⟨h1, h2⟩
      · refine .inl ?_
        unfold Oper.wp at *
        generalize (execOp a.eval o).run P w = r at *
        cases r with
        | ok n w' =>
          cases n <;> simp only [Oper.upon] at h ⊢ <;> exact h
        | halt x w' => cases x <;> simp only [Oper.upon] at h ⊢ <;> first | exact h | exact hl h
      · exact .inr ⟨h1, hl h2⟩
    · rename_i hw
      rw [if_neg hw] at h
      exact h

/-- r waits, through others or not, for e; operations that have come up are not followed. -/
def ancD (ops : Array Oper) (D : List Nat) : Nat → Nat → Nat → Bool
  | 0, _, _ => false
  | f + 1, r, e => match ops[r]? with
    | some o => o.after.any fun x => Region.binds .any x && !D.contains x.on && (x.on == e || ancD ops D f x.on e)
    | none => false
theorem ancD_ancB {D : List Nat} : ∀ {f r e : Nat}, ancD ops D f r e = true → ancB ops f r e = true
  | 0, _, _, h => by simp [ancD] at h
  | f + 1, r, e, h => by
    unfold ancD at h
    unfold ancB
    split at h
    · rename_i o ho
      simp only [ho]
      obtain ⟨x, hx, hb⟩ := Array.any_eq_true'.1 h
      refine Array.any_eq_true'.2 ⟨x, hx, ?_⟩
      simp only [Bool.and_eq_true, Bool.or_eq_true] at hb ⊢
      exact ⟨hb.1.1, hb.2.imp id ancD_ancB⟩
    · cases h
def needD (ops : Array Oper) (D E : List Nat) (r : Nat) : Bool := !(E.all fun e => ancD ops D ops.size r e)

/-- The acting operations of a stage, one after the other. -/
def wpN (P : Program) (ops : Array Oper) (Q : Exit → Act → World → Prop) (C : World → Prop) (D E : List Nat) : List Nat → Act → World → Prop
  | [], a, w => Q .normal a w
  | r :: rest, a, w => wpOp P ops (NoPanic Q) r (fun a' w' => (needD ops D E r = true → C w') ∧ wpN P ops Q C D E rest a' w') a w
def Zd (P : Program) (ops : Array Oper) (Q : Exit → Act → World → Prop) (C : World → Prop) (D E : List Nat) (ph : Bool) (w : World) (R : List Nat) (a : Act) : Prop :=
  if ph = true then wpN P ops Q C D E R a w else ∀ w', C w' → wpN P ops Q C D E R a w'

def tailB (ops : Array Oper) (D E R : List Nat) (i : Nat) : Bool := match ops[i]? with
  | some o => o.after.any fun x => Region.binds .any x && (R.getLast? == some x.on || !(D ++ E ++ R).contains x.on)
  | none => false
/-- The closed checks of a stage. -/
def stageB (ops : Array Oper) (D E R : List Nat) : Bool :=
  Region.noSelect ops && decide ((D ++ E ++ R).Nodup) && ((List.range ops.size).all fun i => D.contains i || E.contains i || R.contains i || tailB ops D E R i)
  && E.all (predsB ops (D ++ E)) && pairB (fun y e => !Region.waitsFor .any ops y e && apartB ops y e) E
  && R.all (predsB ops (D ++ E ++ R)) && pairB (fun r s => !Region.waitsFor .any ops r s) R && chainR ops R
  && (R.all fun r => E.all fun y => apartB ops y r)
  && (E.all fun e => match ops[e]? with | some o => !isCall o || (match R with | r :: _ => ancB ops ops.size r e | [] => true) | none => false)
  && (match R.getLast? with | some b => !needD ops D E b | none => false)
  && D.all (fun d => decide (d < ops.size))

theorem stage_main {D E R : List Nat} {m : Nat} {fin : Act → World → Prop} (hB : stageB ops D E R = true) (hfin : ∀ a w, fin a w → wpAny P .any ops (NoPanic Q) m (doneL ops.size (D ++ E ++ R)) a w) : ∀ (n : Nat) (L : Array Bool) (Rd R' : List Nat) (a : Act) (w : World) (ph : Bool), R = Rd ++ R' → L.size = ops.size → Closed ops L → (∀ i, i < ops.size → (L.getD i true = true → i ∈ D ++ E ++ R) ∧ (i ∈ D → L.getD i true = true)) → (R' = [] → E.filter (unl L) = []) → (∀ r ∈ Rd, L.getD r true = true) → (∀ r ∈ R', L.getD r true = false) →
    (E.filter (unl L)).length + R'.length = n → (E.filter (unl L) ≠ [] → C w) → (ph = false → C w ∧ Rd = []) → (ph = true → ∀ e ∈ E.filter (unl L), ∀ o, ops[e]? = some o → isCall o = false) →
    wpQuiet P ops C (Zd P ops (QS fin Q) C D E ph w R') (opsAt ops (E.filter (unl L))) a → wpAny P .any ops (NoPanic Q) (n + m) L a w := by
  simp only [stageB, Bool.and_eq_true, decide_eq_true_eq, List.all_eq_true] at hB
  obtain ⟨⟨⟨⟨⟨⟨⟨⟨⟨⟨⟨hns, hndD⟩, htail⟩, hpE⟩, hpair⟩, hpR⟩, hpairR⟩, hchain⟩, hapR⟩, hcalls⟩, hlast⟩, hDlt⟩ := hB
  have hnd : (E ++ R).Nodup := by rw [List.append_assoc] at hndD; exact (List.nodup_append.1 hndD).2.1
  have hsel := Region.noSelect_spec hns
  have hpair' := pairB_spec hpair
  have hpairR' := pairB_spec hpairR
  have hndE : E.Nodup := (List.nodup_append.1 hnd).1
  have hdis : ∀ x, x ∈ E → x ∈ R → False := fun x h1 h2 => (List.nodup_append.1 hnd).2.2 x h1 x h2 rfl
  have hget : ∀ (l : List Nat) (e : Nat), predsB ops l e = true → ∃ o, ops[e]? = some o ∧ ∀ x ∈ o.after, Region.binds .any x = true → x.on ∈ l ∧ x.on ≠ e := by
    intro l e h
    unfold predsB at h
    split at h
    · rename_i o ho
      refine ⟨o, ho, fun x hx hb => ?_⟩
      have h1 := (Array.all_eq_true_iff_forall_mem.1 h) x hx
      simp only [hb, Bool.not_true, Bool.false_or, Bool.and_eq_true, List.contains_iff_mem, bne_iff_ne] at h1
      exact h1
    · cases h
  have hDl : ∀ d, d ∈ D → d < ops.size := fun d hd => by simpa using hDlt d hd
  have hEl : ∀ e, e ∈ E → e < ops.size := fun e he => by
    obtain ⟨o, ho, _⟩ := hget (D ++ E) e (hpE e he)
    exact (Array.getElem?_eq_some_iff.1 ho).1
  have hRl : ∀ e, e ∈ R → e < ops.size := fun e he => by
    obtain ⟨o, ho, _⟩ := hget (D ++ E ++ R) e (hpR e he)
    exact (Array.getElem?_eq_some_iff.1 ho).1
  have hapart : ∀ y e, apartB ops y e = true → Region.waitsFor .any ops e y = false → ∃ oy oe, ops[y]? = some oy ∧ ops[e]? = some oe ∧ oy.apart ops oe = true := by
    intro y e h hw
    unfold apartB at h
    rw [hw, Bool.false_or] at h
    split at h
    · rename_i oy oe h1 h2
      exact ⟨oy, oe, h1, h2, h⟩
    · cases h
  intro n
  induction n with
  | zero =>
    intro L Rd R' a w ph hR hsz hcl hinv hRE hRd hR' hn _ hphC _ h
    have hE0 : E.filter (unl L) = [] := List.eq_nil_of_length_eq_zero (by omega)
    have hR0 : R' = [] := List.eq_nil_of_length_eq_zero (by omega)
    subst hR0
    rw [List.append_nil] at hR
    subst hR
    rw [hE0] at h
    rw [Nat.zero_add]
    have hL : L = doneL ops.size (D ++ E ++ R) := by
      apply Array.ext
      · rw [hsz, doneL_size]
      · intro i h1 h2
        have hi : i < ops.size := by rw [← hsz]; exact h1
        rw [doneL_get _ _ _ h2]
        have hg : L.getD i true = L[i] := by simp [h1]
        rw [← hg]
        cases hx : (D ++ E ++ R).contains i with
        | true =>
          rw [List.contains_iff_mem, List.append_assoc, List.mem_append, List.mem_append] at hx
          rcases hx with hx | hx | hx
          · exact (hinv i hi).2 hx
          · cases hy : L.getD i true with
            | true => rfl
            | false =>
              have : i ∈ E.filter (unl L) := List.mem_filter.2 ⟨hx, by simp only [unl, hy, Bool.not_false]⟩
              rw [hE0] at this; cases this
          · exact hRd i hx
        | false =>
          cases hy : L.getD i true with
          | false => rfl
          | true =>
            have := (hinv i hi).1 hy
            rw [← List.contains_iff_mem, hx] at this
            cases this
    rw [hL]
    refine hfin a w ?_
    have h' : Zd P ops (QS fin Q) C D E ph w [] a := h
    unfold Zd at h'
    split at h'
    · exact h'
    · rename_i hf
      exact h' w (hphC (by simpa using hf)).1
  | succ n ih =>
    intro L Rd R' a w ph hR hsz hcl hinv hRE hRd hR' hn hCw hphC hphE h
    have hR'ne : R' ≠ [] := fun h0 => by rw [hRE h0, h0] at hn; simp at hn
    have hunE : ∀ x, x ∈ E.filter (unl L) ↔ x ∈ E ∧ L.getD x true = false := fun x => by
      rw [List.mem_filter]; simp only [unl, Bool.not_eq_true']
    -- something may come up
    have hsome : Region.ready .any ops L ≠ [] := by
      cases hE' : E.filter (unl L) with
      | cons e T =>
        have he := (hunE e).1 (by rw [hE']; simp)
        obtain ⟨o, ho, hpre⟩ := hget (D ++ E) e (hpE e he.1)
        have hpw := hpair'.filter (p := unl L)
        rw [hE'] at hpw
        have : e ∈ Region.ready .any ops L := mem_ready.2 ⟨he.2, o, ho, fun x hx hb => by
          obtain ⟨hxE, hxe⟩ := hpre x hx hb
          cases hlx : L.getD x.on false with
          | true => rfl
          | false =>
            exfalso
            rcases List.mem_append.1 hxE with hxD | hxE
            · have h9 := (hinv x.on (hDl _ hxD)).2 hxD
              rw [getD_in (by rw [hsz]; exact hDl _ hxD) hlx] at h9
              cases h9
            have hin : x.on < L.size := by rw [hsz]; exact hEl _ hxE
            have hxm : x.on ∈ E.filter (unl L) := (hunE _).2 ⟨hxE, getD_in hin hlx⟩
            rw [hE'] at hxm
            rcases List.mem_cons.1 hxm with h1 | h1
            · exact hxe h1
            · have h2 := (List.pairwise_cons.1 hpw).1 _ h1
              simp only [Bool.and_eq_true, Bool.not_eq_true'] at h2
              rw [waitsFor_of ho hx hb rfl] at h2
              cases h2.1⟩
        intro h0; rw [h0] at this; cases this
      | nil =>
        cases R' with
        | nil => rw [hE'] at hn; simp at hn
        | cons r rest =>
          have hrR : r ∈ R := by rw [hR]; simp
          obtain ⟨o, ho, hpre⟩ := hget (D ++ E ++ R) r (hpR r hrR)
          have : r ∈ Region.ready .any ops L := mem_ready.2 ⟨hR' r (by simp), o, ho, fun x hx hb => by
            obtain ⟨hxE, hxe⟩ := hpre x hx hb
            cases hlx : L.getD x.on false with
            | true => rfl
            | false =>
              exfalso
              rw [List.append_assoc] at hxE
              rcases List.mem_append.1 hxE with hxD | hxE
              · have h9 := (hinv x.on (hDl _ hxD)).2 hxD
                rw [getD_in (by rw [hsz]; exact hDl _ hxD) hlx] at h9
                cases h9
              rcases List.mem_append.1 hxE with h1 | h1
              · have hin : x.on < L.size := by rw [hsz]; exact hEl _ h1
                have : x.on ∈ E.filter (unl L) := (hunE _).2 ⟨h1, getD_in hin hlx⟩
                rw [hE'] at this; cases this
              · have hin : x.on < L.size := by rw [hsz]; exact hRl _ h1
                rw [hR] at h1
                rcases List.mem_append.1 h1 with h2 | h2
                · have := hRd _ h2
                  rw [getD_in hin hlx] at this; cases this
                · rcases List.mem_cons.1 h2 with h3 | h3
                  · exact hxe h3
                  · rw [hR] at hpairR'
                    have h4 := (List.pairwise_cons.1 (List.pairwise_append.1 hpairR').2.1).1 _ h3
                    simp only [Bool.not_eq_true'] at h4
                    rw [waitsFor_of ho hx hb rfl] at h4
                    cases h4⟩
          intro h0; rw [h0] at this; cases this
    rw [show n + 1 + m = (n + m) + 1 by omega]
    refine ⟨fun h0 => absurd h0 hsome, fun i hi => ?_⟩
    obtain ⟨hiu, oi, hoi, hall⟩ := mem_ready.1 hi
    have hilt := (Array.getElem?_eq_some_iff.1 hoi).1
    have hcl' : Closed ops (L.setIfInBounds i true) := fun j oj hj hl e he hb => by
      by_cases hij : i = j
      · subst hij
        have : oj = oi := Option.some.inj (hj.symm.trans hoi)
        subst this
        exact getD_set_true (hall e he hb)
      · rw [getD_set_ne false hij] at hl
        exact getD_set_true (hcl j oj hj hl e he hb)
    have hinv' : i ∈ E ++ R → ∀ j, j < ops.size → ((L.setIfInBounds i true).getD j true = true → j ∈ D ++ E ++ R) ∧ (j ∈ D → (L.setIfInBounds i true).getD j true = true) := fun hiER j hj => by
      by_cases hij : i = j
      · subst hij
        exact ⟨fun _ => by rw [List.append_assoc]; exact List.mem_append_right _ hiER, fun _ => by rw [← hsz] at hj; simp [hj]⟩
      · rw [getD_set_ne true hij]
        exact hinv j hj
    have hc : i ∈ E ∨ i ∈ R := by
      have hc := htail i (List.mem_range.2 hilt)
      rw [Bool.or_eq_true, Bool.or_eq_true, Bool.or_eq_true, List.contains_iff_mem, List.contains_iff_mem, List.contains_iff_mem] at hc
      rcases hc with ((hc | hc) | hc) | hc
      · rw [(hinv i hilt).2 hc] at hiu; cases hiu
      · exact .inl hc
      · exact .inr hc
      · exfalso
        unfold tailB at hc
        rw [hoi] at hc
        obtain ⟨x, hx, hb⟩ := Array.any_eq_true'.1 hc
        rw [Bool.and_eq_true, Bool.or_eq_true] at hb
        have hlx := hall x hx hb.1
        rcases hb.2 with h1 | h1
        · rw [beq_iff_eq] at h1
          have hlast' : R.getLast? = R'.getLast? := by
            rw [hR, List.getLast?_append]
            cases hz : R'.getLast? with
            | none => exact absurd (List.getLast?_eq_none_iff.1 hz) hR'ne
            | some z => rfl
          have hm : x.on ∈ R' := List.mem_of_getLast? (by rw [← hlast', ← h1])
          rw [getD_both (hR' _ hm)] at hlx
          cases hlx
        · rw [Bool.not_eq_true'] at h1
          have hlt : x.on < ops.size := by
            rcases Nat.lt_or_ge x.on L.size with h2 | h2
            · rw [← hsz]; exact h2
            · simp [Array.getElem?_eq_none h2] at hlx
          have h3 := (hinv x.on hlt).1 (by
            cases h4 : L.getD x.on true with
            | true => rfl
            | false => rw [getD_both h4] at hlx; cases hlx)
          rw [← List.contains_iff_mem] at h3
          rw [h3] at h1
          cases h1
    rcases hc with hc | hc
    · -- a quiet one
      have himem : i ∈ E.filter (unl L) := (hunE i).2 ⟨hc, hiu⟩
      obtain ⟨E1, E2, hsplit⟩ := List.append_of_mem himem
      have hiR : i ∉ R := fun h' => hdis i hc h'
      have hpw := hpair'.filter (p := unl L)
      rw [hsplit] at hpw h
      have hap : ∀ x ∈ E1, ∃ ox, ops[x]? = some ox ∧ ox.apart ops oi = true := by
        intro x hx
        have h2 := (List.pairwise_append.1 hpw).2.2 x hx i (by simp)
        simp only [Bool.and_eq_true, Bool.not_eq_true'] at h2
        have hxu : L.getD x true = false := ((hunE x).1 (by rw [hsplit]; simp [hx])).2
        obtain ⟨oy, oe, h3, h4, h5⟩ := hapart x i h2.2 (not_waits_of_ready hi hxu)
        have : oe = oi := Option.some.inj (h4.symm.trans hoi)
        subst this
        exact ⟨oy, h3, h5⟩
      have hq := quiet_front hoi hsel E1 E2 a hap h
      have hfs := filter_set (by rw [hsz]; exact hilt) hndE hsplit
      have next : ∀ (a' : Act) (w' : World), (ph = true → w' = w) → C w' → wpQuiet P ops C (Zd P ops (QS fin Q) C D E ph w R') (opsAt ops (E1 ++ E2)) a' → wpAny P .any ops (NoPanic Q) (n + m) (L.setIfInBounds i true) a' w' := by
        intro a' w' hw' hC' h'
        refine ih (L.setIfInBounds i true) Rd R' a' w' ph hR (by simpa using hsz) hcl' (hinv' (List.mem_append_left _ hc)) (fun h0 => absurd h0 hR'ne) (fun r hr => ?_) (fun r hr => ?_) ?_ (fun _ => hC') (fun hp => ⟨hC', (hphC hp).2⟩) (fun hp e he o ho => ?_) ?_
        · rw [getD_set_ne true (by rintro rfl; exact hiR (by rw [hR]; simp [hr]))]; exact hRd r hr
        · rw [getD_set_ne true (by rintro rfl; exact hiR (by rw [hR]; simp [hr]))]; exact hR' r hr
        · rw [hfs]; rw [hsplit] at hn; simp only [List.length_append, List.length_cons] at hn ⊢; omega
        · rw [hfs] at he
          exact hphE hp e (by rw [hsplit]; simp at he ⊢; rcases he with he | he <;> simp [he]) o ho
        · rw [hfs]
          refine wpQuiet_mono (fun a'' h'' => ?_) _ _ h'
          unfold Zd at *
          split
          · rename_i hp
            rw [if_pos hp] at h''
            rw [hw' hp]; exact h''
          · rename_i hp
            rw [if_neg hp] at h''
            exact h''
      have hCw' : C w := hCw (by rw [hsplit]; simp)
      cases ph with
      | false => exact wpOp_of_qOp hCw' (fun a' w' hC' h' => next a' w' (by simp) hC' h') hq
      | true =>
        exact still_of_quiet hoi (hphE rfl i himem oi hoi) hCw' (fun a' h' => next a' w (fun _ => rfl) hCw' h') hq
    · -- the next acting one
      have hiE : i ∉ E := fun h' => hdis i h' hc
      have hiR' : i ∈ R' := by
        rw [hR] at hc
        rcases List.mem_append.1 hc with h1 | h1
        · rw [hRd i h1] at hiu; cases hiu
        · exact h1
      cases R' with
      | nil => cases hiR'
      | cons r rest =>
        have hir : i = r := by
          rcases List.mem_cons.1 hiR' with h1 | h1
          · exact h1
          · exfalso
            have hch := chain_suffix Rd (r :: rest) (by rw [← hR]; exact hchain)
            obtain ⟨p, hp, hw⟩ := chain_pred hch i h1
            rw [not_waits_of_ready hi (hR' p hp)] at hw
            cases hw
        subst hir
        have hap : ∀ x ∈ E.filter (unl L), ∃ ox, ops[x]? = some ox ∧ ox.apart ops oi = true := by
          intro x hx
          have hx' := (hunE x).1 hx
          have h2 := hapR i hc x hx'.1
          obtain ⟨oy, oe, h3, h4, h5⟩ := hapart x i h2 (not_waits_of_ready hi hx'.2)
          have : oe = oi := Option.some.inj (h4.symm.trans hoi)
          subst this
          exact ⟨oy, h3, h5⟩
        have h1 : wpQuiet P ops C (fun a' => wpOp P ops (NoPanic Q) i (fun a' w' => (needD ops D E i = true → C w') ∧ wpN P ops (QS fin Q) C D E rest a' w') a' w) (opsAt ops (E.filter (unl L))) a := by
          refine wpQuiet_mono (fun a'' h'' => ?_) _ _ h
          unfold Zd at h''
          split at h''
          · exact wpOp_QS h''
          · rename_i hp
            exact wpOp_QS (h'' w (hphC (by simpa using hp)).1)
        have h2 := act_front hoi hsel (E.filter (unl L)) a hap h1
        have hfs := filter_set_not (L := L) hiE
        have hneed : E.filter (unl L) ≠ [] → needD ops D E i = true := by
          intro hne
          cases hq : needD ops D E i with
          | true => rfl
          | false =>
            exfalso
            unfold needD at hq
            simp only [Bool.not_eq_false', List.all_eq_true] at hq
            obtain ⟨e, he⟩ := List.exists_mem_of_ne_nil _ hne
            have he' := (hunE e).1 he
            have h4 := anc_listed hcl ops.size i e (fun o ho => by
              have : o = oi := Option.some.inj (ho.symm.trans hoi)
              subst this; exact hall) (ancD_ancB (hq e he'.1))
            rw [getD_both he'.2] at h4
            cases h4
        refine wpOp_mono (fun a' w' h3 => ?_) h2
        refine ih (L.setIfInBounds i true) (Rd ++ [i]) rest a' w' true (by rw [hR]; simp) (by simpa using hsz) hcl' (hinv' (List.mem_append_right _ hc)) (fun h0 => by
          rw [hfs]
          subst h0
          by_cases hne : E.filter (unl L) = []
          · exact hne
          · exfalso
            have h5 := hneed hne
            rw [hR, List.getLast?_append] at hlast
            simp only [List.getLast?_singleton, Option.some_or, Bool.not_eq_true'] at hlast
            rw [h5] at hlast
            cases hlast) (fun r hr => ?_) (fun r hr => ?_) ?_ (fun hne => ?_) (by simp) (fun _ e he o ho => ?_) ?_
        · by_cases hri : i = r
          · subst hri; rw [hsz.symm] at hilt; simp [hilt]
          · rw [getD_set_ne true hri]
            rcases List.mem_append.1 hr with h4 | h4
            · exact hRd r h4
            · simp at h4; exact absurd h4.symm hri
        · have hri : i ≠ r := by
            rintro rfl
            have : (Rd ++ i :: rest).Nodup := hR ▸ (List.nodup_append.1 hnd).2.1
            exact (List.nodup_cons.1 (List.nodup_append.1 this).2.1).1 hr
          rw [getD_set_ne true hri]; exact hR' r (by simp [hr])
        · rw [hfs]; simp only [List.length_cons] at hn; omega
        · rw [hfs] at hne
          exact (quiet_const _ _ h3) (hneed hne)
        · rw [hfs] at he
          cases ph with
          | true => exact hphE rfl e he o ho
          | false =>
            have he' := (hunE e).1 he
            have h4 := hcalls e he'.1
            rw [ho] at h4
            simp only [Bool.or_eq_true, Bool.not_eq_true'] at h4
            rcases h4 with h4 | h4
            · exact h4
            · exfalso
              have hRd0 := (hphC rfl).2
              subst hRd0
              rw [List.nil_append] at hR
              rw [hR] at h4
              have h5 := anc_listed hcl ops.size i e (fun o ho => by
                have : o = oi := Option.some.inj (ho.symm.trans hoi)
                subst this; exact hall) h4
              rw [getD_both he'.2] at h5
              cases h5
        · rw [hfs]
          refine wpQuiet_mono (fun a'' h'' => ?_) _ _ h3
          unfold Zd
          rw [if_pos rfl]
          exact h''.2


/-- The region where the operations of S have come up, m are left. -/
def wpSt (P : Program) (ops : Array Oper) (Q : Exit → Act → World → Prop) (S : List Nat) (m : Nat) (a : Act) (w : World) : Prop := wpAny P .any ops (NoPanic Q) m (doneL ops.size S) a w

theorem wpSt_end {S : List Nat} {a : Act} {w : World} (hS : ((List.range ops.size).all fun i => S.contains i) = true) (h : Q .normal a w) : wpSt P ops Q S 0 a w := by
  refine ⟨?_, h⟩
  rw [List.eq_nil_iff_forall_not_mem]
  intro i hi
  obtain ⟨h1, o, ho, _⟩ := mem_ready.1 hi
  have hlt := (Array.getElem?_eq_some_iff.1 ho).1
  rw [doneL_getD _ _ _ hlt, List.all_eq_true.1 hS i (List.mem_range.2 hlt)] at h1
  cases h1

theorem closed_done {D : List Nat} (hD : D.all (predsB ops D) = true) : Closed ops (doneL ops.size D) := by
  intro j oj hj hl e he hb
  have hjD := (doneL_true hl).2
  have h1 := List.all_eq_true.1 hD j hjD
  unfold predsB at h1
  rw [hj] at h1
  have h2 := (Array.all_eq_true_iff_forall_mem.1 h1) e he
  simp only [hb, Bool.not_true, Bool.false_or, Bool.and_eq_true, List.contains_iff_mem, bne_iff_ne] at h2
  have h3 := List.all_eq_true.1 hD e.on h2.1
  unfold predsB at h3
  split at h3
  · rename_i o ho
    rw [doneL_getD _ _ _ (Array.getElem?_eq_some_iff.1 ho).1]
    simpa using h2.1
  · cases h3

/-- One stage: first the quiet ones, none of them a call, then the acting ones. -/
theorem wp_stage {D S : List Nat} {k : Nat} {a : Act} {w : World} (E R : List Nat) (m : Nat) (C : World → Prop) (hB : stageB ops D E R = true) (hD : D.all (predsB ops D) = true) (hE : (E.all fun e => match ops[e]? with | some o => !isCall o | none => false) = true)
    (hS : D ++ E ++ R = S) (hk : E.length + R.length + m = k) (hC : C w) (h : wpQuiet P ops C (fun a' => wpN P ops (QS (wpSt P ops Q S m) Q) C D E R a' w) (opsAt ops E) a) : wpSt P ops Q D k a w := by
  subst hS
  subst hk
  have hB' := hB
  simp only [stageB, Bool.and_eq_true, decide_eq_true_eq, List.all_eq_true] at hB'
  obtain ⟨⟨⟨⟨⟨⟨⟨⟨⟨⟨⟨_, hndD⟩, _⟩, hpE⟩, _⟩, hpR⟩, _⟩, _⟩, _⟩, _⟩, hlast⟩, hDlt⟩ := hB'
  have hlt : ∀ (l : List Nat) (e : Nat), predsB ops l e = true → e < ops.size := fun l e h => by
    unfold predsB at h
    split at h
    · rename_i o ho; exact (Array.getElem?_eq_some_iff.1 ho).1
    · cases h
  rw [List.append_assoc] at hndD
  have hnd := List.nodup_append.1 hndD
  have hfresh : ∀ e, e ∈ E ++ R → e < ops.size → (doneL ops.size D).getD e true = false := fun e he hl => by
    rw [doneL_getD _ _ _ hl]
    cases hx : D.contains e with
    | false => rfl
    | true => exact absurd rfl (hnd.2.2 e (by simpa using hx) e he)
  have hall : E.filter (unl (doneL ops.size D)) = E := by
    rw [List.filter_eq_self]
    intro e he
    simp only [unl, hfresh e (List.mem_append_left _ he) (hlt _ _ (hpE e he)), Bool.not_false]
  have hRne : R ≠ [] := by rintro rfl; simp at hlast
  refine stage_main hB (fun a w h => h) (E.length + R.length) (doneL ops.size D) [] R a w true rfl (doneL_size _ _) (closed_done hD) (fun i hi => ⟨fun h1 => ?_, fun h1 => ?_⟩) (fun h0 => absurd h0 hRne) (fun r hr => by cases hr)
    (fun r hr => hfresh r (List.mem_append_right _ hr) (hlt _ _ (hpR r hr))) (by rw [hall]) (fun _ => hC) (fun h => by cases h) (fun _ e he o ho => ?_) ?_
  · rw [doneL_getD _ _ _ hi] at h1
    rw [List.append_assoc]
    exact List.mem_append_left _ (by simpa using h1)
  · rw [doneL_getD _ _ _ hi]
    simpa using h1
  · rw [hall] at he
    have h1 := List.all_eq_true.1 hE e he
    rw [ho] at h1
    simpa using h1
  · rw [hall]
    exact wpQuiet_mono (fun a' h' => by unfold Zd; rw [if_pos rfl]; exact h') _ _ h

/-- What stands behind one acting operation. -/
def QnD (P : Program) (ops : Array Oper) (Q : Exit → Act → World → Prop) (C : World → Prop) (D E rest : List Nat) (b : Bool) : Exit → Act → World → Prop
  | .normal, a, w => (b = true → C w) ∧ wpN P ops Q C D E rest a w
  | .panic _, _, _ => False
  | e, a, w => Q e a w
theorem wpN_cons {D E rest : List Nat} {r : Nat} {o : Oper} {a : Act} {w : World} (b : Bool) (hr : ops[r]? = some o) (hb : needD ops D E r = b) (h : wpList P ops (QnD P ops Q C D E rest b) [o] a w) : wpN P ops Q C D E (r :: rest) a w := by
  unfold wpN wpOp
  simp only [hr]
  unfold wpList at h
  have hl : LetsOut (QnD P ops Q C D E rest b) → LetsOut (NoPanic Q) := fun ⟨a, w, h⟩ => ⟨a, w, h⟩
  have hk : ∀ a' w', wpList P ops (QnD P ops Q C D E rest b) [] a' w' → (needD ops D E r = true → C w') ∧ wpN P ops Q C D E rest a' w' := fun a' w' h' => by
    rw [hb]; exact h'
  split
  · rename_i hw
    rw [if_pos hw] at h
    rcases h with h | ⟨h1, h2⟩
    · refine .inl ?_
      unfold Oper.wp at *
      generalize (execOp a.eval o).run P w = r at *
      cases r with
      | ok n w' =>
        cases n <;> simp only [Oper.upon] at h ⊢
        case value u => exact hk _ _ h
        case skip => exact hk _ _ h
        case defer d => exact hk _ _ h
        case enter f args =>
          refine Calls.mono h fun e w'' he => ?_
          cases e with
          | returned u => exact hk _ _ he
          | panicked c => exact he
          | outgrown => exact hl he
        case row row args => exact Rows.mono h fun u w'' he => hk _ _ he
      | halt x w' => cases x <;> simp only [Oper.upon] at h ⊢ <;> exact h
    · exact .inr ⟨h1, hl h2⟩
  · rename_i hw
    rw [if_neg hw] at h
    exact hk _ _ h

/-- The last acting operations in one walk, where the class is not asked any more. -/
theorem wpN_list {D E : List Nat} : ∀ (R : List Nat) (a : Act) (w : World), (R.all fun r => !needD ops D E r && decide (r < ops.size)) = true → wpList P ops (NoPanic Q) (opsAt ops R) a w → wpN P ops Q C D E R a w
  | [], _, _, _, h => h
  | r :: R, a, w, hn, h => by
    rw [List.all_cons, Bool.and_eq_true] at hn
    obtain ⟨hn1, hn2⟩ := hn
    rw [Bool.and_eq_true, Bool.not_eq_true', decide_eq_true_eq] at hn1
    have hr : ops[r]? = some (ops.getD r default) := by simp [hn1.2]
    unfold wpN wpOp
    simp only [hr]
    unfold opsAt at h
    rw [List.map_cons] at h
    unfold wpList at h
    have hk : ∀ a' w', wpList P ops (NoPanic Q) (opsAt ops R) a' w' → (needD ops D E r = true → C w') ∧ wpN P ops Q C D E R a' w' := fun a' w' h' =>
      ⟨(fun h1 => by rw [hn1.1] at h1; cases h1), wpN_list R a' w' hn2 h'⟩
    split
    · rename_i hw
      rw [if_pos hw] at h
      exact h.imp (fun h => Oper.wp_mono hk h) id
    · rename_i hw
      rw [if_neg hw] at h
      exact hk _ _ h


theorem QS_normal {fin : Act → World → Prop} {a : Act} {w : World} : QS fin Q .normal a w = fin a w := rfl

end
end Go.Proofs.YtdjaphcelpchaaaGreatDoor

namespace Go.Proofs.YtdjaphcelpchaaaGreatDoor
open Go Go.RowKit Go.Proofs

/-- What an iterator may do between two rounds: all but the blocks from A to B stays. -/
structure Beside (A B : Nat) (X Y : World) : Prop where
  os : Y.os = X.os
  tape : Y.tape = X.tape
  output : Y.output = X.output
  size : X.heap.size ≤ Y.heap.size
  block : ∀ k, k < X.heap.size → (k < A ∨ B ≤ k) → Y.heap[k]? = X.heap[k]?
theorem Beside.refl (A B : Nat) (X : World) : Beside A B X X := ⟨rfl, rfl, rfl, Nat.le_refl _, fun _ _ _ => rfl⟩
theorem Beside.mono {A A' B B' : Nat} {X Y : World} (h : Beside A B X Y) (hA : A' ≤ A) (hB : B ≤ B') : Beside A' B' X Y :=
  ⟨h.os, h.tape, h.output, h.size, fun k hk hn => h.block k hk (by rcases hn with hn | hn; exact .inl (by omega); exact .inr (by omega))⟩
theorem Beside.of_below {A B : Nat} {X Y : World} (h : Below X.heap.size X Y) : Beside A B X Y := ⟨h.os, h.tape, h.output, h.size, fun k hk _ => h.block k hk⟩
theorem Beside.grown {A B : Nat} {X Y Z : World} {row : Option Nat} (h : Beside A B X Y) (hg : Y.grownBy Z row) (hr : ∀ k, row = some k → (A ≤ k ∧ k < B) ∨ X.heap.size ≤ k) : Beside A B X Z :=
  ⟨hg.os.trans h.os, hg.tape.trans h.tape, hg.output.trans h.output, Nat.le_trans h.size hg.size, fun k hk hn => (hg.block k (Nat.lt_of_lt_of_le hk h.size) (fun e => by rcases hr k e.symm with h1 | h1 <;> omega)).trans (h.block k hk hn)⟩
theorem Beside.putObj {A B : Nat} (X : World) (l : Nat) (o : Obj) (h : A ≤ l ∧ l < B) : Beside A B X (X.putObj l o) := (Beside.refl A B X).grown (grownBy_putObj' X l o) (fun k e => by cases e; exact .inl h)

section
variable {F : Fence} {n : Nat} {P : Program}

/-- An iterator against whatever its caller keeps: J between rounds, Jx behind a round that has ended the loop; B: where the heap ended at the first round; Gd: what holds of what is yielded; Kp: what a round keeps for the iterator. -/
def SeqG {α : Type} (F : Fence) (n : Nat) (P : Program) (g : Nat) (lb : Array Value) (encs : α → Array Value) (Gd : Nat → Nat → List α → α → World → Prop) (Kp : Nat → Nat → α → World → World → Prop) (S : List α → Prop) (W : World) : Prop :=
  ∀ (l : Nat) (J Jx : Nat → List α → World → Prop),
    (∀ B pre X Y, J B pre X → W.heap.size ≤ B → B ≤ X.heap.size → Beside W.heap.size B X Y → J B pre Y) → (∀ B pre X Y, Jx B pre X → W.heap.size ≤ B → B ≤ X.heap.size → Beside W.heap.size B X Y → Jx B pre Y) →
    (∀ X, Below W.heap.size W X → J X.heap.size [] X) →
    (∀ B pre x X, J B pre X → W.heap.size ≤ B → B ≤ X.heap.size → Gd W.heap.size B pre x X → YieldAt F (n - 1) P l (encs x) X fun e X' =>
      (e = .returned (.bool true) ∧ J B (pre ++ [x]) X' ∧ Kp W.heap.size B x X X') ∨ (e = .returned (.bool false) ∧ Jx B (pre ++ [x]) X')) →
    CallsIn F n P g (#[.func (.yield l) #[] #[]] ++ lb) W fun e W' => (∃ v, e = .returned v) ∧ ((∃ B xs, W.heap.size ≤ B ∧ B ≤ W'.heap.size ∧ S xs ∧ J B xs W') ∨ (∃ B pre, W.heap.size ≤ B ∧ Jx B pre W'))

/-- What a round must leave of the loop's own two blocks. -/
def Keeps2 (A : Nat) (W W' : World) : Prop := W.heap.size ≤ W'.heap.size ∧ ∀ k, A ≤ k → k < A + 2 → W'.heap[k]? = W.heap[k]?
/-- How the body of a round may be left. -/
def postG {α : Type} (A : Nat) (Kp : Nat → Nat → α → World → World → Prop) (I : Nat → List α → World → Prop) (Ix : Code → Nat → List α → World → Prop) (B : Nat) (pre : List α) (x : α) (W : World) : Exit → Act → World → Prop
  | .normal, _, W' => Keeps2 A W W' ∧ Kp (A + 2) B x W W' ∧ I B (pre ++ [x]) W'
  | .ret, _, W' => Keeps2 A W W' ∧ Ix .ret B (pre ++ [x]) W'
  | .exit id, _, W' => Keeps2 A W W' ∧ Ix (.exit id) B (pre ++ [x]) W'
  | .goto t, _, W' => Keeps2 A W W' ∧ Ix (.goto t) B (pre ++ [x]) W'
  | .panic _, _, _ => False
  | .outgrown, _, _ => False

theorem wpIn_rangeFunc_guard {α : Type} {g : Operand} {ps : Array Tmp} {assign body : Code} {Q : Exit → Act → World → Prop} {a : Act} {w : World}
    (hro : F.round = none) (h1 : 1 ≤ n) {gf : Nat} {lb : Array Value} (hg : a.eval g = .func (.func gf) #[] lb) (hFg : F.fn gf) (eg : ∀ args w, (callFunc gf args).run P w = .ok (.enter gf args) w)
    {encs : α → Array Value} {Gd : Nat → Nat → List α → α → World → Prop} {Kp : Nat → Nat → α → World → World → Prop} {S : List α → Prop}
    (hseq : ∀ W, Below w.heap.size w W → W.heap.size = w.heap.size + 2 → SeqG F (n - 1) P gf lb encs Gd Kp S W)
    (hKl : ∀ B x X Y Z l o, w.heap.size ≤ l → l < w.heap.size + 2 → Kp (w.heap.size + 2) B x Y Z → Y = X.putObj l o → Kp (w.heap.size + 2) B x X Z)
    (hKr : ∀ B x X Y l o, w.heap.size ≤ l → l < w.heap.size + 2 → Kp (w.heap.size + 2) B x X Y → Kp (w.heap.size + 2) B x X (Y.putObj l o))
    (hps : ∀ x, (encs x).size = ps.size)
    (I : Nat → List α → World → Prop) (Ix : Code → Nat → List α → World → Prop) (hI : ∀ B pre X Y, I B pre X → w.heap.size + 2 ≤ B → B ≤ X.heap.size → Beside w.heap.size B X Y → I B pre Y) (hIx : ∀ c B pre X Y, Ix c B pre X → w.heap.size + 2 ≤ B → B ≤ X.heap.size → Beside w.heap.size B X Y → Ix c B pre Y)
    (h0 : ∀ X, Below w.heap.size w X → w.heap.size + 2 ≤ X.heap.size → I X.heap.size [] X)
    (Ax : Nat → List α → α → Act → World → Prop)
    (hassign : ∀ (l : Nat) (B : Nat) (pre : List α) (x : α) (W : World) (K : Act → World → Prop), I B pre W → w.heap.size + 2 ≤ B → B ≤ W.heap.size → Gd (w.heap.size + 2) B pre x W →
      (∀ a' W', Ax B pre x a' W' → Below W.heap.size W W' → K a' W') →
      assign.wpIn (F.inRound l) (n - 1 - 1) P (Exit.then K (fun _ _ _ => False)) { tmps := (ps.zip (encs x)).foldl (fun t (p, v) => t.setIfInBounds p v) a.tmps, defers := [] } W)
    (hAx : ∀ B pre x a' X l o, Ax B pre x a' X → w.heap.size ≤ l → l < w.heap.size + 2 → Ax B pre x a' (X.putObj l o))
    (hKa : ∀ B x X Y Z, Below X.heap.size X Y → B ≤ X.heap.size → Kp (w.heap.size + 2) B x Y Z → Kp (w.heap.size + 2) B x X Z)
    (hbody : ∀ (l B : Nat) (pre : List α) (x : α) (a' : Act) (W : World), l = w.heap.size + 1 → w.heap.size + 2 ≤ B → B ≤ W.heap.size → Ax B pre x a' W → body.wpIn (F.inRound l) (n - 1 - 1) P (postG w.heap.size Kp I Ix B pre x W) a' W)
    (hdone : ∀ (B : Nat) (xs : List α) (W : World), w.heap.size + 2 ≤ B → B ≤ W.heap.size → S xs → I B xs W → W.heap[w.heap.size]? = some (.deferred (some [])) → Q .normal { a with defers := { target := .collected w.heap.size, args := #[] } :: a.defers } W)
    (hstop : ∀ (c : Code) (B : Nat) (pre : List α) (W : World), w.heap.size + 2 ≤ B → Ix c B pre W → W.heap[w.heap.size]? = some (.deferred (some [])) → c.wpIn F n P Q { a with defers := { target := .collected w.heap.size, args := #[] } :: a.defers } W)
    (hsz : ∀ c B pre W, Ix c B pre W → B ≤ W.heap.size) :
    (Code.rangeFunc g ps assign body).wpIn F n P Q a w := by
  refine wpIn_rangeFunc ?_
  intro fn hfn
  rw [hro]
  obtain ⟨rec, hrec⟩ : ∃ rec : LoopState → Option Code → Loop, rec = fun st pe => { state := st, pending := pe, fn, tmps := a.tmps, params := ps, assign, body, defers := w.heap.size } := ⟨_, rfl⟩
  obtain ⟨W1, hW1⟩ : ∃ W1, (w.alloc (.deferred (some []))).alloc (.loop (rec .ready none)) = W1 := ⟨_, rfl⟩
  have hs1 : W1.heap.size = w.heap.size + 2 := by rw [← hW1]; simp
  have hL1 : W1.heap[w.heap.size + 1]? = some (.loop (rec .ready none)) := by
    rw [← hW1]; have := World.alloc_heap_new (w.alloc (.deferred (some []))) (.loop (rec .ready none)); rwa [World.size_alloc] at this
  have hK1 : W1.heap[w.heap.size]? = some (.deferred (some [])) := by
    rw [← hW1]; exact (Below.heap_alloc _ _ _ (by simp)).trans (World.alloc_heap_new w _)
  have hb1 : Below w.heap.size w W1 := by
    rw [← hW1]; exact ((Below.refl _ w).alloc (Nat.le_refl _) _).alloc (by simp) _
  refine ⟨w.heap.size + 1, [{ target := .collected w.heap.size, args := #[] }], W1, { target := .fn (.func gf) lb, args := #[.func (.yield (w.heap.size + 1)) #[] #[]] }, W1, gf,
    #[.func (.yield (w.heap.size + 1)) #[] #[]] ++ lb, W1, ?_, ?_, ?_, ?_, fun _ => h1, ?_⟩
  · rw [← hW1, hrec]; exact run_enterLoop_outer _ _ _ _ _
  · simp only [resolve, hg]
    simp [go_sem]
  · intro f' hf'; simp [Target.leads] at hf'; subst hf'; exact hFg
  · simp [invoke, go_sem, eg]
  · refine (hseq W1 hb1 hs1 (w.heap.size + 1)
      (fun B pre W => I B pre W ∧ W.heap[w.heap.size + 1]? = some (.loop (rec .ready none)) ∧ W.heap[w.heap.size]? = some (.deferred (some [])))
      (fun B pre W => ∃ c, Ix c B pre W ∧ W.heap[w.heap.size + 1]? = some (.loop (rec .done (some c))) ∧ W.heap[w.heap.size]? = some (.deferred (some [])))
      ?_ ?_ ?_ ?_).mono ?_
    · rintro B pre X Y ⟨hi, hl, hk⟩ hB hX hst
      rw [hs1] at hB hst
      exact ⟨hI B pre X Y hi hB hX (hst.mono (by omega) (Nat.le_refl _)), (hst.block _ (Array.getElem?_eq_some_iff.1 hl).1 (.inl (by omega))).trans hl, (hst.block _ (Array.getElem?_eq_some_iff.1 hk).1 (.inl (by omega))).trans hk⟩
    · rintro B pre X Y ⟨c, hi, hl, hk⟩ hB hX hst
      rw [hs1] at hB hst
      exact ⟨c, hIx c B pre X Y hi hB hX (hst.mono (by omega) (Nat.le_refl _)), (hst.block _ (Array.getElem?_eq_some_iff.1 hl).1 (.inl (by omega))).trans hl, (hst.block _ (Array.getElem?_eq_some_iff.1 hk).1 (.inl (by omega))).trans hk⟩
    · intro X hX
      rw [hs1] at hX
      exact ⟨h0 X (hb1.trans (hX.mono (by omega))) (by have := hX.size; omega), (hX.block _ (by omega)).trans hL1, (hX.block _ (by omega)).trans hK1⟩
    · -- one round
      rintro B pre x W ⟨hi, hl, hk⟩ hB hBW hgd
      rw [hs1] at hB hgd ⊢
      have hy := run_yield (P := P) (args := encs x) hl (by rw [hrec]; exact hps x)
      rw [hrec] at hy
      refine ⟨fn, _, assign, body, hy, roundIn_of_wpIn hfn (hassign _ B pre x W _ hi hB hBW hgd ?_)⟩
      clear hy
      intro a' Wa hax hba
      have hla := (hba.block _ (Array.getElem?_eq_some_iff.1 hl).1).trans hl
      have hka := (hba.block _ (Array.getElem?_eq_some_iff.1 hk).1).trans hk
      have hlt : w.heap.size + 1 < Wa.heap.size := (Array.getElem?_eq_some_iff.1 hla).1
      refine ⟨_, run_beginRound hla (by rw [hrec]), ?_⟩
      have hl2 : (Wa.putObj (w.heap.size + 1) (.loop { rec .ready none with state := .busy })).heap[w.heap.size + 1]? = some (.loop { rec .ready none with state := .busy }) := World.putObj_heap_same hlt
      have hk2 : (Wa.putObj (w.heap.size + 1) (.loop { rec .ready none with state := .busy })).heap[w.heap.size]? = some (.deferred (some [])) := (World.putObj_heap_other (by omega)).trans hka
      have hszp : (Wa.putObj (w.heap.size + 1) (.loop { rec .ready none with state := .busy })).heap.size = Wa.heap.size := by simp [World.putObj]
      refine wpIn_mono (hbody _ B pre x a' _ rfl hB (by rw [hszp]; have := hba.size; omega) (hAx B pre x a' Wa _ _ hax (by omega) (by omega))) ?_
      have fin : ∀ (jump : Option Code) (W3 : World), Keeps2 w.heap.size (Wa.putObj (w.heap.size + 1) (.loop { rec .ready none with state := .busy })) W3 →
          (Instr.endRound (w.heap.size + 1) jump).run P W3 = .ok (.bool jump.isNone) (W3.putObj (w.heap.size + 1) (.loop (rec (if jump.isNone then .ready else .done) jump))) ∧
          (W3.putObj (w.heap.size + 1) (.loop (rec (if jump.isNone then .ready else .done) jump))).heap[w.heap.size + 1]? = some (.loop (rec (if jump.isNone then .ready else .done) jump)) ∧
          (W3.putObj (w.heap.size + 1) (.loop (rec (if jump.isNone then .ready else .done) jump))).heap[w.heap.size]? = some (.deferred (some [])) ∧ B ≤ W3.heap.size := fun jump W3 hk3 => by
        have hl3 := (hk3.2 _ (by omega) (by omega)).trans hl2
        have := run_endRound (P := P) jump hl3
        rw [hrec] at this ⊢
        exact ⟨this, World.putObj_heap_same (Array.getElem?_eq_some_iff.1 hl3).1, (World.putObj_heap_other (by omega)).trans ((hk3.2 _ (Nat.le_refl _) (by omega)).trans hk2), by have h7 := hk3.1; rw [hszp] at h7; have := hba.size; omega⟩
      rintro e a3 W3 hp
      cases e with
      | normal =>
        obtain ⟨hk3, hkp3, hi3⟩ := hp
        obtain ⟨hr, hl4, hk4, hB3⟩ := fin none W3 hk3
        refine ⟨_, _, hr, .inl ⟨rfl, ⟨hI B _ _ _ hi3 hB hB3 (Beside.putObj _ _ _ ⟨by omega, by omega⟩), hl4, hk4⟩, ?_⟩⟩
        exact hKr B x W W3 _ _ (by omega) (by omega) (hKa B x W Wa W3 hba hBW (hKl B x Wa _ W3 _ _ (by omega) (by omega) hkp3 rfl))
      | ret =>
        obtain ⟨hk3, hi3⟩ := hp
        obtain ⟨hr, hl4, hk4, hB3⟩ := fin (some .ret) W3 hk3
        exact ⟨_, _, hr, .inr ⟨rfl, .ret, hIx _ B _ _ _ hi3 hB hB3 (Beside.putObj _ _ _ ⟨by omega, by omega⟩), hl4, hk4⟩⟩
      | exit id =>
        obtain ⟨hk3, hi3⟩ := hp
        obtain ⟨hr, hl4, hk4, hB3⟩ := fin (some (.exit id)) W3 hk3
        exact ⟨_, _, hr, .inr ⟨rfl, .exit id, hIx _ B _ _ _ hi3 hB hB3 (Beside.putObj _ _ _ ⟨by omega, by omega⟩), hl4, hk4⟩⟩
      | goto t =>
        obtain ⟨hk3, hi3⟩ := hp
        obtain ⟨hr, hl4, hk4, hB3⟩ := fin (some (.goto t)) W3 hk3
        exact ⟨_, _, hr, .inr ⟨rfl, .goto t, hIx _ B _ _ _ hi3 hB hB3 (Beside.putObj _ _ _ ⟨by omega, by omega⟩), hl4, hk4⟩⟩
      | panic ch => exact hp.elim
      | outgrown => exact hp.elim
    · -- behind the iterator
      rintro e W2 ⟨⟨v, rfl⟩, (⟨B, xs, hB, hBW, hS, hi, hl, hk⟩ | ⟨B, pre, hB, c, hi, hl, hk⟩)⟩
      · rw [hs1] at hB
        refine ⟨none, _, by have := run_endLoop (P := P) hl (by rw [hrec]; simp); rw [hrec] at this; exact this, hdone B xs _ hB (by simpa [World.putObj] using hBW) hS (hI B xs _ _ hi hB hBW (Beside.putObj _ _ _ ⟨by omega, by omega⟩)) ((World.putObj_heap_other (by omega)).trans hk)⟩
      · rw [hs1] at hB
        exact ⟨some c, _, by have := run_endLoop (P := P) hl (by rw [hrec]; simp); rw [hrec] at this; exact this, hstop c B pre _ hB (hIx c B pre _ _ hi hB (hsz c B pre _ hi) (Beside.putObj _ _ _ ⟨by omega, by omega⟩)) ((World.putObj_heap_other (by omega)).trans hk)⟩

/-- A drawn region within a round: out of the walk elsewhere. -/
theorem wpOpIn_round {ops : Array Oper} {l m : Nat} {Q : Exit → Act → World → Prop} (hd : ∀ (j : Nat) (o : Oper) c, ops[j]? = some o → o.op ≠ .defer c) {i : Nat} {K K' : Act → World → Prop} {a : Act} {w : World} (hlo : ¬ LetsOut Q) (hK : ∀ a w, K a w → K' a w) (h : wpOp P ops Q i K a w) : wpOpIn (Fence.wide.inRound l) m P ops Q i K' a w := by
  unfold wpOp at h
  unfold wpOpIn
  split at h
  · rename_i ho; simp only [ho]; exact hK _ _ h
  · rename_i o ho
    simp only [ho]
    split at h
    · rename_i hw
      simp only [hw, if_true]
      unfold Oper.wp at h
      refine ⟨fun _ _ => trivial, ?_⟩
      have e : o.semAt (Fence.wide.inRound l).round a.eval = execOp a.eval o := Oper.semAt_some l _ _ (fun c => hd i o c ho)
      rw [e]
      replace h := h.resolve_right fun hx => hlo hx.2
      generalize (execOp a.eval o).run P w = r at h ⊢
      unfold Oper.upon at h
      unfold Oper.uponIn
      split at h
      · exact hK _ _ h
      · exact hK _ _ h
      · exact hK _ _ h
      · refine ⟨fun hx => (by cases hx), CallsIn.inRound l (callsIn_wide.2 (h.mono fun e w' he => ?_))⟩
        cases e with
        | returned v => exact hK _ _ he
        | panicked c => exact he
        | outgrown => exact he
      · exact ⟨fun hx => (by cases hx), fun c cs _ => let ⟨v, w', hr, hs⟩ := h c cs; ⟨v, w', hK _ _ hr, stepsIn_wide.2 hs⟩⟩
      · exact h
      · exact h.elim
    · rename_i hw
      simp only [hw]
      exact ⟨fun _ _ => trivial, hK _ _ h⟩
theorem wpAnyIn_round {ops : Array Oper} {l m : Nat} {md : Region.Mode} {Q : Exit → Act → World → Prop} (hd : ∀ (j : Nat) (o : Oper) c, ops[j]? = some o → o.op ≠ .defer c) (hlo : ¬ LetsOut Q) : ∀ (fuel : Nat) (L : Array Bool) (a : Act) (w : World), wpAny P md ops Q fuel L a w → wpAnyIn (Fence.wide.inRound l) m P md ops Q fuel L a w
  | 0, _, _, _, h => h
  | fuel + 1, _, _, _, h => ⟨h.1, fun i hi => wpOpIn_round hd hlo (wpAnyIn_round hd hlo fuel _) (h.2 i hi)⟩
def noDefer (ops : Array Oper) : Bool := ops.all fun o => match o.op with | .defer _ => false | _ => true
theorem noDefer_spec {ops : Array Oper} (h : noDefer ops = true) : ∀ (j : Nat) (o : Oper) c, ops[j]? = some o → o.op ≠ .defer c := fun j o c ho e => by
  unfold noDefer at h
  rw [Array.all_eq_true] at h
  obtain ⟨hj, rfl⟩ := Array.getElem?_eq_some_iff.1 ho
  have := h j hj
  rw [e] at this
  cases this
/-- A drawn region in stages, within a round. -/
theorem wpIn_region_stages {ops : Array Oper} {l m id : Nat} {Q : Exit → Act → World → Prop} {a : Act} {w : World} (hd : noDefer ops = true) (hlo : ¬ LetsOut (NoPanic Q)) (hm : P.follows .mixedOrders = true) (h : wpSt P ops Q [] ops.size a w.drew) : (Code.region id ops true).wpIn (Fence.wide.inRound l) m P Q a w := by
  refine wpIn_mono (wpIn_region_any (Q := NoPanic Q) hm (wpAnyIn_round (noDefer_spec hd) hlo _ _ _ _ ?_)) NoPanic.imp
  have e : doneL ops.size [] = Array.replicate ops.size false := by
    apply Array.ext
    · simp [doneL_size]
    · intro i h1 h2
      rw [doneL_get]
      simp
  unfold wpSt at h
  rw [e] at h
  exact h
/-- Marks at a function's end. -/
theorem leaves_marks {fn : Func} {tmps : Array Value} {R : Ending → World → Prop} : ∀ (Ds : List Nat) (w : World), Ds.Nodup → (∀ D ∈ Ds, w.heap[D]? = some (.deferred (some []))) → (∀ w', w'.os = w.os → w'.tape = w.tape → w'.output = w.output → w'.heap.size = w.heap.size → (∀ k, k ∉ Ds → w'.heap[k]? = w.heap[k]?) → LeavesIn F n P fn tmps R [] .returning w') → LeavesInM F n P fn tmps R (Ds.map fun D => { target := .collected D, args := #[] }) .returning w
  | [], w, _, _, h => h w rfl rfl rfl rfl (fun _ _ => rfl)
  | D :: Ds, w, hn, hd, h => by
    rw [List.nodup_cons] at hn
    refine ⟨by simp, .inl ⟨D, _, rfl, run_takeDeferred (hd D (by simp)), leaves_marks Ds _ hn.2 (fun E hE => ?_) (fun w' e1 e2 e3 e4 e5 => ?_)⟩⟩
    · exact (World.putObj_heap_other (by intro e; subst e; exact hn.1 hE)).trans (hd E (by simp [hE]))
    · refine h w' e1 e2 e3 (by simpa [World.putObj] using e4) fun k hk => ?_
      rw [List.mem_cons, not_or] at hk
      exact (e5 k hk.2).trans (World.putObj_heap_other hk.1)
end

end Go.Proofs.YtdjaphcelpchaaaGreatDoor
