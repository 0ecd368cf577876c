/- Parts of the proofs about bulletinlaw28: Add, Delete, RemoveLaw, Remove, Next, NameOrd, Names. -/
import Derived.Test.YtdjaphcelpchaaaGreatDoorShelf
import Derived.Test.YtdjaphcelpchaaaGreatDoorK1
import Derived.Test.YtdjaphcelpchaaaGreatDoorK2
import Derived.Test.YtdjaphcelpchaaaGreatDoorK3
import Derived.Test.YtdjaphcelpchaaaGreatDoorK4

/- (*overview.Index).Add at any index. -/
namespace Go.Proofs.YtdjaphcelpchaaaGreatDoor
open Go Go.RowKit Go.Proofs

attribute [local go_sem ↓] ex_load_id ex_store_id ex_load_line ex_store_line ex_alloc_line ex_build_line
attribute [local go_sem] ld_id st_id ld_line st_line guard_id okCells_drew rdCells_drew okCells_drewN rdCells_drewN rowOk_drew rowOk_cells okCells_cells rdCells_cells setRow_drew setRow_new setRow_past

theorem search_at (B : Nat) (v : Value) (ms : List ML) (n : Int) (w : World) (h : LinesAt B w v ms) (hn : ms.length ≤ 65536) (hs : (nums ms).Pairwise (· < ·)) :
    Calls Tryz.prog 69 #[v, .int .i64 n] w fun r w' => r = .returned (.tuple #[.int .i64 (posN (nums ms) n), .bool (hasNum ms n)]) ∧ Below w.heap.size w w' := by
  refine (search_any B v ms n w h hn hs).mono ?_
  rintro r w' ⟨i, hi, rfl, hb⟩
  rw [pos_between hi]
  exact ⟨rfl, hb⟩
theorem between_pos {ns : List Int} (hs : ns.Pairwise (· < ·)) (n : Int) : Between ns n (posN ns n) (posN ns n) := by
  unfold posN
  induction ns with
  | nil => exact ⟨Nat.le_refl _, Nat.le_refl _, fun k h => absurd h (by simp), fun k h => absurd h (by simp)⟩
  | cons a ns ih =>
    rw [List.pairwise_cons] at hs
    obtain ⟨_, h2, h3, h4⟩ := ih hs.2
    by_cases ha : a < n
    · rw [List.countP_cons_of_pos (by simpa using ha)]
      refine ⟨Nat.le_refl _, by simpa using h2, fun k hk hki => ?_, fun k hk hki => ?_⟩
      · cases k with
        | zero => exact ha
        | succ k => exact h3 k (by simpa using hk) (by omega)
      · cases k with
        | zero => omega
        | succ k => exact h4 k (by simpa using hk) (by omega)
    · rw [List.countP_cons_of_neg (by simpa using ha)]
      have h0 : ns.countP (fun k => decide (k < n)) = 0 := by
        rw [List.countP_eq_zero]
        intro k hk
        have := hs.1 k hk
        simp
        omega
      rw [h0]
      refine ⟨Nat.le_refl _, Nat.zero_le _, fun k _ hk => absurd hk (Nat.not_lt_zero _), fun k hk _ => ?_⟩
      cases k with
      | zero => simp; omega
      | succ k =>
        have := hs.1 (ns[k]'(by simpa using hk)) (List.getElem_mem _)
        simp
        omega

theorem find_all (B ib M mc : Nat) (gs : List MG) (s : ByteArray) (x : Id32) (w : World) (h : IdxAt B w ib M gs mc) :
    Calls Tryz.prog 41 #[.pointer (some ⟨ib, 0, none⟩), .string s, .agg (encId x).toArray] w fun r w' => FindPost (linesIn gs s) x w r w' := by
  by_cases hne : linesIn gs s = []
  · refine (find_empty B ib M mc gs s x w h hne).mono ?_
    rintro r w' ⟨rfl, hb⟩
    exact ⟨.inl ⟨fun m hm => absurd (hne ▸ hm) (by simp), rfl⟩, hb⟩
  · exact find_any B ib M mc gs s x w h hne

/-- The error of Add. -/
def hasId (ms : List ML) (x : Id32) : Bool := ms.any fun m => decide (m.p.id = x)
def addErr (ms : List ML) (s : ByteArray) (p : PLine) : Int := if nameErr s ≠ 0 then nameErr s else if pErr p ≠ 0 then pErr p else if hasNum ms p.number || hasId ms p.id then 7 else 0

/-- What Add does. -/
structure Added (B ib M : Nat) (gs : List MG) (s : ByteArray) (p : PLine) (w w' : World) (gs' : List MG) (mc' : Nat) : Prop where
  idx : IdxAt B w' ib M gs' mc'
  kept : Kept (foot ib M gs) w w'
  foot : FootOk (Go.Proofs.YtdjaphcelpchaaaGreatDoor.foot ib M gs) (Go.Proofs.YtdjaphcelpchaaaGreatDoor.foot ib M gs') w
  lines : ∃ v, (∀ k, v.ownBlock = some k → w.heap.size ≤ k) ∧ ∀ t, linesIn gs' t = if t = s then addMs (linesIn gs s) (posN (nums (linesIn gs s)) p.number) ⟨p, v⟩ else linesIn gs t
  tot : total gs' = total gs + 1
def AddPost (B ib M : Nat) (gs : List MG) (s : ByteArray) (p : PLine) (w : World) (r : Ending) (w' : World) : Prop :=
  r = .returned (.int .i64 (addErr (linesIn gs s) s p)) ∧ ((addErr (linesIn gs s) s p ≠ 0 ∧ Below w.heap.size w w') ∨ (addErr (linesIn gs s) s p = 0 ∧ ∃ gs' mc', Added B ib M gs s p w w' gs' mc'))


theorem flat_cells {ms : List ML} (h : ∀ m ∈ ms, m.v.oneCell' = true) : ∀ u ∈ flatLines ms, u.oneCell' = true := by
  intro u hu
  unfold flatLines at hu
  obtain ⟨m, hm, hu⟩ := List.mem_flatMap.1 hu
  exact lineList_one (g := m.g) (h m hm) u hu

/-- What Add knows ahead of the insertion. -/
structure S21 (B ib gb nb lb tot M : Nat) (vL : Value) (ms : List ML) (nl : List (KE Id32)) (nc : Nat) (g : GLine) (ids : List Id32) (w : World) : Prop where
  grp : w.heap[gb]? = some (.cells #[vL, .map (some nb)] 115 (0, 0))
  num : MapAt ekI w nb nl nc
  lines : LinesAt B w vL ms
  line : LineVar w lb g
  idx : w.heap[ib]? = some (.cells #[.map (some M), .int .i64 tot] 104 (0, 0))
  vlb : vL.ownBlock ≠ some lb
  refs : IdsOwn 0 w g.refs ids
/-- The worlds between the reads and the store of region 21. -/
def Cls (gb lb : Nat) (vL : Value) (g : GLine) : Type := { w : World // w.cell? ⟨gb, 0, none⟩ = some vL ∧ LineVar w lb g }

theorem cells_ty {a b : Array Value} {s t : TypeId} {f f' : Nat × Nat} (h : some (Obj.cells a s f) = some (.cells b t f')) : s = t := by cases h; rfl
theorem S21.lts {B ib gb nb lb tot M : Nat} {vL : Value} {ms : List ML} {nl : List (KE Id32)} {nc : Nat} {g : GLine} {ids : List Id32} {w : World} (h : S21 B ib gb nb lb tot M vL ms nl nc g ids w) : gb < w.heap.size ∧ nb < w.heap.size ∧ lb < w.heap.size ∧ ib < w.heap.size :=
  ⟨(Array.getElem?_eq_some_iff.1 h.grp).1, h.num.lt, h.line.lt, (Array.getElem?_eq_some_iff.1 h.idx).1⟩
theorem S21.cls {B ib gb nb lb tot M : Nat} {vL : Value} {ms : List ML} {nl : List (KE Id32)} {nc : Nat} {g : GLine} {ids : List Id32} {w w' : World} (h : S21 B ib gb nb lb tot M vL ms nl nc g ids w) (hb : Below w.heap.size w w') : w'.cell? ⟨gb, 0, none⟩ = some vL ∧ LineVar w' lb g :=
  ⟨cell_of_row w' gb 0 _ _ _ ((hb.block gb h.lts.1).trans h.grp), h.line.below hb h.lts.2.2.1⟩
theorem S21.apart {B ib gb nb lb tot M : Nat} {vL : Value} {ms : List ML} {nl : List (KE Id32)} {nc : Nat} {g : GLine} {ids : List Id32} {w : World} (h : S21 B ib gb nb lb tot M vL ms nl nc g ids w) :
    vL.ownBlock ≠ some gb ∧ nb ≠ gb ∧ lb ≠ gb ∧ lb ≠ nb ∧ vL.ownBlock ≠ some nb ∧ vL.ownBlock ≠ some ib ∧ ib ≠ gb ∧ ib ≠ nb ∧ lb ≠ ib := by
  have hn := h.num
  have hl := h.line
  unfold MapAt at hn
  unfold LineVar at hl
  refine ⟨fun e => ?_, fun e => ?_, fun e => ?_, fun e => ?_, fun e => ?_, fun e => ?_, fun e => ?_, fun e => ?_, fun e => ?_⟩
  · obtain ⟨c, h1⟩ := ownsRow_typed h.lines.row e
    rw [h.grp] at h1; cases h1
  · rw [e, h.grp] at hn; cases hn
  · rw [e, h.grp] at hl; exact absurd (cells_ty hl) (by decide)
  · rw [e, hn] at hl; cases hl
  · obtain ⟨c, h1⟩ := ownsRow_typed h.lines.row e
    rw [hn] at h1; cases h1
  · obtain ⟨c, h1⟩ := ownsRow_typed h.lines.row e
    rw [h.idx] at h1; cases h1
  · have := h.idx; rw [e, h.grp] at this; cases this
  · have := h.idx; rw [e, hn] at this; cases this
  · rw [e, h.idx] at hl; exact absurd (cells_ty hl) (by decide)

/-- What Add leaves. -/
structure S24 (B ib gb nb tot M : Nat) (vL v' : Value) (ms' : List ML) (nl : List (KE Id32)) (nc : Nat) (w6 w' : World) : Prop where
  grp : w'.heap[gb]? = some (.cells #[v', .map (some nb)] 115 (0, 0))
  num : MapAt ekI w' nb nl nc
  lines : LinesAt B w' v' ms'
  idx : w'.heap[ib]? = some (.cells #[.map (some M), .int .i64 ((tot + 1 : Nat) : Int)] 104 (0, 0))
  own : v'.ownBlock = vL.ownBlock ∨ ∃ k, v'.ownBlock = some k ∧ w6.heap.size ≤ k
  kept : Kept (ib :: ([gb, nb] ++ vL.ownBlock.toList)) w6 w'
theorem IdsOwn.typed {B : Nat} {w : World} {v : Value} {ids : List Id32} (h : IdsOwn B w v ids) {k : Nat} (hk : v.ownBlock = some k) : ∃ cur, w.heap[k]? = some (.cells cur 23 (0, 0)) := ownsRow_typed h hk

/-- Where the group was there. -/
theorem added_old {B ib M mc : Nat} {gs : List MG} {s : ByteArray} {p : PLine} {w w6 w' : World} (h : IdxAt B w ib M gs mc) (hb : Below w.heap.size w w6) {G : MG} (hG : groupOf gs s = some G) {v' v : Value} (hv : ∀ k, v.ownBlock = some k → w.heap.size ≤ k) (hn : hasNum (linesIn gs s) p.number = false) (hi : hasId (linesIn gs s) p.id = false) (hp : pErr p = 0) (hfew : total gs < 65536)
    (hs : S24 B ib G.gb G.nb (total gs) M G.v v' (addMs G.ms (posN (nums (linesIn gs s)) p.number) ⟨p, v⟩) (G.nl ++ [⟨p.id, .int .i64 p.number, G.nc⟩]) (G.nc + 1) w6 w') : ∃ gs' mc', Added B ib M gs s p w w' gs' mc' := by
  obtain ⟨hGm, hGs⟩ := groupOf_mem hG
  have hms : linesIn gs s = G.ms := by unfold linesIn; rw [hG]
  have hgr := h.grps G hGm
  have hpos := between_pos (h.sorted s) p.number
  rw [hms] at hn hi hpos hs
  have hle : posN (nums G.ms) p.number ≤ G.ms.length := by have := hpos.2.1; rwa [nums_length] at this
  have hpure := hgr.pure.add (i := posN (nums G.ms) p.number) (m := ⟨p, v⟩) G.nc hpos hn (fun x hx e => by
    unfold hasId at hi
    rw [List.any_eq_false] at hi
    exact hi x hx (by simpa using e)) hp
  obtain ⟨G', hG'⟩ : ∃ G' : MG, G' = ⟨G.name, G.born, G.gb, G.nb, v', addMs G.ms (posN (nums G.ms) p.number) ⟨p, v⟩, G.nl ++ [⟨p.id, .int .i64 p.number, G.nc⟩], G.nc + 1⟩ := ⟨_, rfl⟩
  have hat : GrpAt B w' G' := by
    rw [hG']
    exact ⟨hs.grp, hs.lines, hs.num, hpure.agree, hpure.ids, hpure.sorted, hpure.good, hgr.named, by unfold addMs; simp, hgr.gbB, hgr.nbB⟩
  have ht := total_swapG (G' := G') h.names hG
  have hlen : G'.ms.length = G.ms.length + 1 := by rw [hG']; exact addMs_length hle
  have ht' : total (swapG gs s G') = total gs + 1 := by omega
  have hk : Kept (ib :: G.foot) w w' := by
    refine Kept.trans (F := ib :: G.foot) (F' := ib :: G.foot) (Kept.of_below hb) ?_ (fun k hk => .inl hk)
    exact hs.kept
  have := h.upd (w' := w') (G' := G') hG (by rw [hG']) (by rw [hG']) (by rw [hG']) (by rw [hG']) (by
      rw [hG']
      rcases hs.own with h1 | ⟨k, h1, h2⟩
      · exact .inl h1
      · exact .inr ⟨k, h1, by have := hb.size; omega⟩) hat (by rw [ht']; exact hs.idx) hk (by omega)
  refine ⟨_, mc, this.1, hk.mono fun k hk _ => ?_, this.2, ⟨v, hv, fun t => ?_⟩, ht'⟩
  · unfold foot
    rcases List.mem_cons.1 hk with rfl | hk
    · simp
    · exact List.mem_cons.2 (.inr (List.mem_cons.2 (.inr (List.mem_flatMap.2 ⟨G, hGm, hk⟩))))
  · rw [linesIn_swapG t hG (by rw [hG']; exact hGs), hms, hG']

/-- Where it was not. -/
theorem added_new {B ib M mc gb nb : Nat} {gs : List MG} {s : ByteArray} {p : PLine} {w w6 w' : World} (h : IdxAt B w ib M gs mc) (hG : groupOf gs s = none) {v' v : Value} (hv : ∀ k, v.ownBlock = some k → w.heap.size ≤ k) (hn : nameErr s = 0) (hp : pErr p = 0) (hfew : total gs < 65536)
    (hk6 : Kept [M] w w6) (hM6 : MapAt ekS w6 M (gs.map MG.e ++ [⟨s, .pointer (some ⟨gb, 0, none⟩), mc⟩]) (mc + 1)) (hgb : w.heap.size ≤ gb) (hnb : w.heap.size ≤ nb) (hgn : gb ≠ nb) (hgl : gb < w6.heap.size) (hnl : nb < w6.heap.size) (hib : ib ≠ M)
    (hs : S24 B ib gb nb (total gs) M (.slice none 0 0) v' (addMs [] (posN (nums (linesIn gs s)) p.number) ⟨p, v⟩) ([] ++ [⟨p.id, .int .i64 p.number, 0⟩]) (0 + 1) w6 w') : ∃ gs' mc', Added B ib M gs s p w w' gs' mc' := by
  have hms : linesIn gs s = [] := by unfold linesIn; rw [hG]
  have hB : B ≤ w.heap.size := by have := h.foot_lt ib (by simp [foot]); omega
  have hMl := h.map.lt
  rw [hms] at hs
  have hpure := GrpPure.nil.add (i := 0) (m := ⟨p, v⟩) 0 ⟨Nat.le_refl _, Nat.le_refl _, fun k h => absurd h (by simp [nums]), fun k h => absurd h (by simp [nums])⟩ rfl (fun x hx => by cases hx) hp
  obtain ⟨G', hG'⟩ : ∃ G' : MG, G' = ⟨s, mc, gb, nb, v', addMs [] (posN (nums []) p.number) ⟨p, v⟩, [] ++ [⟨p.id, .int .i64 p.number, 0⟩], 0 + 1⟩ := ⟨_, rfl⟩
  have hat : GrpAt B w' G' := by
    rw [hG']
    exact ⟨hs.grp, hs.lines, hs.num, hpure.agree, hpure.ids, hpure.sorted, hpure.good, hn, by unfold addMs; simp, by simp; omega, by simp; omega⟩
  have hown : ∀ k, v'.ownBlock = some k → w6.heap.size ≤ k := by
    intro k hk
    rcases hs.own with h1 | ⟨k', h1, h2⟩
    · rw [h1] at hk; cases hk
    · rw [h1] at hk; cases hk; exact h2
  have hfoot : ∀ k ∈ G'.foot, w.heap.size ≤ k := by
    intro k hk
    rw [hG'] at hk
    unfold MG.foot at hk
    simp only [List.mem_append, List.mem_cons, List.mem_nil_iff, or_false, Option.mem_toList] at hk
    rcases hk with (rfl | rfl) | hk
    · exact hgb
    · exact hnb
    · have := hown k hk; have := hk6.size; omega
  have hnod : G'.foot.Nodup := by
    rw [hG']
    unfold MG.foot
    cases hv : v'.ownBlock with
    | none => simp [hgn]
    | some k =>
      have := hown k hv
      simp [hgn]
      omega
  have ht' : total (gs ++ [G']) = total gs + 1 := by rw [total_new, hG']; rfl
  have hk : Kept [ib, M] w w' := by
    refine Kept.trans (F := [ib, M]) (hk6.mono fun k hk _ => by simp at hk ⊢; exact .inr hk) hs.kept (fun k hk => ?_)
    simp only [Value.ownBlock, Option.toList_none, List.append_nil, List.mem_cons, List.mem_nil_iff, or_false] at hk
    rcases hk with rfl | rfl | rfl
    · simp
    · exact .inr hgb
    · exact .inr hnb
  have hM' : MapAt ekS w' M ((gs ++ [G']).map MG.e) (mc + 1) := by
    unfold MapAt at hM6 ⊢
    rw [hs.kept.block M (by have := hk6.size; omega) (by simp [Value.ownBlock]; exact ⟨fun e => hib e.symm, by omega, by omega⟩), hM6, hG']
    simp only [List.map_append]
    rfl
  have := h.new (w' := w') (G' := G') hG (by rw [hG']) (by rw [hG']) hfoot hnod hat (by rw [ht']; exact hs.idx) hM' hk (by omega)
  refine ⟨_, mc + 1, this.1, hk.mono fun k hk _ => ?_, this.2, ⟨v, hv, fun t => ?_⟩, ht'⟩
  · unfold foot
    simp only [List.mem_cons, List.mem_nil_iff, or_false] at hk
    rcases hk with rfl | rfl
    · simp
    · simp
  · rw [linesIn_new t hG (by rw [hG']), hms, hG']

set_option maxRecDepth 100000 in
set_option maxHeartbeats 8000000 in
theorem add_any (B ib M mc : Nat) (gs : List MG) (s : ByteArray) (p : PLine) (v0 : Value) (w : World) (hG : Gl w) (h : IdxAt B w ib M gs mc) (hs : s.size ≤ maxLen) (hO : LineOk w (ML.g ⟨p, v0⟩) p.ids) (hI : IdsOwn 0 w v0 p.ids) (hfew : total gs < 65536) :
    Calls Tryz.prog 32 #[.pointer (some ⟨ib, 0, none⟩), .string s, .agg (lineCells (ML.g ⟨p, v0⟩))] w fun r w' => AddPost B ib M gs s p w r w' := by
  obtain ⟨g, hg⟩ : ∃ g, g = ML.g ⟨p, v0⟩ := ⟨_, rfl⟩
  have hgn : g.number = p.number := by rw [hg]; rfl
  have hgi : g.id = p.id := by rw [hg]; rfl
  have hgr : g.refs = v0 := by rw [hg]; rfl
  have hge : lineErr g p.ids = pErr p := by rw [hg]; rfl
  have hgv : ∀ v, { g with refs := v } = ML.g ⟨p, v⟩ := fun v => by rw [hg]; rfl
  rw [← hg] at hO ⊢
  rw [← hgr] at hI
  have hb0 : Below w.heap.size w (w.alloc (.cells (lineCells g) 34)) := (Below.refl _ _).alloc (Nat.le_refl _) _
  have hL0 : LineVar (w.alloc (.cells (lineCells g) 34)) w.heap.size g := heap_alloc_new _ _
  have HL0 := Lib.hid hL0
  have HB0 := Lib.hid hb0
  have HX := Lib.hid h
  have HO := Lib.hid hO
  have HI := Lib.hid hI
  have HGV := Lib.hid hgv
  have HGN := Lib.hid hgn
  have HGI := Lib.hid hgi
  have HGE := Lib.hid hge
  clear hL0 hb0 h hO hI hgv hgn hgi hge hg hgr
  go_enter Tryz.func32, Tryz.ntmps32
  go_wp2_with fail
  refine (nameCheck_any s _ (hG.later HB0.out) hs).mono ?_
  rintro r w1 ⟨rfl, hb1⟩
  have hL1 : LineVar w1 w.heap.size g := HL0.out.below hb1 (by simp)
  have hB1 : Below w.heap.size w w1 := HB0.out.trans (hb1.mono (by simp))
  have hs1 : w.heap.size < w1.heap.size := hL1.lt
  by_cases hne : nameErr s = 0
  case neg =>
    have HA : Hid (addErr (linesIn gs s) s p = nameErr s) := Lib.hid (by unfold addErr; rw [if_pos hne])
    have HB1 := Lib.hid hB1
    clear hb1 hL1 hB1 HL0 HB0
    generalize nameErr s = e at hne HA ⊢
    have hbe : (e != 0) = true := by simpa using hne
    have hbe2 : (e == 0) = false := by simpa using hne
    go_wp2
    go_ret
    exact ⟨by rw [HA.out]; try rfl, .inl ⟨by rw [HA.out]; exact hne, HB1.out⟩⟩
  have HNE := Lib.hid hne
  rw [hne]
  obtain ⟨o1, d1⟩ := hL1.rd
  have HL1 := Lib.hid hL1
  have HB1 := Lib.hid hB1
  clear hb1 hL1 hB1 HL0 HB0
  go_wp2_with fail
  refine (lineCheck_any g p.ids w1 (HO.out.below HB1.out)).mono ?_
  rintro r w2 ⟨rfl, hb2⟩
  rw [HGE.out]
  have hL2 : LineVar w2 w.heap.size g := HL1.out.below hb2 hs1
  have hB2 : Below w.heap.size w w2 := HB1.out.trans (hb2.mono HB1.out.size)
  have hs2 : w.heap.size < w2.heap.size := hL2.lt
  clear o1 d1 hb2 HL1 HB1 hs1
  by_cases hpe : pErr p = 0
  case neg =>
    have HA : Hid (addErr (linesIn gs s) s p = pErr p) := Lib.hid (by unfold addErr; rw [if_neg (by simpa using HNE.out), if_pos hpe])
    have HB2 := Lib.hid hB2
    clear hL2 hB2
    clear hne
    generalize pErr p = e at hpe HA ⊢
    have hbe : (e != 0) = true := by simpa using hpe
    have hbe2 : (e == 0) = false := by simpa using hpe
    go_wp2
    go_ret
    exact ⟨by rw [HA.out]; try rfl, .inl ⟨by rw [HA.out]; exact hpe, HB2.out⟩⟩
  have HPE := Lib.hid hpe
  rw [hpe]
  clear hpe hne
  have hX2 := HX.out.below hB2
  have n2 : ∀ z : Later w2, z.1.cell? ⟨w.heap.size, 0, none⟩ = some (.int .i64 g.number) := fun z => z.cell ((hL2.cell 0).trans (lc0 g))
  have HL2 := Lib.hid hL2
  have HB2 := Lib.hid hB2
  have c1 : ∀ z : Later w2, Calls Tryz.prog 68 #[.pointer (some ⟨ib, 0, none⟩), .string s] z.1 fun r w' => r = .returned (valueOf gs s) ∧ ∃ z' : Later w2, w' = z'.1 := fun z => Later.call ((linesOf_any B ib M mc gs s z.1 (hX2.below z.2)).mono fun _ _ ⟨a, b⟩ => ⟨a, b ▸ Below.refl _ _⟩)
  have c2 : ∀ z : Later w2, Calls Tryz.prog 69 #[valueOf gs s, .int .i64 g.number] z.1 fun r w' => r = .returned (.tuple #[.int .i64 (posN (nums (linesIn gs s)) g.number), .bool (hasNum (linesIn gs s) g.number)]) ∧ ∃ z' : Later w2, w' = z'.1 := fun z => Later.call (search_at B _ _ _ z.1 ((hX2.below z.2).lines s) (hX2.len s) (hX2.sorted s))
  obtain ⟨va, vc, hval⟩ := valueOf_slice hX2 s
  have HVAL := Lib.hid hval
  have C1 := Lib.hid c1
  have C2 := Lib.hid c2
  clear c1 c2 hL2 hB2 hX2 hval
  rw [HVAL.out] at C1 C2
  obtain ⟨pos, hpos⟩ : ∃ i : Nat, i = posN (nums (linesIn gs s)) g.number := ⟨_, rfl⟩
  rw [← hpos] at C2
  have HPOS := Lib.hid hpos
  clear hpos
  generalize (linesIn gs s).length = len at C1 C2 HVAL
  go_wp2_with fail
  refine wp_region_ht 10 (fun w' => ∃ z : Later w2, w' = z.1) (by kernel_rfl) (by kernel_rfl) ⟨⟨_, (Below.refl _ _).drew⟩, rfl⟩ ?_
  simp only [List.take_succ_cons, List.take_zero, List.drop_succ_cons, List.drop_zero]
  repeat (go_big_quiet_step (first | (go_at_call 68; exact C1.out _) | (go_at_call 69; exact C2.out _)))
  refine wpQuiet_nil ?_
  rintro _ ⟨z, rfl⟩
  clear n2 C1 C2
  obtain ⟨w3, hb3⟩ := z
  simp only
  have hL3 : LineVar w3 w.heap.size g := HL2.out.below hb3 hs2
  have hB3 : Below w.heap.size w w3 := HB2.out.trans (hb3.mono HB2.out.size)
  have hs3 : w.heap.size < w3.heap.size := hL3.lt
  clear HL2 HB2 hs2 hb3
  obtain ⟨o3, d3⟩ := hL3.idAt
  have HF := Lib.hid (find_all B ib M mc gs s g.id w3 (HX.out.below hB3))
  have HL3 := Lib.hid hL3
  have HB3 := Lib.hid hB3
  have hft : fitsRow 38 (lineCells zeroLine) = true := fits_line rfl
  have hzs : ((lineCells zeroLine).size == 38) = true := by rw [lineCells_size]; rfl
  clear hL3 hB3
  go_wp2_with fail
  refine HF.out.mono ?_
  rintro r w4 ⟨hres, hb4⟩
  have hL4 : LineVar w4 w.heap.size g := HL3.out.below hb4 hs3
  have hB4 : Below w.heap.size w w4 := HB3.out.trans (hb4.mono HB3.out.size)
  have hs4 : w.heap.size < w4.heap.size := hL4.lt
  clear o3 d3 HF HL3 HB3 hb4 hs3
  have hfound : ∃ fl : GLine, refsOne fl ∧ r = .returned (.tuple #[.agg (lineCells fl), .bool (hasId (linesIn gs s) p.id)]) := by
    rcases hres with ⟨hno, rfl⟩ | ⟨m, hm, hid, v, rfl, hIv⟩
    · refine ⟨zeroLine, rfl, ?_⟩
      have : hasId (linesIn gs s) p.id = false := by
        unfold hasId
        rw [List.any_eq_false]
        intro m hm
        have := hno m hm
        rw [HGI.out] at this
        simpa using this
      rw [this]
    · refine ⟨{ m.g with refs := v }, hIv.one, ?_⟩
      have : hasId (linesIn gs s) p.id = true := by
        unfold hasId
        rw [List.any_eq_true]
        exact ⟨m, hm, by rw [← HGI.out]; simpa using hid⟩
      rw [this]
  obtain ⟨fl, hfl, rfl⟩ := hfound
  clear hres
  have hb5 : Below w4.heap.size w4 (w4.alloc (.cells (lineCells fl) 34)) := (Below.refl _ _).alloc (Nat.le_refl _) _
  have hL5 : LineVar (w4.alloc (.cells (lineCells fl) 34)) w.heap.size g := hL4.below hb5 hs4
  have hB5 : Below w.heap.size w (w4.alloc (.cells (lineCells fl) 34)) := hB4.trans (hb5.mono hB4.size)
  have hs5 : w.heap.size < (w4.alloc (.cells (lineCells fl) 34)).heap.size := hL5.lt
  have HL5 := Lib.hid hL5
  have HB5 := Lib.hid hB5
  have hft2 := fits_line (g := fl) hfl
  have hzs2 : ((lineCells fl).size == 38) = true := by rw [lineCells_size]; rfl
  clear hb5 hL5 hB5 hL4 hB4 hs4
  rw [HGN.out]
  go_upto_region 11 with (fail)
  generalize w4.alloc (.cells (lineCells fl) 34) = w5 at HL5 HB5 hs5 ⊢
  clear hft hzs hft2 hzs2
  by_cases hdup : (hasNum (linesIn gs s) p.number || hasId (linesIn gs s) p.id) = true
  · have HA : Hid (addErr (linesIn gs s) s p = 7) := Lib.hid (by unfold addErr; rw [if_neg (by simpa using HNE.out), if_neg (by simpa using HPE.out), if_pos hdup])
    generalize hasNum (linesIn gs s) p.number = b1 at hdup ⊢
    generalize hasId (linesIn gs s) p.id = b2 at hdup ⊢
    cases b1 with
    | true =>
      go_wp2
      go_ret
      exact ⟨by rw [HA.out]; try rfl, .inl ⟨by rw [HA.out]; decide, HB5.out⟩⟩
    | false =>
      obtain rfl : b2 = true := by simpa using hdup
      go_wp2
      go_ret
      exact ⟨by rw [HA.out]; try rfl, .inl ⟨by rw [HA.out]; decide, HB5.out⟩⟩
  have HA : Hid (addErr (linesIn gs s) s p = 0) := Lib.hid (by unfold addErr; rw [if_neg (by simpa using HNE.out), if_neg (by simpa using HPE.out), if_neg hdup])
  obtain ⟨hn1, hn2⟩ : hasNum (linesIn gs s) p.number = false ∧ hasId (linesIn gs s) p.id = false := by simpa using hdup
  have HN1 := Lib.hid hn1
  have HN2 := Lib.hid hn2
  rw [hn1, hn2]
  clear hdup hn1 hn2
  have hX5 := HX.out.below HB5.out
  have hc0 := hX5.cell0
  have hc1 := hX5.cell1
  have hlk := hX5.look s
  have hlim : ¬ (65536 : Int) ≤ (total gs : Int) := by omega
  have hlim2 : decide ((total gs : Int) ≥ 65536) = false := by simp; omega
  have hmn := fun (u : World) => run_eql_map_nil (P := Tryz.prog) u 102 9 112 (some M) Tryz.underlying102
  cases hgo : groupOf gs s with
  | some G =>
    rw [hgo] at hlk
    simp only [Option.map_some, Option.getD_some] at hlk
    obtain ⟨hGm, hGs⟩ := groupOf_mem hgo
    have hgr := hX5.grps G hGm
    have hms : linesIn gs s = G.ms := by unfold linesIn; rw [hgo]
    have HS : Hid (S21 B ib G.gb G.nb w.heap.size (total gs) M G.v G.ms G.nl G.nc g p.ids w5) := Lib.hid {
      grp := hgr.blk
      num := hgr.nums
      lines := hgr.lines
      line := HL5.out
      idx := hX5.blk
      vlb := fun e => by have := (World.ownsRow.lt (HX.out.grps G hGm).lines.row _ e).2; omega
      refs := HI.out.below HB5.out }
    have HWS : Hid (w.heap.size ≤ w5.heap.size) := Lib.hid HB5.out.size
    have HEND : Hid (∀ w' v' v, (∀ k, v.ownBlock = some k → w.heap.size ≤ k) → S24 B ib G.gb G.nb (total gs) M G.v v' (addMs G.ms pos ⟨p, v⟩) (G.nl ++ [⟨p.id, .int .i64 p.number, G.nc⟩]) (G.nc + 1) w5 w' → ∃ gs' mc', Added B ib M gs s p w w' gs' mc') := Lib.hid (fun w' v' v hv h24 => added_old HX.out HB5.out hgo hv HN1.out HN2.out HPE.out hfew (by rw [← HGN.out, ← HPOS.out]; rw [HGN.out]; exact h24))
    have HKEY : Hid (findK p.id G.nl 0 = none) := Lib.hid (hgr.find_no fun m hm e => by
      have := HN2.out
      unfold hasId at this
      rw [List.any_eq_false] at this
      exact this m (hms ▸ hm) (by simpa using e))
    have HPL : Hid (pos ≤ G.ms.length) := Lib.hid (by
      have := (between_pos (hX5.sorted s) g.number).2.1
      rw [nums_length, hms] at this
      rw [HPOS.out, hms]; exact this)
    have HLEN : Hid (G.ms.length ≤ 65536) := Lib.hid (by rw [← hms]; exact hX5.len s)
    have HBB : Hid (B ≤ w5.heap.size) := Lib.hid (by have := (hX5.foot_lt ib (by simp [foot])); omega)
    clear hX5 hgr hms hGm hGs
    generalize G.gb = gb at hlk HS HEND
    generalize G.nb = nb at HS HEND
    generalize G.v = vL at HS HEND
    generalize G.ms = ms at HS HEND HPL HLEN
    generalize G.nl = nl at HS HEND HKEY
    generalize G.nc = nc at HS HEND
    go_upto_region 21 with (fail)
    clear hgo hlk hc0 hc1 hlim hlim2 hmn HL5 HB5 HX HN1 HN2 HVAL HPOS hs5 G
    obtain ⟨vla, vln, vlc, hvl⟩ : ∃ a n c, vL = .slice a n c := by
      rcases HS.out.lines.head with ⟨e, _⟩ | ⟨_, cap, e, _⟩
      · exact ⟨_, _, _, e⟩
      · exact ⟨_, _, _, e⟩
    have HVL := Lib.hid hvl
    haveI : Nonempty (Cls gb w.heap.size vL g) := ⟨⟨w5, HS.out.cls (Below.refl _ _)⟩⟩
    have q1 : ∀ z : Cls gb w.heap.size vL g, z.1.cell? ⟨gb, 0, none⟩ = some (.slice vla vln vlc) := fun z => hvl ▸ z.2.1
    have q2 : ∀ z : Cls gb w.heap.size vL g, okCells z.1 ⟨w.heap.size, 0, none⟩ 38 = true := fun z => z.2.2.rd.1
    have q3 : ∀ z : Cls gb w.heap.size vL g, rdCells z.1 ⟨w.heap.size, 0, none⟩ 38 = lineCells g := fun z => z.2.2.rd.2
    clear hvl
    refine wp_region_mix0 [0, 1, 2, 3, 4, 5, 6] [7, 8, 9, 10, 11, 12] (fun w' => ∃ z : Cls gb w.heap.size vL g, w' = z.1) (by kernel_rfl) (by kernel_rfl) (by kernel_rfl) ⟨⟨_, HS.out.cls (Below.refl _ _).drew⟩, rfl⟩ ?_
    simp only [opsAt, List.map_cons, List.map_nil, Array.getD_eq_getD_getElem?, List.getElem?_toArray, List.getElem?_cons_zero, List.getElem?_cons_succ, Option.getD_some]
    repeat (go_big_quiet_step (fail))
    refine wpQuiet_nil ?_
    clear q1 q2 q3
    have hbd : Below w5.heap.size w5 w5.drew := (Below.refl _ _).drew
    generalize w5.drew = w7 at hbd ⊢
    refine wpR_cons true rfl (by kernel_rfl) ?_
    go_wp2_with fail
    refine (clone_any 0 g p.ids w7 (HS.out.refs.below hbd) (by have := refs_len HPE.out; omega)).mono ?_
    rintro r w8 ⟨v, rfl, hI8, hb8⟩
    have hone := hI8.one
    have hb8' : Below w5.heap.size w5 w8 := hbd.trans (hb8.mono hbd.size)
    have hc8 := HS.out.cls hb8'
    obtain ⟨g8, hg8⟩ : ∃ g8 : GLine, g8 = ML.g ⟨p, v⟩ := ⟨_, rfl⟩
    have hone8 : refsOne g8 := by rw [hg8]; exact hone
    rw [HGV.out v, ← hg8]
    have HG8 := Lib.hid hg8
    clear hg8
    have HI8 := Lib.hid (hI8.mono hbd.size)
    obtain ⟨i0, hi, hz0, hz1, hz2⟩ := info_parts Tryz.info_line
    go_wp2_with fail
    refine ⟨fun _ => ⟨⟨_, hc8⟩, rfl⟩, wpR_cons true rfl (by kernel_rfl) ?_⟩
    refine wpList_buildSlice rfl 107 34 1 _ rfl (lineCells g8) i0 _ Tryz.underlying107 hi hz0 (by rw [hz1]; decide) (by rw [hz1]; decide) (by rw [hz1]; simp only [List.map_toArray, List.map_cons, List.map_nil]; refine fill_one _ _ 38 (lineCells_size _) ?_; rw [Array.size_map, Array.size_range]) ?_
    obtain ⟨w9, hw9⟩ : ∃ w9, w9 = w8.alloc (.cells (lineCells g8) 34) := ⟨_, rfl⟩
    have hb89 : Below w8.heap.size w8 w9 := by rw [hw9]; exact (Below.refl _ _).alloc (Nat.le_refl _) _
    have hb9 : Below w5.heap.size w5 w9 := hb8'.trans (hb89.mono hb8'.size)
    have hn9 : w9.heap[w8.heap.size]? = some (.cells (lineCells g8) 34 (0, 0)) := by rw [hw9]; exact heap_alloc_new _ _
    have hL9 := HS.out.lines.below hb9
    have hIns : Calls Tryz.prog 73 #[.slice vla vln vlc, .int .i64 pos, .slice (some ⟨w8.heap.size, 0, none⟩) 1 1] w9 fun r w' => ∃ v', r = .returned v' ∧ w'.ownsRow B 34 38 v' (ms.length + 1) ((flatLines ms).take (pos * 38) ++ lineList g8 ++ (flatLines ms).drop (pos * 38)) ∧ w9.grownBy w' vL.ownBlock ∧ (v'.ownBlock = vL.ownBlock ∨ v'.ownBlock = some w9.heap.size) := by
      have := insert_any B vL ms.length pos w8.heap.size (flatLines ms) g8 w9 hone8 (flat_cells fun m hm => (hL9.refs m hm).one) hL9.row (by have := HBB.out; have := hb9.size; omega) HLEN.out HPL.out hn9 (fun e => by have := (World.ownsRow.lt HS.out.lines.row _ e).2; have := hb8'.size; omega)
      rw [HVL.out] at this ⊢
      exact this
    rw [← hw9]
    have HIns := Lib.hid hIns
    have HB9 := Lib.hid hb9
    have HI9 := Lib.hid (HI8.out.below hb89)
    have hc9 := HS.out.cls hb9
    clear hIns hb9 hb89 hw9 hL9 hn9 HI8 hI8 hb8 hb8' hc8 hbd
    go_wp2_with fail
    refine ⟨fun _ => ⟨⟨_, hc9⟩, rfl⟩, wpR_cons true rfl (by kernel_rfl) ?_⟩
    clear hc9
    go_wp2_with fail
    refine HIns.out.mono ?_
    rintro r w10 ⟨v', rfl, hown, hgrow, hat⟩
    have e10 : ∀ k, k < w5.heap.size → vL.ownBlock ≠ some k → w10.heap[k]? = w5.heap[k]? := fun k hk hv => (hgrow.block k (by have := HB9.out.size; omega) (fun e => hv e.symm)).trans (HB9.out.block k hk)
    obtain ⟨d1, d2, d3, d4, d5, d6, d7, d8, d9⟩ := HS.out.apart
    obtain ⟨l1, l2, l3, l4⟩ := HS.out.lts
    have hg10 := (e10 gb l1 d1).trans HS.out.grp
    have hc10 : w10.cell? ⟨gb, 0, none⟩ = some vL ∧ LineVar w10 w.heap.size g := ⟨cell_of_row w10 gb 0 _ _ _ hg10, (e10 _ l3 HS.out.vlb).trans HS.out.line⟩
    obtain ⟨va, vc, hv'⟩ : ∃ va vc, v' = .slice (some ⟨va, 0, none⟩) (ms.length + 1) vc := by
      rcases hown.2 with ⟨_, h0⟩ | ⟨g', cap', _, e, _⟩
      · omega
      · exact ⟨g', cap', e⟩
    go_wp2_with fail
    refine ⟨fun _ => ⟨⟨_, hc10⟩, rfl⟩, wpR_list [10, 11, 12] _ _ (by kernel_rfl) ?_⟩
    simp only [opsAt, List.map_cons, List.map_nil, Array.getD_eq_getD_getElem?, List.getElem?_toArray, List.getElem?_cons_zero, List.getElem?_cons_succ, Option.getD_some]
    have hcg := hc10.1
    rw [HVL.out] at hcg
    have hfg := frozen_of_row w10 gb 0 _ _ hg10
    obtain ⟨w11, hw11⟩ : ∃ w11, w11 = w10.setCell ⟨gb, 0, none⟩ v' := ⟨_, rfl⟩
    have hg11 : w11.heap[gb]? = some (.cells #[v', .map (some nb)] 115 (0, 0)) := by rw [hw11]; exact heap_setCell_same w10 gb 0 _ _ v' hg10
    have e11 : ∀ k, k ≠ gb → w11.heap[k]? = w10.heap[k]? := fun k hk => by rw [hw11]; exact heap_setCell_other w10 ⟨gb, 0, none⟩ k _ hk
    have hs11 : w11.heap.size = w10.heap.size := by rw [hw11]; simp [World.setCell]
    have ho11 : w11.os = w10.os ∧ w11.tape = w10.tape ∧ w11.output = w10.output := by rw [hw11]; exact ⟨rfl, rfl, rfl⟩
    have HOWN := Lib.hid hown
    have HGROW := Lib.hid hgrow
    have HAT := Lib.hid hat
    have HE10 := Lib.hid e10
    have HG11 := Lib.hid hg11
    have HE11 := Lib.hid e11
    have HO11 := Lib.hid ho11
    have HC10 := Lib.hid hc10
    have HV' := Lib.hid hv'
    have HW11 := Lib.hid hw11
    have HS11 := Lib.hid hs11
    clear hown hgrow hat e10 hg11 e11 ho11 hg10 hc10 hw11 hs11
    subst hv'
    go_wp2
    refine NoPanic.normal ?_
    go_upto_region 22 with (fail)
    rw [← HW11.out]
    clear hcg hfg HW11 HIns
    have hL11 : LineVar w11 w.heap.size g := (HE11.out _ d3).trans HC10.out.2
    have hN11 : MapAt ekI w11 nb nl nc := ((HE11.out _ d2).trans (HE10.out nb l2 d5)).trans HS.out.num
    have hL11s := hL11.lt
    have q1 : ∀ z : Later w11, z.1.cell? ⟨gb, 1, none⟩ = some (.map (some nb)) := fun z => z.cell (cell_of_row w11 gb 1 _ _ _ HG11.out)
    have q2 : ∀ z : Later w11, okCells z.1 ⟨w.heap.size, 1, none⟩ 32 = true := fun z => (hL11.below z.2 hL11s).idAt.1
    have q3 : ∀ z : Later w11, rdCells z.1 ⟨w.heap.size, 1, none⟩ 32 = (encId p.id).toArray := fun z => (hL11.below z.2 hL11s).idAt.2.trans (by rw [HGI.out])
    have q4 : ∀ z : Later w11, z.1.cell? ⟨w.heap.size, 0, none⟩ = some (.int .i64 p.number) := fun z => ((hL11.below z.2 hL11s).cell 0).trans ((lc0 g).trans (by rw [HGN.out]))
    have HN11 := Lib.hid hN11
    clear hN11 hL11 hL11s
    refine wp_region_mix0 [0, 1, 2, 3, 4, 5, 6, 7] [8] (fun w' => ∃ z : Later w11, w' = z.1) (by kernel_rfl) (by kernel_rfl) (by kernel_rfl) ⟨⟨_, (Below.refl _ _).drew⟩, rfl⟩ ?_
    simp only [opsAt, List.map_cons, List.map_nil, Array.getD_eq_getD_getElem?, List.getElem?_toArray, List.getElem?_cons_zero, List.getElem?_cons_succ, Option.getD_some]
    repeat (go_big_quiet_step (fail))
    refine wpQuiet_nil ?_
    clear q1 q2 q3 q4
    have hup : (Instr.mapUpdate 113 (.map (some nb)) (.agg (encId p.id).toArray) (.int .i64 p.number)).run Tryz.prog w11.drew = .ok () (w11.drew.putObj nb (.map ((nl ++ [(⟨p.id, .int .i64 p.number, nc⟩ : KE Id32)]).map (enE ekI)).toArray (nc + 1))) :=
      put_new keyI Tryz.underlying113 w11.drew nb nl nc HN11.out p.id _ HKEY.out
    obtain ⟨w12, hw12⟩ : ∃ w12, w12 = w11.drew.putObj nb (.map ((nl ++ [(⟨p.id, .int .i64 p.number, nc⟩ : KE Id32)]).map (enE ekI)).toArray (nc + 1)) := ⟨_, rfl⟩
    have e12 : ∀ k, k ≠ nb → w12.heap[k]? = w11.heap[k]? := fun k hk => by rw [hw12, World.putObj_heap_other hk]; rfl
    have hs12 : w12.heap.size = w11.heap.size := by rw [hw12]; simp only [World.putObj, Array.size_setIfInBounds]; rfl
    have hN12 : MapAt ekI w12 nb (nl ++ [⟨p.id, .int .i64 p.number, nc⟩]) (nc + 1) := by rw [hw12]; exact MapAt.put (w := w11.drew) HN11.out
    have ho12 : w12.os = w11.os ∧ w12.tape = w11.tape ∧ w12.output = w11.output := by rw [hw12]; exact ⟨rfl, rfl, rfl⟩
    rw [← hw12] at hup
    have HE12 := Lib.hid e12
    have HS12 := Lib.hid hs12
    have HN12 := Lib.hid hN12
    have HO12 := Lib.hid ho12
    have hI12 := (e12 ib d8).trans ((HE11.out ib d7).trans ((HE10.out ib l4 d6).trans HS.out.idx))
    have HI12 := Lib.hid hI12
    clear hw12 e12 hs12 hN12 ho12 hI12
    refine wpR_list [8] _ _ (by kernel_rfl) ?_
    simp only [opsAt, List.map_cons, List.map_nil, Array.getD_eq_getD_getElem?, List.getElem?_toArray, List.getElem?_cons_zero, List.getElem?_cons_succ, Option.getD_some]
    go_wp2
    refine NoPanic.normal ?_
    have hci := cell_of_row w12 ib 1 _ _ _ HI12.out
    have hfi := frozen_of_row w12 ib 1 _ _ HI12.out
    clear hup
    go_wp2
    obtain ⟨w13, hw13⟩ : ∃ w13, w13 = w12.setCell ⟨ib, 1, none⟩ (.int .i64 ((total gs : Int) + 1)) := ⟨_, rfl⟩
    have hI13 : w13.heap[ib]? = some (.cells #[.map (some M), .int .i64 ((total gs + 1 : Nat) : Int)] 104 (0, 0)) := by
      rw [hw13]
      have := heap_setCell_same w12 ib 1 _ _ (.int .i64 ((total gs : Int) + 1)) HI12.out
      rw [this]
      rfl
    have e13 : ∀ k, k ≠ ib → w13.heap[k]? = w12.heap[k]? := fun k hk => by rw [hw13]; exact heap_setCell_other w12 ⟨ib, 1, none⟩ k _ hk
    have hs13 : w13.heap.size = w12.heap.size := by rw [hw13]; simp [World.setCell]
    have ho13 : w13.os = w12.os ∧ w13.tape = w12.tape ∧ w13.output = w12.output := by rw [hw13]; exact ⟨rfl, rfl, rfl⟩
    rw [← hw13]
    have eAll : ∀ k, k ≠ ib → k ≠ gb → k ≠ nb → w13.heap[k]? = w10.heap[k]? := fun k k1 k2 k3 => (e13 k k1).trans ((HE12.out k k3).trans (HE11.out k k2))
    have h24 : S24 B ib gb nb (total gs) M vL (.slice (some ⟨va, 0, none⟩) (ms.length + 1) vc) (addMs ms pos ⟨p, v⟩) (nl ++ [⟨p.id, .int .i64 p.number, nc⟩]) (nc + 1) w5 w13 := by
      have hid : ∀ {k : Nat} {cur : Array Value}, w10.heap[k]? = some (Obj.cells cur 23 (0, 0)) → w13.heap[k]? = w10.heap[k]? := fun {k cur} hk => eAll k
        (fun e => by rw [e, HE10.out ib l4 d6, HS.out.idx] at hk; cases hk) (fun e => by rw [e, HE10.out gb l1 d1, HS.out.grp] at hk; cases hk)
        (fun e => by have h1 := HS.out.num; unfold MapAt at h1; rw [e, HE10.out nb l2 d5, h1] at hk; cases hk)
      refine ⟨(e13 gb (fun e => d7 e.symm)).trans ((HE12.out gb (fun e => d2 e.symm)).trans HG11.out), (e13 nb (fun e => d8 e.symm)).trans HN12.out, ⟨?_, ?_⟩, hI13, ?_, ?_⟩
      · have h1 := HOWN.out
        rw [HG8.out, ← flat_add, ← addMs_length HPL.out] at h1
        have h2 : (addMs ms pos ⟨p, v⟩).length = ms.length + 1 := addMs_length HPL.out
        rw [← h2]
        rw [h2] at h1 ⊢
        refine ⟨h1.1, ?_⟩
        rcases h1.2 with h0 | ⟨g', cap', cur, e, hg, hcur, hx⟩
        · exact .inl h0
        · refine .inr ⟨g', cap', cur, e, hg, (eAll g' (fun e => ?_) (fun e => ?_) (fun e => ?_)).trans hcur, hx⟩
          · rw [e, HE10.out ib l4 d6, HS.out.idx] at hcur; cases hcur
          · rw [e, HE10.out gb l1 d1, HS.out.grp] at hcur; cases hcur
          · have h3 := HS.out.num; unfold MapAt at h3; rw [e, HE10.out nb l2 d5, h3] at hcur; cases hcur
      · intro m hm
        rcases addMs_mem.1 hm with rfl | hm
        · have h1 := HI9.out
          refine (h1.mono (B' := B) HBB.out).block fun k hk => ?_
          obtain ⟨cur, h2⟩ := h1.typed hk
          have h3 : w10.heap[k]? = w9.heap[k]? := HGROW.out.block k (h1.lt hk).2 (fun e => by
            have h4 := (h1.lt hk).1
            have h5 := (World.ownsRow.lt HS.out.lines.row k e.symm).2
            omega)
          rw [hid (h3.trans h2), h3]
        · have h1 := HS.out.lines.refs m hm
          refine h1.block fun k hk => ?_
          obtain ⟨cur, h2⟩ := h1.typed hk
          have h3 : w10.heap[k]? = w5.heap[k]? := HE10.out k (h1.lt hk).2 (fun e => by
            obtain ⟨c3, h4⟩ := ownsRow_typed HS.out.lines.row e
            rw [h4] at h2; cases h2)
          rw [hid (h3.trans h2), h3]
      · rcases HAT.out with h1 | h1
        · exact .inl h1
        · exact .inr ⟨_, h1, HB9.out.size⟩
      · refine ⟨?_, ?_, ?_, ?_, fun k hk hn => ?_⟩
        · exact ho13.1.trans (HO12.out.1.trans (HO11.out.1.trans (HGROW.out.os.trans HB9.out.os)))
        · exact ho13.2.1.trans (HO12.out.2.1.trans (HO11.out.2.1.trans (HGROW.out.tape.trans HB9.out.tape)))
        · exact ho13.2.2.trans (HO12.out.2.2.trans (HO11.out.2.2.trans (HGROW.out.output.trans HB9.out.output)))
        · have h1 := HS12.out
          have h2 := HS11.out
          have h3 := HGROW.out.size
          have h4 := HB9.out.size
          omega
        · simp only [List.mem_cons, List.mem_append, List.mem_nil_iff, or_false, Option.mem_toList, not_or] at hn
          exact (eAll k hn.1 hn.2.1.1 hn.2.1.2).trans (HE10.out k hk hn.2.2)
    clear hw13 hI13 e13 hs13 ho13 eAll hci hfi
    go_ret
    exact ⟨by rw [HA.out]; try rfl, .inr ⟨HA.out, HEND.out _ _ v (fun k hk => Nat.le_trans HWS.out (HI9.out.lt hk).1) h24⟩⟩
  | none =>
    rw [hgo] at hlk
    simp only [Option.map_none, Option.getD_none] at hlk
    have hms : linesIn gs s = [] := by unfold linesIn; rw [hgo]
    have hMl := hX5.map.lt
    have hIl := (Array.getElem?_eq_some_iff.1 hX5.blk).1
    have hMw := HX.out.map.lt
    have hIw := (Array.getElem?_eq_some_iff.1 HX.out.blk).1
    have hib : ib ≠ M := (apart_iff.1 HX.out.apart).1
    have hmm := @run_makeMap Tryz.prog
    obtain ⟨W, hW⟩ : ∃ W, W = (w5.alloc (.map #[] 0)).alloc (.cells #[.slice none 0 0, .map (some w5.heap.size)] 115) := ⟨_, rfl⟩
    have hWM : MapAt ekS W M (gs.map MG.e) mc := by
      unfold MapAt
      rw [hW, heap_alloc_old _ _ (by simp; omega), heap_alloc_old _ _ hMl]
      exact hX5.map
    have hfk : findK s (gs.map MG.e) 0 = none := findK_none fun e he => by
      obtain ⟨G, hG, rfl⟩ := List.mem_map.1 he
      exact groupOf_none hgo G hG
    obtain ⟨arr, harr⟩ : ∃ arr : Value → Array MapEntry, ∀ v, arr v = ((gs.map MG.e ++ [(⟨s, v, mc⟩ : KE ByteArray)]).map (enE ekS)).toArray := ⟨_, fun _ => rfl⟩
    have hup : ∀ v, (Instr.mapUpdate 102 (.map (some M)) (.string s) v).run Tryz.prog ((w5.alloc (.map #[] 0)).alloc (.cells #[.slice none 0 0, .map (some w5.heap.size)] 115)) = .ok () (((w5.alloc (.map #[] 0)).alloc (.cells #[.slice none 0 0, .map (some w5.heap.size)] 115)).putObj M (.map (arr v) (mc + 1))) := fun v => by
      rw [← hW, harr]
      exact put_new keyS Tryz.underlying102 W M (gs.map MG.e) mc hWM s v hfk
    have hc6 : ((w5.alloc (.map #[] 0)).alloc (.cells #[.slice none 0 0, .map (some w5.heap.size)] 115)).cell? ⟨ib, 0, none⟩ = some (.map (some M)) := Lib.cell?_alloc_some _ (Lib.cell?_alloc_some _ hc0)
    have HX5 := Lib.hid hX5
    have HWM := Lib.hid hWM
    have HARR := Lib.hid harr
    clear hX5 hWM harr
    go_upto_region 21 with (fail)
    obtain ⟨gb, hgb⟩ : ∃ gb, gb = w5.heap.size + 1 := ⟨_, rfl⟩
    obtain ⟨nb, hnb⟩ : ∃ nb, nb = w5.heap.size := ⟨_, rfl⟩
    obtain ⟨w6, hw6⟩ : ∃ w6, w6 = ((w5.alloc (.map #[] 0)).alloc (.cells #[.slice none 0 0, .map (some w5.heap.size)] 115)).putObj M (.map (arr (.pointer (some ⟨w5.heap.size + 1, 0, none⟩))) (mc + 1)) := ⟨_, rfl⟩
    have hs6 : w6.heap.size = w5.heap.size + 2 := by rw [hw6]; simp [World.putObj]
    have blk6 : ∀ k, k < w5.heap.size → k ≠ M → w6.heap[k]? = w5.heap[k]? := fun k hk hkM => by
      rw [hw6, World.putObj_heap_other hkM, heap_alloc_old _ _ (by simp; omega), heap_alloc_old _ _ hk]
    have hM6 : MapAt ekS w6 M (gs.map MG.e ++ [⟨s, .pointer (some ⟨gb, 0, none⟩), mc⟩]) (mc + 1) := by
      rw [hw6, hgb, ← hW, HARR.out]
      exact HWM.out.put
    have hg6 : w6.heap[gb]? = some (.cells #[.slice none 0 0, .map (some nb)] 115 (0, 0)) := by
      rw [hw6, World.putObj_heap_other (by omega), hgb, hnb]
      have := heap_alloc_new (w5.alloc (.map #[] 0)) (.cells #[.slice none 0 0, .map (some w5.heap.size)] 115)
      simpa using this
    have hn6 : MapAt ekI w6 nb [] 0 := by
      unfold MapAt
      rw [hw6, World.putObj_heap_other (by omega), heap_alloc_old _ _ (by simp; omega), hnb, heap_alloc_new]
      rfl
    have hk6 : Kept [M] w w6 := by
      have h1 := HB5.out
      refine ⟨?_, ?_, ?_, by have := h1.size; omega, fun k hk hkM => (blk6 k (by have := h1.size; omega) (by simpa using hkM)).trans (h1.block k hk)⟩
      · rw [hw6]; exact h1.os
      · rw [hw6]; exact h1.tape
      · rw [hw6]; exact h1.output
    have HS : Hid (S21 B ib gb nb w.heap.size (total gs) M (.slice none 0 0) [] [] 0 g p.ids w6) := Lib.hid {
      grp := hg6
      num := hn6
      lines := ⟨World.ownsRow_nil _ _ _ _, fun m hm => by cases hm⟩
      line := (blk6 _ hs5 (by omega)).trans HL5.out
      idx := (blk6 _ hIl hib).trans HX5.out.blk
      vlb := by simp [Value.ownBlock]
      refs := (HI.out.below HB5.out).block fun k hk => by
        have h1 := HI.out.below HB5.out
        obtain ⟨cur, h2⟩ := h1.typed hk
        refine blk6 k (h1.lt hk).2 ?_
        rintro rfl
        have h3 := HX5.out.map
        unfold MapAt at h3
        rw [h3] at h2
        cases h2 }
    have hsz := HB5.out.size
    obtain ⟨nl, hnlz⟩ : ∃ nl : List (KE Id32), nl = [] := ⟨_, rfl⟩
    have HWS : Hid (w.heap.size ≤ w6.heap.size) := Lib.hid hk6.size
    have HEND : Hid (∀ w' v' v, (∀ k, v.ownBlock = some k → w.heap.size ≤ k) → S24 B ib gb nb (total gs) M (.slice none 0 0) v' (addMs [] pos ⟨p, v⟩) (nl ++ [⟨p.id, .int .i64 p.number, 0⟩]) (0 + 1) w6 w' → ∃ gs' mc', Added B ib M gs s p w w' gs' mc') := by
      rw [hnlz]
      exact Lib.hid (fun w' v' v hv h24 => added_new (nb := nb) HX.out hgo hv HNE.out HPE.out hfew hk6 hM6 (by omega) (by omega) (by omega) (by omega) (by omega) hib (by rw [← HGN.out, ← HPOS.out]; rw [HGN.out]; exact h24))
    have HKEY : Hid (findK p.id [] 0 = none) := Lib.hid rfl
    have HPL : Hid (pos ≤ ([] : List ML).length) := Lib.hid (by
      have := (between_pos (HX5.out.sorted s) g.number).2.1
      rw [nums_length, hms] at this
      rw [HPOS.out, hms]; exact this)
    have HLEN : Hid (([] : List ML).length ≤ 65536) := Lib.hid (by simp)
    have HBB : Hid (B ≤ w6.heap.size) := Lib.hid (by have := (HX5.out.foot_lt ib (by simp [foot])); omega)
    rw [← hw6, ← hgb, ← hnb]
    clear hw6 hgb hnb hs6 blk6 hM6 hg6 hn6 hk6 hgo hlk hc0 hc1 hlim hlim2 hmn HL5 HB5 HX HX5 HN1 HN2 HVAL HPOS hs5 hsz hms hMl hIl hMw hIw hib hmm hW hfk hup hc6 HWM HARR
    clear W arr
    obtain ⟨vL, hvL⟩ : ∃ v : Value, v = .slice none 0 0 := ⟨_, rfl⟩
    rw [← hvL] at HS HEND
    clear hvL
    obtain ⟨ms, hmsz⟩ : ∃ ms : List ML, ms = [] := ⟨_, rfl⟩
    rw [← hmsz] at HS HEND HPL HLEN
    clear hmsz
    rw [← hnlz] at HS HKEY
    clear hnlz
    obtain ⟨nc, hncz⟩ : ∃ nc : Nat, nc = 0 := ⟨_, rfl⟩
    rw [← hncz] at HS HEND
    clear hncz
    obtain ⟨vla, vln, vlc, hvl⟩ : ∃ a n c, vL = .slice a n c := by
      rcases HS.out.lines.head with ⟨e, _⟩ | ⟨_, cap, e, _⟩
      · exact ⟨_, _, _, e⟩
      · exact ⟨_, _, _, e⟩
    have HVL := Lib.hid hvl
    haveI : Nonempty (Cls gb w.heap.size vL g) := ⟨⟨w6, HS.out.cls (Below.refl _ _)⟩⟩
    have q1 : ∀ z : Cls gb w.heap.size vL g, z.1.cell? ⟨gb, 0, none⟩ = some (.slice vla vln vlc) := fun z => hvl ▸ z.2.1
    have q2 : ∀ z : Cls gb w.heap.size vL g, okCells z.1 ⟨w.heap.size, 0, none⟩ 38 = true := fun z => z.2.2.rd.1
    have q3 : ∀ z : Cls gb w.heap.size vL g, rdCells z.1 ⟨w.heap.size, 0, none⟩ 38 = lineCells g := fun z => z.2.2.rd.2
    clear hvl
    refine wp_region_mix0 [0, 1, 2, 3, 4, 5, 6] [7, 8, 9, 10, 11, 12] (fun w' => ∃ z : Cls gb w.heap.size vL g, w' = z.1) (by kernel_rfl) (by kernel_rfl) (by kernel_rfl) ⟨⟨_, HS.out.cls (Below.refl _ _).drew⟩, rfl⟩ ?_
    simp only [opsAt, List.map_cons, List.map_nil, Array.getD_eq_getD_getElem?, List.getElem?_toArray, List.getElem?_cons_zero, List.getElem?_cons_succ, Option.getD_some]
    repeat (go_big_quiet_step (fail))
    refine wpQuiet_nil ?_
    clear q1 q2 q3
    have hbd : Below w6.heap.size w6 w6.drew := (Below.refl _ _).drew
    generalize w6.drew = w7 at hbd ⊢
    refine wpR_cons true rfl (by kernel_rfl) ?_
    go_wp2_with fail
    refine (clone_any 0 g p.ids w7 (HS.out.refs.below hbd) (by have := refs_len HPE.out; omega)).mono ?_
    rintro r w8 ⟨v, rfl, hI8, hb8⟩
    have hone := hI8.one
    have hb8' : Below w6.heap.size w6 w8 := hbd.trans (hb8.mono hbd.size)
    have hc8 := HS.out.cls hb8'
    obtain ⟨g8, hg8⟩ : ∃ g8 : GLine, g8 = ML.g ⟨p, v⟩ := ⟨_, rfl⟩
    have hone8 : refsOne g8 := by rw [hg8]; exact hone
    rw [HGV.out v, ← hg8]
    have HG8 := Lib.hid hg8
    clear hg8
    have HI8 := Lib.hid (hI8.mono hbd.size)
    obtain ⟨i0, hi, hz0, hz1, hz2⟩ := info_parts Tryz.info_line
    go_wp2_with fail
    refine ⟨fun _ => ⟨⟨_, hc8⟩, rfl⟩, wpR_cons true rfl (by kernel_rfl) ?_⟩
    refine wpList_buildSlice rfl 107 34 1 _ rfl (lineCells g8) i0 _ Tryz.underlying107 hi hz0 (by rw [hz1]; decide) (by rw [hz1]; decide) (by rw [hz1]; simp only [List.map_toArray, List.map_cons, List.map_nil]; refine fill_one _ _ 38 (lineCells_size _) ?_; rw [Array.size_map, Array.size_range]) ?_
    obtain ⟨w9, hw9⟩ : ∃ w9, w9 = w8.alloc (.cells (lineCells g8) 34) := ⟨_, rfl⟩
    have hb89 : Below w8.heap.size w8 w9 := by rw [hw9]; exact (Below.refl _ _).alloc (Nat.le_refl _) _
    have hb9 : Below w6.heap.size w6 w9 := hb8'.trans (hb89.mono hb8'.size)
    have hn9 : w9.heap[w8.heap.size]? = some (.cells (lineCells g8) 34 (0, 0)) := by rw [hw9]; exact heap_alloc_new _ _
    have hL9 := HS.out.lines.below hb9
    have hIns : Calls Tryz.prog 73 #[.slice vla vln vlc, .int .i64 pos, .slice (some ⟨w8.heap.size, 0, none⟩) 1 1] w9 fun r w' => ∃ v', r = .returned v' ∧ w'.ownsRow B 34 38 v' (ms.length + 1) ((flatLines ms).take (pos * 38) ++ lineList g8 ++ (flatLines ms).drop (pos * 38)) ∧ w9.grownBy w' vL.ownBlock ∧ (v'.ownBlock = vL.ownBlock ∨ v'.ownBlock = some w9.heap.size) := by
      have := insert_any B vL ms.length pos w8.heap.size (flatLines ms) g8 w9 hone8 (flat_cells fun m hm => (hL9.refs m hm).one) hL9.row (by have := HBB.out; have := hb9.size; omega) HLEN.out HPL.out hn9 (fun e => by have := (World.ownsRow.lt HS.out.lines.row _ e).2; have := hb8'.size; omega)
      rw [HVL.out] at this ⊢
      exact this
    rw [← hw9]
    have HIns := Lib.hid hIns
    have HB9 := Lib.hid hb9
    have HI9 := Lib.hid (HI8.out.below hb89)
    have hc9 := HS.out.cls hb9
    clear hIns hb9 hb89 hw9 hL9 hn9 HI8 hI8 hb8 hb8' hc8 hbd
    go_wp2_with fail
    refine ⟨fun _ => ⟨⟨_, hc9⟩, rfl⟩, wpR_cons true rfl (by kernel_rfl) ?_⟩
    clear hc9
    go_wp2_with fail
    refine HIns.out.mono ?_
    rintro r w10 ⟨v', rfl, hown, hgrow, hat⟩
    have e10 : ∀ k, k < w6.heap.size → vL.ownBlock ≠ some k → w10.heap[k]? = w6.heap[k]? := fun k hk hv => (hgrow.block k (by have := HB9.out.size; omega) (fun e => hv e.symm)).trans (HB9.out.block k hk)
    obtain ⟨d1, d2, d3, d4, d5, d6, d7, d8, d9⟩ := HS.out.apart
    obtain ⟨l1, l2, l3, l4⟩ := HS.out.lts
    have hg10 := (e10 gb l1 d1).trans HS.out.grp
    have hc10 : w10.cell? ⟨gb, 0, none⟩ = some vL ∧ LineVar w10 w.heap.size g := ⟨cell_of_row w10 gb 0 _ _ _ hg10, (e10 _ l3 HS.out.vlb).trans HS.out.line⟩
    obtain ⟨va, vc, hv'⟩ : ∃ va vc, v' = .slice (some ⟨va, 0, none⟩) (ms.length + 1) vc := by
      rcases hown.2 with ⟨_, h0⟩ | ⟨g', cap', _, e, _⟩
      · omega
      · exact ⟨g', cap', e⟩
    go_wp2_with fail
    refine ⟨fun _ => ⟨⟨_, hc10⟩, rfl⟩, wpR_list [10, 11, 12] _ _ (by kernel_rfl) ?_⟩
    simp only [opsAt, List.map_cons, List.map_nil, Array.getD_eq_getD_getElem?, List.getElem?_toArray, List.getElem?_cons_zero, List.getElem?_cons_succ, Option.getD_some]
    have hcg := hc10.1
    rw [HVL.out] at hcg
    have hfg := frozen_of_row w10 gb 0 _ _ hg10
    obtain ⟨w11, hw11⟩ : ∃ w11, w11 = w10.setCell ⟨gb, 0, none⟩ v' := ⟨_, rfl⟩
    have hg11 : w11.heap[gb]? = some (.cells #[v', .map (some nb)] 115 (0, 0)) := by rw [hw11]; exact heap_setCell_same w10 gb 0 _ _ v' hg10
    have e11 : ∀ k, k ≠ gb → w11.heap[k]? = w10.heap[k]? := fun k hk => by rw [hw11]; exact heap_setCell_other w10 ⟨gb, 0, none⟩ k _ hk
    have hs11 : w11.heap.size = w10.heap.size := by rw [hw11]; simp [World.setCell]
    have ho11 : w11.os = w10.os ∧ w11.tape = w10.tape ∧ w11.output = w10.output := by rw [hw11]; exact ⟨rfl, rfl, rfl⟩
    have HOWN := Lib.hid hown
    have HGROW := Lib.hid hgrow
    have HAT := Lib.hid hat
    have HE10 := Lib.hid e10
    have HG11 := Lib.hid hg11
    have HE11 := Lib.hid e11
    have HO11 := Lib.hid ho11
    have HC10 := Lib.hid hc10
    have HV' := Lib.hid hv'
    have HW11 := Lib.hid hw11
    have HS11 := Lib.hid hs11
    clear hown hgrow hat e10 hg11 e11 ho11 hg10 hc10 hw11 hs11
    subst hv'
    go_wp2
    refine NoPanic.normal ?_
    go_upto_region 22 with (fail)
    rw [← HW11.out]
    clear hcg hfg HW11 HIns
    have hL11 : LineVar w11 w.heap.size g := (HE11.out _ d3).trans HC10.out.2
    have hN11 : MapAt ekI w11 nb nl nc := ((HE11.out _ d2).trans (HE10.out nb l2 d5)).trans HS.out.num
    have hL11s := hL11.lt
    have q1 : ∀ z : Later w11, z.1.cell? ⟨gb, 1, none⟩ = some (.map (some nb)) := fun z => z.cell (cell_of_row w11 gb 1 _ _ _ HG11.out)
    have q2 : ∀ z : Later w11, okCells z.1 ⟨w.heap.size, 1, none⟩ 32 = true := fun z => (hL11.below z.2 hL11s).idAt.1
    have q3 : ∀ z : Later w11, rdCells z.1 ⟨w.heap.size, 1, none⟩ 32 = (encId p.id).toArray := fun z => (hL11.below z.2 hL11s).idAt.2.trans (by rw [HGI.out])
    have q4 : ∀ z : Later w11, z.1.cell? ⟨w.heap.size, 0, none⟩ = some (.int .i64 p.number) := fun z => ((hL11.below z.2 hL11s).cell 0).trans ((lc0 g).trans (by rw [HGN.out]))
    have HN11 := Lib.hid hN11
    clear hN11 hL11 hL11s
    refine wp_region_mix0 [0, 1, 2, 3, 4, 5, 6, 7] [8] (fun w' => ∃ z : Later w11, w' = z.1) (by kernel_rfl) (by kernel_rfl) (by kernel_rfl) ⟨⟨_, (Below.refl _ _).drew⟩, rfl⟩ ?_
    simp only [opsAt, List.map_cons, List.map_nil, Array.getD_eq_getD_getElem?, List.getElem?_toArray, List.getElem?_cons_zero, List.getElem?_cons_succ, Option.getD_some]
    repeat (go_big_quiet_step (fail))
    refine wpQuiet_nil ?_
    clear q1 q2 q3 q4
    have hup : (Instr.mapUpdate 113 (.map (some nb)) (.agg (encId p.id).toArray) (.int .i64 p.number)).run Tryz.prog w11.drew = .ok () (w11.drew.putObj nb (.map ((nl ++ [(⟨p.id, .int .i64 p.number, nc⟩ : KE Id32)]).map (enE ekI)).toArray (nc + 1))) :=
      put_new keyI Tryz.underlying113 w11.drew nb nl nc HN11.out p.id _ HKEY.out
    obtain ⟨w12, hw12⟩ : ∃ w12, w12 = w11.drew.putObj nb (.map ((nl ++ [(⟨p.id, .int .i64 p.number, nc⟩ : KE Id32)]).map (enE ekI)).toArray (nc + 1)) := ⟨_, rfl⟩
    have e12 : ∀ k, k ≠ nb → w12.heap[k]? = w11.heap[k]? := fun k hk => by rw [hw12, World.putObj_heap_other hk]; rfl
    have hs12 : w12.heap.size = w11.heap.size := by rw [hw12]; simp only [World.putObj, Array.size_setIfInBounds]; rfl
    have hN12 : MapAt ekI w12 nb (nl ++ [⟨p.id, .int .i64 p.number, nc⟩]) (nc + 1) := by rw [hw12]; exact MapAt.put (w := w11.drew) HN11.out
    have ho12 : w12.os = w11.os ∧ w12.tape = w11.tape ∧ w12.output = w11.output := by rw [hw12]; exact ⟨rfl, rfl, rfl⟩
    rw [← hw12] at hup
    have HE12 := Lib.hid e12
    have HS12 := Lib.hid hs12
    have HN12 := Lib.hid hN12
    have HO12 := Lib.hid ho12
    have hI12 := (e12 ib d8).trans ((HE11.out ib d7).trans ((HE10.out ib l4 d6).trans HS.out.idx))
    have HI12 := Lib.hid hI12
    clear hw12 e12 hs12 hN12 ho12 hI12
    refine wpR_list [8] _ _ (by kernel_rfl) ?_
    simp only [opsAt, List.map_cons, List.map_nil, Array.getD_eq_getD_getElem?, List.getElem?_toArray, List.getElem?_cons_zero, List.getElem?_cons_succ, Option.getD_some]
    go_wp2
    refine NoPanic.normal ?_
    have hci := cell_of_row w12 ib 1 _ _ _ HI12.out
    have hfi := frozen_of_row w12 ib 1 _ _ HI12.out
    clear hup
    go_wp2
    obtain ⟨w13, hw13⟩ : ∃ w13, w13 = w12.setCell ⟨ib, 1, none⟩ (.int .i64 ((total gs : Int) + 1)) := ⟨_, rfl⟩
    have hI13 : w13.heap[ib]? = some (.cells #[.map (some M), .int .i64 ((total gs + 1 : Nat) : Int)] 104 (0, 0)) := by
      rw [hw13]
      have := heap_setCell_same w12 ib 1 _ _ (.int .i64 ((total gs : Int) + 1)) HI12.out
      rw [this]
      rfl
    have e13 : ∀ k, k ≠ ib → w13.heap[k]? = w12.heap[k]? := fun k hk => by rw [hw13]; exact heap_setCell_other w12 ⟨ib, 1, none⟩ k _ hk
    have hs13 : w13.heap.size = w12.heap.size := by rw [hw13]; simp [World.setCell]
    have ho13 : w13.os = w12.os ∧ w13.tape = w12.tape ∧ w13.output = w12.output := by rw [hw13]; exact ⟨rfl, rfl, rfl⟩
    rw [← hw13]
    have eAll : ∀ k, k ≠ ib → k ≠ gb → k ≠ nb → w13.heap[k]? = w10.heap[k]? := fun k k1 k2 k3 => (e13 k k1).trans ((HE12.out k k3).trans (HE11.out k k2))
    have h24 : S24 B ib gb nb (total gs) M vL (.slice (some ⟨va, 0, none⟩) (ms.length + 1) vc) (addMs ms pos ⟨p, v⟩) (nl ++ [⟨p.id, .int .i64 p.number, nc⟩]) (nc + 1) w6 w13 := by
      have hid : ∀ {k : Nat} {cur : Array Value}, w10.heap[k]? = some (Obj.cells cur 23 (0, 0)) → w13.heap[k]? = w10.heap[k]? := fun {k cur} hk => eAll k
        (fun e => by rw [e, HE10.out ib l4 d6, HS.out.idx] at hk; cases hk) (fun e => by rw [e, HE10.out gb l1 d1, HS.out.grp] at hk; cases hk)
        (fun e => by have h1 := HS.out.num; unfold MapAt at h1; rw [e, HE10.out nb l2 d5, h1] at hk; cases hk)
      refine ⟨(e13 gb (fun e => d7 e.symm)).trans ((HE12.out gb (fun e => d2 e.symm)).trans HG11.out), (e13 nb (fun e => d8 e.symm)).trans HN12.out, ⟨?_, ?_⟩, hI13, ?_, ?_⟩
      · have h1 := HOWN.out
        rw [HG8.out, ← flat_add, ← addMs_length HPL.out] at h1
        have h2 : (addMs ms pos ⟨p, v⟩).length = ms.length + 1 := addMs_length HPL.out
        rw [← h2]
        rw [h2] at h1 ⊢
        refine ⟨h1.1, ?_⟩
        rcases h1.2 with h0 | ⟨g', cap', cur, e, hg, hcur, hx⟩
        · exact .inl h0
        · refine .inr ⟨g', cap', cur, e, hg, (eAll g' (fun e => ?_) (fun e => ?_) (fun e => ?_)).trans hcur, hx⟩
          · rw [e, HE10.out ib l4 d6, HS.out.idx] at hcur; cases hcur
          · rw [e, HE10.out gb l1 d1, HS.out.grp] at hcur; cases hcur
          · have h3 := HS.out.num; unfold MapAt at h3; rw [e, HE10.out nb l2 d5, h3] at hcur; cases hcur
      · intro m hm
        rcases addMs_mem.1 hm with rfl | hm
        · have h1 := HI9.out
          refine (h1.mono (B' := B) HBB.out).block fun k hk => ?_
          obtain ⟨cur, h2⟩ := h1.typed hk
          have h3 : w10.heap[k]? = w9.heap[k]? := HGROW.out.block k (h1.lt hk).2 (fun e => by
            have h4 := (h1.lt hk).1
            have h5 := (World.ownsRow.lt HS.out.lines.row k e.symm).2
            omega)
          rw [hid (h3.trans h2), h3]
        · have h1 := HS.out.lines.refs m hm
          refine h1.block fun k hk => ?_
          obtain ⟨cur, h2⟩ := h1.typed hk
          have h3 : w10.heap[k]? = w6.heap[k]? := HE10.out k (h1.lt hk).2 (fun e => by
            obtain ⟨c3, h4⟩ := ownsRow_typed HS.out.lines.row e
            rw [h4] at h2; cases h2)
          rw [hid (h3.trans h2), h3]
      · rcases HAT.out with h1 | h1
        · exact .inl h1
        · exact .inr ⟨_, h1, HB9.out.size⟩
      · refine ⟨?_, ?_, ?_, ?_, fun k hk hn => ?_⟩
        · exact ho13.1.trans (HO12.out.1.trans (HO11.out.1.trans (HGROW.out.os.trans HB9.out.os)))
        · exact ho13.2.1.trans (HO12.out.2.1.trans (HO11.out.2.1.trans (HGROW.out.tape.trans HB9.out.tape)))
        · exact ho13.2.2.trans (HO12.out.2.2.trans (HO11.out.2.2.trans (HGROW.out.output.trans HB9.out.output)))
        · have h1 := HS12.out
          have h2 := HS11.out
          have h3 := HGROW.out.size
          have h4 := HB9.out.size
          omega
        · simp only [List.mem_cons, List.mem_append, List.mem_nil_iff, or_false, Option.mem_toList, not_or] at hn
          exact (eAll k hn.1 hn.2.1.1 hn.2.1.2).trans (HE10.out k hk hn.2.2)
    clear hw13 hI13 e13 hs13 ho13 eAll hci hfi
    go_ret
    exact ⟨by rw [HA.out]; try rfl, .inr ⟨HA.out, HEND.out _ _ v (fun k hk => Nat.le_trans HWS.out (HI9.out.lt hk).1) h24⟩⟩

end Go.Proofs.YtdjaphcelpchaaaGreatDoor

/- slices.Delete of one line. -/
namespace Go.Proofs.YtdjaphcelpchaaaGreatDoor
open Go Go.RowKit Go.Proofs

theorem zero_line (w : World) : (zeroValue 34).run Tryz.prog w = .ok (.agg (lineCells zeroLine)) w := by kernel_rfl
theorem zero_one : (Builtin.zeroCells (lineCells zeroLine) 1).toList = lineList zeroLine := by kernel_rfl
theorem run_clear_one (z : Value) (cs : List Value) (hv : ∀ w, (zeroValue 34).run Tryz.prog w = .ok z w) (hz : (Builtin.zeroCells z.cells 1).toList = cs) (hl : cs.length = 38) (h1 : ∀ u ∈ cs, u.oneCell' = true) (w : World) (ty : TypeId) (g o c : Nat) (cur : Array Value) (t : TypeId) (hg : w.heap[g]? = some (.cells cur t (0, 0))) (hfit : o + 38 ≤ cur.size) :
    (Builtin.clear_ #[107] ty #[.slice (some ⟨g, o, none⟩) 1 c]).run Tryz.prog w = .ok (.tuple #[]) (w.setRow g (cur.toList.take o ++ cs ++ cur.toList.drop (o + 38)).toArray) := by
  have hst := run_storeCells_at Tryz.prog g o t cs 0 cur w hg (by rw [hl]; simpa using hfit) h1
  rw [hl] at hst
  simp only [Nat.add_zero] at hst
  simp [Builtin.clear_, run_underlying Tryz.underlying107, hv, hz, hst]
theorem run_clear_line (w : World) (ty : TypeId) (g o c : Nat) (cur : Array Value) (t : TypeId) (hg : w.heap[g]? = some (.cells cur t (0, 0))) (hfit : o + 38 ≤ cur.size) :
    (Builtin.clear_ #[107] ty #[.slice (some ⟨g, o, none⟩) 1 c]).run Tryz.prog w = .ok (.tuple #[]) (w.setRow g (cur.toList.take o ++ lineList zeroLine ++ cur.toList.drop (o + 38)).toArray) :=
  run_clear_one (.agg (lineCells zeroLine)) (lineList zeroLine) zero_line zero_one (lineList_length _) (lineList_one rfl) w ty g o c cur t hg hfit

theorem wpList_clear_run {P : Program} (w : World) {ops : Array Oper} {rest : List Oper} {o : Oper} {a : Act} {Q : Exit → Act → World → Prop} (hgd : o.guard = none) (x : Operand) (t : TypeId)
    (ho : o.op = .call { callee := .builtin .clear, args := #[x], argTypes := #[t] }) (v : Value) (hx : a.eval x = v) {v' : Value} {w' : World}
    (hr : (Builtin.clear_ #[t] o.type #[v]).run P w = .ok v' w') (h : wpList P ops Q rest (a.put o.dst v') w') : wpList P ops Q (o :: rest) a w := by
  refine wpList_plain hgd fun K hK => ?_
  unfold Oper.wp execOp
  simp only [ho, resolve, invoke, builtin, Sem.run_bind, Sem.run_pure, Result.andThen_ok, List.map_toArray, List.map_cons, List.map_nil, hx, hr]
  exact hK _ _ h

set_option maxRecDepth 100000 in
set_option maxHeartbeats 4000000 in
theorem delete_one (B : Nat) (g cap n i : Nat) (xs : List Value) (w : World) (hxs : ∀ u ∈ xs, u.oneCell' = true) (hown : w.ownsRow B 34 38 (.slice (some ⟨g, 0, none⟩) n cap) n xs) (hn : n ≤ 65536) (hi : i < n) :
    Calls Tryz.prog 71 #[.slice (some ⟨g, 0, none⟩) n cap, .int .i64 i, .int .i64 ((i : Int) + 1)] w fun r w' => r = .returned (.slice (some ⟨g, 0, none⟩) (n - 1) cap) ∧ w'.ownsRow B 34 38 (.slice (some ⟨g, 0, none⟩) (n - 1) cap) (n - 1) (xs.take (i * 38) ++ xs.drop ((i + 1) * 38)) ∧ w.grownBy w' (some g) := by
  obtain ⟨i0, hi0, hz0, hz1, hz2⟩ := info_parts Tryz.info_line
  rcases hown.2 with ⟨e, _⟩ | ⟨g', cap', cur, e, hBg, hcur, hle, hmx, hcs, htk⟩
  · cases e
  cases e
  have hxl := hown.1
  unfold maxLen at hmx
  have hk : n * 38 ≤ cap * 38 := Nat.mul_le_mul_right _ hle
  obtain ⟨news, hnews⟩ : ∃ news, news = xs.drop ((i + 1) * 38) := ⟨_, rfl⟩
  have hnl : news.length = (n - (i + 1)) * 38 := by rw [hnews, List.length_drop, hxl]; omega
  have hn1 : ∀ u ∈ news, u.oneCell' = true := fun u hu => hxs u (List.mem_of_mem_drop (hnews ▸ hu))
  obtain ⟨A, hA, hsrc⟩ : ∃ A : Addr, (if cap = i + 1 then (⟨g, 0, none⟩ : Addr) else ⟨g, (i + 1) * 38, none⟩) = A ∧ ∀ t u, news[t]? = some u → w.drew.cell? (A.add t) = some u := by
    by_cases h : cap = i + 1
    · refine ⟨⟨g, 0, none⟩, by simp [h], fun t u hu => ?_⟩
      have h0 : news.length = 0 := by rw [hnl]; omega
      rw [List.length_eq_zero_iff.1 h0] at hu
      simp at hu
    · refine ⟨⟨g, (i + 1) * 38, none⟩, by simp [h], fun t u hu => ?_⟩
      rw [hnews, List.getElem?_drop] at hu
      have h2 := World.ownsRow.cells hown (g := g) rfl ((i + 1) * 38 + t) u hu
      rw [Addr.add_lit, Nat.zero_add] at h2
      rw [Addr.add_lit, World.cell?_drew]
      exact h2
  obtain ⟨R1, hR1⟩ : ∃ R1 : List Value, R1 = cur.toList.take (i * 38) ++ news ++ cur.toList.drop (i * 38 + news.length) := ⟨_, rfl⟩
  have hR1l : R1.length = cap * 38 := by
    rw [hR1]
    simp only [List.length_append, List.length_take, List.length_drop, Array.length_toList, hcs, hnl]
    omega
  obtain ⟨W1, hW1⟩ : ∃ W1, W1 = w.drew.setRow g R1.toArray := ⟨_, rfl⟩
  obtain ⟨m, hm⟩ : ∃ m, m = n - 1 := ⟨_, rfl⟩
  have hap : ∀ ty sc, (Builtin.append_ #[107, 107] ty #[.slice (some ⟨g, 0, none⟩) i cap, .slice (some A) (n - (i + 1)) sc]).run Tryz.prog w.drew = .ok (.slice (some ⟨g, 0, none⟩) m cap) W1 := fun ty sc => by
    have h := run_append_room (P := Tryz.prog) w.drew 107 ty 34 i0 Tryz.underlying107 hi0 g i cap cur hcur A (n - (i + 1)) sc news (by rw [hz1]; exact hnl) hsrc hn1 (by omega) (by rw [hz1, hnl, hcs]; omega)
    rw [h, hW1, hR1, hz1, hm, show i + (n - (i + 1)) = n - 1 by omega]
  have hr1 : W1.heap[g]? = some (.cells R1.toArray 34 (0, 0)) := by rw [hW1]; exact setRow_heap w.drew g _ _ _ _ hcur
  have hg1 : w.grownBy W1 (some g) := by rw [hW1]; exact grown_trans (b := w.drew) ⟨rfl, rfl, rfl, Nat.le_refl _, fun _ _ _ => rfl⟩ (grown_row w.drew g _)
  obtain ⟨W2, hW2⟩ : ∃ W2, W2 = W1.setRow g (R1.take ((n - 1) * 38) ++ lineList zeroLine ++ R1.drop ((n - 1) * 38 + 38)).toArray := ⟨_, rfl⟩
  have hcl : ∀ ty sc, (Builtin.clear_ #[107] ty #[.slice (some ⟨g, (n - 1) * 38, none⟩) 1 sc]).run Tryz.prog W1 = .ok (.tuple #[]) W2 := fun ty sc => by
    rw [run_clear_line W1 ty g ((n - 1) * 38) sc _ _ hr1 (by rw [List.size_toArray, hR1l]; omega), hW2]
  have hr2 : W2.heap[g]? = some (.cells (R1.take ((n - 1) * 38) ++ lineList zeroLine ++ R1.drop ((n - 1) * 38 + 38)).toArray 34 (0, 0)) := by rw [hW2]; exact setRow_heap W1 g _ _ _ _ hr1
  have hg2 : w.grownBy W2 (some g) := by rw [hW2]; exact grown_trans hg1 (grown_row W1 g _)
  have hR1t : R1.take ((n - 1) * 38) = xs.take (i * 38) ++ xs.drop ((i + 1) * 38) := by
    have h1 : (cur.toList.take (i * 38)).length = i * 38 := by rw [List.length_take, Array.length_toList, hcs]; omega
    have h2 : xs.take (i * 38) = cur.toList.take (i * 38) := by rw [← htk, List.take_take, Nat.min_eq_left (by omega)]
    have h3 : (cur.toList.take (i * 38) ++ news).length = (n - 1) * 38 := by rw [List.length_append, h1, hnl]; omega
    rw [hR1, List.take_append_of_le_length (by rw [h3]; exact Nat.le_refl _), List.take_of_length_le (by rw [h3]; exact Nat.le_refl _), h2, hnews]
  have hfin : W2.ownsRow B 34 38 (.slice (some ⟨g, 0, none⟩) (n - 1) cap) (n - 1) (xs.take (i * 38) ++ xs.drop ((i + 1) * 38)) := by
    refine ⟨by rw [← hR1t, List.length_take, hR1l]; omega, .inr ⟨g, cap, _, rfl, hBg, hr2, by omega, by unfold maxLen; omega, ?_, ?_⟩⟩
    · simp only [List.size_toArray, List.length_append, List.length_take, List.length_drop, lineList_length, hR1l]; omega
    · have h4 : (R1.take ((n - 1) * 38)).length = (n - 1) * 38 := by rw [List.length_take, hR1l]; omega
      simp only [List.append_assoc]
      rw [List.take_append_of_le_length (by rw [h4]; exact Nat.le_refl _), List.take_of_length_le (by rw [h4]; exact Nat.le_refl _), hR1t]
  have HF := Lib.hid hfin
  have HG := Lib.hid hg2
  have hcl' : ∀ ty sc, (Builtin.clear_ #[107] ty #[.slice (some ⟨g, m * 38, none⟩) (n - m) sc]).run Tryz.prog W1 = .ok (.tuple #[]) W2 := fun ty sc => by
    rw [show n - m = 1 by omega, hm]
    exact hcl ty sc
  rw [← hm] at HF ⊢
  have hmz : (m : Int) ≤ (n : Int) := by omega
  have hmn : m ≤ n := by omega
  have hcm : ¬ cap = m := by omega
  clear hm
  have h1 : (i : Int) ≤ (i : Int) + 1 := by omega
  have h2 : (i : Int) + 1 ≤ (n : Int) := by omega
  have h3 : (n : Int) ≤ (cap : Int) := by omega
  have h4 : ((i : Int) == (i : Int) + 1) = false := by rw [beq_eq_false_iff_ne]; omega
  clear hfin hg2 hr2 hW2 hg1 hr1 hW1 hR1l hR1 hR1t hsrc hn1 hnl hnews hown hxs hxl hcs hcur htk hz0 hz1 hz2 hi0 hk hcl
  go_enter Tryz.func71, Tryz.ntmps71
  go_wp2_with fail
  refine wp_region_mix0 [0, 1, 2, 3, 4, 5] [6, 7] (fun w' => ∃ z : Later w, w' = z.1) (by kernel_rfl) (by kernel_rfl) (by kernel_rfl) ⟨⟨_, (Below.refl _ _).drew⟩, rfl⟩ ?_
  simp only [opsAt, List.map_cons, List.map_nil, Array.getD_eq_getD_getElem?, List.getElem?_toArray, List.getElem?_cons_zero, List.getElem?_cons_succ, Option.getD_some]
  by_cases hcj : cap = i + 1
  · rw [if_pos hcj] at hA
    subst hA
    subst hcj
    have hap0 := fun ty => hap ty 0
    rw [show n - (i + 1) = 0 by omega] at hap0
    clear hap
    repeat (go_big_quiet_step (fail))
    refine wpQuiet_nil ?_
    refine wpR_list [6, 7] _ _ (by kernel_rfl) ?_
    simp only [opsAt, List.map_cons, List.map_nil, Array.getD_eq_getD_getElem?, List.getElem?_toArray, List.getElem?_cons_zero, List.getElem?_cons_succ, Option.getD_some]
    go_wp2_with (at_builtin; refine Lib.wpList_append_run _ rfl _ _ _ _ rfl _ _ rfl rfl _ _ (hap0 _) ?_)
    refine NoPanic.normal ?_
    go_wp2_with (at_builtin; refine wpList_clear_run _ rfl (.tmp 31) 107 rfl _ rfl (hcl' _ _) ?_)
    go_ret
    exact ⟨rfl, HF.out, HG.out⟩
  · rw [if_neg hcj] at hA
    subst hA
    have hci : ¬ cap = i := by omega
    repeat (go_big_quiet_step (fail))
    refine wpQuiet_nil ?_
    refine wpR_list [6, 7] _ _ (by kernel_rfl) ?_
    simp only [opsAt, List.map_cons, List.map_nil, Array.getD_eq_getD_getElem?, List.getElem?_toArray, List.getElem?_cons_zero, List.getElem?_cons_succ, Option.getD_some]
    go_wp2_with (at_builtin; refine Lib.wpList_append_run _ rfl _ _ _ _ rfl _ _ rfl rfl _ _ (hap _ _) ?_)
    refine NoPanic.normal ?_
    go_wp2_with (at_builtin; refine wpList_clear_run _ rfl (.tmp 31) 107 rfl _ rfl (hcl' _ _) ?_)
    go_ret
    exact ⟨rfl, HF.out, HG.out⟩

end Go.Proofs.YtdjaphcelpchaaaGreatDoor

/- What Remove does to an index, with no program in sight. -/
namespace Go.Proofs.YtdjaphcelpchaaaGreatDoor
open Go Go.RowKit Go.Proofs

theorem perm_erase {α : Type} : ∀ {l : List α} {i : Nat} {x : α}, l[i]? = some x → l.Perm (x :: l.eraseIdx i)
  | a :: l, 0, x, h => by cases h; exact .refl _
  | a :: l, i + 1, x, h => by
    rw [List.eraseIdx_cons_succ]
    exact ((perm_erase (l := l) (i := i) (by simpa using h)).cons a).trans (List.Perm.swap x a _)
theorem mem_erase {α : Type} {l : List α} {i : Nat} {x : α} (h : x ∈ l.eraseIdx i) : x ∈ l := List.mem_of_mem_eraseIdx h
theorem flat_erase (ms : List ML) (i : Nat) : flatLines (ms.eraseIdx i) = (flatLines ms).take (i * 38) ++ (flatLines ms).drop ((i + 1) * 38) := by
  rw [flat_take, flat_drop, ← flat_append, List.eraseIdx_eq_take_drop_succ]

theorem GrpPure.del {ms : List ML} {nl : List (KE Id32)} (h : GrpPure ms nl) {i j b : Nat} {m : ML} (hi : ms[i]? = some m) (hj : nl[j]? = some ⟨m.p.id, .int .i64 m.p.number, b⟩) : GrpPure (ms.eraseIdx i) (nl.eraseIdx j) where
  agree := by
    have h1 := (perm_erase hj).map fun e => (e.k, e.v)
    have h2 := (perm_erase hi).map fun m => (m.p.id, Value.int .i64 m.p.number)
    rw [List.map_cons] at h1 h2
    exact (h1.symm.trans (h.agree.trans h2)).cons_inv
  ids := h.ids.sublist ((List.eraseIdx_sublist ms i).map _)
  sorted := h.sorted.sublist ((List.eraseIdx_sublist ms i).map _)
  good x hx := h.good x (mem_erase hx)

/-- The groups but that of a name. -/
def dropG (gs : List MG) (s : ByteArray) : List MG := gs.filter fun H => decide (H.name ≠ s)
theorem linesIn_dropG (gs : List MG) (s t : ByteArray) : linesIn (dropG gs s) t = if t = s then [] else linesIn gs t := by
  unfold linesIn groupOf dropG
  rw [List.find?_filter]
  by_cases h : t = s
  · rw [if_pos h]
    have : gs.find? (fun a => decide (decide (a.name ≠ s) = true ∧ decide (a.name = t) = true)) = none := by
      rw [List.find?_eq_none]
      intro G _ hG
      simp at hG
      exact hG.1 (hG.2.trans h)
    rw [this]
  · rw [if_neg h]
    have : (fun a : MG => decide (decide (a.name ≠ s) = true ∧ decide (a.name = t) = true)) = fun a => decide (a.name = t) := by
      funext a
      by_cases ha : a.name = t
      · have : a.name ≠ s := fun e => h (ha.symm.trans e)
        simp [ha, h]
      · simp [ha]
    rw [this]
theorem find_at (s : ByteArray) : ∀ {gs : List MG} {G : MG} (i : Nat), groupOf gs s = some G → (gs.map fun G => G.name).Nodup → ∃ j, findK s (gs.map MG.e) i = some (i + j, .pointer (some ⟨G.gb, 0, none⟩)) ∧ j < gs.length ∧ (gs.map MG.e).eraseIdx j = (dropG gs s).map MG.e
  | H :: gs, G, i, hg, hn => by
    unfold groupOf at hg
    rw [List.find?_cons] at hg
    rw [List.map_cons, List.nodup_cons] at hn
    rw [List.map_cons]
    unfold findK
    by_cases h : H.name = s
    · rw [decide_eq_true h] at hg
      cases hg
      have h2 : s = H.e.k := h.symm
      refine ⟨0, by rw [if_pos h2]; rfl, by simp, ?_⟩
      have : dropG (H :: gs) s = gs := by
        unfold dropG
        rw [List.filter_cons_of_neg (by simpa using h), List.filter_eq_self.2]
        intro K hK
        have : K.name ≠ s := fun e => hn.1 (h ▸ e ▸ List.mem_map.2 ⟨K, hK, rfl⟩)
        simpa using this
      rw [this]
      rfl
    · rw [decide_eq_false h] at hg
      have h2 : ¬ s = H.e.k := fun e => h e.symm
      obtain ⟨j, h3, h4, h5⟩ := find_at s (i + 1) hg hn.2
      refine ⟨j + 1, by rw [if_neg h2, h3]; congr 2; omega, by simpa using h4, ?_⟩
      have : dropG (H :: gs) s = H :: dropG gs s := by
        unfold dropG
        rw [List.filter_cons_of_pos (by simpa using h)]
      rw [this, List.eraseIdx_cons_succ, h5]
      rfl
theorem total_dropG : ∀ {gs : List MG} {s : ByteArray} {G : MG}, (gs.map fun G => G.name).Nodup → groupOf gs s = some G → total (dropG gs s) + G.ms.length = total gs
  | H :: gs, s, G, hn, hg => by
    unfold groupOf at hg
    rw [List.find?_cons] at hg
    rw [List.map_cons, List.nodup_cons] at hn
    by_cases h : H.name = s
    · rw [decide_eq_true h] at hg
      cases hg
      have : dropG (H :: gs) s = gs := by
        unfold dropG
        rw [List.filter_cons_of_neg (by simpa using h), List.filter_eq_self.2]
        intro K hK
        have : K.name ≠ s := fun e => hn.1 (h ▸ e ▸ List.mem_map.2 ⟨K, hK, rfl⟩)
        simpa using this
      rw [this]
      unfold total
      rw [List.map_cons, List.sum_cons]
      omega
    · rw [decide_eq_false h] at hg
      have ih := total_dropG hn.2 hg
      have : dropG (H :: gs) s = H :: dropG gs s := by
        unfold dropG
        rw [List.filter_cons_of_pos (by simpa using h)]
      rw [this]
      unfold total at *
      rw [List.map_cons, List.sum_cons, List.map_cons, List.sum_cons]
      omega

/-- A group taken away. -/
theorem IdxAt.cut {B : Nat} {w w' : World} {ib M mc : Nat} {gs : List MG} (h : IdxAt B w ib M gs mc) {s : ByteArray} {G : MG} (hG : groupOf gs s = some G)
    (hib : w'.heap[ib]? = some (.cells #[.map (some M), .int .i64 (total (dropG gs s))] 104 (0, 0))) (hM : MapAt ekS w' M ((dropG gs s).map MG.e) mc)
    (hk : Kept (ib :: M :: G.foot) w w') : IdxAt B w' ib M (dropG gs s) mc ∧ FootOk (foot ib M gs) (foot ib M (dropG gs s)) w := by
  obtain ⟨hGm, hGs⟩ := groupOf_mem hG
  obtain ⟨a1, a2, a3⟩ := apart_iff.1 h.apart
  have hsub : (dropG gs s).Sublist gs := List.filter_sublist
  have hmem : ∀ H ∈ dropG gs s, H ∈ gs ∧ H.name ≠ s := fun H hH => by
    unfold dropG at hH
    rw [List.mem_filter] at hH
    exact ⟨hH.1, by simpa using hH.2⟩
  have hap : ∀ H ∈ gs, H.name ≠ s → ∀ x ∈ H.foot, x ∉ G.foot := by
    intro H hH hHs x hx hxG
    have hpw : ∀ {l : List MG}, l.Pairwise (fun G H => ∀ x ∈ G.foot, ∀ y ∈ H.foot, x ≠ y) → ∀ A ∈ l, ∀ C ∈ l, A.name ≠ C.name → ∀ x ∈ A.foot, x ∉ C.foot := by
      intro l hl
      induction l with
      | nil => intro A hA; cases hA
      | cons D l ih =>
        rw [List.pairwise_cons] at hl
        intro A hA C hC hne x hxA hxC
        rcases List.mem_cons.1 hA with hA' | hA'
        · rcases List.mem_cons.1 hC with hC' | hC'
          · exact hne (by rw [hA', hC'])
          · exact hl.1 C hC' x (hA' ▸ hxA) x hxC rfl
        · rcases List.mem_cons.1 hC with hC' | hC'
          · exact hl.1 A hA' x (hC' ▸ hxC) x hxA rfl
          · exact ih hl.2 A hA' C hC' hne x hxA hxC
    exact hpw a3 H hH G hGm (by rw [hGs]; exact hHs) x hx hxG
  refine ⟨{ blk := hib, map := hM, names := h.names.sublist (hsub.map _), grps := ?_, apart := ?_, born := h.born.sublist (hsub.map _), young := fun H hH => h.young H (hmem H hH).1, few := ?_, ibB := h.ibB, MB := h.MB }, ?_⟩
  · intro H hH
    obtain ⟨hH, hHs⟩ := hmem H hH
    refine (h.grps H hH).keep (fun k hkf => hk.block k ((h.grps H hH).foot_lt k hkf).2 ?_) (fun m hm k hkm => ?_)
    · rw [List.mem_cons, List.mem_cons, not_or, not_or]
      exact ⟨fun e => (a2 H hH).1 (e ▸ hkf), fun e => (a2 H hH).2.1 (e ▸ hkf), hap H hH hHs k hkf⟩
    · obtain ⟨g1, g2⟩ := h.refs_out hH hm hkm
      refine hk.block k g1 fun hx => g2 ?_
      unfold foot
      rw [List.mem_cons, List.mem_cons] at hx ⊢
      rcases hx with hx | hx | hx
      · exact .inl hx
      · exact .inr (.inl hx)
      · exact .inr (.inr (List.mem_flatMap.2 ⟨G, hGm, hx⟩))
  · rw [apart_iff]
    exact ⟨a1, fun H hH => a2 H (hmem H hH).1, a3.sublist hsub⟩
  · have := total_dropG h.names hG
    have := h.few
    omega
  · intro k hk'
    left
    unfold foot at hk' ⊢
    simp only [List.mem_cons, List.mem_flatMap] at hk' ⊢
    rcases hk' with rfl | rfl | ⟨H, hH, hk'⟩
    · exact .inl rfl
    · exact .inr (.inl rfl)
    · exact .inr (.inr ⟨H, (hmem H hH).1, hk'⟩)

end Go.Proofs.YtdjaphcelpchaaaGreatDoor

/- (*overview.Index).Remove at any index. -/
namespace Go.Proofs.YtdjaphcelpchaaaGreatDoor
open Go Go.RowKit Go.Proofs

attribute [local go_sem ↓] ex_load_id ex_store_id ex_load_line ex_store_line ex_alloc_line ex_build_line
attribute [local go_sem] ld_id st_id ld_line st_line guard_id okCells_drew rdCells_drew okCells_drewN rdCells_drewN rowOk_drew rowOk_cells okCells_cells rdCells_cells setRow_drew setRow_new setRow_past

theorem lineAt_id {w : World} {g off : Nat} {l : GLine} (h : ∀ i u, (lineList l)[i]? = some u → w.cell? ⟨g, off + i, none⟩ = some u) : okCells w ⟨g, off + 1, none⟩ 32 = true ∧ rdCells w ⟨g, off + 1, none⟩ 32 = (encId l.id).toArray := by
  have := rd_of_cells (w := w) (a := ⟨g, off + 1, none⟩) (cs := encId l.id) (fun j v hj => by
    have hj32 : j < 32 := by have := (List.getElem?_eq_some_iff.1 hj).1; rwa [encId_length] at this
    rw [Addr.add_lit, show off + 1 + j = off + (j + 1) by omega]
    refine h (j + 1) v ?_
    simp only [lineList]
    rw [List.getElem?_cons_succ, List.getElem?_append_left (by rw [encId_length]; exact hj32), hj])
  rwa [encId_length] at this

theorem wpList_delete_run {P : Program} (w : World) {ops : Array Oper} {rest : List Oper} {o : Oper} {a : Act} {Q : Exit → Act → World → Prop} (hgd : o.guard = none) (x y : Operand) (t t' : TypeId)
    (ho : o.op = .call { callee := .builtin .delete, args := #[x, y], argTypes := #[t, t'] }) (v u : Value) (hx : a.eval x = v) (hy : a.eval y = u) {v' : Value} {w' : World}
    (hr : (Builtin.delete_ #[t, t'] o.type #[v, u]).run P w = .ok v' w') (h : wpList P ops Q rest (a.put o.dst v') w') : wpList P ops Q (o :: rest) a w := by
  refine wpList_plain hgd fun K hK => ?_
  unfold Oper.wp execOp
  simp only [ho, resolve, invoke, builtin, Sem.run_bind, Sem.run_pure, Result.andThen_ok, List.map_toArray, List.map_cons, List.map_nil, hx, hy, hr]
  exact hK _ _ h

/-- What Remove does. -/
structure Removed (B ib M : Nat) (gs : List MG) (s : ByteArray) (i : Nat) (w w' : World) (gs' : List MG) (mc' : Nat) : Prop where
  idx : IdxAt B w' ib M gs' mc'
  kept : Kept (foot ib M gs) w w'
  foot : FootOk (Go.Proofs.YtdjaphcelpchaaaGreatDoor.foot ib M gs) (Go.Proofs.YtdjaphcelpchaaaGreatDoor.foot ib M gs') w
  lines : ∀ t, linesIn gs' t = if t = s then (linesIn gs s).eraseIdx i else linesIn gs t
  tot : total gs' + 1 = total gs
def RemovePost (B ib M : Nat) (gs : List MG) (s : ByteArray) (n : Int) (w : World) (r : Ending) (w' : World) : Prop :=
  (hasNum (linesIn gs s) n = false ∧ r = .returned (.int .i64 8) ∧ Below w.heap.size w w') ∨ (∃ i m, (linesIn gs s)[i]? = some m ∧ m.p.number = n ∧ r = .returned (.int .i64 0) ∧ ∃ gs' mc', Removed B ib M gs s i w w' gs' mc')

set_option maxRecDepth 100000 in
set_option maxHeartbeats 8000000 in
theorem remove_any (B ib M mc : Nat) (gs : List MG) (s : ByteArray) (n : Int) (w : World) (h : IdxAt B w ib M gs mc) :
    Calls Tryz.prog 31 #[.pointer (some ⟨ib, 0, none⟩), .string s, .int .i64 n] w fun r w' => RemovePost B ib M gs s n w r w' := by
  have HX := Lib.hid h
  have HL := Lib.hid (linesOf_any B ib M mc gs s w h)
  have HS := Lib.hid (search_at B (valueOf gs s) (linesIn gs s) n w (h.lines s) (h.len s) (h.sorted s))
  obtain ⟨va, vc, hval⟩ := valueOf_slice h s
  have HVAL := Lib.hid hval
  rw [hval] at HL HS
  clear hval h
  cases hhas : hasNum (linesIn gs s) n with
  | false =>
    rw [hhas] at HS
    have HH := Lib.hid hhas
    clear hhas
    generalize (linesIn gs s).length = len at HL HS HVAL
    generalize posN (nums (linesIn gs s)) n = pos at HS
    go_enter Tryz.func31, Tryz.ntmps31
    go_wp2_with fail
    refine HL.out.mono ?_
    rintro r w' ⟨rfl, rfl⟩
    go_wp2_with fail
    refine HS.out.mono ?_
    rintro r w1 ⟨rfl, hb1⟩
    have HB1 := Lib.hid hb1
    clear hb1 HS HL
    go_wp2
    go_ret
    exact .inl ⟨HH.out, rfl, HB1.out⟩
  | true =>
    have HH := Lib.hid hhas
    rw [hhas] at HS
    have h := HX.out
    have hne : linesIn gs s ≠ [] := fun e => by rw [e] at hhas; cases hhas
    obtain ⟨G, hG, hms, hGv⟩ := linesIn_ne hne
    obtain ⟨hGm, hGs⟩ := groupOf_mem hG
    have hpos := between_pos (h.sorted s) n
    obtain ⟨pos, hpe⟩ : ∃ i, i = posN (nums (linesIn gs s)) n := ⟨_, rfl⟩
    rw [← hpe] at HS hpos
    have hhas2 : (nums (linesIn gs s)).contains n = true := hhas
    rw [between_has (h.sorted s) hpos] at hhas2
    obtain ⟨m, him, hmn⟩ : ∃ m, (linesIn gs s)[pos]? = some m ∧ m.p.number = n := by
      split at hhas2
      · rename_i hlt
        rw [nums_length] at hlt
        rw [cmpZ_zero, decide_eq_true_eq] at hhas2
        refine ⟨(linesIn gs s)[pos], List.getElem?_eq_getElem hlt, ?_⟩
        simpa [nums] using hhas2
      · cases hhas2
    have hlt : pos < (linesIn gs s).length := (List.getElem?_eq_some_iff.1 him).1
    have hgr := h.grps G hGm
    have hmG : G.ms[pos]? = some m := hms ▸ him
    obtain ⟨j, hfj, b, hjb⟩ := hgr.find_yes (List.mem_of_getElem? hmG)
    have hjl : j < G.nl.length := (List.getElem?_eq_some_iff.1 hjb).1
    have hpure := hgr.pure.del hmG hjb
    obtain ⟨lb, cap, hv, hBl, hll, hle, hmx, hcell⟩ : ∃ lb cap, G.v = .slice (some ⟨lb, 0, none⟩) G.ms.length cap ∧ B ≤ lb ∧ lb < w.heap.size ∧ G.ms.length ≤ cap ∧ cap ≤ maxLen ∧ ∀ j (hj : j < G.ms.length) i u, (lineList G.ms[j].g)[i]? = some u → w.cell? ⟨lb, j * 38 + i, none⟩ = some u := by
      rcases hgr.lines.head with ⟨_, e⟩ | ⟨g, cap, hx⟩
      · exact absurd e hgr.some'
      · exact ⟨g, cap, hx⟩
    have hcm : ∀ i u, (lineList m.g)[i]? = some u → w.cell? ⟨lb, pos * 38 + i, none⟩ = some u := by
      obtain ⟨h1, h2⟩ := List.getElem?_eq_some_iff.1 hmG
      have := hcell pos h1
      rwa [h2] at this
    have hva : va = some ⟨lb, 0, none⟩ ∧ vc = cap := by
      have := HVAL.out
      rw [hGv, hv, hms] at this
      cases this
      exact ⟨rfl, rfl⟩
    obtain ⟨rfl, rfl⟩ := hva
    have hlen := h.len s
    rw [hms] at HL HS hlt hlen
    obtain ⟨a1, a2, a3⟩ := apart_iff.1 h.apart
    obtain ⟨f1, f2, f3⟩ := a2 G hGm
    have hd : lb ≠ G.gb ∧ lb ≠ G.nb ∧ G.gb ≠ G.nb ∧ ib ≠ G.gb ∧ ib ≠ G.nb ∧ ib ≠ lb ∧ M ≠ G.gb ∧ M ≠ G.nb ∧ M ≠ lb := by
      unfold MG.foot at f1 f2 f3
      rw [hv] at f1 f2 f3
      simp [Value.ownBlock] at f1 f2 f3
      exact ⟨fun e => f3.1.2 e.symm, fun e => f3.2 e.symm, f3.1.1, f1.1, f1.2.1, f1.2.2, f2.1, f2.2.1, f2.2.2⟩
    obtain ⟨d1, d2, d3, d4, d5, d6, d7, d8, d9⟩ := hd
    have HHX := Lib.hid hgr
    have HPURE := Lib.hid hpure
    have HFJ := Lib.hid hfj
    have HCM := Lib.hid hcm
    have HG := Lib.hid hG
    have HMS := Lib.hid hms
    have HV := Lib.hid hv
    have HIM := Lib.hid him
    have HMN := Lib.hid hmn
    have hltz : (pos : Int) < (G.ms.length : Int) := by omega
    clear hgr hpure hfj hcm hG hms hv him hmn h hhas hhas2 hpos hpe hne hGv hcell HVAL a1 a2 a3 f1 f2 f3 hmG hjb HH
    obtain ⟨len, hlenE⟩ : ∃ k, k = G.ms.length := ⟨_, rfl⟩
    rw [← hlenE] at HL HS hlt hlen hltz hle
    have HLE := Lib.hid hlenE
    clear hlenE
    go_enter Tryz.func31, Tryz.ntmps31
    go_wp2_with fail
    refine HL.out.mono ?_
    rintro r w' ⟨rfl, rfl⟩
    go_wp2_with fail
    refine HS.out.mono ?_
    rintro r w1 ⟨rfl, hb1⟩
    have hX1 := HX.out.below hb1
    have hgr1 := hX1.grps G hGm
    have hc0 := hX1.cell0
    have hlk := hX1.look s
    rw [HG.out] at hlk
    simp only [Option.map_some, Option.getD_some] at hlk
    have HB1 := Lib.hid hb1
    have HX1 := Lib.hid hX1
    have HG1 := Lib.hid hgr1
    clear hb1 hX1 hgr1 HS HL
    go_upto_region 7 with (fail)
    clear hc0 hlk
    have q1 : ∀ z : Later w1, z.1.cell? ⟨G.gb, 1, none⟩ = some (.map (some G.nb)) := fun z => z.cell (cell_of_row w1 G.gb 1 _ _ _ HG1.out.blk)
    have q2 : ∀ z : Later w1, z.1.cell? ⟨G.gb, 0, none⟩ = some (.slice (some ⟨lb, 0, none⟩) len vc) := fun z => z.cell ((cell_of_row w1 G.gb 0 _ _ _ HG1.out.blk).trans (by rw [HV.out, HLE.out]; rfl))
    have hid : okCells w1 ⟨lb, pos * 38 + 1, none⟩ 32 = true ∧ rdCells w1 ⟨lb, pos * 38 + 1, none⟩ 32 = (encId m.p.id).toArray := lineAt_id (l := m.g) fun i u hu => (HB1.out.cell (p := ⟨lb, pos * 38 + i, none⟩) hll).trans (HCM.out i u hu)
    have q3 : ∀ z : Later w1, okCells z.1 ⟨lb, pos * 38 + 1, none⟩ 32 = true := fun z => z.ok hid.1
    have q4 : ∀ z : Later w1, rdCells z.1 ⟨lb, pos * 38 + 1, none⟩ 32 = (encId m.p.id).toArray := fun z => (z.rd hid.1).trans hid.2
    clear hid
    refine wp_region_mix0 [0, 1, 2, 3, 4, 5, 6, 7, 8, 9, 10, 11] [12] (fun w' => ∃ z : Later w1, w' = z.1) (by kernel_rfl) (by kernel_rfl) (by kernel_rfl) ⟨⟨_, (Below.refl _ _).drew⟩, rfl⟩ ?_
    simp only [opsAt, List.map_cons, List.map_nil, Array.getD_eq_getD_getElem?, List.getElem?_toArray, List.getElem?_cons_zero, List.getElem?_cons_succ, Option.getD_some]
    repeat (go_big_quiet_step (fail))
    refine wpQuiet_nil ?_
    clear q1 q2 q3 q4
    obtain ⟨w2, hw2⟩ : ∃ w2, w2 = w1.drew.putObj G.nb (.map ((G.nl.eraseIdx j).map (enE ekI)).toArray G.nc) := ⟨_, rfl⟩
    have hdel : ∀ ty, (Builtin.delete_ #[113, 23] ty #[.map (some G.nb), .agg (encId m.p.id).toArray]).run Tryz.prog w1.drew = .ok (.tuple #[]) w2 := fun ty => by
      rw [hw2]
      exact del_any keyI Tryz.underlying113 ty w1.drew G.nb G.nl G.nc HG1.out.nums m.p.id j _ HFJ.out hjl
    have e2 : ∀ k, k ≠ G.nb → w2.heap[k]? = w1.heap[k]? := fun k hk => by rw [hw2, World.putObj_heap_other hk]; rfl
    have hs2 : w2.heap.size = w1.heap.size := by rw [hw2]; simp only [World.putObj, Array.size_setIfInBounds]; rfl
    have hN2 : MapAt ekI w2 G.nb (G.nl.eraseIdx j) G.nc := by rw [hw2]; exact MapAt.put (w := w1.drew) HG1.out.nums
    have ho2 : w2.os = w1.os ∧ w2.tape = w1.tape ∧ w2.output = w1.output := by rw [hw2]; exact ⟨rfl, rfl, rfl⟩
    have hg2 := (e2 G.gb d3).trans HG1.out.blk
    have hL2 : LinesAt B w2 (.slice (some ⟨lb, 0, none⟩) len vc) G.ms := by
      have h1 := HG1.out.lines
      rw [HV.out, ← HLE.out] at h1
      refine h1.keep (fun k hk => e2 k ?_) (fun x hx k hk => e2 k ?_)
      · cases hk; exact d2
      · rintro rfl
        obtain ⟨cur, h2⟩ := (h1.refs x hx).typed hk
        have h3 := HG1.out.nums
        unfold MapAt at h3
        rw [h3] at h2
        cases h2
    have hc2 : w2.cell? ⟨G.gb, 0, none⟩ = some (.slice (some ⟨lb, 0, none⟩) len vc) := (cell_of_row w2 G.gb 0 _ _ _ hg2).trans (by rw [HV.out, HLE.out]; rfl)
    have hfg2 := frozen_of_row w2 G.gb 0 _ _ hg2
    have HDel := Lib.hid (delete_one B lb vc len pos (flatLines G.ms) w2 (flat_cells fun x hx => (hL2.refs x hx).one) (by rw [HLE.out]; rw [HLE.out] at hL2; exact hL2.row) hlen hlt)
    have HE2 := Lib.hid e2
    have HS2 := Lib.hid hs2
    have HN2 := Lib.hid hN2
    have HO2 := Lib.hid ho2
    have HG2 := Lib.hid hg2
    have HL2 := Lib.hid hL2
    clear e2 hs2 hN2 ho2 hg2 hL2 hw2
    refine wpR_list [12] _ _ (by kernel_rfl) ?_
    simp only [opsAt, List.map_cons, List.map_nil, Array.getD_eq_getD_getElem?, List.getElem?_toArray, List.getElem?_cons_zero, List.getElem?_cons_succ, Option.getD_some]
    refine wpList_delete_run _ rfl (.tmp 31) (.tmp 39) 113 23 rfl _ _ rfl rfl (hdel _) ?_
    go_wp2
    refine NoPanic.normal ?_
    clear hdel
    go_wp2_with fail
    refine HDel.out.mono ?_
    rintro r w3 ⟨rfl, hown, hgrow⟩
    have l1 : G.gb < w1.heap.size := (Array.getElem?_eq_some_iff.1 HG1.out.blk).1
    have l2 : ib < w1.heap.size := (Array.getElem?_eq_some_iff.1 HX1.out.blk).1
    have l3 : M < w1.heap.size := HX1.out.map.lt
    have l4 : G.nb < w1.heap.size := HG1.out.nums.lt
    have hs2 := HS2.out
    have e3 : ∀ k, k < w1.heap.size → k ≠ lb → w3.heap[k]? = w2.heap[k]? := fun k hk hkl => hgrow.block k (by omega) (fun e => hkl (Option.some.inj e))
    have hg3 := (e3 G.gb l1 (fun e => d1 e.symm)).trans HG2.out
    have hc3 : w3.cell? ⟨G.gb, 0, none⟩ = some (.slice (some ⟨lb, 0, none⟩) len vc) := (cell_of_row w3 G.gb 0 _ _ _ hg3).trans (by rw [HV.out, HLE.out]; rfl)
    have hfg3 := frozen_of_row w3 G.gb 0 _ _ hg3
    obtain ⟨w4, hw4⟩ : ∃ w4, w4 = w3.setCell ⟨G.gb, 0, none⟩ (.slice (some ⟨lb, 0, none⟩) (len - 1) vc) := ⟨_, rfl⟩
    have hg4 : w4.heap[G.gb]? = some (.cells #[.slice (some ⟨lb, 0, none⟩) (len - 1) vc, .map (some G.nb)] 115 (0, 0)) := by rw [hw4]; exact heap_setCell_same w3 G.gb 0 _ _ _ hg3
    have e4 : ∀ k, k ≠ G.gb → w4.heap[k]? = w3.heap[k]? := fun k hk => by rw [hw4]; exact heap_setCell_other w3 ⟨G.gb, 0, none⟩ k _ hk
    have hs4 : w4.heap.size = w3.heap.size := by rw [hw4]; simp [World.setCell]
    have ho4 : w4.os = w3.os ∧ w4.tape = w3.tape ∧ w4.output = w3.output := by rw [hw4]; exact ⟨rfl, rfl, rfl⟩
    have hc4 : w4.cell? ⟨G.gb, 0, none⟩ = some (.slice (some ⟨lb, 0, none⟩) (len - 1) vc) := cell_of_row w4 G.gb 0 _ _ _ hg4
    have hI4 : w4.heap[ib]? = some (.cells #[.map (some M), .int .i64 (total gs)] 104 (0, 0)) := (e4 ib d4).trans ((e3 ib l2 d6).trans ((HE2.out ib d5).trans HX1.out.blk))
    have hM4 : MapAt ekS w4 M (gs.map MG.e) mc := (e4 M d7).trans ((e3 M l3 d9).trans ((HE2.out M d8).trans HX1.out.map))
    have hN4 : MapAt ekI w4 G.nb (G.nl.eraseIdx j) G.nc := (e4 G.nb (fun e => d3 e.symm)).trans ((e3 G.nb l4 (fun e => d2 e.symm)).trans HN2.out)
    have hfew := HX.out.few
    have htp : 1 ≤ total gs := by have := length_le_total hGm; rw [← HLE.out] at this; omega
    have hL4 : LinesAt B w4 (.slice (some ⟨lb, 0, none⟩) (len - 1) vc) (G.ms.eraseIdx pos) := by
      have hel : (G.ms.eraseIdx pos).length = len - 1 := by rw [List.length_eraseIdx, ← HLE.out, if_pos hlt]
      refine ⟨?_, fun x hx => ?_⟩
      · rw [hel, flat_erase]
        refine ⟨hown.1, ?_⟩
        rcases hown.2 with h0 | ⟨g', cap', cur, e, hg, hcur, hx⟩
        · exact .inl h0
        · refine .inr ⟨g', cap', cur, e, hg, (e4 g' ?_).trans hcur, hx⟩
          cases e
          exact d1
      · have h1 := HL2.out.refs x (mem_erase hx)
        refine h1.block fun k hk => ?_
        obtain ⟨cur, h2⟩ := h1.typed hk
        have hkl : k ≠ lb := fun e => by
          obtain ⟨c3, h4⟩ := ownsRow_typed HL2.out.row (k := lb) rfl
          rw [e, h4] at h2; cases h2
        have hkg : k ≠ G.gb := fun e => by rw [e, HG2.out] at h2; cases h2
        rw [e4 k hkg, e3 k (by have := (h1.lt hk).2; omega) hkl]
    have hk4 : Kept G.foot w w4 := by
      have h1 := HB1.out
      refine ⟨?_, ?_, ?_, ?_, fun k hk hn => ?_⟩
      · exact ho4.1.trans (hgrow.os.trans (HO2.out.1.trans h1.os))
      · exact ho4.2.1.trans (hgrow.tape.trans (HO2.out.2.1.trans h1.tape))
      · exact ho4.2.2.trans (hgrow.output.trans (HO2.out.2.2.trans h1.output))
      · have := hgrow.size; have := h1.size; omega
      · unfold MG.foot at hn
        rw [HV.out] at hn
        simp [Value.ownBlock] at hn
        have := h1.size
        exact (e4 k hn.1).trans ((e3 k (by omega) hn.2.2).trans ((HE2.out k hn.2.1).trans (h1.block k hk)))
    have HG4 := Lib.hid hg4
    have HI4 := Lib.hid hI4
    have HM4 := Lib.hid hM4
    have HN4 := Lib.hid hN4
    have HL4 := Lib.hid hL4
    have HK4 := Lib.hid hk4
    have HW4 := Lib.hid hw4
    have hc40 := cell_of_row w4 ib 0 _ _ _ hI4
    clear hg3 e3 hg4 e4 hs4 ho4 hI4 hM4 hN4 hL4 hk4 hw4 hown hgrow hc2 hfg2 hs2
    by_cases h1 : len = 1
    · obtain ⟨jm, hf1, hf2, hf3⟩ := find_at s 0 HG.out HX.out.names
      rw [Nat.zero_add] at hf1
      obtain ⟨w5, hw5⟩ : ∃ w5, w5 = w4.putObj M (.map (((gs.map MG.e).eraseIdx jm).map (enE ekS)).toArray mc) := ⟨_, rfl⟩
      have hdel2 : ∀ ty, (Builtin.delete_ #[102, 9] ty #[.map (some M), .string s]).run Tryz.prog w4 = .ok (.tuple #[]) w5 := fun ty => by
        rw [hw5]
        exact del_any keyS Tryz.underlying102 ty w4 M (gs.map MG.e) mc HM4.out s jm _ hf1 (by simpa using hf2)
      have hM5 : MapAt ekS w5 M ((dropG gs s).map MG.e) mc := by rw [hw5, hf3]; exact HM4.out.put
      have e5 : ∀ k, k ≠ M → w5.heap[k]? = w4.heap[k]? := fun k hk => by rw [hw5, World.putObj_heap_other hk]
      have hs5 : w5.heap.size = w4.heap.size := by rw [hw5]; simp only [World.putObj, Array.size_setIfInBounds]
      have ho5 : w5.os = w4.os ∧ w5.tape = w4.tape ∧ w5.output = w4.output := by rw [hw5]; exact ⟨rfl, rfl, rfl⟩
      have hib : ib ≠ M := (apart_iff.1 HX.out.apart).1
      have hI5 := (e5 ib hib).trans HI4.out
      have hci := cell_of_row w5 ib 1 _ _ _ hI5
      have hfi := frozen_of_row w5 ib 1 _ _ hI5
      have HI5 := Lib.hid hI5
      have HM5 := Lib.hid hM5
      have HE5 := Lib.hid e5
      have HS5 := Lib.hid hs5
      have HO5 := Lib.hid ho5
      have hlz : (((len - 1 : Nat) : Int) == 0) = true := by rw [h1]; rfl
      have H1 := Lib.hid h1
      clear hI5 hM5 e5 hs5 ho5 hw5 hf1 hf2 hf3 h1
      go_upto_region 9 with (fail)
      rw [← HW4.out]
      go_wp2_with (at_builtin; refine wpList_delete_run _ rfl (.tmp 60) (.tmp 61) 102 9 rfl _ _ rfl rfl (hdel2 _) ?_)
      have ht := total_dropG HX.out.names HG.out
      rw [← HLE.out, H1.out] at ht
      have hI6 : (w5.setCell ⟨ib, 1, none⟩ (.int .i64 ((total gs : Int) - 1))).heap[ib]? = some (.cells #[.map (some M), .int .i64 (total (dropG gs s))] 104 (0, 0)) := by
        have h2 := heap_setCell_same w5 ib 1 _ _ (.int .i64 ((total gs : Int) - 1)) HI5.out
        rw [h2, show ((total gs : Int) - 1) = ((total (dropG gs s) : Nat) : Int) by omega]
        rfl
      have e6 : ∀ k, k ≠ ib → (w5.setCell ⟨ib, 1, none⟩ (.int .i64 ((total gs : Int) - 1))).heap[k]? = w5.heap[k]? := fun k hk => heap_setCell_other w5 ⟨ib, 1, none⟩ k _ hk
      have hs6 : (w5.setCell ⟨ib, 1, none⟩ (.int .i64 ((total gs : Int) - 1))).heap.size = w5.heap.size := by simp [World.setCell]
      generalize hw6 : w5.setCell ⟨ib, 1, none⟩ (.int .i64 ((total gs : Int) - 1)) = w6 at hI6 e6 hs6 ⊢
      have ho6 : w6.os = w5.os ∧ w6.tape = w5.tape ∧ w6.output = w5.output := by rw [← hw6]; exact ⟨rfl, rfl, rfl⟩
      have hk6 : Kept (ib :: M :: G.foot) w w6 := by
        have h2 := HK4.out
        refine ⟨ho6.1.trans (HO5.out.1.trans h2.os), ho6.2.1.trans (HO5.out.2.1.trans h2.tape), ho6.2.2.trans (HO5.out.2.2.trans h2.output), by have := HS5.out; have := h2.size; omega, fun k hk hn => ?_⟩
        rw [List.mem_cons, List.mem_cons, not_or, not_or] at hn
        exact (e6 k hn.1).trans ((HE5.out k hn.2.1).trans (h2.block k hk hn.2.2))
      have hcut := HX.out.cut HG.out hI6 ((e6 M (fun e => hib e.symm)).trans HM5.out) hk6
      clear hI6 e6 hs6 hw6 ho6 hci hfi
      go_ret
      refine .inr ⟨pos, m, HIM.out, HMN.out, rfl, _, mc, hcut.1, hk6.mono fun k hk _ => ?_, hcut.2, fun t => ?_, by omega⟩
      · unfold foot
        rw [List.mem_cons, List.mem_cons] at hk ⊢
        rcases hk with hk | hk | hk
        · exact .inl hk
        · exact .inr (.inl hk)
        · exact .inr (.inr (List.mem_flatMap.2 ⟨G, hGm, hk⟩))
      · rw [linesIn_dropG]
        by_cases hts : t = s
        · rw [if_pos hts, if_pos hts]
          have h2 : (linesIn gs s).length = 1 := by rw [HMS.out, ← HLE.out, H1.out]
          symm
          rw [← List.length_eq_zero_iff, List.length_eraseIdx, h2, if_pos (by rw [H1.out] at hlt; exact hlt)]
        · rw [if_neg hts, if_neg hts]
    · have hlz : (((len - 1 : Nat) : Int) == 0) = false := by rw [beq_eq_false_iff_ne]; omega
      go_upto_region 9 with (fail)
      rw [← HW4.out]
      have hci := cell_of_row w4 ib 1 _ _ _ HI4.out
      have hfi := frozen_of_row w4 ib 1 _ _ HI4.out
      have H1 := Lib.hid h1
      clear h1
      go_wp2
      obtain ⟨G', hG'⟩ : ∃ G' : MG, G' = ⟨G.name, G.born, G.gb, G.nb, .slice (some ⟨lb, 0, none⟩) (len - 1) vc, G.ms.eraseIdx pos, G.nl.eraseIdx j, G.nc⟩ := ⟨_, rfl⟩
      have ht := total_swapG (G' := G') HX.out.names HG.out
      have hel : G'.ms.length = len - 1 := by rw [hG']; show (G.ms.eraseIdx pos).length = _; rw [List.length_eraseIdx, ← HLE.out, if_pos hlt]
      rw [hel, ← HLE.out] at ht
      have hI6 : (w4.setCell ⟨ib, 1, none⟩ (.int .i64 ((total gs : Int) - 1))).heap[ib]? = some (.cells #[.map (some M), .int .i64 (total (swapG gs s G'))] 104 (0, 0)) := by
        have h2 := heap_setCell_same w4 ib 1 _ _ (.int .i64 ((total gs : Int) - 1)) HI4.out
        rw [h2, show ((total gs : Int) - 1) = ((total (swapG gs s G') : Nat) : Int) by omega]
        rfl
      have e6 : ∀ k, k ≠ ib → (w4.setCell ⟨ib, 1, none⟩ (.int .i64 ((total gs : Int) - 1))).heap[k]? = w4.heap[k]? := fun k hk => heap_setCell_other w4 ⟨ib, 1, none⟩ k _ hk
      have hs6 : (w4.setCell ⟨ib, 1, none⟩ (.int .i64 ((total gs : Int) - 1))).heap.size = w4.heap.size := by simp [World.setCell]
      generalize hw6 : w4.setCell ⟨ib, 1, none⟩ (.int .i64 ((total gs : Int) - 1)) = w6 at hI6 e6 hs6 ⊢
      have ho6 : w6.os = w4.os ∧ w6.tape = w4.tape ∧ w6.output = w4.output := by rw [← hw6]; exact ⟨rfl, rfl, rfl⟩
      have hk6 : Kept (ib :: G.foot) w w6 := by
        have h2 := HK4.out
        refine ⟨ho6.1.trans h2.os, ho6.2.1.trans h2.tape, ho6.2.2.trans h2.output, by have := h2.size; omega, fun k hk hn => ?_⟩
        rw [List.mem_cons, not_or] at hn
        exact (e6 k hn.1).trans (h2.block k hk hn.2)
      have hat : GrpAt B w6 G' := by
        rw [hG']
        have hp := HPURE.out
        refine ⟨(e6 G.gb (fun e => d4 e.symm)).trans HG4.out, ?_, (e6 G.nb (fun e => d5 e.symm)).trans HN4.out, hp.agree, hp.ids, hp.sorted, hp.good, HHX.out.named, ?_, HHX.out.gbB, HHX.out.nbB⟩
        · refine HL4.out.keep (fun k hk => e6 k ?_) (fun x hx k hk => e6 k ?_)
          · cases hk; exact fun e => d6 e.symm
          · rintro rfl
            obtain ⟨cur, h2⟩ := (HL4.out.refs x hx).typed hk
            rw [HI4.out] at h2; cases h2
        · intro e
          have h2 : (G.ms.eraseIdx pos).length = 0 := List.length_eq_zero_iff.2 e
          have h3 := H1.out
          rw [hG'] at hel
          have : (G.ms.eraseIdx pos).length = len - 1 := hel
          omega
      have hupd := HX.out.upd (w' := w6) (G' := G') HG.out (by rw [hG']) (by rw [hG']) (by rw [hG']) (by rw [hG']) (.inl (by rw [hG', HV.out]; rfl)) hat hI6 hk6 (by omega)
      clear hI6 e6 hs6 hw6 ho6 hci hfi
      go_ret
      refine .inr ⟨pos, m, HIM.out, HMN.out, rfl, _, mc, hupd.1, hk6.mono fun k hk _ => ?_, hupd.2, fun t => ?_, by omega⟩
      · unfold foot
        rcases List.mem_cons.1 hk with rfl | hk
        · simp
        · exact List.mem_cons.2 (.inr (List.mem_cons.2 (.inr (List.mem_flatMap.2 ⟨G, hGm, hk⟩))))
      · rw [linesIn_swapG t HG.out (by rw [hG']; exact hGs), HMS.out, hG']

end Go.Proofs.YtdjaphcelpchaaaGreatDoor

/- (*overview.Index).Next and Previous at any index. -/
namespace Go.Proofs.YtdjaphcelpchaaaGreatDoor
open Go Go.RowKit Go.Proofs

attribute [local go_sem ↓] ex_load_id ex_store_id ex_load_line ex_store_line ex_alloc_line ex_build_line
attribute [local go_sem] ld_id st_id ld_line st_line guard_id okCells_drew rdCells_drew okCells_drewN rdCells_drewN rowOk_drew rowOk_cells okCells_cells rdCells_cells setRow_drew setRow_new setRow_past

/-- A line that is there, or not. -/
def LinePost (o : Option ML) (w : World) (r : Ending) (w' : World) : Prop :=
  (o = none ∧ r = .returned (.tuple #[.agg (lineCells zeroLine), .bool false]) ∨ ∃ m v, o = some m ∧ r = .returned (.tuple #[.agg (lineCells { m.g with refs := v }), .bool true]) ∧ IdsOwn w.heap.size w' v m.p.ids) ∧ Below w.heap.size w w'

/-- Where Next looks. -/
def nextAt (ms : List ML) (n : Int) : Nat := posN (nums ms) n + if hasNum ms n then 1 else 0
theorem nextAt_le {ms : List ML} {n : Int} (hs : (nums ms).Pairwise (· < ·)) : nextAt ms n ≤ ms.length := by
  unfold nextAt
  have hb := between_pos hs n
  have h1 := hb.2.1
  rw [nums_length] at h1
  split
  · rename_i h
    have h2 : (nums ms).contains n = true := h
    rw [between_has hs hb] at h2
    split at h2
    · rename_i h3; rw [nums_length] at h3; omega
    · cases h2
  · omega

set_option maxRecDepth 100000 in
set_option maxHeartbeats 2000000 in
theorem next_any (B ib M mc : Nat) (gs : List MG) (s : ByteArray) (n : Int) (w : World) (h : IdxAt B w ib M gs mc) :
    Calls Tryz.prog 39 #[.pointer (some ⟨ib, 0, none⟩), .string s, .int .i64 n] w fun r w' => LinePost (linesIn gs s)[nextAt (linesIn gs s) n]? w r w' := by
  have hb0 : Below w.heap.size w (w.alloc (.cells (lineCells zeroLine) 34)) := (Below.refl _ _).alloc (Nat.le_refl _) _
  have hx0 := h.below hb0
  have HL := Lib.hid (linesOf_any B ib M mc gs s _ hx0)
  have hso := hx0.sorted s
  have HS := Lib.hid (search_at B (valueOf gs s) (linesIn gs s) n _ (hx0.lines s) (hx0.len s) hso)
  have HZ : Hid (LineVar (w.alloc (.cells (lineCells zeroLine) 34)) w.heap.size zeroLine) := Lib.hid (heap_alloc_new _ _)
  have HB := Lib.hid hb0
  have hln := hx0.len s
  obtain ⟨va, vc, hv⟩ := valueOf_slice hx0 s
  rw [hv] at HL HS
  have hle := nextAt_le (n := n) hso
  have hft : fitsRow 38 (lineCells zeroLine) = true := fits_line rfl
  have hzs : ((lineCells zeroLine).size == 38) = true := by rw [lineCells_size]; rfl
  have HX := Lib.hid hx0
  have HV := Lib.hid hv
  clear hb0 h hso hx0 hv
  have hnx : nextAt (linesIn gs s) n = posN (nums (linesIn gs s)) n + if hasNum (linesIn gs s) n then 1 else 0 := rfl
  have HNX := Lib.hid hnx
  obtain ⟨pos, hpe⟩ : ∃ i, i = posN (nums (linesIn gs s)) n := ⟨_, rfl⟩
  rw [← hpe] at HS HNX
  clear hpe hnx
  by_cases hend : nextAt (linesIn gs s) n = (linesIn gs s).length
  · have HN : Hid ((linesIn gs s)[nextAt (linesIn gs s) n]? = none) := Lib.hid (by rw [hend]; simp)
    have hpl : ((pos : Int) + if hasNum (linesIn gs s) n then 1 else 0) = ((linesIn gs s).length : Int) := by
      rw [← hend, HNX.out]; split <;> simp
    clear hend hle HNX HV
    generalize (linesIn gs s).length = len at HL HS hln hpl
    generalize hasNum (linesIn gs s) n = b at HS hpl
    go_enter Tryz.func39, Tryz.ntmps39
    go_wp2_with fail
    refine HL.out.mono ?_
    rintro r w' ⟨rfl, rfl⟩
    go_wp2_with fail
    refine HS.out.mono ?_
    rintro r w1 ⟨rfl, hb1⟩
    have hZ1 : LineVar w1 w.heap.size zeroLine := HZ.out.below hb1 HZ.out.lt
    have hro := hZ1.row
    have HZ1 := Lib.hid hZ1
    have HB1 := Lib.hid (HB.out.trans (hb1.mono HB.out.size))
    clear hZ1 hb1 HZ HB HS HL
    cases b with
    | true =>
      simp only [if_true] at hpl
      have hpz : ((pos : Int) + 1 == (len : Int)) = true := by rw [hpl]; simp
      go_wp2
      refine bodyPost_ret (v := .tuple #[.agg (lineCells zeroLine), .bool false]) ?_ rfl ⟨.inl ⟨HN.out, rfl⟩, below_grown HB1.out (grown_row _ _ _) HB1.out.size (Nat.le_refl _)⟩
      exact results_agg2 rfl Tryz.isAgg34 Tryz.sizeOf34 _ _ ⟨w.heap.size, 0, none⟩ _ _ rfl rfl (HZ1.out.blk.setRow.rd.1) (HZ1.out.blk.setRow.rd.2)
    | false =>
      simp only [Bool.false_eq_true, if_false, Int.add_zero] at hpl
      have hpz : ((pos : Int) == (len : Int)) = true := by rw [hpl]; simp
      go_wp2
      refine bodyPost_ret (v := .tuple #[.agg (lineCells zeroLine), .bool false]) ?_ rfl ⟨.inl ⟨HN.out, rfl⟩, below_grown HB1.out (grown_row _ _ _) HB1.out.size (Nat.le_refl _)⟩
      exact results_agg2 rfl Tryz.isAgg34 Tryz.sizeOf34 _ _ ⟨w.heap.size, 0, none⟩ _ _ rfl rfl (HZ1.out.blk.setRow.rd.1) (HZ1.out.blk.setRow.rd.2)
  · obtain ⟨i, hi⟩ : ∃ i, i = nextAt (linesIn gs s) n := ⟨_, rfl⟩
    rw [← hi] at hend hle HNX ⊢
    have hil : i < (linesIn gs s).length := by omega
    obtain ⟨m, hm⟩ : ∃ m, (linesIn gs s)[i]? = some m := ⟨_, List.getElem?_eq_getElem hil⟩
    obtain ⟨_, hget⟩ := List.getElem?_eq_some_iff.1 hm
    have HN := Lib.hid hm
    have hpl : ((pos : Int) + if hasNum (linesIn gs s) n then 1 else 0) = (i : Int) := by
      rw [HNX.out]; split <;> simp
    obtain ⟨G, hG, hms, hGv⟩ := linesIn_ne (gs := gs) (s := s) (fun e => by rw [e] at hil; cases hil)
    have hgood := (HX.out.grps G (groupOf_mem hG).1).good m (hms ▸ List.mem_of_getElem? hm)
    have hrl := refs_len hgood
    rcases (HX.out.lines s).head with ⟨_, e⟩ | ⟨g, cap, hv, hBg, hgl, hle', hmx, hcell⟩
    · rw [e] at hil; cases hil
    have hcell' := hcell i hil
    rw [hget] at hcell'
    have HC := Lib.hid hcell'
    have HI := Lib.hid ((HX.out.lines s).refs m (List.mem_of_getElem? hm))
    have hva : va = some ⟨g, 0, none⟩ ∧ vc = cap := by
      have h1 := HV.out
      rw [hv] at h1
      cases h1
      exact ⟨rfl, rfl⟩
    obtain ⟨rfl, rfl⟩ := hva
    clear hi hm hget HNX HV hG hms hGv hgood hcell hcell' hv HX
    have hilz : (i : Int) < ((linesIn gs s).length : Int) := by omega
    generalize (linesIn gs s).length = len at HL HS hln hend hle hil hle' hilz
    generalize hasNum (linesIn gs s) n = b at HS hpl
    go_enter Tryz.func39, Tryz.ntmps39
    go_wp2_with fail
    refine HL.out.mono ?_
    rintro r w' ⟨rfl, rfl⟩
    go_wp2_with fail
    refine HS.out.mono ?_
    rintro r w1 ⟨rfl, hb1⟩
    have hZ1 : LineVar w1 w.heap.size zeroLine := HZ.out.below hb1 HZ.out.lt
    obtain ⟨o1, d1⟩ := lineAt_rd (w := w1) (g := g) (off := i * 38) (l := m.g) (fun k u hk => (hb1.cell (p := ⟨g, i * 38 + k, none⟩) hgl).trans (HC.out k u hk))
    have HX2 := Lib.hid (clone_any B m.g m.p.ids w1 (HI.out.below hb1) (by omega))
    have HZ1 := Lib.hid hZ1
    have HB1 := Lib.hid (HB.out.trans (hb1.mono HB.out.size))
    have hs1 : w.heap.size < w1.heap.size := hZ1.lt
    clear hZ1 hb1 HZ HB HS HL HC HI
    have hne1 : ((i : Int) == (len : Int)) = false := by rw [beq_eq_false_iff_ne]; omega
    cases b with
    | true =>
      simp only [if_true] at hpl
      obtain rfl : i = pos + 1 := by omega
      have hne2 : ((pos : Int) + 1 == (len : Int)) = false := by rw [beq_eq_false_iff_ne]; omega
      have hlt2 : (pos : Int) + 1 < (len : Int) := by omega
      clear hpl hne1 hilz
      go_wp2_with fail
      refine HX2.out.mono ?_
      rintro r w2 ⟨v, rfl, hI2, hb2⟩
      have hone := hI2.one
      have hZ2 : LineVar w2 w.heap.size zeroLine := HZ1.out.below hb2 hs1
      have hro := hZ2.row
      have hft2 := fits_line (g := { m.g with refs := v }) hone
      have HI2 := Lib.hid hI2
      have HZ2 := Lib.hid hZ2
      have HB2 := Lib.hid (HB1.out.trans (hb2.mono HB1.out.size))
      clear hZ2 hI2 hb2 HX2 HZ1 HB1
      go_wp2
      refine bodyPost_ret (v := .tuple #[.agg (lineCells { m.g with refs := v }), .bool true]) ?_ rfl ⟨.inr ⟨m, v, HN.out, rfl, ?_⟩, below_grown HB2.out (grown_row _ _ _) HB2.out.size (Nat.le_refl _)⟩
      · exact results_agg2 rfl Tryz.isAgg34 Tryz.sizeOf34 _ _ ⟨w.heap.size, 0, none⟩ _ _ rfl rfl (HZ2.out.blk.setRow.rd.1) (HZ2.out.blk.setRow.rd.2)
      · refine (HI2.out.mono (by omega)).block fun k hk => (grown_row _ w.heap.size _).block k (HI2.out.lt hk).2 ?_
        intro e
        have := (HI2.out.lt hk).1
        cases e
        omega
    | false =>
      simp only [Bool.false_eq_true, if_false, Int.add_zero] at hpl
      obtain rfl : i = pos := by omega
      clear hpl
      go_wp2_with fail
      refine HX2.out.mono ?_
      rintro r w2 ⟨v, rfl, hI2, hb2⟩
      have hone := hI2.one
      have hZ2 : LineVar w2 w.heap.size zeroLine := HZ1.out.below hb2 hs1
      have hro := hZ2.row
      have hft2 := fits_line (g := { m.g with refs := v }) hone
      have HI2 := Lib.hid hI2
      have HZ2 := Lib.hid hZ2
      have HB2 := Lib.hid (HB1.out.trans (hb2.mono HB1.out.size))
      clear hZ2 hI2 hb2 HX2 HZ1 HB1
      go_wp2
      refine bodyPost_ret (v := .tuple #[.agg (lineCells { m.g with refs := v }), .bool true]) ?_ rfl ⟨.inr ⟨m, v, HN.out, rfl, ?_⟩, below_grown HB2.out (grown_row _ _ _) HB2.out.size (Nat.le_refl _)⟩
      · exact results_agg2 rfl Tryz.isAgg34 Tryz.sizeOf34 _ _ ⟨w.heap.size, 0, none⟩ _ _ rfl rfl (HZ2.out.blk.setRow.rd.1) (HZ2.out.blk.setRow.rd.2)
      · refine (HI2.out.mono (by omega)).block fun k hk => (grown_row _ w.heap.size _).block k (HI2.out.lt hk).2 ?_
        intro e
        have := (HI2.out.lt hk).1
        cases e
        omega

/-- The line ahead of a number. -/
def prevLine (ms : List ML) (n : Int) : Option ML := if posN (nums ms) n = 0 then none else ms[posN (nums ms) n - 1]?
set_option maxRecDepth 100000 in
set_option maxHeartbeats 2000000 in
theorem previous_any (B ib M mc : Nat) (gs : List MG) (s : ByteArray) (n : Int) (w : World) (h : IdxAt B w ib M gs mc) :
    Calls Tryz.prog 40 #[.pointer (some ⟨ib, 0, none⟩), .string s, .int .i64 n] w fun r w' => LinePost (prevLine (linesIn gs s) n) w r w' := by
  have hb0 : Below w.heap.size w (w.alloc (.cells (lineCells zeroLine) 34)) := (Below.refl _ _).alloc (Nat.le_refl _) _
  have hx0 := h.below hb0
  have HL := Lib.hid (linesOf_any B ib M mc gs s _ hx0)
  have hso := hx0.sorted s
  have HS := Lib.hid (search_at B (valueOf gs s) (linesIn gs s) n _ (hx0.lines s) (hx0.len s) hso)
  have HZ : Hid (LineVar (w.alloc (.cells (lineCells zeroLine) 34)) w.heap.size zeroLine) := Lib.hid (heap_alloc_new _ _)
  have HB := Lib.hid hb0
  have hln := hx0.len s
  obtain ⟨va, vc, hv⟩ := valueOf_slice hx0 s
  rw [hv] at HL HS
  have hle := (between_pos hso n).2.1
  rw [nums_length] at hle
  have hft : fitsRow 38 (lineCells zeroLine) = true := fits_line rfl
  have hzs : ((lineCells zeroLine).size == 38) = true := by rw [lineCells_size]; rfl
  have HX := Lib.hid hx0
  have HV := Lib.hid hv
  clear hb0 h hso hx0 hv
  obtain ⟨pos, hpe⟩ : ∃ i, i = posN (nums (linesIn gs s)) n := ⟨_, rfl⟩
  have HP : Hid (prevLine (linesIn gs s) n = if pos = 0 then none else (linesIn gs s)[pos - 1]?) := Lib.hid (by rw [hpe]; rfl)
  rw [← hpe] at HS hle
  clear hpe
  by_cases hend : pos = 0
  · subst hend
    have HN : Hid (prevLine (linesIn gs s) n = none) := Lib.hid (HP.out.trans (if_pos rfl))
    clear HP
    clear hle HV
    generalize (linesIn gs s).length = len at HL HS hln
    go_enter Tryz.func40, Tryz.ntmps40
    go_wp2_with fail
    refine HL.out.mono ?_
    rintro r w' ⟨rfl, rfl⟩
    go_wp2_with fail
    refine HS.out.mono ?_
    rintro r w1 ⟨rfl, hb1⟩
    have hZ1 : LineVar w1 w.heap.size zeroLine := HZ.out.below hb1 HZ.out.lt
    have hro := hZ1.row
    have HZ1 := Lib.hid hZ1
    have HB1 := Lib.hid (HB.out.trans (hb1.mono HB.out.size))
    clear hZ1 hb1 HZ HB HS HL
    go_wp2
    refine bodyPost_ret (v := .tuple #[.agg (lineCells zeroLine), .bool false]) ?_ rfl ⟨.inl ⟨HN.out, rfl⟩, below_grown HB1.out (grown_row _ _ _) HB1.out.size (Nat.le_refl _)⟩
    exact results_agg2 rfl Tryz.isAgg34 Tryz.sizeOf34 _ _ ⟨w.heap.size, 0, none⟩ _ _ rfl rfl (HZ1.out.blk.setRow.rd.1) (HZ1.out.blk.setRow.rd.2)
  · obtain ⟨i, rfl⟩ : ∃ i, pos = i + 1 := ⟨pos - 1, by omega⟩
    have hil : i < (linesIn gs s).length := by omega
    obtain ⟨m, hm⟩ : ∃ m, (linesIn gs s)[i]? = some m := ⟨_, List.getElem?_eq_getElem hil⟩
    obtain ⟨_, hget⟩ := List.getElem?_eq_some_iff.1 hm
    have HN : Hid (prevLine (linesIn gs s) n = some m) := Lib.hid (by rw [HP.out, if_neg (by omega), Nat.add_sub_cancel]; exact hm)
    obtain ⟨G, hG, hms, hGv⟩ := linesIn_ne (gs := gs) (s := s) (fun e => by rw [e] at hil; cases hil)
    have hgood := (HX.out.grps G (groupOf_mem hG).1).good m (hms ▸ List.mem_of_getElem? hm)
    have hrl := refs_len hgood
    rcases (HX.out.lines s).head with ⟨_, e⟩ | ⟨g, cap, hv, hBg, hgl, hle', hmx, hcell⟩
    · rw [e] at hil; cases hil
    have hcell' := hcell i hil
    rw [hget] at hcell'
    have HC := Lib.hid hcell'
    have HI := Lib.hid ((HX.out.lines s).refs m (List.mem_of_getElem? hm))
    have hva : va = some ⟨g, 0, none⟩ ∧ vc = cap := by
      have h1 := HV.out
      rw [hv] at h1
      cases h1
      exact ⟨rfl, rfl⟩
    obtain ⟨rfl, rfl⟩ := hva
    clear HP hm hget HV hG hms hGv hgood hcell hcell' hv HX
    have hilz : (i : Int) < ((linesIn gs s).length : Int) := by omega
    generalize (linesIn gs s).length = len at HL HS hln hle hil hle' hilz
    have hne0 : ((i : Int) + 1 == 0) = false := by rw [beq_eq_false_iff_ne]; omega
    have hsub : (i : Int) + 1 - 1 = (i : Int) := by omega
    go_enter Tryz.func40, Tryz.ntmps40
    go_wp2_with fail
    refine HL.out.mono ?_
    rintro r w' ⟨rfl, rfl⟩
    go_wp2_with fail
    refine HS.out.mono ?_
    rintro r w1 ⟨rfl, hb1⟩
    have hZ1 : LineVar w1 w.heap.size zeroLine := HZ.out.below hb1 HZ.out.lt
    obtain ⟨o1, d1⟩ := lineAt_rd (w := w1) (g := g) (off := i * 38) (l := m.g) (fun k u hk => (hb1.cell (p := ⟨g, i * 38 + k, none⟩) hgl).trans (HC.out k u hk))
    have HX2 := Lib.hid (clone_any B m.g m.p.ids w1 (HI.out.below hb1) (by omega))
    have HZ1 := Lib.hid hZ1
    have HB1 := Lib.hid (HB.out.trans (hb1.mono HB.out.size))
    have hs1 : w.heap.size < w1.heap.size := hZ1.lt
    clear hZ1 hb1 HZ HB HS HL HC HI
    go_wp2_with fail
    refine HX2.out.mono ?_
    rintro r w2 ⟨v, rfl, hI2, hb2⟩
    have hone := hI2.one
    have hZ2 : LineVar w2 w.heap.size zeroLine := HZ1.out.below hb2 hs1
    have hro := hZ2.row
    have hft2 := fits_line (g := { m.g with refs := v }) hone
    have HI2 := Lib.hid hI2
    have HZ2 := Lib.hid hZ2
    have HB2 := Lib.hid (HB1.out.trans (hb2.mono HB1.out.size))
    clear hZ2 hI2 hb2 HX2 HZ1 HB1
    go_wp2
    refine bodyPost_ret (v := .tuple #[.agg (lineCells { m.g with refs := v }), .bool true]) ?_ rfl ⟨.inr ⟨m, v, HN.out, rfl, ?_⟩, below_grown HB2.out (grown_row _ _ _) HB2.out.size (Nat.le_refl _)⟩
    · exact results_agg2 rfl Tryz.isAgg34 Tryz.sizeOf34 _ _ ⟨w.heap.size, 0, none⟩ _ _ rfl rfl (HZ2.out.blk.setRow.rd.1) (HZ2.out.blk.setRow.rd.2)
    · refine (HI2.out.mono (by omega)).block fun k hk => (grown_row _ w.heap.size _).block k (HI2.out.lt hk).2 ?_
      intro e
      have := (HI2.out.lt hk).1
      cases e
      omega

end Go.Proofs.YtdjaphcelpchaaaGreatDoor

/- The order of names and of lines, with no program in sight; lists in order. -/
namespace Go.Proofs.YtdjaphcelpchaaaGreatDoor
open Go Go.RowKit Go.Proofs

theorem less_irr : ∀ a : List UInt8, Op.bytesLess a a = false
  | [] => rfl
  | a :: x => by
    unfold Op.bytesLess
    rw [less_irr x]
    simp
theorem less_trans : ∀ a b c : List UInt8, Op.bytesLess a b = true → Op.bytesLess b c = true → Op.bytesLess a c = true
  | _, _, [], _, h => by cases ‹List UInt8› <;> simp [Op.bytesLess] at h
  | [], _, _ :: _, _, _ => rfl
  | _ :: _, [], _ :: _, h, _ => by simp [Op.bytesLess] at h
  | a :: x, b :: y, c :: z, h1, h2 => by
    unfold Op.bytesLess at h1 h2 ⊢
    simp only [Bool.or_eq_true, decide_eq_true_eq, Bool.and_eq_true, beq_iff_eq] at h1 h2 ⊢
    rcases h1 with h1 | ⟨h1, g1⟩
    · rcases h2 with h2 | ⟨h2, g2⟩
      · exact .inl (by rw [UInt8.lt_iff_toNat_lt] at *; omega)
      · exact .inl (h2 ▸ h1)
    · rcases h2 with h2 | ⟨h2, g2⟩
      · exact .inl (h1 ▸ h2)
      · exact .inr ⟨h1.trans h2, less_trans x y z g1 g2⟩
theorem less_total : ∀ a b : List UInt8, Op.bytesLess a b = false → Op.bytesLess b a = false → a = b
  | [], [], _, _ => rfl
  | [], _ :: _, h, _ => by simp [Op.bytesLess] at h
  | _ :: _, [], _, h => by simp [Op.bytesLess] at h
  | a :: x, b :: y, h1, h2 => by
    unfold Op.bytesLess at h1 h2
    simp only [Bool.or_eq_false_iff, decide_eq_false_iff_not] at h1 h2
    have e : a = b := by
      apply UInt8.toNat_inj.1
      have := h1.1
      have := h2.1
      rw [UInt8.lt_iff_toNat_lt] at *
      omega
    subst e
    simp only [beq_self_eq_true, Bool.true_and] at h1 h2
    rw [less_total x y h1.2 h2.2]
theorem less_asymm {a b : List UInt8} (h : Op.bytesLess a b = true) : Op.bytesLess b a = false := by
  cases h2 : Op.bytesLess b a with
  | false => rfl
  | true =>
    have := less_trans a b a h h2
    rw [less_irr] at this
    cases this

/-- How two lists of parts compare. -/
def cmpL : List (List UInt8) → List (List UInt8) → Int
  | [], [] => 0
  | [], _ :: _ => -1
  | _ :: _, [] => 1
  | a :: x, b :: y => if Op.bytesLess a b then -1 else if Op.bytesLess b a then 1 else cmpL x y
/-- How two names compare. -/
def cmpN (a b : ByteArray) : Int := cmpL (splitL 46 a.data.toList) (splitL 46 b.data.toList)

theorem cmpL_range : ∀ x y, cmpL x y = -1 ∨ cmpL x y = 0 ∨ cmpL x y = 1
  | [], [] => .inr (.inl rfl)
  | [], _ :: _ => .inl rfl
  | _ :: _, [] => .inr (.inr rfl)
  | a :: x, b :: y => by
    unfold cmpL
    split
    · exact .inl rfl
    · split
      · exact .inr (.inr rfl)
      · exact cmpL_range x y
theorem cmpL_swap : ∀ x y, cmpL y x = - cmpL x y
  | [], [] => rfl
  | [], _ :: _ => rfl
  | _ :: _, [] => rfl
  | a :: x, b :: y => by
    unfold cmpL
    cases h1 : Op.bytesLess a b with
    | true => simp [less_asymm h1]
    | false =>
      cases h2 : Op.bytesLess b a with
      | true => simp
      | false => simpa using cmpL_swap x y
theorem cmpL_refl (x : List (List UInt8)) : cmpL x x = 0 := by have := cmpL_swap x x; omega
theorem cmpL_zero : ∀ x y, cmpL x y = 0 → x = y
  | [], [], _ => rfl
  | [], _ :: _, h => by simp [cmpL] at h
  | _ :: _, [], h => by simp [cmpL] at h
  | a :: x, b :: y, h => by
    unfold cmpL at h
    cases h1 : Op.bytesLess a b with
    | true => simp [h1] at h
    | false =>
      cases h2 : Op.bytesLess b a with
      | true => simp [h1, h2] at h
      | false =>
        simp [h1, h2] at h
        rw [less_total a b h1 h2, cmpL_zero x y h]
theorem cmpL_trans : ∀ x y z, cmpL x y < 0 → cmpL y z < 0 → cmpL x z < 0
  | [], [], _, h, _ => by simp [cmpL] at h
  | _ :: _, [], _, h, _ => by simp [cmpL] at h
  | _, _ :: _, [], _, h => by simp [cmpL] at h
  | [], _ :: _, _ :: _, _, _ => by simp [cmpL]
  | a :: x, b :: y, c :: z, h1, h2 => by
    unfold cmpL at h1 h2 ⊢
    cases ab : Op.bytesLess a b with
    | true =>
      cases bc : Op.bytesLess b c with
      | true => simp [less_trans a b c ab bc]
      | false =>
        cases cb : Op.bytesLess c b with
        | true => simp [bc, cb] at h2
        | false =>
          obtain rfl := less_total b c bc cb
          simp [ab]
    | false =>
      cases ba : Op.bytesLess b a with
      | true => simp [ab, ba] at h1
      | false =>
        obtain rfl := less_total a b ab ba
        cases bc : Op.bytesLess a c with
        | true => simp
        | false =>
          cases cb : Op.bytesLess c a with
          | true => simp [bc, cb] at h2
          | false =>
            simp [ab] at h1
            simp [bc, cb] at h2
            simpa using cmpL_trans x y z h1 h2

theorem cmpN_range (a b : ByteArray) : cmpN a b = -1 ∨ cmpN a b = 0 ∨ cmpN a b = 1 := cmpL_range _ _
theorem cmpN_swap (a b : ByteArray) : cmpN b a = - cmpN a b := cmpL_swap _ _
theorem cmpN_refl (a : ByteArray) : cmpN a a = 0 := cmpL_refl _
theorem cmpN_zero {a b : ByteArray} (h : cmpN a b = 0) : a = b := by
  have := cmpL_zero _ _ h
  have h2 := congrArg (fun l => Lib.join l [46]) this
  simp only [join_split] at h2
  cases a; cases b
  simp only [Array.toList_inj] at h2
  rw [h2]
theorem cmpN_trans {a b c : ByteArray} (h1 : cmpN a b < 0) (h2 : cmpN b c < 0) : cmpN a c < 0 := cmpL_trans _ _ _ h1 h2
theorem cmpN_total {a b : ByteArray} (h1 : ¬ cmpN a b < 0) (h2 : ¬ cmpN b a < 0) : a = b := by
  have := cmpN_swap a b
  exact cmpN_zero (by omega)

/-- Two lists in strict order with the same members are equal. -/
theorem sorted_ext {α : Type} {R : α → α → Prop} (irr : ∀ a, ¬ R a a) (tr : ∀ a b c, R a b → R b c → R a c) : ∀ {l1 l2 : List α}, l1.Pairwise R → l2.Pairwise R → (∀ x, x ∈ l1 ↔ x ∈ l2) → l1 = l2
  | [], [], _, _, _ => rfl
  | [], b :: y, _, _, h => by have := (h b).2 (by simp); cases this
  | a :: x, [], _, _, h => by have := (h a).1 (by simp); cases this
  | a :: x, b :: y, h1, h2, h => by
    rw [List.pairwise_cons] at h1 h2
    have e : a = b := by
      rcases List.mem_cons.1 ((h a).1 (by simp)) with e | ha
      · exact e
      · rcases List.mem_cons.1 ((h b).2 (by simp)) with e | hb
        · exact e.symm
        · exact absurd (tr a b a (h1.1 b hb) (h2.1 a ha)) (irr a)
    subst e
    rw [sorted_ext irr tr h1.2 h2.2 fun z => ?_]
    constructor
    · intro hz
      rcases List.mem_cons.1 ((h z).1 (by simp [hz])) with e | h3
      · subst e; exact absurd (h1.1 z hz) (irr z)
      · exact h3
    · intro hz
      rcases List.mem_cons.1 ((h z).2 (by simp [hz])) with e | h3
      · subst e; exact absurd (h2.1 z hz) (irr z)
      · exact h3

/-- Names in strict order. -/
def ordN (l : List ByteArray) : Prop := l.Pairwise fun a b => cmpN a b < 0
theorem ordN_ext {l1 l2 : List ByteArray} (h1 : ordN l1) (h2 : ordN l2) (h : ∀ x, x ∈ l1 ↔ x ∈ l2) : l1 = l2 :=
  sorted_ext (R := fun a b => cmpN a b < 0) (fun a ha => by rw [cmpN_refl] at ha; omega) (fun _ _ _ => cmpN_trans) h1 h2 h

/-- A line of the reference in memory: its group; the line. -/
structure MR where
  s : ByteArray
  m : ML
/-- The order of the reference's lines. -/
def ltR (a b : MR) : Prop := cmpN a.s b.s < 0 ∨ (a.s = b.s ∧ a.m.p.number < b.m.p.number)
theorem ltR_irr (a : MR) : ¬ ltR a a := by
  rintro (h | ⟨_, h⟩)
  · rw [cmpN_refl] at h; omega
  · omega
theorem ltR_trans (a b c : MR) (h1 : ltR a b) (h2 : ltR b c) : ltR a c := by
  rcases h1 with h1 | ⟨e1, h1⟩ <;> rcases h2 with h2 | ⟨e2, h2⟩
  · exact .inl (cmpN_trans h1 h2)
  · exact .inl (e2 ▸ h1)
  · exact .inl (e1 ▸ h2)
  · exact .inr ⟨e1.trans e2, by omega⟩
theorem ltR_total {a b : MR} (h1 : ¬ ltR a b) (h2 : ¬ ltR b a) : a.s = b.s ∧ a.m.p.number = b.m.p.number := by
  unfold ltR at h1 h2
  rw [not_or, not_and] at h1 h2
  have e := cmpN_total h1.1 h2.1
  have := h1.2 e
  have := h2.2 e.symm
  exact ⟨e, by omega⟩
/-- What 'before' of the reference answers. -/
def beforeB (a b : MR) : Bool := decide (cmpN a.s b.s < 0) || (decide (cmpN a.s b.s = 0) && decide (a.m.p.number < b.m.p.number))
theorem beforeB_iff (a b : MR) : beforeB a b = true ↔ ltR a b := by
  unfold beforeB ltR
  simp only [Bool.or_eq_true, decide_eq_true_eq, Bool.and_eq_true]
  constructor
  · rintro (h | ⟨h, h2⟩)
    · exact .inl h
    · exact .inr ⟨cmpN_zero h, h2⟩
  · rintro (h | ⟨h, h2⟩)
    · exact .inl h
    · exact .inr ⟨by rw [h, cmpN_refl], h2⟩

/-- The reference's lists are in this order. -/
def ordR (rs : List MR) : Prop := rs.Pairwise ltR
/-- The place that the reference's Add finds. -/
def atR : List MR → MR → Nat → Nat → Nat
  | [], _, _, at' => at'
  | a :: rs, r, i, at' => atR rs r (i + 1) (if beforeB a r then i + 1 else at')
theorem atR_stay : ∀ (rs : List MR) (r : MR) (i k : Nat), (∀ a ∈ rs, ¬ ltR a r) → atR rs r i k = k
  | [], _, _, _, _ => rfl
  | a :: rs, r, i, k, h => by
    unfold atR
    have hf : beforeB a r = false := by
      rw [Bool.eq_false_iff]
      exact fun e => h a (by simp) ((beforeB_iff a r).1 e)
    rw [hf]
    exact atR_stay rs r (i + 1) k fun b hb => h b (by simp [hb])
theorem atR_split : ∀ (rs : List MR) (r : MR) (i k : Nat), ordR rs → k ≤ i → ∃ x y, rs = x ++ y ∧ (∀ a ∈ x, ltR a r) ∧ (∀ a ∈ y, ¬ ltR a r) ∧ atR rs r i k = if x = [] then k else i + x.length
  | [], r, i, k, _, hk => ⟨[], [], rfl, by simp, by simp, by simp [atR]⟩
  | a :: rs, r, i, k, ho, hk => by
    unfold ordR at ho
    rw [List.pairwise_cons] at ho
    by_cases h : ltR a r
    · obtain ⟨x, y, e, hx, hy, ha⟩ := atR_split rs r (i + 1) (i + 1) ho.2 (Nat.le_refl _)
      refine ⟨a :: x, y, by rw [e]; rfl, fun b hb => ?_, hy, ?_⟩
      · rcases List.mem_cons.1 hb with rfl | hb
        · exact h
        · exact hx b hb
      · unfold atR
        rw [(beforeB_iff a r).2 h]
        simp only [if_true]
        rw [ha]
        by_cases hxe : x = []
        · simp [hxe]
        · simp [hxe]; omega
    · refine ⟨[], a :: rs, rfl, by simp, fun b hb => ?_, ?_⟩
      · rcases List.mem_cons.1 hb with rfl | hb
        · exact h
        · exact fun hb2 => h (ltR_trans a b r (ho.1 b hb) hb2)
      · rw [atR_stay (a :: rs) r i k]
        · simp
        · intro b hb
          rcases List.mem_cons.1 hb with rfl | hb
          · exact h
          · exact fun hb2 => h (ltR_trans a b r (ho.1 b hb) hb2)
/-- A line put in. -/
def addR (rs : List MR) (r : MR) : List MR := rs.take (atR rs r 0 0) ++ r :: rs.drop (atR rs r 0 0)
theorem atR_le {rs : List MR} (ho : ordR rs) (r : MR) : atR rs r 0 0 ≤ rs.length := by
  obtain ⟨x, y, e, hx, hy, ha⟩ := atR_split rs r 0 0 ho (Nat.le_refl _)
  rw [ha, e]
  split
  · omega
  · simp
theorem addR_mem {rs : List MR} {r a : MR} : a ∈ addR rs r ↔ a = r ∨ a ∈ rs := by
  unfold addR
  rw [List.perm_middle.mem_iff, List.mem_cons, List.take_append_drop]
theorem addR_ord {rs : List MR} (ho : ordR rs) {r : MR} (hn : ∀ a ∈ rs, ¬ (a.s = r.s ∧ a.m.p.number = r.m.p.number)) : ordR (addR rs r) := by
  obtain ⟨x, y, e, hx, hy, ha⟩ := atR_split rs r 0 0 ho (Nat.le_refl _)
  have ha' : atR rs r 0 0 = x.length := by
    rw [ha]
    split
    · rename_i h; rw [h]; rfl
    · omega
  unfold addR
  rw [ha', e, List.take_left, List.drop_left]
  have ho' : ordR (x ++ y) := e ▸ ho
  unfold ordR at ho' ⊢
  rw [List.pairwise_append] at ho' ⊢
  have hry : ∀ a ∈ y, ltR r a := fun a hay => Classical.byContradiction fun h => hn a (by rw [e]; simp [hay]) (ltR_total (hy a hay) h)
  refine ⟨ho'.1, List.pairwise_cons.2 ⟨hry, ho'.2.1⟩, fun a hax b hb => ?_⟩
  rcases List.mem_cons.1 hb with rfl | hb
  · exact hx a hax
  · exact ho'.2.2 a hax b hb

/-- The lines of a group. -/
def ofR (rs : List MR) (t : ByteArray) : List MR := rs.filter fun r => decide (r.s = t)
theorem ofR_mem {rs : List MR} {t : ByteArray} {r : MR} : r ∈ ofR rs t ↔ r ∈ rs ∧ r.s = t := by
  unfold ofR
  rw [List.mem_filter, decide_eq_true_eq]
/-- The groups, as the reference counts them. -/
def stepG (out : List ByteArray) (s : ByteArray) : List ByteArray := if out.getLast? = some s then out else out ++ [s]
def groupsR (rs : List MR) : List ByteArray := rs.foldl (fun o r => stepG o r.s) []
theorem groupsR_snoc (rs : List MR) (r : MR) : groupsR (rs ++ [r]) = stepG (groupsR rs) r.s := by
  unfold groupsR
  rw [List.foldl_append]; rfl
theorem snoc_ind {α : Type} {p : List α → Prop} (h0 : p []) (h1 : ∀ l a, p l → p (l ++ [a])) (l : List α) : p l := by
  have : ∀ n (l : List α), l.length = n → p l := by
    intro n
    induction n with
    | zero => intro l hl; rw [List.length_eq_zero_iff.1 hl]; exact h0
    | succ n ih =>
      intro l hl
      have hne : l ≠ [] := fun e => by rw [e] at hl; cases hl
      rw [← List.dropLast_concat_getLast hne]
      exact h1 _ _ (ih _ (by rw [List.length_dropLast]; omega))
  exact this _ l rfl
theorem groupsR_ok (rs : List MR) : ordR rs → ordN (groupsR rs) ∧ (∀ t, t ∈ groupsR rs ↔ ∃ r ∈ rs, r.s = t) ∧ (groupsR rs).getLast? = (rs.getLast?).map (·.s) := by
  refine snoc_ind (p := fun rs => ordR rs → ordN (groupsR rs) ∧ (∀ t, t ∈ groupsR rs ↔ ∃ r ∈ rs, r.s = t) ∧ (groupsR rs).getLast? = (rs.getLast?).map (·.s)) ?_ ?_ rs
  · intro _
    exact ⟨.nil, fun t => by simp [groupsR], rfl⟩
  · intro l a ih ho
    unfold ordR at ho
    rw [List.pairwise_append] at ho
    obtain ⟨h1, h2, h3⟩ := ih ho.1
    rw [groupsR_snoc]
    unfold stepG
    split
    · rename_i hl
      refine ⟨h1, fun t => ?_, ?_⟩
      · rw [h2 t]
        constructor
        · rintro ⟨r, hr, e⟩; exact ⟨r, by simp [hr], e⟩
        · rintro ⟨r, hr, e⟩
          rcases List.mem_append.1 hr with hr | hr
          · exact ⟨r, hr, e⟩
          · obtain rfl := List.mem_singleton.1 hr
            have := List.mem_of_getLast? hl
            rw [h2] at this
            obtain ⟨r', hr', e'⟩ := this
            exact ⟨r', hr', e'.trans e⟩
      · rw [hl]; simp
    · rename_i hl
      refine ⟨?_, fun t => ?_, by simp⟩
      · unfold ordN
        rw [List.pairwise_append]
        refine ⟨h1, List.pairwise_singleton _ _, fun x hx b hb => ?_⟩
        obtain rfl := List.mem_singleton.1 hb
        obtain ⟨r, hr, e⟩ := (h2 x).1 hx
        rcases ho.2.2 r hr a (by simp) with h | ⟨h, _⟩
        · exact e ▸ h
        · exfalso
          apply hl
          rw [h3]
          have hne : l ≠ [] := fun e => by rw [e] at hr; cases hr
          have hla := List.getLast?_eq_some_getLast hne
          rw [hla]
          simp only [Option.map_some, Option.some.injEq]
          by_cases hrl : r = l.getLast hne
          · rw [← hrl]; exact h
          · have hlt : ltR r (l.getLast hne) := by
              have hp := ho.1
              rw [← List.dropLast_concat_getLast hne, List.pairwise_append] at hp
              rw [← List.dropLast_concat_getLast hne] at hr
              rcases List.mem_append.1 hr with hr' | hr'
              · exact hp.2.2 r hr' _ (by simp)
              · exact absurd (List.mem_singleton.1 hr') hrl
            have hlt2 := ho.2.2 (l.getLast hne) (List.getLast_mem hne) a (by simp)
            rcases hlt2 with h5 | ⟨h5, _⟩
            · rcases hlt with h6 | ⟨h6, _⟩
              · have := cmpN_trans h6 h5
                rw [h, cmpN_refl] at this
                omega
              · rw [← h6, h, cmpN_refl] at h5
                omega
            · exact h5
      · rw [List.mem_append, List.mem_singleton, h2 t]
        constructor
        · rintro (⟨r, hr, e⟩ | e)
          · exact ⟨r, by simp [hr], e⟩
          · exact ⟨a, by simp, e.symm⟩
        · rintro ⟨r, hr, e⟩
          rcases List.mem_append.1 hr with hr | hr
          · exact .inl ⟨r, hr, e⟩
          · obtain rfl := List.mem_singleton.1 hr
            exact .inr e.symm
/-- The list is its groups' lines in a row. -/
theorem flat_groups {rs : List MR} (ho : ordR rs) : rs = (groupsR rs).flatMap (ofR rs) := by
  obtain ⟨h1, h2, _⟩ := groupsR_ok rs ho
  refine sorted_ext ltR_irr ltR_trans ho ?_ fun r => ?_
  · rw [List.pairwise_flatMap]
    refine ⟨fun t _ => ho.sublist List.filter_sublist, h1.imp fun {a b} hab x hx y hy => ?_⟩
    exact .inl (by rw [(ofR_mem.1 hx).2, (ofR_mem.1 hy).2]; exact hab)
  · rw [List.mem_flatMap]
    constructor
    · intro hr; exact ⟨r.s, (h2 r.s).2 ⟨r, hr, rfl⟩, ofR_mem.2 ⟨hr, rfl⟩⟩
    · rintro ⟨t, _, hr⟩; exact (ofR_mem.1 hr).1

end Go.Proofs.YtdjaphcelpchaaaGreatDoor

/- Names: cmp.Compare and slices.Compare at strings, groupname.Compare, bulletinref12.Compare, Component and Check. -/
namespace Go.Proofs.YtdjaphcelpchaaaGreatDoor
open Go Go.RowKit Go.Proofs

theorem str_eq_iff (a b : ByteArray) : (a.toList == b.toList) = decide (a = b) := by
  rw [ByteArray.toList_eq, ByteArray.toList_eq, Bool.eq_iff_iff, decide_eq_true_eq, beq_iff_eq]
  constructor
  · intro h; cases a; cases b; simp only [Array.toList_inj] at h; rw [h]
  · intro h; rw [h]

set_option maxHeartbeats 1000000 in
theorem isNaN_str (a : ByteArray) (w : World) : Calls Tryz.prog 167 #[.string a] w fun r w' => r = .returned (.bool false) ∧ w = w' := by
  have h : (a.toList == a.toList) = true := by simp
  go_enter Tryz.func167, Tryz.ntmps167
  go_wp2
  go_ret
  exact ⟨rfl, rfl⟩

/-- How two strings compare. -/
def cmpS (a b : ByteArray) : Int := if Op.bytesLess a.toList b.toList then -1 else if Op.bytesLess b.toList a.toList then 1 else 0
theorem gtr_str (a b : ByteArray) : (!(Op.bytesLess a.toList b.toList || a.toList == b.toList)) = (Op.bytesLess b.toList a.toList) := by
  cases h1 : Op.bytesLess a.toList b.toList with
  | true => rw [less_asymm h1]; rfl
  | false =>
    cases h2 : Op.bytesLess b.toList a.toList with
    | true =>
      have : (a.toList == b.toList) = false := by
        rw [beq_eq_false_iff_ne]
        intro e
        rw [e, less_irr] at h2
        cases h2
      rw [this]; rfl
    | false =>
      rw [less_total _ _ h1 h2]
      simp
set_option maxHeartbeats 1000000 in
theorem cmpStr_any (a b : ByteArray) (w : World) : Calls Tryz.prog 143 #[.string a, .string b] w fun r w' => r = .returned (.int .i64 (cmpS a b)) ∧ w = w' := by
  have hg := gtr_str a b
  unfold cmpS
  generalize h1 : Op.bytesLess a.toList b.toList = x at hg
  generalize h2 : Op.bytesLess b.toList a.toList = y at hg
  generalize h3 : (a.toList == b.toList) = z at hg
  cases x with
  | true =>
    go_enter Tryz.func143, Tryz.ntmps143
    go_wp2_with fail
    refine (isNaN_str a w).mono ?_
    rintro r w' ⟨rfl, rfl⟩
    go_wp2_with fail
    refine (isNaN_str b w).mono ?_
    rintro r w' ⟨rfl, rfl⟩
    go_wp2
    go_ret
    exact ⟨rfl, rfl⟩
  | false =>
    cases y with
    | true =>
      obtain rfl : z = false := by cases z with | false => rfl | true => simp at hg
      clear hg
      go_enter Tryz.func143, Tryz.ntmps143
      go_wp2_with fail
      refine (isNaN_str a w).mono ?_
      rintro r w' ⟨rfl, rfl⟩
      go_wp2_with fail
      refine (isNaN_str b w).mono ?_
      rintro r w' ⟨rfl, rfl⟩
      go_wp2
      go_ret
      exact ⟨rfl, rfl⟩
    | false =>
      obtain rfl : z = true := by cases z with | true => rfl | false => simp at hg
      clear hg
      go_enter Tryz.func143, Tryz.ntmps143
      go_wp2_with fail
      refine (isNaN_str a w).mono ?_
      rintro r w' ⟨rfl, rfl⟩
      go_wp2_with fail
      refine (isNaN_str b w).mono ?_
      rintro r w' ⟨rfl, rfl⟩
      go_wp2
      go_ret
      exact ⟨rfl, rfl⟩

theorem drop_all {α : Type} (l : List α) (k : Nat) (h : l.length ≤ k) : l.drop k = [] := List.drop_eq_nil_of_le h
/-- Lists of strings compare. -/
def cmpB (xs ys : List ByteArray) : Int := cmpL (xs.map (·.data.toList)) (ys.map (·.data.toList))
theorem cmpB_step {xs ys : List ByteArray} {k : Nat} (hx : k < xs.length) (hy : k < ys.length) : cmpB (xs.drop k) (ys.drop k) = if cmpS xs[k] ys[k] ≠ 0 then cmpS xs[k] ys[k] else cmpB (xs.drop (k + 1)) (ys.drop (k + 1)) := by
  rw [List.drop_eq_getElem_cons hx, List.drop_eq_getElem_cons hy]
  unfold cmpB cmpS
  simp only [List.map_cons, ByteArray.toList_eq]
  conv => lhs; unfold cmpL
  cases Op.bytesLess xs[k].data.toList ys[k].data.toList with
  | true => simp
  | false => cases Op.bytesLess ys[k].data.toList xs[k].data.toList <;> simp
theorem cmpN_eq (a b : ByteArray) : cmpN a b = cmpB (splitS 46 a) (splitS 46 b) := by
  unfold cmpN cmpB splitS
  simp only [List.map_map]
  have : ((fun x : ByteArray => x.data.toList) ∘ str) = id := by funext l; simp [str_data]
  rw [this, List.map_id, List.map_id]

set_option maxRecDepth 100000 in
set_option maxHeartbeats 2000000 in
theorem cmpList_any (b1 b2 c1 c2 : Nat) (xs ys : List ByteArray) (w : World) (hx : StrRow w b1 0 xs) (hy : StrRow w b2 0 ys) (h1 : xs.length ≤ 1000000) (h2 : ys.length ≤ 1000000) :
    Calls Tryz.prog 120 #[.slice (some ⟨b1, 0, none⟩) xs.length c1, .slice (some ⟨b2, 0, none⟩) ys.length c2] w fun r w' => r = .returned (.int .i64 (cmpB xs ys)) ∧ w = w' := by
  have HX := Lib.hid hx
  have HY := Lib.hid hy
  clear hx hy
  go_enter Tryz.func120, Tryz.ntmps120
  go_wp2
  go_loop [11] (fun i => ∃ k : Nat, k ≤ xs.length ∧ k ≤ ys.length ∧ i = .int .i64 k ∧ Hid (cmpB xs ys = cmpB (xs.drop k) (ys.drop k))) (fun i => xs.length - (intOf i).toNat)
  case atStart => exact ⟨0, by omega, by omega, rfl, Lib.hid rfl⟩
  case round =>
    obtain ⟨k, hk, hk2, rfl, HB⟩ := hrel
    by_cases hlt : k < xs.length
    · have hltz : (k : Int) < (xs.length : Int) := by omega
      have hc1 := HX.out k _ (List.getElem?_eq_getElem hlt)
      rw [Nat.zero_add] at hc1
      by_cases hlt2 : k < ys.length
      · have hltz2 : ¬ ((ys.length : Int) ≤ (k : Int)) := by omega
        have hltz3 : ((k : Int) < (ys.length : Int)) := by omega
        have hc2 := HY.out k _ (List.getElem?_eq_getElem hlt2)
        rw [Nat.zero_add] at hc2
        have HST := Lib.hid (HB.out.trans (cmpB_step hlt hlt2))
        have HC := Lib.hid (cmpStr_any xs[k] ys[k] w)
        clear HB
        generalize cmpS xs[k] ys[k] = c at HST HC
        generalize xs[k] = x at hc1 HC
        generalize ys[k] = y at hc2 HC
        go_wp2_with fail
        refine HC.out.mono ?_
        rintro r w' ⟨rfl, rfl⟩
        by_cases hc0 : c = 0
        · subst hc0
          go_wp2
          go_round
          case rel => exact ⟨k + 1, by omega, by omega, by go_num, Lib.hid (by rw [HST.out]; simp)⟩
          case measure => simp [intOf]; omega
        · have hc0b : (c != 0) = true := by simpa using hc0
          have hc0c : (c == 0) = false := by simpa using hc0
          go_wp2
          go_ret
          exact ⟨ret_int (by rw [HST.out, if_pos hc0]), rfl⟩
      · have hltz2 : ((ys.length : Int) ≤ (k : Int)) := by omega
        have HE : Hid (cmpB xs ys = 1) := Lib.hid (by
          rw [HB.out, List.drop_eq_getElem_cons hlt, drop_all ys k (by omega)]; rfl)
        clear HB
        go_wp2
        go_ret
        exact ⟨ret_int HE.out.symm, rfl⟩
    · by_cases hlt2 : k < ys.length
      · have hl : (xs.length : Int) < (ys.length : Int) := by omega
        have HE : Hid (cmpB xs ys = -1) := Lib.hid (by
          rw [HB.out, List.drop_eq_getElem_cons hlt2, drop_all xs k (by omega)]; rfl)
        clear HB
        go_wp2
        go_ret
        exact ⟨ret_int HE.out.symm, rfl⟩
      · have hl : ¬ (xs.length : Int) < (ys.length : Int) := by omega
        have HE : Hid (cmpB xs ys = 0) := Lib.hid (by
          rw [HB.out, drop_all xs k (by omega), drop_all ys k (by omega)]; rfl)
        clear HB
        go_wp2
        go_ret
        exact ⟨ret_int HE.out.symm, rfl⟩

set_option maxHeartbeats 1000000 in
theorem compare_any (a b : ByteArray) (w : World) (hG : Gl w) (ha : a.size ≤ 100000) (hb : b.size ≤ 100000) :
    Calls Tryz.prog 86 #[.string a, .string b] w fun r w' => r = .returned (.int .i64 (cmpN a b)) ∧ Below w.heap.size w w' ∧ (w.alloc (.cells ((splitS 46 a).map Value.string).toArray 9)).alloc (.cells ((splitS 46 b).map Value.string).toArray 9) = w' := by
  have hl1 := (splitS_len 46 a).2
  have hl2 := (splitS_len 46 b).2
  have hB : Below w.heap.size w ((w.alloc (.cells ((splitS 46 a).map Value.string).toArray 9)).alloc (.cells ((splitS 46 b).map Value.string).toArray 9)) := ((Below.refl _ _).alloc (Nat.le_refl _) _).alloc (by simp) _
  have HB := Lib.hid hB
  clear hB
  have hr1 : StrRow ((w.alloc (.cells ((splitS 46 a).map Value.string).toArray 9)).alloc (.cells ((splitS 46 b).map Value.string).toArray 9)) w.heap.size 0 (splitS 46 a) := fun k x hx => Lib.cell?_alloc_some _ (split_row w 9 (splitS 46 a) k x hx)
  have hr2 : StrRow ((w.alloc (.cells ((splitS 46 a).map Value.string).toArray 9)).alloc (.cells ((splitS 46 b).map Value.string).toArray 9)) (w.heap.size + 1) 0 (splitS 46 b) := by
    have := split_row (w.alloc (.cells ((splitS 46 a).map Value.string).toArray 9)) 9 (splitS 46 b)
    simpa using this
  have HC := Lib.hid (cmpList_any w.heap.size (w.heap.size + 1) (splitS 46 a).length (splitS 46 b).length (splitS 46 a) (splitS 46 b) _ hr1 hr2 (by omega) (by omega))
  clear hr1 hr2
  rw [← cmpN_eq] at HC
  go_enter Tryz.func86, Tryz.ntmps86
  go_wp2_with fail
  refine (dots_any a w hG (by omega)).mono ?_
  rintro r w' ⟨rfl, rfl⟩
  go_wp2_with fail
  refine (dots_any b _ (hG.later ((Below.refl _ _).alloc (Nat.le_refl _) _)) (by omega)).mono ?_
  rintro r w' ⟨rfl, rfl⟩
  go_wp2_with fail
  refine HC.out.mono ?_
  rintro r w' ⟨rfl, rfl⟩
  go_wp2
  go_ret
  exact ⟨rfl, HB.out, rfl⟩

end Go.Proofs.YtdjaphcelpchaaaGreatDoor
