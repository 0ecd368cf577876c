/- overview.Parse. -/
import Derived.Test.YtdjaphcelpchaaaGreatDoorPart
namespace Go.Proofs.YtdjaphcelpchaaaGreatDoor
open Go Go.RowKit Go.Proofs

theorem set_any (i lb : Nat) (g : GLine) (p : ByteArray) (w : World) (hi : i < 7) (hv : LineVar w lb g) (hr : i = 5 → g.refs = .slice none 0 0) (hG : Gl w) (hs : p.size < 4294967281) :
    Calls Tryz.prog 60 #[.pointer (some ⟨lb, 0, none⟩), .int .i64 i, .string p] w fun r w' => r = .returned (.int .i64 (partErr i p)) ∧ SetPost g i p lb w w' := by
  have hm : p.size ≤ maxLen := by unfold maxLen; omega
  match i, hi, hr with
  | 0, _, _ => exact set0 lb g p w hv hm
  | 1, _, _ => exact set1 lb g p w hv hm
  | 2, _, _ => exact set2 lb g p w hv hm
  | 3, _, _ => exact set3 lb g p w hv hm
  | 4, _, _ => exact set4 lb g p w hv hm
  | 5, _, hr => exact set5 lb g p w hv (hr rfl) hG hs
  | 6, _, _ => exact set6 lb g p w hv hm

def nth (T : List ByteArray) (k : Nat) : ByteArray := T.getD k ⟨#[]⟩
theorem nth_at (T : List ByteArray) (k : Nat) (h : k < T.length) : T[k]? = some (nth T k) := by simp [nth, h]
/-- Where part k of a text begins. -/
def offs (T : List ByteArray) (k : Nat) : Nat := ((T.take k).map fun x => x.size + 1).sum
theorem offs_succ (T : List ByteArray) (k : Nat) (h : k < T.length) : offs T (k + 1) = offs T k + ((nth T k).size + 1) := by
  unfold offs
  have e : nth T k = T[k] := by simp [nth, h]
  rw [List.take_succ_eq_append_getElem h, e, List.map_append, List.sum_append]
  simp
def firstBad (T : List ByteArray) : Option Nat := (List.range 7).find? fun k => partErr k (nth T k) != 0
/-- The error and its offset that Parse tells of a text. -/
def parseOut (s : ByteArray) : Int × Int :=
  if (splitS 9 s).length < 7 then (4, s.size) else if 7 < (splitS 9 s).length then (5, offs (splitS 9 s) 7)
  else match firstBad (splitS 9 s) with
    | some k => (partErr k (nth (splitS 9 s) k), offs (splitS 9 s) k)
    | none => (0, 0)
/-- The line when k parts have been read; v is the slice of its references. -/
def gAt (T : List ByteArray) (v : Value) : Nat → GLine
  | 0 => zeroLine
  | k + 1 => setG (gAt T v k) k (nth T k) v
theorem gAt_indep (T : List ByteArray) (v v' : Value) : ∀ k, k ≤ 5 → gAt T v k = gAt T v' k := by
  intro k hk
  have : k = 0 ∨ k = 1 ∨ k = 2 ∨ k = 3 ∨ k = 4 ∨ k = 5 := by omega
  rcases this with rfl | rfl | rfl | rfl | rfl | rfl <;> rfl
theorem gAt_refs (T : List ByteArray) (v : Value) : (gAt T v 5).refs = .slice none 0 0 := rfl
structure ParsedIs (s : ByteArray) (G : GLine) (ids : List Id32) : Prop where
  no : (parseOut s).1 ≠ 0 → G = zeroLine ∧ ids = []
  yes : (parseOut s).1 = 0 → ∃ v, G = gAt (splitS 9 s) v 7 ∧ ids = refIds (nth (splitS 9 s) 5)

theorem firstBad_some {T : List ByteArray} {k : Nat} (hk : k < 7) (h : partErr k (nth T k) ≠ 0) (h0 : ∀ j, j < k → partErr j (nth T j) = 0) : firstBad T = some k := by
  unfold firstBad
  rw [List.find?_range_eq_some]
  exact ⟨by simp [h], by simpa using hk, fun j hj => by simp [h0 j hj]⟩
theorem firstBad_none {T : List ByteArray} (h0 : ∀ j, j < 7 → partErr j (nth T j) = 0) : firstBad T = none := by
  unfold firstBad
  rw [List.find?_eq_none]
  intro j hj
  simp only [List.mem_range] at hj
  simp [h0 j hj]
theorem idsAt_nil (w : World) : IdsAt w (.slice none 0 0) [] := ⟨none, 0, rfl, Nat.le_refl _, fun h => absurd rfl h⟩

theorem results_agg3 {P : Program} {fn : Func} {p t u : Tmp} {ty n : Nat} (h : fn.results = #[.cell p ty, .tmp t, .tmp u]) (hA : ∀ w, Sem.run P (isAgg ty) w = .ok true w) (hs : ∀ w, Sem.run P (Go.sizeOf ty) w = .ok n w)
    (tmps : Array Value) (w : World) (a : Addr) (cs : Array Value) (v v2 : Value) (hp : tmps.getD p undef = .pointer (some a)) (hv : tmps.getD t undef = v) (hu : tmps.getD u undef = v2) (hok : okCells w a n = true) (hrd : rdCells w a n = cs) :
    (results fn tmps).run P w = .ok (.tuple #[.agg cs, v, v2]) w := by
  have hp' : tmps[p]?.getD undef = .pointer (some a) := by simpa using hp
  have hv2 : tmps[t]?.getD undef = v := by simpa using hv
  have hv3 : tmps[u]?.getD undef = v2 := by simpa using hu
  have hl : (loadVar ty a).run P w = .ok (.agg cs) w := by
    simp [loadVar, hA, hs, run_loadCells_rd w a n hok, hrd]
  simp [results, h, hp', hv2, hv3, asAddr, hl]
theorem LineVar.rd {w : World} {lb : Nat} {g : GLine} (h : LineVar w lb g) : okCells w ⟨lb, 0, none⟩ 38 = true ∧ rdCells w ⟨lb, 0, none⟩ 38 = lineCells g := by
  have := rd_of_cells (w := w) (a := ⟨lb, 0, none⟩) (cs := lineList g) (fun j v hj => by rw [Addr.add_lit, Nat.zero_add, h.cell j]; simpa [lineCells] using hj)
  rwa [lineList_length] at this
theorem LineBlk.setRow {w : World} {lb : Nat} {g' : GLine} (h : LineBlk w lb) : LineVar (w.setRow lb (lineCells g')) lb g' := by
  obtain ⟨cs, h1, _⟩ := h
  exact setRow_heap w lb _ _ _ _ h1

end Go.Proofs.YtdjaphcelpchaaaGreatDoor
