/- bulletinlaw28.Back and bulletinlaw28.small. -/
import Derived.Test.YtdjaphcelpchaaaGreatDoorBuild
namespace Go.Proofs.YtdjaphcelpchaaaGreatDoor
open Go Go.RowKit Go.Proofs

attribute [local go_sem ↓] ex_load_id ex_store_id ex_load_line ex_store_line ex_load_rline ex_store_rline ex_alloc_line ex_build_line ex_alloc_rline ex_build_rline ex_build_line7 ex_build_rline8
attribute [local go_sem] ld_id st_id ld_line st_line ld_rline st_rline guard_id okCells_drew rdCells_drew okCells_drewN rdCells_drewN rowOk_drew rowOk_cells okCells_cells rdCells_cells setRow_drew setRow_new setRow_past
attribute [local go_sem] lc0 lc33 lc34 lc35 lc36 lc37 rc0 rc1 rc34 rc35 rc36 rc37 rc38

theorem okArr_lid (g : GLine) : okArr (lineCells g) 1 32 = true := okArr_le (by rw [lineCells_size]; omega)
theorem rdArr_lid (g : GLine) : rdArr (lineCells g) 1 32 = (encId g.id).toArray := by rw [rdArr_extract (by rw [lineCells_size]; omega)]; exact extract_id g
theorem okArr_rid (s : ByteArray) (g : GLine) : okArr (rlineCells s g) 2 32 = true := okArr_le (by rw [rlineCells_size]; omega)
theorem rdArr_rid (s : ByteArray) (g : GLine) : rdArr (rlineCells s g) 2 32 = (encId g.id).toArray := by rw [rdArr_extract (by rw [rlineCells_size]; omega)]; exact extract_rid s g
attribute [local go_sem] okArr_lid rdArr_lid okArr_rid rdArr_rid

theorem results_agg1 {P : Program} {fn : Func} {p : Tmp} {ty n : Nat} (h : fn.results = #[.cell p ty]) (hA : ∀ w, Sem.run P (isAgg ty) w = .ok true w) (hs : ∀ w, Sem.run P (Go.sizeOf ty) w = .ok n w)
    (tmps : Array Value) (w : World) (a : Addr) (cs : Array Value) (hp : tmps.getD p undef = .pointer (some a)) (hok : okCells w a n = true) (hrd : rdCells w a n = cs) :
    (results fn tmps).run P w = .ok (.agg cs) w := by
  have hp' : tmps[p]?.getD undef = .pointer (some a) := by simpa using hp
  have hl : (loadVar ty a).run P w = .ok (.agg cs) w := by
    simp [loadVar, hA, hs, run_loadCells_rd w a n hok, hrd]
  simp [results, h, hp', asAddr, hl]

set_option maxRecDepth 100000 in
set_option maxHeartbeats 1000000 in
theorem back_any (s : ByteArray) (g : GLine) (w : World) (hr : g.refs.cells = #[g.refs]) (h1 : refsOne g) :
    Calls Tryz.prog 22 #[.string s, .agg (lineCells g)] w fun r w' => r = .returned (.agg (rlineCells s g)) ∧ Below w.heap.size w w' := by
  have hb : ∀ w, blRes Tryz.prog 26 w #[(0, .string s), (1, .int .i64 g.number), (2, .agg (encId g.id).toArray), (3, .string g.name), (4, .int .i64 g.date), (5, .string g.subject), (6, g.refs), (7, .int .i64 g.bytes)] = .ok (.value (.agg (rlineCells s g))) w := fun w => blRes_of (built_rline s g hr)
  have hft := fits_rline (s := s) h1
  have hrsz : ((rlineCells ⟨#[]⟩ zeroLine).size == 39) = true := by rw [rlineCells_size]; rfl
  go_enter Tryz.func22, Tryz.ntmps22
  go_wp2
  refine bodyPost_ret (v := .agg (rlineCells s g)) ?_ rfl ⟨rfl, ((Below.refl _ _).alloc (Nat.le_refl _) _).alloc (by simp) _⟩
  exact results_agg1 rfl Tryz.isAgg26 Tryz.sizeOf26 _ _ ⟨w.heap.size + 1, 0, none⟩ _ rfl (by simpa using ok_new_rline (w.alloc (.cells (lineCells g) 34)) s g _) (by simpa using rd_new_rline (w.alloc (.cells (lineCells g) 34)) s g 26)

set_option maxHeartbeats 1000000 in
theorem small_any (s : ByteArray) (g : GLine) (w : World) (a : Option Addr) (n c : Nat) (hr : g.refs = .slice a n c) (hn : n ≤ maxLen) (h1 : s.size ≤ maxLen / 4) (h2 : g.name.size ≤ maxLen / 4) (h3 : g.subject.size ≤ maxLen / 4) :
    Calls Tryz.prog 14 #[.agg (rlineCells s g)] w fun r w' => r = .returned (.bool (decide (n ≤ 30) && decide (s.size + g.name.size + g.subject.size ≤ 600))) ∧ Below w.heap.size w w' := by
  unfold maxLen at *
  have hbw := Lib.hid (show Below w.heap.size w (w.alloc (.cells (rlineCells s g) 26)) from (Below.refl _ _).alloc (Nat.le_refl _) _)
  by_cases hq : n ≤ 30
  · have hqz : (n : Int) ≤ 30 := by omega
    by_cases hp : s.size + g.name.size + g.subject.size ≤ 600
    · have hpz : (s.size : Int) + g.name.size + g.subject.size ≤ 600 := by omega
      go_enter Tryz.func14, Tryz.ntmps14
      go_wp2
      go_ret
      exact ⟨by simp; exact ⟨hq, hp⟩, hbw.out⟩
    · have hpz : ¬ (s.size : Int) + g.name.size + g.subject.size ≤ 600 := by omega
      go_enter Tryz.func14, Tryz.ntmps14
      go_wp2
      go_ret
      exact ⟨by simp, hbw.out⟩
  · have hqz : ¬ (n : Int) ≤ 30 := by omega
    go_enter Tryz.func14, Tryz.ntmps14
    go_wp2
    go_ret
    exact ⟨by simp, hbw.out⟩

end Go.Proofs.YtdjaphcelpchaaaGreatDoor
