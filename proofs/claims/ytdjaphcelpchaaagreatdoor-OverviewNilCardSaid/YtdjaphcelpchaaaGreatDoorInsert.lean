/- slices.Insert of one line at the end. -/
import Derived.Test.YtdjaphcelpchaaaGreatDoorClone
namespace Go.Proofs.YtdjaphcelpchaaaGreatDoor
open Go Go.RowKit Go.Proofs

theorem Tryz.info_line : (Tryz.prog.info? 34).map (fun i => (i.zero, i.size, i.bytes)) = some (some (.agg (lineCells zeroLine)), 38, 112) := by kernel_rfl

set_option maxRecDepth 100000 in
set_option maxHeartbeats 1000000 in
theorem insert_end (B : Nat) (v : Value) (n sb : Nat) (xs : List Value) (g : GLine) (w : World) (hone : refsOne g) (hown : w.ownsRow B 34 38 v n xs) (hB : B ≤ w.heap.size) (hn : n ≤ 65536) (hsb : ∀ j u, (lineList g)[j]? = some u → w.cell? ((⟨sb, 0, none⟩ : Addr).add j) = some u) :
    Calls Tryz.prog 73 #[v, .int .i64 n, .slice (some ⟨sb, 0, none⟩) 1 1] w fun r w' => ∃ v', r = .returned v' ∧ w'.ownsRow B 34 38 v' (n + 1) (xs ++ lineList g) ∧ w.grownBy w' v.ownBlock := by
  obtain ⟨i0, hi, hz0, hz1, hz2⟩ := info_parts Tryz.info_line
  have HS := Lib.hid hsb
  clear hsb
  have hone2 := Lib.hid (lineList_one hone)
  have hl1 := lineList_length g
  have HW := Lib.hid hown
  rcases hown.2 with ⟨rfl, rfl⟩ | ⟨gb, cap, cur, rfl, hg, hcur, hle, hmx, hcs, htk⟩
  · clear hown
    go_enter Tryz.func73, Tryz.ntmps73
    go_wp2_with (at_builtin; refine wpList_append_own _ rfl (.tmp 23) (.tmp 24) 107 rfl B 34 i0 (.agg (lineCells zeroLine)) 38 112 Tryz.underlying107 hi hz0 hz1 hz2 (lineCells_size _) (by decide) _ _ _ rfl HW.out ⟨sb, 0, none⟩ 1 1 (lineList g) rfl hl1 HS.out hone2.out ?c3 ?c4 hB ?_)
    case c3 => unfold maxLen; omega
    case c4 => omega
    intro v' w2 hown' hgrow _
    go_wp2
    go_ret
    exact ⟨v', rfl, hown', hgrow⟩
  · clear hown
    unfold maxLen at hmx
    have heq : ((n : Int) == (n : Int)) = true := by simp
    have hle' : (n : Int) ≤ (cap : Int) := by omega
    by_cases hcn : cap = n
    · subst hcn
      go_enter Tryz.func73, Tryz.ntmps73
      go_wp2_with (at_builtin; refine wpList_append_own _ rfl (.tmp 23) (.tmp 24) 107 rfl B 34 i0 (.agg (lineCells zeroLine)) 38 112 Tryz.underlying107 hi hz0 hz1 hz2 (lineCells_size _) (by decide) _ _ _ rfl HW.out ⟨sb, 0, none⟩ 1 1 (lineList g) rfl hl1 HS.out hone2.out (by unfold maxLen; omega) (by omega) hB ?_)
      intro v' w2 hown' hgrow _
      go_wp2
      go_ret
      exact ⟨v', rfl, hown', hgrow⟩
    · have hcz : ¬ (cap : Int) = (n : Int) := by omega
      go_enter Tryz.func73, Tryz.ntmps73
      go_wp2_with (at_builtin; refine wpList_append_own _ rfl (.tmp 23) (.tmp 24) 107 rfl B 34 i0 (.agg (lineCells zeroLine)) 38 112 Tryz.underlying107 hi hz0 hz1 hz2 (lineCells_size _) (by decide) _ _ _ rfl HW.out ⟨sb, 0, none⟩ 1 1 (lineList g) rfl hl1 HS.out hone2.out (by unfold maxLen; omega) (by omega) hB ?_)
      intro v' w2 hown' hgrow _
      go_wp2
      go_ret
      exact ⟨v', rfl, hown', hgrow⟩

end Go.Proofs.YtdjaphcelpchaaaGreatDoor
