/- overview.Parse: the walk. -/
import Derived.Test.YtdjaphcelpchaaaGreatDoorParse
namespace Go.Proofs.YtdjaphcelpchaaaGreatDoor
open Go Go.RowKit Go.Proofs

attribute [local go_sem ↓] ex_load_id ex_store_id ex_load_line ex_store_line ex_alloc_line ex_build_line
attribute [local go_sem] ld_id st_id ld_line st_line guard_id okCells_drew rdCells_drew okCells_drewN rdCells_drewN rowOk_drew rowOk_cells okCells_cells rdCells_cells setRow_drew setRow_new setRow_past

structure ParseLoop (w W1 wr : World) (T : List ByteArray) (k : Nat) (v : Value) : Prop where
  var : LineVar wr w.heap.size (gAt T v k)
  grown : W1.grownBy wr (some w.heap.size)
  ids : 5 < k → v.oneCell' = true ∧ v.ownBlock ≠ some w.heap.size ∧ IdsAt wr v (refIds (nth T 5))
  ok : ∀ j, j < k → partErr j (nth T j) = 0

theorem ParseLoop.next {w W1 wr w' : World} {T : List ByteArray} {k : Nat} {v : Value} (h : ParseLoop w W1 wr T k v) (hp : SetPost (gAt T v k) k (nth T k) w.heap.size wr w') (he : partErr k (nth T k) = 0) : ∃ v', ParseLoop w W1 w' T (k + 1) v' := by
  obtain ⟨hg, _, hy⟩ := hp
  obtain ⟨v', hv', h5⟩ := hy he
  have hok : ∀ j, j < k + 1 → partErr j (nth T j) = 0 := fun j hj => by
    by_cases e : j = k
    · rw [e]; exact he
    · exact h.ok j (by omega)
  by_cases hk : k = 5
  · subst hk
    refine ⟨v', ?_, grown_trans h.grown hg, fun _ => h5 rfl, hok⟩
    rw [gAt, gAt_indep T v' v 5 (Nat.le_refl _)]
    exact hv'
  · by_cases hlt : k < 5
    · refine ⟨v', ?_, grown_trans h.grown hg, fun h6 => by omega, hok⟩
      rw [gAt, gAt_indep T v' v k (by omega)]
      exact hv'
    · refine ⟨v, ?_, grown_trans h.grown hg, fun _ => ?_, hok⟩
      · rw [gAt]
        have e : setG (gAt T v k) k (nth T k) v = setG (gAt T v k) k (nth T k) v' := by
          unfold setG
          split <;> first | rfl | omega
        rw [e]; exact hv'
      · obtain ⟨h1, h2, h3⟩ := h.ids (by omega)
        exact ⟨h1, h2, h3.grown hg h2⟩

theorem offs_le (T : List ByteArray) (M : Nat) : ∀ k, k ≤ T.length → (∀ j, j < k → (nth T j).size + 1 ≤ M) → offs T k ≤ k * M
  | 0, _, _ => by simp [offs]
  | k + 1, hk, h => by
    have ih := offs_le T M k (by omega) (fun j hj => h j (by omega))
    have h1 := h k (by omega)
    rw [offs_succ T k (by omega), Nat.succ_mul]
    omega
theorem gAt_one (T : List ByteArray) (v : Value) (h : v.oneCell' = true) : refsOne (gAt T v 7) := h

def ParsePost (s : ByteArray) (w : World) (r : Ending) (w' : World) : Prop := ∃ G ids, r = .returned (.tuple #[.agg (lineCells G), .int .i64 (parseOut s).2, .int .i64 (parseOut s).1]) ∧ ParsedIs s G ids ∧ IdsAt w' G.refs ids ∧ refsOne G ∧ Below w.heap.size w w'
theorem parse_bad {s : ByteArray} {w w' : World} {e o : Int} (he : parseOut s = (e, o)) (hne : e ≠ 0) (hb : Below w.heap.size w w') : ParsePost s w (.returned (.tuple #[.agg (lineCells zeroLine), .int .i64 o, .int .i64 e])) w' :=
  ⟨zeroLine, [], by rw [he], ⟨fun _ => ⟨rfl, rfl⟩, fun h => absurd (by rw [he] at h; exact h) hne⟩, idsAt_nil w', rfl, hb⟩
theorem parse_good {s : ByteArray} {w W1 wr : World} {v : Value} (h : ParseLoop w W1 wr (splitS 9 s) 7 v) (hlen : (splitS 9 s).length = 7) (hb1 : Below w.heap.size w W1) :
    ParsePost s w (.returned (.tuple #[.agg (lineCells (gAt (splitS 9 s) v 7)), .int .i64 0, .int .i64 0])) (wr.setRow w.heap.size (lineCells (gAt (splitS 9 s) v 7))) := by
  have he : parseOut s = (0, 0) := by
    unfold parseOut
    rw [if_neg (by omega), if_neg (by omega), firstBad_none h.ok]
  obtain ⟨h1, h2, h3⟩ := h.ids (by omega)
  refine ⟨_, refIds (nth (splitS 9 s) 5), by rw [he], ⟨fun e => absurd (by rw [he]) e, fun _ => ⟨v, rfl, rfl⟩⟩, h3.grown (grown_row _ _ _) h2, gAt_one _ _ h1, ?_⟩
  exact below_grown hb1 (grown_trans h.grown (grown_row _ _ _)) hb1.size (Nat.le_refl _)

set_option maxRecDepth 100000 in
set_option maxHeartbeats 2000000 in
theorem parse_any (s : ByteArray) (w : World) (hG : Gl w) (hs : s.size < 4294967281) :
    Calls Tryz.prog 19 #[.string s] w (ParsePost s w) := by
  obtain ⟨T, hT⟩ : ∃ T, T = splitS 9 s := ⟨_, rfl⟩
  have hlen := splitS_len 9 s
  rw [← hT] at hlen
  obtain ⟨n, hn⟩ : ∃ n, n = T.length := ⟨_, rfl⟩
  rw [← hn] at hlen
  have HT := Lib.hid hT
  have HN := Lib.hid hn
  have hsz : ∀ k, k < n → (nth T k).size ≤ s.size := fun k hk => by
    have h1 : nth T k ∈ T := by
      have := nth_at T k (by omega)
      exact List.mem_of_getElem? this
    have e0 : T = (splitL 9 s.data.toList).map str := hT
    generalize nth T k = y at h1 ⊢
    rw [e0, List.mem_map] at h1
    obtain ⟨x, hx, e⟩ := h1
    have := splitL_part 9 s.data.toList x hx
    rw [size_list] at this
    rw [← e, str_size]; exact this
  have HSZ := Lib.hid hsz
  have hfz : fitsRow 38 (lineCells zeroLine) = true := fits_line rfl
  clear hT hn hsz
  go_enter Tryz.func19, Tryz.ntmps19
  go_wp2_with fail
  refine (split_any 9 s _ (hG.later ((Below.refl _ _).alloc (Nat.le_refl _) _)) hs).mono ?_
  rintro r W1 ⟨rfl, hW1⟩
  rw [← HT.out] at hW1
  rw [← HT.out, ← HN.out]
  have hrow : StrRow W1 (w.heap.size + 1) 0 T := by
    rw [← hW1]
    have := split_row (w.alloc (.cells (lineCells zeroLine) 34)) 9 T
    simpa using this
  have hvar1 : LineVar W1 w.heap.size zeroLine := by
    unfold LineVar
    rw [← hW1, heap_alloc_old _ _ (by simp), heap_alloc_new]
  have hb1 : Below w.heap.size w W1 := by rw [← hW1]; exact ((Below.refl _ _).alloc (Nat.le_refl _) _).alloc (by simp) _
  have hs1 : W1.heap.size = w.heap.size + 2 := by rw [← hW1]; simp
  have hro1 := hvar1.row
  have HV1 := Lib.hid hvar1
  clear hW1 hvar1
  by_cases hlow : n < 7
  · have hlowz : (n : Int) < 7 := by omega
    have HPO := Lib.hid (show parseOut s = (4, (s.size : Int)) by unfold parseOut; rw [← HT.out, ← HN.out, if_pos hlow])
    go_wp2
    refine bodyPost_ret (v := .tuple #[.agg (lineCells zeroLine), .int .i64 (s.size : Int), .int .i64 4]) ?_ rfl (parse_bad HPO.out (by decide) (below_grown hb1 (grown_row _ _ _) (by omega) (Nat.le_refl _)))
    exact results_agg3 rfl Tryz.isAgg34 Tryz.sizeOf34 _ _ ⟨w.heap.size, 0, none⟩ _ _ _ rfl rfl rfl (HV1.out.blk.setRow.rd.1) (HV1.out.blk.setRow.rd.2)
  · have hlowz : ¬ (n : Int) < 7 := by omega
    go_wp2
    go_loop [3, 21] (fun o i => ∃ k : Nat, k ≤ 7 ∧ k ≤ n ∧ i = .int .i64 k ∧ o = .int .i64 (offs T k : Nat)) (fun _ i => 8 - (intOf i).toNat)
    case atStart => exact ⟨0, by omega, by omega, rfl, rfl⟩
    case round =>
      obtain ⟨k, hk7, hkn, rfl, rfl⟩ := hrel
      have hoff := offs_le T 4294967296 k (by rw [← HN.out]; exact hkn) (fun j hj => by have := HSZ.out j (by omega); omega)
      by_cases hlt : k < n
      · have hltz : (k : Int) < (n : Int) := by omega
        have htext : W1.cell? ⟨w.heap.size + 1, k, none⟩ = some (.string (nth T k)) := by
          have := hrow k _ (nth_at T k (by rw [← HN.out]; exact hlt))
          rwa [Nat.zero_add] at this
        by_cases h7 : k = 7
        · subst h7
          rw [show ((7 : Nat) : Int) = 7 from rfl] at *
          have HPO := Lib.hid (show parseOut s = (5, (offs T 7 : Int)) by unfold parseOut; rw [← HT.out, ← HN.out, if_neg hlow, if_pos hlt])
          go_wp2
          refine bodyPost_ret (v := .tuple #[.agg (lineCells zeroLine), .int .i64 (offs T 7 : Int), .int .i64 5]) ?_ rfl (parse_bad HPO.out (by decide) (below_grown hb1 (grown_row _ _ _) (by omega) (Nat.le_refl _)))
          exact results_agg3 rfl Tryz.isAgg34 Tryz.sizeOf34 _ _ ⟨w.heap.size, 0, none⟩ _ _ _ rfl rfl rfl (HV1.out.blk.setRow.rd.1) (HV1.out.blk.setRow.rd.2)
        · have h7z : ((k : Int) == 7) = false := by rw [beq_eq_false_iff_ne]; omega
          have hsk := HSZ.out k hlt
          have HO := Lib.hid (offs_succ T k (by rw [← HN.out]; exact hlt))
          go_wp2
          go_round
          case rel => exact ⟨k + 1, by omega, by omega, by go_num, by rw [HO.out]; go_num⟩
          case measure => simp [intOf]; omega
      · obtain rfl : k = n := by omega
        obtain rfl : k = 7 := by omega
        go_wp2
        go_loopw [3, 38] (fun o i wr => ∃ (k : Nat) (v : Value), k ≤ 7 ∧ i = .int .i64 k ∧ o = .int .i64 (offs T k : Nat) ∧ ParseLoop w W1 wr T k v) (fun _ i _ => 7 - (intOf i).toNat)
        case atStart => exact ⟨0, undef, by omega, rfl, rfl, HV1.out, grown_refl _ _, fun h => by omega, fun j hj => by omega⟩
        case round =>
          obtain ⟨k, v, hk, rfl, rfl, hL⟩ := hrel
          have hoff2 := offs_le T 4294967296 k (by rw [← HN.out]; exact hk) (fun j hj => by have := HSZ.out j (by omega); omega)
          have hbr : Below w.heap.size w wr := below_grown hb1 hL.grown (by omega) (Nat.le_refl _)
          by_cases hlt : k < 7
          · have hltz : (k : Int) < 7 := by omega
            have htext : wr.cell? ⟨w.heap.size + 1, k, none⟩ = some (.string (nth T k)) := by
              have := hrow k _ (nth_at T k (by rw [← HN.out]; exact hlt))
              rw [Nat.zero_add] at this
              rw [← this]
              unfold World.cell?
              rw [hL.grown.block (w.heap.size + 1) (by omega) (by simp)]
            have hsk := HSZ.out k hlt
            have HO := Lib.hid (offs_succ T k (by rw [← HN.out]; exact hlt))
            go_wp2_with fail
            refine (set_any k w.heap.size (gAt T v k) (nth T k) wr hlt hL.var (fun e => by subst e; exact gAt_refs T v) (hG.below hbr hG.size) (by omega)).mono ?_
            rintro r w2 ⟨rfl, hpost⟩
            by_cases he : partErr k (nth T k) = 0
            · have hnext := Lib.hid (hL.next hpost he)
              rw [he]
              clear hL hpost
              go_wp2
              go_roundw
              case rel =>
                obtain ⟨v', hv'⟩ := hnext.out
                exact ⟨k + 1, v', by omega, by go_num, by rw [HO.out]; go_num, hv'⟩
              case measure => simp [intOf]; omega
            · have hb2 := Lib.hid (below_grown hb1 (grown_trans hL.grown hpost.1) (by omega) (Nat.le_refl _))
              have HB := Lib.hid hpost.2.1
              have hro2 := hpost.2.1.row
              have HPO := Lib.hid (show parseOut s = (partErr k (nth T k), (offs T k : Int)) by
                unfold parseOut
                rw [← HT.out, ← HN.out, if_neg (by omega), if_neg (by omega), firstBad_some hlt he hL.ok])
              have HE := Lib.hid he
              generalize partErr k (nth T k) = e at he HPO HE ⊢
              have hez : (e == 0) = false := by rw [beq_eq_false_iff_ne]; exact he
              clear hL hpost
              go_wp2
              refine bodyPost_ret (v := .tuple #[.agg (lineCells zeroLine), .int .i64 (offs T k : Int), .int .i64 e]) ?_ rfl (parse_bad HPO.out HE.out (below_grown hb2.out (grown_row _ _ _) hb2.out.size (Nat.le_refl _)))
              exact results_agg3 rfl Tryz.isAgg34 Tryz.sizeOf34 _ _ ⟨w.heap.size, 0, none⟩ _ _ _ rfl rfl rfl (HB.out.setRow.rd.1) (HB.out.setRow.rd.2)
          · obtain rfl : k = 7 := by omega
            have hok := hL.var.rd.1
            have hrd := hL.var.rd.2
            have hro2 := hL.var.row
            have hft : fitsRow 38 (lineCells (gAt T v 7)) = true := fits_line (gAt_one T v (hL.ids (by omega)).1)
            have HL := Lib.hid hL
            clear hL
            rw [show ((7 : Nat) : Int) = 7 from rfl] at *
            go_wp2
            have hT := HT.out
            have hpg := parse_good (s := s) (w := w) (W1 := W1) (wr := wr) (v := v) (hT ▸ HL.out) (by rw [← hT]; exact HN.out.symm) hb1
            rw [← hT] at hpg
            refine bodyPost_ret (v := .tuple #[.agg (lineCells (gAt T v 7)), .int .i64 0, .int .i64 0]) ?_ rfl hpg
            exact results_agg3 rfl Tryz.isAgg34 Tryz.sizeOf34 _ _ ⟨w.heap.size, 0, none⟩ _ _ _ rfl rfl rfl (HL.out.var.blk.setRow.rd.1) (HL.out.var.blk.setRow.rd.2)

end Go.Proofs.YtdjaphcelpchaaaGreatDoor
