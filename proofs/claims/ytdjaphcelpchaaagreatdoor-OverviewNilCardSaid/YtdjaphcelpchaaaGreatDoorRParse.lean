/- bulletinref28.Parse. -/
import Derived.Test.YtdjaphcelpchaaaGreatDoorRPart
namespace Go.Proofs.YtdjaphcelpchaaaGreatDoor
open Go Go.RowKit Go.Proofs

attribute [local go_sem ↓] ex_load_id ex_store_id ex_load_rline ex_store_rline ex_alloc_rline ex_build_rline
attribute [local go_sem] ld_id st_id ld_rline st_rline guard_id okCells_drew rdCells_drew okCells_drewN rdCells_drewN rowOk_drew rowOk_cells okCells_cells rdCells_cells setRow_drew setRow_new setRow_past

structure RLoop (lb : Nat) (W1 wr : World) (T : List ByteArray) (k : Nat) (v : Value) : Prop where
  var : RVar wr lb ⟨#[]⟩ (gAt T v k)
  grown : W1.grownBy wr (some lb)
  ids : 5 < k → v.oneCell' = true ∧ (∀ b, v.ownBlock = some b → W1.heap.size ≤ b) ∧ IdsAt wr v (refIds (nth T 5))
  ok : ∀ j, j < k → partErr j (nth T j) = 0
  lt : lb < W1.heap.size

theorem RLoop.next {lb : Nat} {W1 wr w' : World} {T : List ByteArray} {k : Nat} {v : Value} (h : RLoop lb W1 wr T k v) (hp : RSetPost ⟨#[]⟩ (gAt T v k) k (nth T k) lb wr w') (he : partErr k (nth T k) = 0) : ∃ v', RLoop lb W1 w' T (k + 1) v' := by
  obtain ⟨hg, _, hy⟩ := hp
  obtain ⟨v', hv', h5⟩ := hy he
  have hok : ∀ j, j < k + 1 → partErr j (nth T j) = 0 := fun j hj => by
    by_cases e : j = k
    · rw [e]; exact he
    · exact h.ok j (by omega)
  by_cases hk : k = 5
  · subst hk
    refine ⟨v', ?_, grown_trans h.grown hg, fun _ => ⟨(h5 rfl).1, fun b e => Nat.le_trans h.grown.size ((h5 rfl).2.1 b e), (h5 rfl).2.2⟩, hok, h.lt⟩
    rw [gAt, gAt_indep T v' v 5 (Nat.le_refl _)]
    exact hv'
  · by_cases hlt : k < 5
    · refine ⟨v', ?_, grown_trans h.grown hg, fun h6 => by omega, hok, h.lt⟩
      rw [gAt, gAt_indep T v' v k (by omega)]
      exact hv'
    · refine ⟨v, ?_, grown_trans h.grown hg, fun _ => ?_, hok, h.lt⟩
      · rw [gAt]
        have e : setG (gAt T v k) k (nth T k) v = setG (gAt T v k) k (nth T k) v' := by
          unfold setG
          split <;> first | rfl | omega
        rw [e]; exact hv'
      · obtain ⟨h1, h2, h3⟩ := h.ids (by omega)
        exact ⟨h1, h2, h3.grown hg (fun e => by have := h2 _ e; have := h.lt; omega)⟩

def RParsePost (s : ByteArray) (w : World) (r : Ending) (w' : World) : Prop := ∃ G ids, r = .returned (.tuple #[.agg (rlineCells ⟨#[]⟩ G), .int .i64 (parseOut s).2, .int .i64 (parseOut s).1]) ∧ ParsedIs s G ids ∧ IdsAt w' G.refs ids ∧ refsOne G ∧ Below w.heap.size w w'
theorem rparse_bad {s : ByteArray} {w w' : World} {e o : Int} (he : parseOut s = (e, o)) (hne : e ≠ 0) (hb : Below w.heap.size w w') : RParsePost s w (.returned (.tuple #[.agg (rlineCells ⟨#[]⟩ zeroLine), .int .i64 o, .int .i64 e])) w' :=
  ⟨zeroLine, [], by rw [he], ⟨fun _ => ⟨rfl, rfl⟩, fun h => absurd (by rw [he] at h; exact h) hne⟩, idsAt_nil w', rfl, hb⟩
theorem rparse_good {s : ByteArray} {lb rb : Nat} {w W1 wr : World} {v : Value} (h : RLoop lb W1 wr (splitS 9 s) 7 v) (hlen : (splitS 9 s).length = 7) (hb1 : Below w.heap.size w W1) (hlb : w.heap.size ≤ lb) (hrb : w.heap.size ≤ rb) (hvr : v.ownBlock ≠ some rb) :
    RParsePost s w (.returned (.tuple #[.agg (rlineCells ⟨#[]⟩ (gAt (splitS 9 s) v 7)), .int .i64 0, .int .i64 0])) (wr.setRow rb (rlineCells ⟨#[]⟩ (gAt (splitS 9 s) v 7))) := by
  have he : parseOut s = (0, 0) := by
    unfold parseOut
    rw [if_neg (by omega), if_neg (by omega), firstBad_none h.ok]
  obtain ⟨h1, h2, h3⟩ := h.ids (by omega)
  refine ⟨_, refIds (nth (splitS 9 s) 5), by rw [he], ⟨fun e => absurd (by rw [he]) e, fun _ => ⟨v, rfl, rfl⟩⟩, h3.grown (grown_row _ _ _) hvr, gAt_one _ _ h1, ?_⟩
  have hbr : Below w.heap.size w wr := below_grown hb1 h.grown hb1.size hlb
  exact below_grown hbr (grown_row _ _ _) hbr.size hrb

set_option maxRecDepth 100000 in
set_option maxHeartbeats 2000000 in
theorem rparse_any (s : ByteArray) (w : World) (hs : s.size < 4294967281) :
    Calls Tryz.prog 23 #[.string s] w (RParsePost s w) := by
  obtain ⟨T, hT⟩ : ∃ T, T = splitS 9 s := ⟨_, rfl⟩
  have hlen := splitS_len 9 s
  rw [← hT] at hlen
  obtain ⟨n, hn⟩ : ∃ n, n = T.length := ⟨_, rfl⟩
  rw [← hn] at hlen
  have HT := Lib.hid hT
  have HN := Lib.hid hn
  have hsz : ∀ k, k < n → (nth T k).size ≤ s.size := fun k hk => by
    have h1 : nth T k ∈ T := by
      have := nth_at T k (by omega)
      exact List.mem_of_getElem? this
    have e0 : T = (splitL 9 s.data.toList).map str := hT
    generalize nth T k = y at h1 ⊢
    rw [e0, List.mem_map] at h1
    obtain ⟨x, hx, e⟩ := h1
    have := splitL_part 9 s.data.toList x hx
    rw [size_list] at this
    rw [← e, str_size]; exact this
  have HSZ := Lib.hid hsz
  have hfz : fitsRow 39 (rlineCells ⟨#[]⟩ zeroLine) = true := fits_rline rfl
  clear hT hn hsz
  go_enter Tryz.func23, Tryz.ntmps23
  go_wp2_with fail
  refine (parts_any s 9 _ (by omega)).mono ?_
  rintro r W1 ⟨vp, rfl, hown1, hbA⟩
  rw [← HT.out, ← HN.out] at hown1
  obtain ⟨pb, pcap, hvp, hpb, hpb1, hncap⟩ : ∃ pb pcap, vp = .slice (some ⟨pb, 0, none⟩) n pcap ∧ w.heap.size + 1 ≤ pb ∧ pb < W1.heap.size ∧ n ≤ pcap := by
    rcases hown1.2 with ⟨_, h0⟩ | ⟨g, cap, cur, e, hg, hcur, hle, _⟩
    · omega
    · exact ⟨g, cap, e, by simpa using hg, (Array.getElem?_eq_some_iff.1 hcur).1, hle⟩
  subst hvp
  have hrow : ∀ k, (h : k < n) → W1.cell? ⟨pb, k, none⟩ = some (.string (nth T k)) := fun k h => by
    rw [hown1.cellAt k (by omega)]
    have := nth_at T k (by rw [← HN.out]; exact h)
    simp [this]
  have hvar1 : RVar W1 w.heap.size ⟨#[]⟩ zeroLine := by
    unfold RVar
    rw [hbA.block w.heap.size (by simp), heap_alloc_new]
  have hb1 : Below w.heap.size w W1 := ((Below.refl _ _).alloc (Nat.le_refl _) _).trans (hbA.mono (by simp))
  have hs1 : w.heap.size < W1.heap.size := by omega
  have hro1 := hvar1.blk.row
  have HV1 := Lib.hid hvar1
  clear hbA hvar1 hown1
  by_cases hlow : n < 7
  · have hlowz : (n : Int) < 7 := by omega
    have HPO := Lib.hid (show parseOut s = (4, (s.size : Int)) by unfold parseOut; rw [← HT.out, ← HN.out, if_pos hlow])
    go_wp2
    refine bodyPost_ret (v := .tuple #[.agg (rlineCells ⟨#[]⟩ zeroLine), .int .i64 (s.size : Int), .int .i64 4]) ?_ rfl (rparse_bad HPO.out (by decide) (below_grown hb1 (grown_row _ _ _) (by omega) (Nat.le_refl _)))
    exact results_agg3 rfl Tryz.isAgg26 Tryz.sizeOf26 _ _ ⟨w.heap.size, 0, none⟩ _ _ _ rfl rfl rfl (HV1.out.blk.setRow.rd.1) (HV1.out.blk.setRow.rd.2)
  · have hlowz : ¬ (n : Int) < 7 := by omega
    by_cases hhi : 7 < n
    · have hhiz : 7 < (n : Int) := by omega
      have HPO := Lib.hid (show parseOut s = (5, (offs T 7 : Int)) by unfold parseOut; rw [← HT.out, ← HN.out, if_neg hlow, if_pos hhi])
      go_wp2
      go_loop [6, 7] (fun o i => ∃ k : Nat, k ≤ 7 ∧ i = .int .i64 k ∧ o = .int .i64 (offs T k : Nat)) (fun _ i => 7 - (intOf i).toNat)
      case atStart => exact ⟨0, by omega, rfl, rfl⟩
      case round =>
        obtain ⟨k, hk7, rfl, rfl⟩ := hrel
        have hoff := offs_le T 4294967296 k (by rw [← HN.out]; omega) (fun j hj => by have := HSZ.out j (by omega); omega)
        by_cases h7 : k < 7
        · have h7z : (k : Int) < 7 := by omega
          have hkn : (k : Int) < (n : Int) := by omega
          have htext := hrow k (by omega)
          have hsk := HSZ.out k (by omega)
          have HO := Lib.hid (offs_succ T k (by rw [← HN.out]; omega))
          go_wp2
          go_round
          case rel => exact ⟨k + 1, by omega, by go_num, by rw [HO.out]; go_num⟩
          case measure => simp [intOf]; omega
        · obtain rfl : k = 7 := by omega
          rw [show ((7 : Nat) : Int) = 7 from rfl] at *
          go_wp2
          refine bodyPost_ret (v := .tuple #[.agg (rlineCells ⟨#[]⟩ zeroLine), .int .i64 (offs T 7 : Int), .int .i64 5]) ?_ rfl (rparse_bad HPO.out (by decide) (below_grown hb1 (grown_row _ _ _) (by omega) (Nat.le_refl _)))
          exact results_agg3 rfl Tryz.isAgg26 Tryz.sizeOf26 _ _ ⟨w.heap.size, 0, none⟩ _ _ _ rfl rfl rfl (HV1.out.blk.setRow.rd.1) (HV1.out.blk.setRow.rd.2)
    · have hhiz : ¬ 7 < (n : Int) := by omega
      obtain rfl : n = 7 := by omega
      go_wp2
      generalize hW2 : W1.alloc (.cells (rlineCells ⟨#[]⟩ zeroLine) 26) = W2
      have hv2 : RVar W2 W1.heap.size ⟨#[]⟩ zeroLine := by rw [← hW2]; exact heap_alloc_new _ _
      have hrb2 : RBlk W2 w.heap.size := by rw [← hW2]; exact HV1.out.blk.grown (grown_below ((Below.refl _ _).alloc (Nat.le_refl _) _) none) (by simp)
      have hb2 : Below w.heap.size w W2 := by rw [← hW2]; exact hb1.alloc (by omega) _
      have hs2 : W2.heap.size = W1.heap.size + 1 := by rw [← hW2]; simp
      have hrow2 : ∀ k, (h : k < 7) → W2.cell? ⟨pb, k, none⟩ = some (.string (nth T k)) := fun k h => by
        rw [← hrow k h, ← hW2]
        unfold World.cell?
        rw [heap_alloc_old _ _ hpb1]
      have HV2 := Lib.hid hv2
      have HRB2 := Lib.hid hrb2
      clear hW2 hv2 hrb2
      go_loopw [6, 9] (fun o i wr => ∃ (k : Nat) (v : Value), k ≤ 7 ∧ i = .int .i64 k ∧ o = .int .i64 (offs T k : Nat) ∧ RLoop W1.heap.size W2 wr T k v) (fun _ i _ => 7 - (intOf i).toNat)
      case atStart => exact ⟨0, undef, by omega, rfl, rfl, HV2.out, grown_refl _ _, fun h => by omega, fun j hj => by omega, by omega⟩
      case round =>
        obtain ⟨k, v, hk, rfl, rfl, hL⟩ := hrel
        have hoff2 := offs_le T 4294967296 k (by rw [← HN.out]; exact hk) (fun j hj => by have := HSZ.out j (by omega); omega)
        have hbr : Below w.heap.size w wr := below_grown hb2 hL.grown (by omega) (by omega)
        have hrbr : RBlk wr w.heap.size := HRB2.out.grown hL.grown (by simp; omega)
        by_cases hlt : k < 7
        · have hltz : (k : Int) < 7 := by omega
          have htext : wr.cell? ⟨pb, k, none⟩ = some (.string (nth T k)) := by
            rw [← hrow2 k hlt]
            unfold World.cell?
            rw [hL.grown.block pb (by omega) (by simp; omega)]
          have hsk := HSZ.out k hlt
          have HO := Lib.hid (offs_succ T k (by rw [← HN.out]; exact hlt))
          go_wp2_with fail
          refine (rset_any k W1.heap.size ⟨#[]⟩ (gAt T v k) (nth T k) wr hlt hL.var (fun e => by subst e; exact gAt_refs T v) (by omega)).mono ?_
          rintro r w2 ⟨rfl, hpost⟩
          by_cases he : partErr k (nth T k) = 0
          · have hnext := Lib.hid (hL.next hpost he)
            have htext2 : w2.cell? ⟨pb, k, none⟩ = some (.string (nth T k)) := by
              rw [← htext]
              unfold World.cell?
              rw [hpost.1.block pb (by have := hL.grown.size; omega) (by simp; omega)]
            rw [he]
            clear hL hpost hrbr
            go_wp2
            go_roundw
            case rel =>
              obtain ⟨v', hv'⟩ := hnext.out
              exact ⟨k + 1, v', by omega, by go_num, by rw [HO.out]; go_num, hv'⟩
            case measure => simp [intOf]; omega
          · have hb3 := Lib.hid (below_grown hb2 (grown_trans hL.grown hpost.1) (by omega) (show w.heap.size ≤ W1.heap.size by omega))
            have hrb3 : RBlk w2 w.heap.size := hrbr.grown hpost.1 (by simp; omega)
            have HB := Lib.hid hrb3
            have hro2 := hrb3.row
            have HPO := Lib.hid (show parseOut s = (partErr k (nth T k), (offs T k : Int)) by
              unfold parseOut
              rw [← HT.out, ← HN.out, if_neg (by omega), if_neg (by omega), firstBad_some hlt he hL.ok])
            have HE := Lib.hid he
            generalize partErr k (nth T k) = e at he HPO HE ⊢
            have hez : (e == 0) = false := by rw [beq_eq_false_iff_ne]; exact he
            clear hL hpost hrbr hrb3
            go_wp2
            refine bodyPost_ret (v := .tuple #[.agg (rlineCells ⟨#[]⟩ zeroLine), .int .i64 (offs T k : Int), .int .i64 e]) ?_ rfl (rparse_bad HPO.out HE.out (below_grown hb3.out (grown_row _ _ _) hb3.out.size (Nat.le_refl _)))
            exact results_agg3 rfl Tryz.isAgg26 Tryz.sizeOf26 _ _ ⟨w.heap.size, 0, none⟩ _ _ _ rfl rfl rfl (HB.out.setRow.rd.1) (HB.out.setRow.rd.2)
        · obtain rfl : k = 7 := by omega
          have hok := hL.var.rd.1
          have hrd := hL.var.rd.2
          have hro2 := hrbr.row
          have hft : fitsRow 39 (rlineCells ⟨#[]⟩ (gAt T v 7)) = true := fits_rline (gAt_one T v (hL.ids (by omega)).1)
          have HL := Lib.hid hL
          have HB := Lib.hid hrbr
          clear hL hrbr
          rw [show ((7 : Nat) : Int) = 7 from rfl] at *
          go_wp2
          have hT := HT.out
          have hpg := rparse_good (s := s) (lb := W1.heap.size) (rb := w.heap.size) (w := w) (W1 := W2) (wr := wr) (v := v) (hT ▸ HL.out) (by rw [← hT]; exact HN.out.symm) hb2 (by omega) (Nat.le_refl _) (fun e => by have := (HL.out.ids (by omega)).2.1 _ e; omega)
          rw [← hT] at hpg
          refine bodyPost_ret (v := .tuple #[.agg (rlineCells ⟨#[]⟩ (gAt T v 7)), .int .i64 0, .int .i64 0]) ?_ rfl hpg
          exact results_agg3 rfl Tryz.isAgg26 Tryz.sizeOf26 _ _ ⟨w.heap.size, 0, none⟩ _ _ _ rfl rfl rfl (HB.out.setRow.rd.1) (HB.out.setRow.rd.2)

end Go.Proofs.YtdjaphcelpchaaaGreatDoor
