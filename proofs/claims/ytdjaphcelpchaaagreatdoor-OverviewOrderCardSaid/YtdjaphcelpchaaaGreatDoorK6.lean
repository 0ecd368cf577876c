/- Parts of the proofs about bulletinlaw28: RNames. -/
import Derived.Test.YtdjaphcelpchaaaGreatDoorShelf
import Derived.Test.YtdjaphcelpchaaaGreatDoorK1
import Derived.Test.YtdjaphcelpchaaaGreatDoorK2
import Derived.Test.YtdjaphcelpchaaaGreatDoorK3
import Derived.Test.YtdjaphcelpchaaaGreatDoorK4
import Derived.Test.YtdjaphcelpchaaaGreatDoorK5
import Derived.Deep.LoopGhost
import Derived.Deep.RegionWith

/- bulletinref12.Compare, Component and Check. -/
namespace Go.Proofs.YtdjaphcelpchaaaGreatDoor
open Go Go.RowKit Go.Proofs

/-- A row of strings of its own, as a slice that is not nil. -/
theorem row_strs {B : Nat} {w : World} {v : Value} {xs : List ByteArray} (h : w.ownsRow B 9 1 v xs.length (xs.map Value.string)) (hne : xs ≠ []) : ∃ b c, v = .slice (some ⟨b, 0, none⟩) xs.length c ∧ StrRow w b 0 xs ∧ B ≤ b ∧ b < w.heap.size := by
  rcases h.2 with ⟨_, h0⟩ | ⟨g, cap, cur, e, hg, hcur, hr⟩
  · exact absurd (List.length_eq_zero_iff.1 h0) hne
  · refine ⟨g, cap, e, fun k x hx => ?_, hg, (Array.getElem?_eq_some_iff.1 hcur).1⟩
    have := World.ownsRow.cells h (g := g) (by rw [e]; rfl) k (.string x) (by rw [List.getElem?_map, hx]; rfl)
    rwa [Addr.add_lit] at this
theorem StrRow.below' {w w' : World} {b off : Nat} {xs : List ByteArray} (h : StrRow w b off xs) {B : Nat} (hb : Below B w w') (hB : b < B) : StrRow w' b off xs := fun k x hx => (hb.cell (p := ⟨b, _, none⟩) hB).trans (h k x hx)

set_option maxRecDepth 100000 in
set_option maxHeartbeats 4000000 in
theorem rcompare_any (a b : ByteArray) (w : World) (ha : a.size ≤ 100000) (hb : b.size ≤ 100000) :
    Calls Tryz.prog 112 #[.string a, .string b] w fun r w' => r = .returned (.int .i64 (cmpN a b)) ∧ Below w.heap.size w w' := by
  have hl1 := splitS_len 46 a
  have hl2 := splitS_len 46 b
  rw [cmpN_eq]
  have HP1 := Lib.hid (fun w => parts_any a 46 w (by omega))
  have HP2 := Lib.hid (fun w => parts_any b 46 w (by omega))
  generalize splitS 46 a = xs at hl1 HP1 ⊢
  generalize splitS 46 b = ys at hl2 HP2 ⊢
  go_enter Tryz.func112, Tryz.ntmps112
  go_wp2_with fail
  refine (HP1.out w).mono ?_
  rintro r w1 ⟨v1, rfl, hr1, hb1⟩
  go_wp2_with fail
  refine (HP2.out w1).mono ?_
  rintro r w2 ⟨v2, rfl, hr2, hb2⟩
  obtain ⟨g1, c1, rfl, hx1, hg1, hg1l⟩ := row_strs hr1 (by intro e; rw [e] at hl1; simp at hl1)
  obtain ⟨g2, c2, rfl, hx2, hg2, hg2l⟩ := row_strs hr2 (by intro e; rw [e] at hl2; simp at hl2)
  have HX := Lib.hid (hx1.below' hb2 hg1l)
  have HY := Lib.hid hx2
  have HB := Lib.hid (hb1.trans (hb2.mono hb1.size))
  clear hr1 hr2 hx1 hx2 hb1 hb2
  have h1 : xs.length ≤ 1000000 := by omega
  have h2 : ys.length ≤ 1000000 := by omega
  clear hl1 hl2 ha hb
  go_wp2
  go_loopw [7] (fun i wr => ∃ k q : Nat, k ≤ xs.length ∧ k ≤ ys.length ∧ i = .int .i64 k ∧ Hid (cmpB xs ys = cmpB (xs.drop k) (ys.drop k)) ∧ wr = w2.drewN q) (fun i _ => xs.length - (intOf i).toNat)
  case atStart => exact ⟨0, 0, by omega, by omega, rfl, Lib.hid rfl, rfl⟩
  case round =>
    obtain ⟨k, q, hk, hk2, rfl, HC, rfl⟩ := hrel
    by_cases hlt : k < xs.length
    · have hltz : (k : Int) < (xs.length : Int) := by omega
      have hc1 := HX.out k _ (List.getElem?_eq_getElem hlt)
      rw [Nat.zero_add] at hc1
      by_cases hlt2 : k < ys.length
      · have hltz2 : (k : Int) < (ys.length : Int) := by omega
        have hc2 := HY.out k _ (List.getElem?_eq_getElem hlt2)
        rw [Nat.zero_add] at hc2
        have HST := Lib.hid (HC.out.trans (cmpB_step hlt hlt2))
        have hgt := gtr_str xs[k] ys[k]
        clear HC
        unfold cmpS at HST
        generalize xs[k] = x at hc1 HST hgt
        generalize ys[k] = y at hc2 HST hgt
        generalize hl : Op.bytesLess x.toList y.toList = bl at HST hgt
        generalize hl' : Op.bytesLess y.toList x.toList = bl' at HST hgt
        generalize hz : (x.toList == y.toList) = z at hgt
        cases bl with
        | true =>
          go_wp2
          go_quiet (fail)
          go_wp2
          go_ret
          exact ⟨ret_int (by rw [HST.out]; rfl), below_drewN' (below_drewN' HB.out _) _⟩
        | false =>
          cases bl' with
          | true =>
            obtain rfl : z = false := by cases z with | false => rfl | true => simp at hgt
            clear hgt
            go_wp2
            go_quiet (fail)
            go_wp2
            go_quiet (fail)
            go_wp2
            go_ret
            exact ⟨ret_int (by rw [HST.out]; rfl), below_drewN' (below_drewN' (below_drewN' HB.out _) _) _⟩
          | false =>
            obtain rfl : z = true := by cases z with | true => rfl | false => simp at hgt
            clear hgt
            go_wp2
            go_quiet (fail)
            go_wp2
            go_quiet (fail)
            go_wp2
            go_roundw
            case rel => exact ⟨k + 1, _, by omega, by omega, by go_num, Lib.hid (by rw [HST.out]; rfl), by first | rfl | rw [World.drewN_drewN, World.drewN_drewN] | rw [World.drewN_drewN]⟩
            case measure => simp [intOf]; omega
      · have hltz2 : ¬ ((k : Int) < (ys.length : Int)) := by omega
        have hgl : ¬ ((xs.length : Int) < (ys.length : Int)) := by omega
        have hgl2 : ((ys.length : Int) < (xs.length : Int)) := by omega
        have HE : Hid (cmpB xs ys = 1) := Lib.hid (by
          rw [HC.out, List.drop_eq_getElem_cons hlt, drop_all ys k (by omega)]; rfl)
        clear HC
        go_wp2
        go_ret
        exact ⟨ret_int HE.out.symm, below_drewN' HB.out _⟩
    · by_cases hlt2 : k < ys.length
      · have hl : (xs.length : Int) < (ys.length : Int) := by omega
        have HE : Hid (cmpB xs ys = -1) := Lib.hid (by
          rw [HC.out, List.drop_eq_getElem_cons hlt2, drop_all xs k (by omega)]; rfl)
        clear HC
        go_wp2
        go_ret
        exact ⟨ret_int HE.out.symm, below_drewN' HB.out _⟩
      · have hl : ¬ (xs.length : Int) < (ys.length : Int) := by omega
        have hl2 : ¬ (ys.length : Int) < (xs.length : Int) := by omega
        have HE : Hid (cmpB xs ys = 0) := Lib.hid (by
          rw [HC.out, drop_all xs k (by omega), drop_all ys k (by omega)]; rfl)
        clear HC
        go_wp2
        go_ret
        exact ⟨ret_int HE.out.symm, below_drewN' HB.out _⟩

/-- The byte test of Component. -/
def goodB (c : UInt8) : Bool := (decide (97 ≤ c.toNat) && decide (c.toNat ≤ 122)) || (decide (48 ≤ c.toNat) && decide (c.toNat ≤ 57)) || c.toNat == 45 || c.toNat == 43 || c.toNat == 95
theorem goodB_badN : ∀ n : Nat, n < 256 → goodB (UInt8.ofNat n) = !badB (UInt8.ofNat n) := by decide +kernel
theorem goodB_bad (c : UInt8) : goodB c = !badB c := by
  have := goodB_badN c.toNat c.toNat_lt
  simpa using this
theorem low_good {c : UInt8} (h : lowB c = true) : goodB c = true := by
  unfold lowB at h
  unfold goodB
  rw [h]
  rfl

set_option maxRecDepth 100000 in
set_option maxHeartbeats 8000000 in
theorem component_any (s : ByteArray) (w : World) (hs : s.size ≤ 100000) :
    Calls Tryz.prog 111 #[.string s] w fun r w' => r = .returned (.bool (compB s.data.toList)) ∧ w = w' := by
  by_cases h0 : 0 < s.size
  case neg =>
    have e : compB s.data.toList = false := by
      have : s.data.toList = [] := List.length_eq_zero_iff.1 (by rw [size_list]; omega)
      rw [this]; rfl
    have hz : (s.size : Int) < 1 := by omega
    rw [e]
    go_enter Tryz.func111, Tryz.ntmps111
    go_wp2
    go_ret
    exact ⟨rfl, rfl⟩
  have hz : ¬ (s.size : Int) < 1 := by omega
  have hz0 : (0 : Int) < (s.size : Int) := by omega
  by_cases h20 : s.size ≤ 20
  case neg =>
    have e : compB s.data.toList = false := by rw [compB_eq h0, decide_eq_false h20]; rfl
    have hy : (20 : Int) < (s.size : Int) := by omega
    rw [e]
    go_enter Tryz.func111, Tryz.ntmps111
    go_wp2
    go_ret
    exact ⟨rfl, rfl⟩
  have hy : ¬ (20 : Int) < (s.size : Int) := by omega
  have hx0 : s[0]? = some s[0] := by simp [h0]
  by_cases hlow : lowB s[0] = true
  case neg =>
    have e : compB s.data.toList = false := by rw [compB_eq h0, Bool.eq_false_iff.2 hlow]; simp
    rw [e]
    unfold lowB at hlow
    simp only [Bool.and_eq_true, decide_eq_true_eq] at hlow
    by_cases h97 : s[0].toNat < 97
    · have h97z : ((s[0].toNat : Int) < 97) := by omega
      go_enter Tryz.func111, Tryz.ntmps111
      go_wp2
      go_ret
      exact ⟨rfl, rfl⟩
    · have h97z : ¬ ((s[0].toNat : Int) < 97) := by omega
      have h122z : ((122 : Int) < (s[0].toNat : Int)) := by omega
      go_enter Tryz.func111, Tryz.ntmps111
      go_wp2
      go_ret
      exact ⟨rfl, rfl⟩
  have HE : Hid (compB s.data.toList = !s.data.toList.any badB) := Lib.hid (by rw [compB_eq h0, decide_eq_true h20, hlow]; rfl)
  have HT : Hid ((s.data.toList.take 1).any badB = false) := Lib.hid (by
    have : s.data.toList.take 1 = [s[0]] := by
      have := take_snoc s 0 h0
      simpa using this
    rw [this]
    have h1 := low_good hlow
    rw [goodB_bad] at h1
    simpa using h1)
  have h97z : ¬ ((s[0].toNat : Int) < 97) := by
    unfold lowB at hlow
    simp only [Bool.and_eq_true, decide_eq_true_eq] at hlow
    omega
  have h122z : ¬ ((122 : Int) < (s[0].toNat : Int)) := by
    unfold lowB at hlow
    simp only [Bool.and_eq_true, decide_eq_true_eq] at hlow
    omega
  clear hlow
  go_enter Tryz.func111, Tryz.ntmps111
  go_wp2
  go_loop [3] (fun i => ∃ k : Nat, 1 ≤ k ∧ k ≤ s.size ∧ i = .int .i64 k ∧ Hid ((s.data.toList.take k).any badB = false)) (fun i => s.size - (intOf i).toNat)
  case atStart => exact ⟨1, by omega, by omega, rfl, HT⟩
  case round =>
    obtain ⟨k, hk1, hk, rfl, HA⟩ := hrel
    by_cases hlt : k < s.size
    · have hltz : (k : Int) < (s.size : Int) := by omega
      have hgb := goodB_bad s[k]
      have HN : Hid (badB s[k] = false → (s.data.toList.take (k + 1)).any badB = false) := Lib.hid (fun h => by
        rw [take_snoc s k hlt, List.any_append, HA.out]; simp [h])
      have HM : Hid (badB s[k] = true → s.data.toList.any badB = true) := Lib.hid (fun h => List.any_eq_true.2 ⟨s[k], mem_byte s k hlt, h⟩)
      clear h97z h122z
      by_cases hg : goodB s[k] = true
      · have HBf : Hid (badB s[k] = false) := Lib.hid (by rw [hg] at hgb; simpa using hgb.symm)
        clear hgb
        unfold goodB at hg
        simp only [Bool.or_eq_true, Bool.and_eq_true, decide_eq_true_eq, beq_iff_eq] at hg
        rcases hg with (((hg | hg) | hg) | hg) | hg
        · have g1 : (97 : Int) ≤ (s[k].toNat : Int) := by omega
          have g2 : (s[k].toNat : Int) ≤ 122 := by omega
          go_wp2
          go_round
          case rel => exact ⟨k + 1, by omega, by omega, by go_num, Lib.hid (HN.out HBf.out)⟩
          case measure => simp [intOf]; omega
        · have g1 : ¬ (97 : Int) ≤ (s[k].toNat : Int) := by omega
          have g3 : (48 : Int) ≤ (s[k].toNat : Int) := by omega
          have g4 : (s[k].toNat : Int) ≤ 57 := by omega
          go_wp2
          go_round
          case rel => exact ⟨k + 1, by omega, by omega, by go_num, Lib.hid (HN.out HBf.out)⟩
          case measure => simp [intOf]; omega
        · have g1 : ¬ (97 : Int) ≤ (s[k].toNat : Int) := by omega
          have g3 : ¬ (48 : Int) ≤ (s[k].toNat : Int) := by omega
          have g5 : ((s[k].toNat : Int) == 45) = true := by rw [beq_iff_eq]; omega
          clear hg
          go_wp2
          go_round
          case rel => exact ⟨k + 1, by omega, by omega, by go_num, Lib.hid (HN.out HBf.out)⟩
          case measure => simp [intOf]; omega
        · have g1 : ¬ (97 : Int) ≤ (s[k].toNat : Int) := by omega
          have g3 : ¬ (48 : Int) ≤ (s[k].toNat : Int) := by omega
          have g5 : ((s[k].toNat : Int) == 45) = false := by rw [beq_eq_false_iff_ne]; omega
          have g6 : ((s[k].toNat : Int) == 43) = true := by rw [beq_iff_eq]; omega
          clear hg
          go_wp2
          go_round
          case rel => exact ⟨k + 1, by omega, by omega, by go_num, Lib.hid (HN.out HBf.out)⟩
          case measure => simp [intOf]; omega
        · have g1 : ¬ (97 : Int) ≤ (s[k].toNat : Int) := by omega
          have g3 : (48 : Int) ≤ (s[k].toNat : Int) := by omega
          have g4 : ¬ (s[k].toNat : Int) ≤ 57 := by omega
          have g5 : ((s[k].toNat : Int) == 45) = false := by rw [beq_eq_false_iff_ne]; omega
          have g6 : ((s[k].toNat : Int) == 43) = false := by rw [beq_eq_false_iff_ne]; omega
          have g7 : ((s[k].toNat : Int) == 95) = true := by rw [beq_iff_eq]; omega
          clear hg
          go_wp2
          go_round
          case rel => exact ⟨k + 1, by omega, by omega, by go_num, Lib.hid (HN.out HBf.out)⟩
          case measure => simp [intOf]; omega
      · have HBt : Hid (badB s[k] = true) := Lib.hid (by rw [Bool.eq_false_iff.2 hg] at hgb; simpa using hgb.symm)
        have HF : Hid (compB s.data.toList = false) := Lib.hid (by rw [HE.out, HM.out HBt.out]; rfl)
        clear hgb
        unfold goodB at hg
        simp only [Bool.or_eq_true, Bool.and_eq_true, decide_eq_true_eq, beq_iff_eq, not_or, not_and] at hg
        obtain ⟨⟨⟨⟨n1, n2⟩, n3⟩, n4⟩, n5⟩ := hg
        have g5 : ((s[k].toNat : Int) == 45) = false := by rw [beq_eq_false_iff_ne]; omega
        have g6 : ((s[k].toNat : Int) == 43) = false := by rw [beq_eq_false_iff_ne]; omega
        have g7 : ((s[k].toNat : Int) == 95) = false := by rw [beq_eq_false_iff_ne]; omega
        by_cases a1 : (97 : Int) ≤ (s[k].toNat : Int)
        · have a2 : ¬ (s[k].toNat : Int) ≤ 122 := by omega
          have a3 : (48 : Int) ≤ (s[k].toNat : Int) := by omega
          have a4 : ¬ (s[k].toNat : Int) ≤ 57 := by omega
          clear n1 n2 n3 n4 n5
          go_wp2
          go_ret
          exact ⟨by rw [HF.out]; rfl, rfl⟩
        · by_cases a3 : (48 : Int) ≤ (s[k].toNat : Int)
          · have a4 : ¬ (s[k].toNat : Int) ≤ 57 := by omega
            clear n1 n2 n3 n4 n5
            go_wp2
            go_ret
            exact ⟨by rw [HF.out]; rfl, rfl⟩
          · clear n1 n2 n3 n4 n5
            go_wp2
            go_ret
            exact ⟨by rw [HF.out]; rfl, rfl⟩
    · have HF : Hid (compB s.data.toList = true) := Lib.hid (by
        have := HA.out
        rw [List.take_of_length_le (by rw [size_list]; omega)] at this
        rw [HE.out, this]; rfl)
      go_wp2
      go_ret
      exact ⟨by rw [HF.out]; rfl, rfl⟩

set_option maxRecDepth 100000 in
set_option maxHeartbeats 4000000 in
theorem rcheck_any (s : ByteArray) (w : World) (hs : s.size ≤ 100000) :
    Calls Tryz.prog 74 #[.string s] w fun r w' => r = .returned (.int .i64 (nameErr s)) ∧ Below w.heap.size w w' := by
  by_cases h80 : 80 < s.size
  · have e : nameErr s = 5 := if_pos h80
    have hz : (80 : Int) < (s.size : Int) := by omega
    rw [e]
    go_enter Tryz.func74, Tryz.ntmps74
    go_wp2
    go_ret
    exact ⟨rfl, Below.refl _ _⟩
  · have e : nameErr s = if (splitS 46 s).any (fun x => !compB x.data.toList) then 12 else if 10 < (splitS 46 s).length then 9 else 0 := if_neg h80
    have hz : ¬ (80 : Int) < (s.size : Int) := by omega
    have hl := splitS_len 46 s
    have hle := splitS_le 46 s
    have HP := Lib.hid (fun w => parts_any s 46 w (by omega))
    have HQ := Lib.hid e
    clear e
    generalize nameErr s = ee at HQ ⊢
    generalize splitS 46 s = xs at hl hle HP HQ
    go_enter Tryz.func74, Tryz.ntmps74
    go_wp2_with fail
    refine (HP.out w).mono ?_
    rintro r w1 ⟨v1, rfl, hr1, hb1⟩
    obtain ⟨g1, c1, rfl, hx1, hg1, hg1l⟩ := row_strs hr1 (by intro e; rw [e] at hl; simp at hl)
    have HX := Lib.hid hx1
    have HB := Lib.hid hb1
    have HL := Lib.hid hle
    clear hr1 hx1 hb1 hle
    have hn : xs.length ≤ 81 := by omega
    clear hl
    go_wp2
    go_loop [4] (fun i => ∃ k : Nat, k ≤ xs.length ∧ i = .int .i64 k ∧ Hid ((xs.take k).any (fun x => !compB x.data.toList) = false)) (fun i => xs.length - (intOf i).toNat)
    case atStart => exact ⟨0, by omega, rfl, Lib.hid rfl⟩
    case round =>
      obtain ⟨k, hk, rfl, HA⟩ := hrel
      by_cases hlt : k < xs.length
      · have hltz : (k : Int) < (xs.length : Int) := by omega
        have hc1 := HX.out k _ (List.getElem?_eq_getElem hlt)
        rw [Nat.zero_add] at hc1
        have hsz := HL.out xs[k] (List.getElem_mem hlt)
        have HC := Lib.hid (component_any xs[k] w1 (by omega))
        have HN : Hid (compB xs[k].data.toList = true → (xs.take (k + 1)).any (fun x => !compB x.data.toList) = false) := Lib.hid (fun h => by
          rw [List.take_succ_eq_append_getElem hlt, List.any_append, HA.out]; simp [h])
        have HM : Hid (compB xs[k].data.toList = false → xs.any (fun x => !compB x.data.toList) = true) := Lib.hid (fun h => List.any_eq_true.2 ⟨xs[k], List.getElem_mem hlt, by simp [h]⟩)
        clear hsz
        generalize compB xs[k].data.toList = bb at HC HN HM
        generalize xs[k] = x at hc1 HC
        cases bb with
        | true =>
          go_wp2_with fail
          refine HC.out.mono ?_
          rintro r w' ⟨rfl, rfl⟩
          go_wp2
          go_round
          case rel => exact ⟨k + 1, by omega, by go_num, Lib.hid (by first | exact HN.out trivial | exact HN.out rfl)⟩
          case measure => simp [intOf]; omega
        | false =>
          go_wp2_with fail
          refine HC.out.mono ?_
          rintro r w' ⟨rfl, rfl⟩
          go_wp2
          go_ret
          have hm : xs.any (fun x => !compB x.data.toList) = true := by first | exact HM.out trivial | exact HM.out rfl
          exact ⟨ret_int (by rw [HQ.out, if_pos hm]), HB.out⟩
      · have HF : Hid (xs.any (fun x => !compB x.data.toList) = false) := Lib.hid (by
          have := HA.out
          rwa [List.take_of_length_le (by omega)] at this)
        clear HA
        by_cases h10 : 10 < xs.length
        · have h10z : (10 : Int) < (xs.length : Int) := by omega
          go_wp2
          go_ret
          exact ⟨ret_int (by rw [HQ.out, if_neg (by rw [HF.out]; simp), if_pos h10]), HB.out⟩
        · have h10z : ¬ (10 : Int) < (xs.length : Int) := by omega
          go_wp2
          go_ret
          exact ⟨ret_int (by rw [HQ.out, if_neg (by rw [HF.out]; simp), if_neg h10]), HB.out⟩

end Go.Proofs.YtdjaphcelpchaaaGreatDoor
