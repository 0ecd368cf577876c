/- Identities in hexadecimal: overview.idText and bulletinref28.Hex return hexOf. -/
import Derived.Test.YtdjaphcelpchaaaGreatDoorLine
namespace Go.Proofs.YtdjaphcelpchaaaGreatDoor
open Go Go.RowKit Go.Proofs

attribute [local go_sem ↓] ex_load_id ex_store_id
attribute [local go_sem] ld_id st_id guard_id okCells_drew rdCells_drew okCells_drewN rdCells_drewN ok_alloc rd_alloc rowOk_drew rowOk_new rowOk_alloc setRow_drew setRow_new setRow_past fits_id ok_new_id rd_new_id

/-- A string of bytes. -/
def str (l : List UInt8) : ByteArray := ⟨l.toArray⟩
theorem str_list (l : List UInt8) : (str l).data.toList = l := rfl
theorem str_size (l : List UInt8) : (str l).size = l.length := by simp [str, ByteArray.size]
theorem str_of (s : ByteArray) : str s.data.toList = s := rfl

def hexDig (n : Nat) : UInt8 := if n < 10 then UInt8.ofNat (48 + n) else UInt8.ofNat (87 + n)
def hexB (b : UInt8) : List UInt8 := [hexDig (b.toNat / 16), hexDig (b.toNat % 16)]
def hexL (l : List UInt8) : List UInt8 := l.flatMap hexB
def hexOf (x : Id32) : List UInt8 := hexL x.1
theorem hexL_length (l : List UInt8) : (hexL l).length = 2 * l.length := by
  induction l with
  | nil => rfl
  | cons b l ih =>
    have h : hexL (b :: l) = hexB b ++ hexL l := rfl
    rw [h, List.length_append, ih, List.length_cons]
    simp [hexB]; omega
theorem hexOf_length (x : Id32) : (hexOf x).length = 64 := by unfold hexOf; rw [hexL_length, x.2]
def byteCells (l : List UInt8) : List Value := l.map fun b => .int .u8 b.toNat
theorem byteCells_length (l : List UInt8) : (byteCells l).length = l.length := by simp [byteCells]
theorem hexL_snoc (l : List UInt8) (k : Nat) (h : k < l.length) : hexL (l.take (k + 1)) = hexL (l.take k) ++ hexB l[k] := by
  unfold hexL
  rw [List.take_succ_eq_append_getElem h, List.flatMap_append]
  simp

theorem ownsRow_below {w w' : World} {base : Nat} {e : TypeId} {size n : Nat} {v : Value} {xs : List Value} (h : w.ownsRow base e size v n xs) (hb : Below w.heap.size w w') : w'.ownsRow base e size v n xs :=
  h.kept (row := none) ⟨hb.os, hb.tape, hb.output, hb.size, fun k hk _ => hb.block k hk⟩ (by cases v.ownBlock <;> simp)

theorem hexConst (n : Nat) (h : n < 16) (h' : n < (⟨#[48, 49, 50, 51, 52, 53, 54, 55, 56, 57, 97, 98, 99, 100, 101, 102]⟩ : ByteArray).size) :
    (⟨#[48, 49, 50, 51, 52, 53, 54, 55, 56, 57, 97, 98, 99, 100, 101, 102]⟩ : ByteArray)[n]'h' = hexDig n := by
  have : n = 0 ∨ n = 1 ∨ n = 2 ∨ n = 3 ∨ n = 4 ∨ n = 5 ∨ n = 6 ∨ n = 7 ∨ n = 8 ∨ n = 9 ∨ n = 10 ∨ n = 11 ∨ n = 12 ∨ n = 13 ∨ n = 14 ∨ n = 15 := by omega
  rcases this with rfl | rfl | rfl | rfl | rfl | rfl | rfl | rfl | rfl | rfl | rfl | rfl | rfl | rfl | rfl | rfl <;> rfl

theorem run_index_id (x : Id32) (k : Nat) (h : k < 32) (w : World) : Sem.run Tryz.prog (Instr.index 23 (.agg (encId x).toArray) (.int .i64 k)) w = .ok (.int .u8 (x.1[k]'(by rw [x.2]; exact h)).toNat) w := by
  have hu : Tryz.prog.underlying 23 = some (.array 32 5) := by kernel_rfl
  have hp := part_u8 x.1 k (by rw [x.2]; exact h) w
  simp only [Instr.index, asIntOf, Sem.run_bind, Sem.run_pure, Result.andThen_ok, run_underlying hu]
  rw [if_pos ⟨by omega, by omega⟩]
  simp only [Sem.run_bind, Tryz.sizeOf5, Result.andThen_ok, Nat.mul_one, Int.toNat_natCast]
  exact hp

theorem Tryz.info_u8 : (Tryz.prog.info? 5).map (fun i => (i.zero, i.size, i.bytes)) = some (some (.int .u8 0), 1, 1) := by kernel_rfl

set_option maxRecDepth 100000 in
set_option maxHeartbeats 1000000 in
theorem idText_any (x : Id32) (w : World) :
    Calls Tryz.prog 92 #[.agg (encId x).toArray] w fun r w' => r = .returned (.string (str (hexOf x))) ∧ Below w.heap.size w w' := by
  obtain ⟨i0, hi, hz0, hz1, hz2⟩ := info_parts Tryz.info_u8
  go_enter Tryz.func92, Tryz.ntmps92
  go_wp2
  go_loopw [3, 5, 7] (fun t _ i wr => ∃ k : Nat, k ≤ 32 ∧ i = .int .i64 k ∧ wr.ownsRow w.heap.size 5 1 t (2 * k) (byteCells (hexL (x.1.take k))) ∧ Below w.heap.size w wr) (fun _ _ i _ => 32 - (intOf i).toNat)
  case atStart => exact ⟨0, by omega, rfl, World.ownsRow_nil _ _ _ _, (Below.refl _ _).alloc (Nat.le_refl _) _⟩
  case round =>
    obtain ⟨k, hk, rfl, hown, hb⟩ := hrel
    by_cases hlt : k < 32
    · have hltz : (k : Int) < 32 := by omega
      have hx := run_index_id x k hlt
      generalize hby : x.1[k]'(by rw [x.2]; exact hlt) = b at hx
      have HB := Lib.hid hby
      clear hby
      have hb255 : (b.toNat : Int) < 256 := by have := b.toNat_lt; omega
      have hq1 : (0 : Int) ≤ (b.toNat : Int) / 16 := by omega
      have hq2 : (b.toNat : Int) / 16 < 16 := by omega
      have hq3 : (0 : Int) ≤ (b.toNat : Int) % 16 := by omega
      have hq4 : (b.toNat : Int) % 16 < 16 := by omega
      go_wp2
      refine wp_region_mix [0, 1, 2, 3, 4, 5, 6] [7, 8, 9] (fun w' => ∃ z : Later wr, w' = z.1) (by kernel_rfl) (by kernel_rfl) ⟨⟨_, (Below.refl _ _).drew⟩, rfl⟩ ?_
      simp only [opsAt, List.map_cons, List.map_nil, Array.getD_eq_getD_getElem?, List.getElem?_toArray, List.getElem?_cons_zero, List.getElem?_cons_succ, Option.getD_some]
      repeat (go_big_quiet_step (fail))
      refine wpQuiet_nil ?_
      rintro _ ⟨z, rfl⟩
      have hz := z.2
      generalize z.1 = wz at hz ⊢
      refine wpR_cons true rfl (by kernel_rfl) ?_
      go_wp2_with fail
      have hownz := (ownsRow_below hown hz).alloc (.cells #[.int .u8 (hexDig (b.toNat / 16)).toNat, .int .u8 (hexDig (b.toNat % 16)).toNat] 5)
      have hbz : Below w.heap.size w wz := hb.trans (hz.mono hb.size)
      rw [hexConst (b.toNat / 16) (by omega), hexConst (b.toNat % 16) (by omega)]
      refine ⟨fun _ => ⟨⟨_, hz.alloc hz.size _⟩, rfl⟩, wpR_list [8, 9] _ _ (by kernel_rfl) ?_⟩
      simp only [opsAt, List.map_cons, List.map_nil, Array.getD_eq_getD_getElem?, List.getElem?_toArray, List.getElem?_cons_zero, List.getElem?_cons_succ, Option.getD_some]
      clear hx hq1 hq2 hq3 hq4
      go_wp2_with (at_builtin; refine wpList_append_own _ rfl (.tmp 10) (.tmp 17) 124 rfl w.heap.size 5 i0 (.int .u8 0) 1 1 Tryz.underlying124 hi hz0 hz1 hz2 rfl (by decide) _ _ _ rfl hownz ⟨wz.heap.size, 0, none⟩ 2 2 [.int .u8 (hexDig (b.toNat / 16)).toNat, .int .u8 (hexDig (b.toNat % 16)).toNat] rfl rfl ?c1 ?c2 ?c3 ?c4 ?c5 ?_)
      case c1 =>
        intro j u hj
        rw [Addr.add_lit, cells_new]
        match j, hj with
        | 0, hj => simpa using hj
        | 1, hj => simpa using hj
      case c2 => intro u hu; simp at hu; rcases hu with rfl | rfl <;> rfl
      case c3 => unfold maxLen; omega
      case c4 => omega
      case c5 => have := hbz.size; simp; omega
      intro v' w1 hown' hgrow _
      have hb1 : Below w.heap.size w w1 := (hbz.alloc hbz.size _).grown hgrow (by have := hbz.size; simp; omega) (fun j hj => (hown.lt j hj).1)
      clear hownz hgrow hown
      go_wp2
      refine NoPanic.normal ?_
      go_wp2
      go_roundw
      case rel =>
        refine ⟨k + 1, by omega, by go_num, ?_, hb1⟩
        have e1 : 2 * (k + 1) = 2 * k + 2 := by omega
        have e2 : byteCells (hexL (x.1.take (k + 1))) = byteCells (hexL (x.1.take k)) ++ [.int .u8 (hexDig (b.toNat / 16)).toNat, .int .u8 (hexDig (b.toNat % 16)).toNat] := by
          rw [hexL_snoc _ _ (by rw [x.2]; exact hlt), HB.out]
          simp [byteCells, hexB]
        rw [e1, e2]; exact hown'
      case measure => simp [intOf]; omega
    · obtain rfl : k = 32 := by omega
      rcases hown.2 with ⟨_, h0⟩ | ⟨g, cap, cur, rfl, hg, hcur, hle, hmx, hcs, htk⟩
      · omega
      · have hcv := run_convert_bytes_back (P := Tryz.prog) wr 124 9 5 ⟨g, 0, none⟩ cap (hexOf x) Tryz.underlying124 Tryz.underlying5 Tryz.underlying9 (fun j hj => by
          have hj2 : j < 64 := by rw [hexOf_length] at hj; exact hj
          have h1 := hown.cellAt j (by omega)
          rw [Addr.add_lit, Nat.zero_add, h1]
          have : x.1.take 32 = x.1 := List.take_of_length_le (by rw [x.2]; omega)
          rw [this]
          show (byteCells (hexOf x))[j]? = _
          simp [byteCells, hj])
        rw [hexOf_length] at hcv
        have hres := Lib.hid (show (Value.string ⟨(hexOf x).toArray⟩) = .string (str (hexOf x)) from rfl)
        clear hown hcur htk hcs
        go_wp2
        go_ret
        exact ⟨rfl, hb⟩

theorem ret_str {a b : ByteArray} (h : a = b) : Ending.returned (.string a) = .returned (.string b) := by rw [h]
theorem str_append (a b : List UInt8) : str a ++ str b = str (a ++ b) := by
  apply ByteArray.ext
  simp [str]
theorem str_append' (a : List UInt8) (s : ByteArray) : str a ++ s = str (a ++ s.data.toList) := by
  rw [← str_append]; rfl
theorem hexCut (n : Nat) (h : n < 16) : (⟨#[48, 49, 50, 51, 52, 53, 54, 55, 56, 57, 97, 98, 99, 100, 101, 102]⟩ : ByteArray).extract n (n + 1) = str [hexDig n] := by
  have : n = 0 ∨ n = 1 ∨ n = 2 ∨ n = 3 ∨ n = 4 ∨ n = 5 ∨ n = 6 ∨ n = 7 ∨ n = 8 ∨ n = 9 ∨ n = 10 ∨ n = 11 ∨ n = 12 ∨ n = 13 ∨ n = 14 ∨ n = 15 := by omega
  rcases this with rfl | rfl | rfl | rfl | rfl | rfl | rfl | rfl | rfl | rfl | rfl | rfl | rfl | rfl | rfl | rfl <;> (apply ByteArray.ext; simp [str, hexDig])
theorem and15 : ∀ n : Nat, n < 256 → bits BinOp.and IntKind.i64 (n : Int) 15 = ((n % 16 : Nat) : Int) := by decide +kernel

set_option maxRecDepth 100000 in
set_option maxHeartbeats 1000000 in
theorem hex_any (x : Id32) (w : World) :
    Calls Tryz.prog 61 #[.agg (encId x).toArray] w fun r w' => r = .returned (.string (str (hexOf x))) ∧ Below w.heap.size w w' := by
  have hbw : Below w.heap.size w (w.alloc (.cells (encId x).toArray 23)) := (Below.refl _ _).alloc (Nat.le_refl _) _
  have hcell : ∀ k, (h : k < 32) → (w.alloc (.cells (encId x).toArray 23)).cell? ⟨w.heap.size, k, none⟩ = some (.int .u8 (x.1[k]'(by rw [x.2]; exact h)).toNat) := fun k h => by
    rw [cells_new]
    have := encId_get x k h
    simpa using this
  have HC := Lib.hid hcell
  have HBW := Lib.hid hbw
  clear hcell hbw
  go_enter Tryz.func61, Tryz.ntmps61
  go_wp2
  go_loop [3, 4, 5, 6] (fun s i _ _ => ∃ k : Nat, k ≤ 32 ∧ i = .int .i64 k ∧ s = .string (str (hexL (x.1.take k)))) (fun _ i _ _ => 32 - (intOf i).toNat)
  case atStart => exact ⟨0, by omega, rfl, rfl⟩
  case round =>
    obtain ⟨k, hk, rfl, rfl⟩ := hrel
    by_cases hlt : k < 32
    · have hltz : (k : Int) < 32 := by omega
      have hc := HC.out k hlt
      generalize hby : x.1[k]'(by rw [x.2]; exact hlt) = b at hc
      have HB := Lib.hid hby
      clear hby
      have hb255 : (b.toNat : Int) < 256 := by have := b.toNat_lt; omega
      go_wp2
      go_loop [3, 5, 6] (fun s j _ => ∃ m : Nat, m ≤ 2 ∧ j = .int .i64 m ∧ s = .string (str (hexL (x.1.take k) ++ (hexB b).take m))) (fun _ j _ => 2 - (intOf j).toNat)
      case atStart => exact ⟨0, by omega, rfl, by simp⟩
      case round =>
        obtain ⟨m, hm, rfl, rfl⟩ := hrel
        have h3 : m = 0 ∨ m = 1 ∨ m = 2 := by omega
        rcases h3 with rfl | rfl | rfl
        · rw [show ((0 : Nat) : Int) = 0 from rfl]
          obtain ⟨n0, hn0⟩ : ∃ n0 : Nat, n0 = b.toNat / 16 := ⟨_, rfl⟩
          have ha : bits BinOp.and IntKind.i64 ((b.toNat : Int) / 16) 15 = (n0 : Int) := by
            have h := and15 (b.toNat / 16) (by omega)
            rw [show (b.toNat / 16) % 16 = b.toNat / 16 by omega] at h
            rw [hn0]; exact_mod_cast h
          have h16 : n0 < 16 := by omega
          have HN := Lib.hid hn0
          clear hn0
          have hsz : (str (hexL (List.take k x.1))).size ≤ 64 := by rw [str_size, hexL_length, List.length_take]; omega
          go_wp2
          go_round
          case rel => exact ⟨1, by omega, rfl, by rw [hexCut _ h16, str_append, HN.out]; simp [hexB]⟩
          case measure => simp [intOf]
        · rw [show ((1 : Nat) : Int) = 1 from rfl]
          obtain ⟨n0, hn0⟩ : ∃ n0 : Nat, n0 = b.toNat % 16 := ⟨_, rfl⟩
          have ha : bits BinOp.and IntKind.i64 (b.toNat : Int) 15 = (n0 : Int) := by
            rw [hn0]; exact and15 b.toNat (by omega)
          have h16 : n0 < 16 := by omega
          have HN := Lib.hid hn0
          clear hn0
          have hsz : (str (hexL (List.take k x.1) ++ List.take 1 (hexB b))).size ≤ 66 := by rw [str_size, List.length_append, hexL_length, List.length_take]; simp [hexB]; omega
          go_wp2
          go_round
          case rel => exact ⟨2, by omega, rfl, by rw [hexCut _ h16, str_append, HN.out]; simp [hexB]⟩
          case measure => simp [intOf]
        · rw [show ((2 : Nat) : Int) = 2 from rfl]
          have hn := Lib.hid (show hexL (x.1.take k) ++ List.take 2 (hexB b) = hexL (x.1.take (k + 1)) by rw [hexL_snoc _ _ (by rw [x.2]; exact hlt), HB.out]; rfl)
          go_wp2
          go_round
          case rel => exact ⟨k + 1, by omega, by go_num, by rw [← hn.out]⟩
          case measure => simp [intOf]; omega
    · have hf := Lib.hid (show hexL (x.1.take k) = hexOf x by rw [List.take_of_length_le (by rw [x.2]; omega)]; rfl)
      go_wp2
      go_ret
      exact ⟨ret_str (by rw [hf.out]), HBW.out⟩

end Go.Proofs.YtdjaphcelpchaaaGreatDoor
