/- Reading identities: overview.parseId and bulletinref28.identity return what idOk and idVal tell. -/
import Derived.Test.YtdjaphcelpchaaaGreatDoorScanNum
namespace Go.Proofs.YtdjaphcelpchaaaGreatDoor
open Go Go.RowKit Go.Proofs

attribute [local go_sem ↓] ex_load_id ex_store_id ex_alloc_id ex_build_id
attribute [local go_sem] ld_id st_id guard_id okCells_drew rdCells_drew okCells_drewN rdCells_drewN rowOk_drew rowOk_cells okCells_cells rdCells_cells okArr_id rdArr_id setRow_drew setRow_new setRow_past fits_id encId_length

/-- The value of a hexadecimal digit; 16: it is none. -/
def hv (c : UInt8) : Nat := if 48 ≤ c.toNat ∧ c.toNat ≤ 57 then c.toNat - 48 else if 97 ≤ c.toNat ∧ c.toNat ≤ 102 then c.toNat - 87 else 16
def isHex (c : UInt8) : Bool := decide (hv c < 16)
def chr (l : List UInt8) (i : Nat) : UInt8 := l.getD i 0
/-- Byte j of the identity when k digits have been read. -/
def accB (l : List UInt8) (k j : Nat) : Nat := if 2 * j + 1 < k then hv (chr l (2 * j)) * 16 + hv (chr l (2 * j + 1)) else if 2 * j < k then hv (chr l (2 * j)) else 0
def accId (l : List UInt8) (k : Nat) : Id32 := ⟨(List.range 32).map fun j => UInt8.ofNat (accB l k j), by simp⟩
def idOk (l : List UInt8) : Bool := decide (l.length = 64) && l.all isHex
def idVal (l : List UInt8) : Id32 := if idOk l then accId l 64 else zeroId

theorem accId_zero (l : List UInt8) : accId l 0 = zeroId := by
  apply Subtype.ext
  simp only [accId, zeroId, accB]
  rfl
theorem accId_step (l : List UInt8) (k : Nat) (v : UInt8) (hv' : v.toNat = accB l (k + 1) (k / 2)) :
    (encId (accId l k)).toArray.setIfInBounds (k / 2) (.int .u8 v.toNat) = (encId (accId l (k + 1))).toArray := by
  apply Array.ext
  · rw [Array.size_setIfInBounds, encId_size, encId_size]
  · intro j h1 h2
    have hj : j < 32 := by rw [encId_size] at h2; exact h2
    rw [Array.getElem_setIfInBounds (by rw [encId_size]; exact hj)]
    by_cases he : k / 2 = j
    · rw [if_pos he]
      subst he
      simp only [encId, accId, List.map_map, List.getElem_toArray, List.getElem_map, List.getElem_range, Function.comp]
      rw [← hv']
      simp
    · rw [if_neg he]
      simp only [encId, accId, List.map_map, List.getElem_toArray, List.getElem_map, List.getElem_range, Function.comp]
      have : accB l k j = accB l (k + 1) j := by
        unfold accB
        by_cases c1 : 2 * j + 1 < k
        · simp [c1, show 2 * j + 1 < k + 1 by omega]
        · by_cases c2 : 2 * j < k
          · exfalso; omega
          · simp [c1, c2, show ¬ 2 * j < k + 1 by omega]
      rw [this]

theorem accB_old (l : List UInt8) (k : Nat) : accB l k (k / 2) = if k % 2 = 1 then hv (chr l (k - 1)) else 0 := by
  unfold accB
  by_cases h : k % 2 = 1
  · rw [if_pos h, if_neg (by omega), if_pos (by omega), show 2 * (k / 2) = k - 1 by omega]
  · rw [if_neg h, if_neg (by omega), if_neg (by omega)]
theorem accB_new (l : List UInt8) (k : Nat) : accB l (k + 1) (k / 2) = accB l k (k / 2) * 16 + hv (chr l k) := by
  rw [accB_old]
  unfold accB
  by_cases h : k % 2 = 1
  · rw [if_pos h, if_pos (by omega), show 2 * (k / 2) = k - 1 by omega, show k - 1 + 1 = k by omega]
  · rw [if_neg h, if_neg (by omega), if_pos (by omega), show 2 * (k / 2) = k by omega]; omega
theorem hv_le (c : UInt8) : hv c ≤ 16 := by unfold hv; split <;> (try split) <;> omega
theorem accId_get (l : List UInt8) (k : Nat) (hk : k < 64) (o : Nat) (ho : o = accB l k (k / 2)) (hlt : o < 256) : (encId (accId l k)).toArray[k / 2]? = some (.int .u8 (o : Int)) := by
  have hj : k / 2 < 32 := by omega
  have := encId_get (accId l k) (k / 2) hj
  rw [List.getElem?_toArray, this]
  simp only [accId, List.getElem_map, List.getElem_range]
  rw [← ho, UInt8.toNat_ofNat', Nat.mod_eq_of_lt (by omega)]
theorem or_nib : ∀ a : Nat, a < 16 → ∀ b : Nat, b < 16 → bits BinOp.or IntKind.u8 ((a * 16 : Nat) : Int) (b : Int) = ((a * 16 + b : Nat) : Int) := by decide +kernel

theorem results_agg2 {P : Program} {fn : Func} {p t : Tmp} {ty n : Nat} (h : fn.results = #[.cell p ty, .tmp t]) (hA : ∀ w, Sem.run P (isAgg ty) w = .ok true w) (hs : ∀ w, Sem.run P (Go.sizeOf ty) w = .ok n w)
    (tmps : Array Value) (w : World) (a : Addr) (cs : Array Value) (v : Value) (hp : tmps.getD p undef = .pointer (some a)) (hv : tmps.getD t undef = v) (hok : okCells w a n = true) (hrd : rdCells w a n = cs) :
    (results fn tmps).run P w = .ok (.tuple #[.agg cs, v]) w := by
  have hp' : tmps[p]?.getD undef = .pointer (some a) := by simpa using hp
  have hv2 : tmps[t]?.getD undef = v := by simpa using hv
  have hl : (loadVar ty a).run P w = .ok (.agg cs) w := by
    simp [loadVar, hA, hs, run_loadCells_rd w a n hok, hrd]
  simp [results, h, hp', hv2, asAddr, hl]

theorem hexIdxN : ∀ n : Nat, n < 256 → Lib.indexByte [48, 49, 50, 51, 52, 53, 54, 55, 56, 57, 97, 98, 99, 100, 101, 102] (UInt8.ofNat n) = if hv (UInt8.ofNat n) < 16 then (hv (UInt8.ofNat n) : Int) else -1 := by decide +kernel
theorem hexIdx (c : UInt8) : Lib.indexByte [48, 49, 50, 51, 52, 53, 54, 55, 56, 57, 97, 98, 99, 100, 101, 102] c = if hv c < 16 then (hv c : Int) else -1 := by
  have := hexIdxN c.toNat c.toNat_lt
  rwa [UInt8.ofNat_toNat] at this
theorem idx_any (c : UInt8) (w : World) (v : Int) (hv' : (if hv c < 16 then (hv c : Int) else -1) = v) :
    Calls Tryz.prog 131 #[.string ⟨#[48, 49, 50, 51, 52, 53, 54, 55, 56, 57, 97, 98, 99, 100, 101, 102]⟩, .int .u8 c.toNat] w fun r w' => r = .returned (.int .i64 v) ∧ w = w' := by
  refine (Tryz.strings_IndexByte _ (c.toNat : Int) w).mono ?_
  rintro e w' ⟨rfl, rfl⟩
  refine ⟨?_, rfl⟩
  have e1 : ((c.toNat : Int).toNat).toUInt8 = c := by rw [Int.toNat_natCast]; exact UInt8.ofNat_toNat
  rw [e1]
  show Ending.returned (.int .i64 (Lib.indexByte [48, 49, 50, 51, 52, 53, 54, 55, 56, 57, 97, 98, 99, 100, 101, 102] c)) = _
  rw [hexIdx, hv']

theorem idOk_len {s : ByteArray} (h : s.size ≠ 64) : idOk s.data.toList = false := by
  unfold idOk; rw [size_list]; simp [h]
theorem idOk_bad {s : ByteArray} {k : Nat} (hk : k < s.size) (h : ¬ hv s[k] < 16) : idOk s.data.toList = false := by
  unfold idOk
  rw [show s.data.toList.all isHex = false from List.all_eq_false.2 ⟨s[k], mem_byte s k hk, by simp [isHex, h]⟩]
  simp
theorem idOk_yes {s : ByteArray} (h : s.size = 64) (ha : s.data.toList.all isHex = true) : idOk s.data.toList = true := by
  unfold idOk; rw [size_list, ha, h]; rfl
theorem idVal_no {l : List UInt8} (h : idOk l = false) : idVal l = zeroId := by unfold idVal; rw [h]; rfl
theorem idVal_yes {l : List UInt8} (h : idOk l = true) : idVal l = accId l 64 := by unfold idVal; rw [h]; rfl
theorem hex_snoc {s : ByteArray} {k : Nat} (h : k < s.size) (ha : (s.data.toList.take k).all isHex = true) (hd : hv s[k] < 16) : (s.data.toList.take (k + 1)).all isHex = true := by
  rw [take_snoc s k h, List.all_append, ha]; simp [isHex, hd]
theorem chr_at (s : ByteArray) (k : Nat) (h : k < s.size) : chr s.data.toList k = s[k] := by
  unfold chr
  rw [List.getD_eq_getElem?_getD, List.getElem?_eq_getElem (show k < s.data.toList.length by rw [size_list]; exact h)]
  rfl
/-- The old half byte is small, if all digits so far are digits. -/
theorem old_small {s : ByteArray} {k : Nat} (hk : k ≤ s.size) (ha : (s.data.toList.take k).all isHex = true) : accB s.data.toList k (k / 2) < 16 := by
  rw [accB_old]
  split
  · rename_i h
    have h1 : k - 1 < s.size := by omega
    rw [chr_at s (k - 1) h1]
    have hm : s[k - 1] ∈ s.data.toList.take k := by
      rw [List.mem_take_iff_getElem]
      exact ⟨k - 1, by rw [size_list]; omega, rfl⟩
    have := List.all_eq_true.1 ha _ hm
    simpa [isHex] using this
  · omega

set_option maxRecDepth 100000 in
set_option maxHeartbeats 1000000 in
theorem parseId_any (s : ByteArray) (w : World) (hs : s.size ≤ maxLen) :
    Calls Tryz.prog 97 #[.string s] w fun r w' => r = .returned (.tuple #[.agg (encId (idVal s.data.toList)).toArray, .bool (idOk s.data.toList)]) ∧ Below w.heap.size w w' := by
  unfold maxLen at hs
  by_cases h64 : s.size = 64
  · have h64b : ((s.size : Int) != 64) = false := by rw [h64]; rfl
    have H64 := Lib.hid h64
    have hsz : (s.size : Int) ≤ 64 := by omega
    have hsz2 : (64 : Int) ≤ (s.size : Int) := by omega
    clear h64
    go_enter Tryz.func97, Tryz.ntmps97
    go_wp2
    go_loopw [5, 6, 13] (fun _ _ i wr => ∃ k : Nat, k ≤ 64 ∧ i = .int .i64 k ∧ wr = (w.alloc (.cells (encId zeroId).toArray 23)).alloc (.cells (encId (accId s.data.toList k)).toArray 23) ∧ (s.data.toList.take k).all isHex = true) (fun _ _ i _ => 64 - (intOf i).toNat)
    case atStart => exact ⟨0, by omega, rfl, by rw [accId_zero], rfl⟩
    case round =>
      obtain ⟨k, hk, rfl, rfl, ha⟩ := hrel
      by_cases hlt : k < 64
      · have hlts : k < s.size := by omega
        have hltz : (k : Int) < (s.size : Int) := by omega
        have hos := old_small (s := s) (k := k) (by omega) ha
        obtain ⟨o, ho⟩ : ∃ o, o = accB s.data.toList k (k / 2) := ⟨_, rfl⟩
        rw [← ho] at hos
        have hget := accId_get s.data.toList k hlt o ho (by omega)
        have HA := Lib.hid ha
        have HO := Lib.hid ho
        clear ha ho
        by_cases hh : hv s[k] < 16
        · obtain ⟨q, hq⟩ : ∃ q, q = hv s[k] := ⟨_, rfl⟩
          rw [← hq] at hh
          have hix := idx_any s[k] ((w.alloc (.cells (encId zeroId).toArray 23)).alloc (.cells (encId (accId s.data.toList k)).toArray 23)) (q : Int) (by rw [← hq, if_pos hh])
          have HIX := Lib.hid hix
          have hnew := Lib.hid (show ((encId (accId s.data.toList k)).set (k / 2) (.int .u8 ((o : Int) * 16 + (q : Int)))).toArray = (encId (accId s.data.toList (k + 1))).toArray by
            have h1 := accId_step s.data.toList k (UInt8.ofNat (o * 16 + q)) (by rw [UInt8.toNat_ofNat', accB_new, ← HO.out, chr_at s k hlts, ← hq]; omega)
            rw [UInt8.toNat_ofNat', Nat.mod_eq_of_lt (by omega)] at h1
            rw [← h1]
            simp)
          have hsn := Lib.hid (hex_snoc hlts HA.out (by rw [← hq]; exact hh))
          have hor := or_nib o hos q hh
          have hqz : (q : Int) < 16 := by omega
          have hoz : (o : Int) < 16 := by omega
          rw [Int.natCast_mul, show ((16 : Nat) : Int) = 16 from rfl] at hor
          clear hq hix
          go_wp2_with fail
          refine HIX.out.mono ?_
          rintro e w1 ⟨rfl, rfl⟩
          go_wp2
          go_roundw
          case rel =>
            refine ⟨k + 1, by omega, by go_num, ?_, hsn.out⟩
            rw [← hnew.out]
          case measure => simp [intOf]; omega
        · have hix := idx_any s[k] ((w.alloc (.cells (encId zeroId).toArray 23)).alloc (.cells (encId (accId s.data.toList k)).toArray 23)) (-1) (by rw [if_neg hh])
          have HIX := Lib.hid hix
          have hno := idOk_bad hlts hh
          have hf := Lib.hid (And.intro (idVal_no hno) hno)
          clear hix hno hget
          go_wp2_with fail
          refine HIX.out.mono ?_
          rintro e w1 ⟨rfl, rfl⟩
          go_wp2
          refine bodyPost_ret (v := .tuple #[.agg (encId zeroId).toArray, .bool false]) ?_ rfl ⟨by rw [hf.out.1, hf.out.2], ?_⟩
          exact results_agg2 rfl Tryz.isAgg23 Tryz.sizeOf23 _ _ ⟨w.heap.size, 0, none⟩ _ _ rfl rfl (ok_alloc _ (ok_new_id _ _ _)) ((rd_alloc _ (ok_new_id _ _ _)).trans (rd_new_id _ _ _))
          exact ((Below.refl _ _).alloc (Nat.le_refl _) _).alloc (by simp) _
      · obtain rfl : k = 64 := by omega
        have hall : s.data.toList.take 64 = s.data.toList := List.take_of_length_le (by rw [size_list, H64.out]; exact Nat.le_refl _)
        have hyes := idOk_yes H64.out (by rw [← hall]; exact ha)
        have hf := Lib.hid (And.intro (idVal_yes hyes) hyes)
        clear hall hyes ha
        have hge : ¬ ((64 : Int) < (s.size : Int)) := by omega
        rw [show ((64 : Nat) : Int) = 64 from rfl]
        go_wp2
        refine bodyPost_ret (v := .tuple #[.agg (encId (accId s.data.toList 64)).toArray, .bool true]) ?_ rfl ⟨by rw [hf.out.1, hf.out.2], ?_⟩
        exact results_agg2 rfl Tryz.isAgg23 Tryz.sizeOf23 _ _ ⟨w.heap.size, 0, none⟩ _ _ rfl rfl (ok_alloc _ (ok_new_id _ _ _)) ((rd_alloc _ (ok_new_id _ _ _)).trans (rd_new_id _ _ _))
        exact ((Below.refl _ _).alloc (Nat.le_refl _) _).alloc (by simp) _
  · have h64b : ((s.size : Int) != 64) = true := by rw [bne_iff_ne]; omega
    have hno := idOk_len h64
    have hf := Lib.hid (And.intro (idVal_no hno) hno)
    clear hno h64
    go_enter Tryz.func97, Tryz.ntmps97
    go_wp2
    refine bodyPost_ret (v := .tuple #[.agg (encId zeroId).toArray, .bool false]) ?_ rfl ⟨by rw [hf.out.1, hf.out.2], ?_⟩
    exact results_agg2 rfl Tryz.isAgg23 Tryz.sizeOf23 _ _ ⟨w.heap.size, 0, none⟩ _ _ rfl rfl (ok_alloc _ (ok_new_id _ _ _)) ((rd_alloc _ (ok_new_id _ _ _)).trans (rd_new_id _ _ _))
    exact ((Below.refl _ _).alloc (Nat.le_refl _) _).alloc (by simp) _

set_option maxRecDepth 100000 in
set_option maxHeartbeats 1000000 in
theorem identity_any (s : ByteArray) (w : World) (hs : s.size ≤ maxLen) :
    Calls Tryz.prog 100 #[.string s] w fun r w' => r = .returned (.tuple #[.agg (encId (idVal s.data.toList)).toArray, .bool (idOk s.data.toList)]) ∧ Below w.heap.size w w' := by
  unfold maxLen at hs
  by_cases h64 : s.size = 64
  · have h64b : ((s.size : Int) != 64) = false := by rw [h64]; rfl
    have H64 := Lib.hid h64
    have hsz : (s.size : Int) ≤ 64 := by omega
    have hsz2 : (64 : Int) ≤ (s.size : Int) := by omega
    clear h64
    go_enter Tryz.func100, Tryz.ntmps100
    go_wp2
    go_loopw [5, 6, 7] (fun i _ _ wr => ∃ k : Nat, k ≤ 64 ∧ i = .int .i64 k ∧ wr = (w.alloc (.cells (encId zeroId).toArray 23)).alloc (.cells (encId (accId s.data.toList k)).toArray 23) ∧ (s.data.toList.take k).all isHex = true) (fun i _ _ _ => 64 - (intOf i).toNat)
    case atStart => exact ⟨0, by omega, rfl, by rw [accId_zero], rfl⟩
    case round =>
      obtain ⟨k, hk, rfl, rfl, ha⟩ := hrel
      by_cases hlt : k < 64
      · have hlts : k < s.size := by omega
        have hltz : (k : Int) < (s.size : Int) := by omega
        have hltz64 : (k : Int) < 64 := by omega
        have hos := old_small (s := s) (k := k) (by omega) ha
        obtain ⟨o, ho⟩ : ∃ o, o = accB s.data.toList k (k / 2) := ⟨_, rfl⟩
        rw [← ho] at hos
        have hget := accId_get s.data.toList k hlt o ho (by omega)
        have HA := Lib.hid ha
        have HO := Lib.hid ho
        clear ha ho
        have hb255 : (s[k].toNat : Int) < 256 := by have := s[k].toNat_lt; omega
        by_cases c1 : (48 : Int) ≤ (s[k].toNat : Int) ∧ (s[k].toNat : Int) ≤ 57
        · obtain ⟨c1a, c1b⟩ := c1
          obtain ⟨q, hq⟩ : ∃ q, q = s[k].toNat - 48 := ⟨_, rfl⟩
          have hhq : hv s[k] = q := by rw [hq]; unfold hv; rw [if_pos (by omega)]
          have hh : q < 16 := by omega
          have hnew := Lib.hid (show ((encId (accId s.data.toList k)).set (k / 2) (.int .u8 ((o : Int) * 16 + ((s[k].toNat : Int) - 48)))).toArray = (encId (accId s.data.toList (k + 1))).toArray by
            have h1 := accId_step s.data.toList k (UInt8.ofNat (o * 16 + q)) (by rw [UInt8.toNat_ofNat', accB_new, ← HO.out, chr_at s k hlts, hhq]; omega)
            rw [UInt8.toNat_ofNat', Nat.mod_eq_of_lt (by omega)] at h1
            rw [← h1]
            have e1 : ((o * 16 + q : Nat) : Int) = (o : Int) * 16 + ((s[k].toNat : Int) - 48) := by omega
            rw [e1]
            simp)
          have hsn := Lib.hid (hex_snoc hlts HA.out (by rw [hhq]; exact hh))
          have hoz : (o : Int) < 16 := by omega
          clear hq hhq
          go_wp2
          go_roundw
          case rel =>
            refine ⟨k + 1, by omega, by go_num, ?_, hsn.out⟩
            rw [← hnew.out]
          case measure => simp [intOf]; omega
        by_cases c2 : (97 : Int) ≤ (s[k].toNat : Int) ∧ (s[k].toNat : Int) ≤ 102
        · obtain ⟨c2a, c2b⟩ := c2
          have c1a : (48 : Int) ≤ (s[k].toNat : Int) := by omega
          have c1b : ¬ (s[k].toNat : Int) ≤ 57 := by omega
          clear c1
          obtain ⟨q, hq⟩ : ∃ q, q = s[k].toNat - 87 := ⟨_, rfl⟩
          have hhq : hv s[k] = q := by rw [hq]; unfold hv; rw [if_neg (by omega), if_pos (by omega)]
          have hh : q < 16 := by omega
          have hnew := Lib.hid (show ((encId (accId s.data.toList k)).set (k / 2) (.int .u8 ((o : Int) * 16 + ((s[k].toNat : Int) - 97 + 10)))).toArray = (encId (accId s.data.toList (k + 1))).toArray by
            have h1 := accId_step s.data.toList k (UInt8.ofNat (o * 16 + q)) (by rw [UInt8.toNat_ofNat', accB_new, ← HO.out, chr_at s k hlts, hhq]; omega)
            rw [UInt8.toNat_ofNat', Nat.mod_eq_of_lt (by omega)] at h1
            rw [← h1]
            have e1 : ((o * 16 + q : Nat) : Int) = (o : Int) * 16 + ((s[k].toNat : Int) - 97 + 10) := by omega
            rw [e1]
            simp)
          have hsn := Lib.hid (hex_snoc hlts HA.out (by rw [hhq]; exact hh))
          have hoz : (o : Int) < 16 := by omega
          clear hq hhq
          go_wp2
          go_roundw
          case rel =>
            refine ⟨k + 1, by omega, by go_num, ?_, hsn.out⟩
            rw [← hnew.out]
          case measure => simp [intOf]; omega
        by_cases d1 : (48 : Int) ≤ (s[k].toNat : Int)
        · have d2 : ¬ (s[k].toNat : Int) ≤ 57 := by omega
          by_cases d3 : (97 : Int) ≤ (s[k].toNat : Int)
          · have d4 : ¬ (s[k].toNat : Int) ≤ 102 := by omega
            clear c1 c2
            have hno := idOk_bad hlts (show ¬ hv s[k] < 16 by unfold hv; rw [if_neg (by omega), if_neg (by omega)]; omega)
            have hf := Lib.hid (And.intro (idVal_no hno) hno)
            clear hno hget
            go_wp2
            refine bodyPost_ret (v := .tuple #[.agg (encId zeroId).toArray, .bool false]) ?_ rfl ⟨by rw [hf.out.1, hf.out.2], ?_⟩
            exact results_agg2 rfl Tryz.isAgg23 Tryz.sizeOf23 _ _ ⟨w.heap.size, 0, none⟩ _ _ rfl rfl (ok_alloc _ (ok_new_id _ _ _)) ((rd_alloc _ (ok_new_id _ _ _)).trans (rd_new_id _ _ _))
            exact ((Below.refl _ _).alloc (Nat.le_refl _) _).alloc (by simp) _
          · clear c1 c2
            have hno := idOk_bad hlts (show ¬ hv s[k] < 16 by unfold hv; rw [if_neg (by omega), if_neg (by omega)]; omega)
            have hf := Lib.hid (And.intro (idVal_no hno) hno)
            clear hno hget
            go_wp2
            refine bodyPost_ret (v := .tuple #[.agg (encId zeroId).toArray, .bool false]) ?_ rfl ⟨by rw [hf.out.1, hf.out.2], ?_⟩
            exact results_agg2 rfl Tryz.isAgg23 Tryz.sizeOf23 _ _ ⟨w.heap.size, 0, none⟩ _ _ rfl rfl (ok_alloc _ (ok_new_id _ _ _)) ((rd_alloc _ (ok_new_id _ _ _)).trans (rd_new_id _ _ _))
            exact ((Below.refl _ _).alloc (Nat.le_refl _) _).alloc (by simp) _
        · have d3 : ¬ (97 : Int) ≤ (s[k].toNat : Int) := by omega
          clear c1 c2
          have hno := idOk_bad hlts (show ¬ hv s[k] < 16 by unfold hv; rw [if_neg (by omega), if_neg (by omega)]; omega)
          have hf := Lib.hid (And.intro (idVal_no hno) hno)
          clear hno hget
          go_wp2
          refine bodyPost_ret (v := .tuple #[.agg (encId zeroId).toArray, .bool false]) ?_ rfl ⟨by rw [hf.out.1, hf.out.2], ?_⟩
          exact results_agg2 rfl Tryz.isAgg23 Tryz.sizeOf23 _ _ ⟨w.heap.size, 0, none⟩ _ _ rfl rfl (ok_alloc _ (ok_new_id _ _ _)) ((rd_alloc _ (ok_new_id _ _ _)).trans (rd_new_id _ _ _))
          exact ((Below.refl _ _).alloc (Nat.le_refl _) _).alloc (by simp) _
      · obtain rfl : k = 64 := by omega
        have hall : s.data.toList.take 64 = s.data.toList := List.take_of_length_le (by rw [size_list, H64.out]; exact Nat.le_refl _)
        have hyes := idOk_yes H64.out (by rw [← hall]; exact ha)
        have hf := Lib.hid (And.intro (idVal_yes hyes) hyes)
        clear hall hyes ha
        rw [show ((64 : Nat) : Int) = 64 from rfl]
        go_wp2
        refine bodyPost_ret (v := .tuple #[.agg (encId (accId s.data.toList 64)).toArray, .bool true]) ?_ rfl ⟨by rw [hf.out.1, hf.out.2], ?_⟩
        exact results_agg2 rfl Tryz.isAgg23 Tryz.sizeOf23 _ _ ⟨w.heap.size, 0, none⟩ _ _ rfl rfl (ok_alloc _ (ok_new_id _ _ _)) ((rd_alloc _ (ok_new_id _ _ _)).trans (rd_new_id _ _ _))
        exact ((Below.refl _ _).alloc (Nat.le_refl _) _).alloc (by simp) _
  · have h64b : ((s.size : Int) != 64) = true := by rw [bne_iff_ne]; omega
    have hno := idOk_len h64
    have hf := Lib.hid (And.intro (idVal_no hno) hno)
    clear hno h64
    go_enter Tryz.func100, Tryz.ntmps100
    go_wp2
    refine bodyPost_ret (v := .tuple #[.agg (encId zeroId).toArray, .bool false]) ?_ rfl ⟨by rw [hf.out.1, hf.out.2], ?_⟩
    exact results_agg2 rfl Tryz.isAgg23 Tryz.sizeOf23 _ _ ⟨w.heap.size, 0, none⟩ _ _ rfl rfl (ok_alloc _ (ok_new_id _ _ _)) ((rd_alloc _ (ok_new_id _ _ _)).trans (rd_new_id _ _ _))
    exact ((Below.refl _ _).alloc (Nat.le_refl _) _).alloc (by simp) _

end Go.Proofs.YtdjaphcelpchaaaGreatDoor
