/- Numbers in decimal and joined texts: bulletinref28.Decimal, bulletinref12.Text, and the library's Itoa and Join. -/
import Derived.Test.YtdjaphcelpchaaaGreatDoorHex
import Derived.Lib.ItoaNum
namespace Go.Proofs.YtdjaphcelpchaaaGreatDoor
open Go Go.RowKit Go.Proofs

theorem decDigits_small {u : Nat} (h : u < 10) : Lib.decDigits u = [UInt8.ofNat (48 + u)] := by rw [Lib.decDigits, dif_pos h]
theorem decDigits_big {u : Nat} (h : ¬ u < 10) : Lib.decDigits u = Lib.decDigits (u / 10) ++ [UInt8.ofNat (48 + u % 10)] := by rw [Lib.decDigits, dif_neg h]
theorem decDigits_bound : ∀ (k u : Nat), u < 10 ^ (k + 1) → (Lib.decDigits u).length ≤ k + 1
  | 0, u, h => by rw [decDigits_small (by simpa using h)]; simp
  | k + 1, u, h => by
    by_cases hs : u < 10
    · rw [decDigits_small hs]; simp
    · rw [decDigits_big hs, List.length_append]
      have := decDigits_bound k (u / 10) (by rw [Nat.pow_succ] at h; omega)
      simp; omega
theorem decDigits_len (u : Nat) (h : u ≤ 9223372036854775807) : (Lib.decDigits u).length ≤ 20 := decDigits_bound 19 u (by omega)

set_option maxHeartbeats 1000000 in
theorem decimal_any : ∀ (n : Nat) (w : World), n ≤ 9223372036854775807 →
    Calls Tryz.prog 63 #[.int .i64 n] w fun r w' => r = .returned (.string (str (Lib.decDigits n))) ∧ Below w.heap.size w w' := by
  intro n
  induction n using Nat.strongRecOn with
  | _ n ih =>
    intro w hn
    have IH := Lib.hid ih
    clear ih
    by_cases hs : n < 10
    · have hsz : (n : Int) < 10 := by omega
      have hcv : Sem.run Tryz.prog (convert 124 9 (.slice (some ⟨w.heap.size, 0, none⟩) 1 1)) (w.alloc (.cells #[.int .u8 (48 + (n : Int))] 5)) = .ok (.string (str (Lib.decDigits n))) (w.alloc (.cells #[.int .u8 (48 + (n : Int))] 5)) := by
        rw [decDigits_small hs]
        refine run_convert_bytes_back (P := Tryz.prog) _ 124 9 5 ⟨w.heap.size, 0, none⟩ 1 [UInt8.ofNat (48 + n)] Tryz.underlying124 Tryz.underlying5 Tryz.underlying9 (fun j hj => ?_)
        have : j = 0 := by simp at hj; omega
        subst this
        rw [Addr.add_lit, cells_new]
        simp only [List.getElem_cons_zero]
        have : (UInt8.ofNat (48 + n)).toNat = 48 + n := by rw [UInt8.toNat_ofNat']; omega
        rw [this]; simp
      go_enter Tryz.func63, Tryz.ntmps63
      go_wp2
      go_ret
      exact ⟨rfl, (Below.refl _ _).alloc (Nat.le_refl _) _⟩
    · have hsz : ¬ (n : Int) < 10 := by omega
      have hd1 := decDigits_len (n / 10) (by omega)
      have hd2 := decDigits_len (n % 10) (by omega)
      have s1 : (str (Lib.decDigits (n / 10))).size ≤ 20 := by rw [str_size]; exact hd1
      have s2 : (str (Lib.decDigits (n % 10))).size ≤ 20 := by rw [str_size]; exact hd2
      clear hd1 hd2
      have hf := Lib.hid (show str (Lib.decDigits (n / 10)) ++ str (Lib.decDigits (n % 10)) = str (Lib.decDigits n) by rw [str_append, decDigits_big hs, decDigits_small (Nat.mod_lt n (by omega))])
      go_enter Tryz.func63, Tryz.ntmps63
      go_wp2_with fail
      have h1 := IH.out (n / 10) (by omega) w (by omega)
      rw [show ((n / 10 : Nat) : Int) = (n : Int) / 10 by omega] at h1
      refine h1.mono ?_
      rintro e w1 ⟨rfl, hb1⟩
      clear h1
      go_wp2_with fail
      have h2 := IH.out (n % 10) (by omega) w1 (by omega)
      rw [show ((n % 10 : Nat) : Int) = (n : Int) % 10 by omega] at h2
      refine h2.mono ?_
      rintro e w2 ⟨rfl, hb2⟩
      clear h2
      go_wp2
      go_ret
      exact ⟨ret_str hf.out, hb1.trans (hb2.mono hb1.size)⟩

/-! ## Texts joined -/

theorem join_snoc (xs : List (List UInt8)) (x sep : List UInt8) : Lib.join (xs ++ [x]) sep = if xs = [] then x else Lib.join xs sep ++ sep ++ x := by
  cases xs with
  | nil => simp [Lib.join_one]
  | cons y r =>
    rw [List.cons_append, Lib.join_cons, Lib.join_cons, if_neg (by simp)]
    simp [Lib.joinTail]
theorem join_take_le (xs : List (List UInt8)) (sep : List UInt8) (k : Nat) : (Lib.join (xs.take k) sep).length ≤ (Lib.join xs sep).length := by
  have step : ∀ (ys : List (List UInt8)) (n : Nat), (Lib.join (ys.take n) sep).length ≤ (Lib.join (ys.take (n + 1)) sep).length := by
    intro ys n
    by_cases h : n < ys.length
    · rw [List.take_succ_eq_append_getElem h, join_snoc]
      split
      · rename_i h0; rw [h0]; simp [Lib.join_nil]
      · simp
    · rw [List.take_of_length_le (by omega), List.take_of_length_le (by omega)]; exact Nat.le_refl _
  have all : ∀ d, (Lib.join (xs.take k) sep).length ≤ (Lib.join (xs.take (k + d)) sep).length := by
    intro d
    induction d with
    | zero => exact Nat.le_refl _
    | succ d ih => exact Nat.le_trans ih (step xs (k + d))
  have h := all xs.length
  have e : xs.take (k + xs.length) = xs := List.take_of_length_le (by omega)
  rwa [e] at h

/-- The cells of a row of strings. -/
def StrRow (w : World) (b off : Nat) (xs : List ByteArray) : Prop := ∀ (j : Nat) (x : ByteArray), xs[j]? = some x → w.cell? ⟨b, off + j, none⟩ = some (.string x)
def joinS (xs : List ByteArray) (sep : List UInt8) : List UInt8 := Lib.join (xs.map fun x => x.data.toList) sep
theorem joinS_take_le (xs : List ByteArray) (sep : List UInt8) (k : Nat) : (joinS (xs.take k) sep).length ≤ (joinS xs sep).length := by
  unfold joinS; rw [List.map_take]; exact join_take_le _ _ _
theorem joinS_snoc (xs : List ByteArray) (sep : List UInt8) (k : Nat) (h : k < xs.length) : joinS (xs.take (k + 1)) sep = if k = 0 then xs[k].data.toList else joinS (xs.take k) sep ++ sep ++ xs[k].data.toList := by
  unfold joinS
  rw [List.take_succ_eq_append_getElem h, List.map_append, List.map_cons, List.map_nil, join_snoc]
  by_cases hk : k = 0
  · subst hk; simp
  · rw [if_neg hk, if_neg (by intro e; have h1 := congrArg List.length e; rw [List.length_map, List.length_take, List.length_nil] at h1; omega)]

theorem text_le (xs : List ByteArray) (sep : ByteArray) (k : Nat) (h : k < xs.length) (hk : k ≠ 0) : (joinS (xs.take k) sep.data.toList).length + sep.size + xs[k].size ≤ (joinS xs sep.data.toList).length := by
  have := joinS_take_le xs sep.data.toList (k + 1)
  rw [joinS_snoc _ _ _ h, if_neg hk] at this
  simp only [List.length_append, size_list] at this
  omega

set_option maxHeartbeats 1000000 in
theorem text12_any (b off c : Nat) (xs : List ByteArray) (sep : ByteArray) (w : World) (hrow : StrRow w b off xs) (hlen : (joinS xs sep.data.toList).length ≤ 140737488355328) (hn : xs.length ≤ 140737488355328) :
    Calls Tryz.prog 62 #[.slice (some ⟨b, off, none⟩) xs.length c, .string sep] w fun r w' => r = .returned (.string (str (joinS xs sep.data.toList))) ∧ w = w' := by
  have H := Lib.hid hrow
  clear hrow
  go_enter Tryz.func62, Tryz.ntmps62
  go_wp2
  go_loop [5, 6] (fun s i => ∃ k : Nat, k ≤ xs.length ∧ i = .int .i64 k ∧ s = .string (str (joinS (xs.take k) sep.data.toList))) (fun _ i => xs.length - (intOf i).toNat)
  case atStart => exact ⟨0, by omega, rfl, rfl⟩
  case round =>
    obtain ⟨k, hk, rfl, rfl⟩ := hrel
    by_cases hlt : k < xs.length
    · have hltz : (k : Int) < (xs.length : Int) := by omega
      have hc := H.out k xs[k] (List.getElem?_eq_getElem hlt)
      have hst := joinS_snoc xs sep.data.toList k hlt
      generalize hx : xs[k] = x at hc hst
      by_cases hk0 : k = 0
      · subst hk0
        rw [if_pos rfl] at hst
        have HS := Lib.hid hst
        have hxl : x.size ≤ 140737488355328 := by
          have h1 := joinS_take_le xs sep.data.toList 1
          rw [hst, size_list] at h1
          omega
        have e0 : str (joinS (List.take 0 xs) sep.data.toList) = ⟨#[]⟩ := rfl
        have E0 := Lib.hid e0
        clear hst hx e0
        rw [E0.out, show ((0 : Nat) : Int) = 0 from rfl]
        rw [Nat.add_zero] at hc
        go_wp2
        go_round
        case rel => exact ⟨1, by omega, rfl, by rw [HS.out]; exact congrArg Value.string (str_append' [] x)⟩
        case measure => simp [intOf]; omega
      · rw [if_neg hk0] at hst
        have HS := Lib.hid hst
        have hle := text_le xs sep k hlt hk0
        rw [hx, ← str_size] at hle
        clear hst hx
        have hkz : (0 : Int) < (k : Int) := by omega
        go_wp2
        go_round
        case rel => exact ⟨k + 1, by omega, by go_num, by rw [HS.out, ← str_append, ← str_append]; rfl⟩
        case measure => simp [intOf]; omega
    · have hf := Lib.hid (show xs.take k = xs from List.take_of_length_le (by omega))
      go_wp2
      go_ret
      exact ⟨ret_str (by rw [hf.out]), rfl⟩

/-! ## The variables of Go's library -/

/-- What is known of the package-level variables: the table of powers of ten, and that bytealg.MaxLen holds some number. -/
structure Gl (w : World) : Prop where
  tab : Lib.TabIs Tryz.prog w "internal/strconv.uint64pow10" .u64 Lib.pow10Tab
  len : ∃ m : Int, w.cell? ⟨0, 0, none⟩ = some (.int .i64 m)
  size : Tryz.prog.globals.size ≤ w.heap.size

theorem globals_size : Tryz.prog.globals.size = 6 := by kernel_rfl
theorem Gl.below {w w' : World} (h : Gl w) {B : Nat} (hb : Below B w w') (hB : Tryz.prog.globals.size ≤ B) : Gl w' where
  tab := by
    have hg : Tryz.prog.globalNamed "internal/strconv.uint64pow10" = some 1 := by kernel_rfl
    unfold Lib.TabIs
    refine var?_below hb hg ?_ h.tab
    rw [globals_size] at hB
    omega
  len := by
    obtain ⟨m, hm⟩ := h.len
    refine ⟨m, (hb.cell (p := ⟨0, 0, none⟩) ?_).trans hm⟩
    rw [globals_size] at hB
    show 0 < B
    omega
  size := Nat.le_trans h.size hb.size
theorem Gl.later {w w' : World} (h : Gl w) (hb : Below w.heap.size w w') : Gl w' := h.below hb h.size

theorem itoa_any (n : Nat) (w : World) (hn : n ≤ 9223372036854775807) (hG : Gl w) :
    Calls Tryz.prog 81 #[.int .i64 n] w fun r w' => r = .returned (.string (str (Lib.decDigits n))) ∧ Below w.heap.size w w' := by
  refine (Tryz.strconv_Itoa n (by omega) (by omega) w hG.tab).mono ?_
  rintro e w' ⟨rfl, k, os, rfl⟩
  refine ⟨?_, rfl, rfl, rfl, ?_, fun j hj => ?_⟩
  rotate_left
  · show w.heap.size ≤ (w.heap ++ os).size
    simp
  · show (w.heap ++ os)[j]? = _
    rw [Array.getElem?_append_left hj]
  have : Lib.itoa (n : Int) = Lib.decDigits n := by unfold Lib.itoa; rw [if_neg (by omega), Int.toNat_natCast]
  rw [this]; rfl

/-- strings.Join of a slice value that reads as strings. -/
theorem join_any (v : Value) (xs : List ByteArray) (sep : ByteArray) (w : World) (hv : (∃ a c, v = .slice a 0 c ∧ xs = []) ∨ ∃ b off c, v = .slice (some ⟨b, off, none⟩) xs.length c ∧ xs.length ≤ c ∧ b < w.heap.size ∧ StrRow w b off xs)
    (hlen : (joinS xs sep.data.toList).length ≤ 140737488355328) (hn : xs.length ≤ 140737488355328) :
    Calls Tryz.prog 93 #[v, .string sep] w fun r w' => r = .returned (.string (str (joinS xs sep.data.toList))) ∧ Below w.heap.size w w' := by
  rcases hv with ⟨a, c, rfl, rfl⟩ | ⟨b, off, c, rfl, hc, hb, hrow⟩
  · refine (Any.strings_Join_none Tryz.lays156 Tryz.Builder_Extra_156 a c sep w).mono ?_
    rintro e w' ⟨rfl, rfl⟩
    exact ⟨rfl, Below.refl _ _⟩
  · refine (Tryz.strings_Join b off c xs sep w hrow hb hn hc hlen).mono ?_
    rintro e w' ⟨rfl, hb'⟩
    exact ⟨rfl, hb'⟩

end Go.Proofs.YtdjaphcelpchaaaGreatDoor
