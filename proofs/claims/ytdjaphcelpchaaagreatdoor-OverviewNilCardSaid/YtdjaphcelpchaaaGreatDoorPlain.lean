/- Plain laws: cutting and joining texts, numbers and identities there and back. No program in sight. -/
import Derived.Test.YtdjaphcelpchaaaGreatDoorSame
namespace Go.Proofs.YtdjaphcelpchaaaGreatDoor
open Go Go.RowKit Go.Proofs

/-! ## parts and joins -/
theorem join_two (x y : List UInt8) (r : List (List UInt8)) (sep : List UInt8) : Lib.join (x :: y :: r) sep = x ++ sep ++ Lib.join (y :: r) sep := by
  simp [Lib.join, List.intercalate, List.intersperse]
theorem splitL_none (c : UInt8) : ∀ l : List UInt8, c ∉ l → splitL c l = [l]
  | [], _ => rfl
  | b :: l, h => by
    have h1 : b ≠ c := fun e => h (by rw [e]; exact List.mem_cons_self)
    have h2 : c ∉ l := fun e => h (List.mem_cons_of_mem _ e)
    rw [splitL, if_neg h1, splitL_none c l h2]
theorem splitL_pre (c : UInt8) : ∀ (x l : List UInt8), c ∉ x → splitL c (x ++ c :: l) = x :: splitL c l
  | [], l, _ => by simp [splitL]
  | b :: x, l, h => by
    have h1 : b ≠ c := fun e => h (by rw [e]; exact List.mem_cons_self)
    have h2 : c ∉ x := fun e => h (List.mem_cons_of_mem _ e)
    rw [List.cons_append, splitL, if_neg h1, splitL_pre c x l h2]
theorem split_join (c : UInt8) : ∀ (xs : List (List UInt8)), xs ≠ [] → (∀ x ∈ xs, c ∉ x) → splitL c (Lib.join xs [c]) = xs
  | [], h, _ => absurd rfl h
  | [x], _, h => by rw [Lib.join_one]; exact splitL_none c x (h x (by simp))
  | x :: y :: r, _, h => by
    rw [join_two, List.append_assoc, List.singleton_append, splitL_pre c x _ (h x (by simp)), split_join c (y :: r) (by simp) (fun z hz => h z (List.mem_cons_of_mem _ hz))]
theorem join_split (c : UInt8) : ∀ l : List UInt8, Lib.join (splitL c l) [c] = l
  | [] => by rw [splitL, Lib.join_one]
  | b :: l => by
    have ih := join_split c l
    have hne := splitL_ne c l
    unfold splitL
    cases hq : splitL c l with
    | nil => exact absurd hq hne
    | cons y t =>
      rw [hq] at ih
      split
      · rename_i e; rw [join_two, ih, e]; rfl
      · cases t with
        | nil => rw [Lib.join_one] at ih ⊢; rw [ih]
        | cons z t => rw [join_two] at ih ⊢; rw [List.cons_append, List.cons_append, ih]

/-! ## numbers -/
theorem dec_rec (u : Nat) (h : ¬ u < 10) : Lib.decDigits u = Lib.decDigits (u / 10) ++ [UInt8.ofNat (48 + u % 10)] := by
  rw [Lib.decDigits, dif_neg h]
theorem dec_back : ∀ u : Nat, decVal (Lib.decDigits u) = u ∧ (Lib.decDigits u).all isDig = true ∧ 1 ≤ (Lib.decDigits u).length ∧ (1 < (Lib.decDigits u).length → (Lib.decDigits u).head? ≠ some 48) ∧ (u ≠ 0 → (Lib.decDigits u).head? ≠ some 48) := by
  intro u
  induction u using Nat.strongRecOn with
  | ind u ih =>
    by_cases h : u < 10
    · rw [Lib.decDigits_one h]
      have : u = 0 ∨ u = 1 ∨ u = 2 ∨ u = 3 ∨ u = 4 ∨ u = 5 ∨ u = 6 ∨ u = 7 ∨ u = 8 ∨ u = 9 := by omega
      rcases this with rfl | rfl | rfl | rfl | rfl | rfl | rfl | rfl | rfl | rfl <;> decide
    · obtain ⟨h1, h2, h3, h4, h5⟩ := ih (u / 10) (by omega)
      rw [dec_rec u h, decVal_snoc, h1]
      have hd : (UInt8.ofNat (48 + u % 10)).toNat = 48 + u % 10 := by simp; omega
      have hne : Lib.decDigits (u / 10) ≠ [] := by intro e; rw [e] at h3; simp at h3
      have hhead : (Lib.decDigits (u / 10) ++ [UInt8.ofNat (48 + u % 10)]).head? = (Lib.decDigits (u / 10)).head? := by
        cases hq : Lib.decDigits (u / 10) with
        | nil => exact absurd hq hne
        | cons a r => rfl
      refine ⟨by rw [hd]; omega, ?_, by simp, fun _ => ?_, fun _ => ?_⟩
      · rw [List.all_append, h2]; simp [isDig]; omega
      · rw [hhead]; exact h5 (by omega)
      · rw [hhead]; exact h5 (by omega)

theorem nDigits_le : ∀ (k u : Nat), u < 10 ^ (k + 1) → Lib.nDigits u ≤ k + 1
  | 0, u, h => by rw [Lib.nDigits_small (by simpa using h)]; omega
  | k + 1, u, h => by
    by_cases h10 : u < 10
    · rw [Lib.nDigits_small h10]; omega
    · have := nDigits_le k (u / 10) (by rw [Nat.pow_succ] at h; omega)
      rw [Lib.nDigits_big h10]; omega
theorem num_dec (u : Nat) (h : u < 10000000000) : numOk (Lib.decDigits u) = true ∧ numVal (Lib.decDigits u) = u := by
  obtain ⟨h1, h2, h3, h4, _⟩ := dec_back u
  have hl : (Lib.decDigits u).length ≤ 10 := by rw [Lib.decDigits_length]; exact nDigits_le 9 u (by omega)
  have hok : numOk (Lib.decDigits u) = true := by
    unfold numOk
    rw [h2]
    have e : (decide (1 < (Lib.decDigits u).length) && (Lib.decDigits u).head? == some 48) = false := by
      by_cases hq : 1 < (Lib.decDigits u).length
      · have := h4 hq; simp [this]
      · simp [hq]
    rw [e]
    simp [h3, hl]
  exact ⟨hok, by rw [numVal_yes hok, h1]⟩
theorem dec_of : ∀ (n : Nat) (p : List UInt8), p.length = n → p ≠ [] → p.all isDig = true → (1 < p.length → p.head? ≠ some 48) → Lib.decDigits (decVal p) = p := by
  intro n
  induction n with
  | zero => intro p h hne; exact absurd (List.eq_nil_of_length_eq_zero h) hne
  | succ n ih =>
    intro p hl hne hall hh
    obtain ⟨q, c, rfl⟩ : ∃ q c, p = q ++ [c] := ⟨p.dropLast, p.getLast hne, (List.dropLast_concat_getLast hne).symm⟩
    have hc : isDig c = true := by rw [List.all_append] at hall; simp at hall; exact hall.2
    have hq : q.all isDig = true := by rw [List.all_append] at hall; simp at hall ⊢; exact hall.1
    have hc2 : 48 ≤ c.toNat ∧ c.toNat ≤ 57 := by simp [isDig] at hc; omega
    have hcc : ∀ d, d = c.toNat - 48 → UInt8.ofNat (48 + d) = c := fun d hd => by
      rw [hd, show 48 + (c.toNat - 48) = c.toNat by omega]; exact UInt8.ofNat_toNat
    rw [decVal_snoc]
    by_cases hqn : q = []
    · subst hqn
      have e0 : decVal [] = 0 := rfl
      rw [e0, Lib.decDigits_one (by omega), hcc _ (by omega)]
      rfl
    · have hqh : q.head? ≠ some 48 := by
        have h1 : (q ++ [c]).head? = q.head? := by
          cases q with
          | nil => exact absurd rfl hqn
          | cons a r => rfl
        rw [← h1]
        apply hh
        have := List.length_pos_iff.2 hqn
        simp; omega
      have hI := ih q (by simpa using hl) hqn hq (fun _ => hqh)
      have hpos : 1 ≤ decVal q := by
        rcases Nat.eq_zero_or_pos (decVal q) with h0 | h0
        · rw [h0, Lib.decDigits_one (by omega)] at hI
          rw [← hI] at hqh
          exact absurd rfl hqh
        · exact h0
      rw [dec_rec _ (by omega), show (10 * decVal q + (c.toNat - 48)) / 10 = decVal q by omega, hI, hcc _ (by omega)]
theorem dec_num {p : List UInt8} (h : numOk p = true) : Lib.decDigits (numVal p) = p := by
  rw [numVal_yes h]
  unfold numOk at h
  simp only [Bool.and_eq_true, decide_eq_true_eq, Bool.not_eq_true'] at h
  obtain ⟨⟨⟨h1, _⟩, h2⟩, h3⟩ := h
  refine dec_of p.length p rfl (List.length_pos_iff.1 (by omega)) h3 (fun hl => ?_)
  rw [Bool.and_eq_false_iff] at h2
  rcases h2 with h2 | h2
  · simp [hl] at h2
  · simpa using h2

/-! ## identities -/
theorem hexL_at : ∀ (l : List UInt8) (j : Nat) (h : j < l.length), (hexL l)[2 * j]? = some (hexDig (l[j].toNat / 16)) ∧ (hexL l)[2 * j + 1]? = some (hexDig (l[j].toNat % 16))
  | [], j, h => by simp at h
  | b :: l, 0, _ => by simp [hexL, hexB]
  | b :: l, j + 1, h => by
    have ih := hexL_at l j (by simpa using h)
    have e : hexL (b :: l) = hexDig (b.toNat / 16) :: hexDig (b.toNat % 16) :: hexL l := by simp [hexL, hexB]
    rw [e, show 2 * (j + 1) = 2 * j + 1 + 1 by omega]
    simpa using ih
theorem hv_dig : ∀ n : Nat, n < 16 → hv (hexDig n) = n := by decide
theorem dig_hvN : ∀ n : Nat, n < 256 → hv (UInt8.ofNat n) < 16 → hexDig (hv (UInt8.ofNat n)) = UInt8.ofNat n := by decide +kernel
theorem dig_hv (c : UInt8) (h : hv c < 16) : hexDig (hv c) = c := by
  have := dig_hvN c.toNat c.toNat_lt
  rw [UInt8.ofNat_toNat] at this
  exact this h
theorem id_hex (x : Id32) : idOk (hexOf x) = true ∧ idVal (hexOf x) = x := by
  have hl : (hexOf x).length = 64 := hexOf_length x
  have hx : x.1.length = 32 := x.2
  have hat : ∀ j, (h : j < 32) → chr (hexOf x) (2 * j) = hexDig ((x.1[j]'(by omega)).toNat / 16) ∧ chr (hexOf x) (2 * j + 1) = hexDig ((x.1[j]'(by omega)).toNat % 16) := fun j h => by
    have := hexL_at x.1 j (by omega)
    unfold chr
    rw [List.getD_eq_getElem?_getD, List.getD_eq_getElem?_getD]
    rw [show hexOf x = hexL x.1 from rfl, this.1, this.2]
    exact ⟨rfl, rfl⟩
  have hall : (hexOf x).all isHex = true := by
    rw [List.all_eq_true]
    intro c hc
    have hm : c ∈ hexL x.1 := hc
    unfold hexL at hm
    rw [List.mem_flatMap] at hm
    obtain ⟨b, _, hb⟩ := hm
    have hb255 := b.toNat_lt
    simp only [hexB, List.mem_cons, List.mem_nil_iff, or_false] at hb
    rcases hb with rfl | rfl
    · simp only [isHex, decide_eq_true_eq]; rw [hv_dig _ (by omega)]; omega
    · simp only [isHex, decide_eq_true_eq]; rw [hv_dig _ (by omega)]; omega
  have hok : idOk (hexOf x) = true := by unfold idOk; rw [hl, hall]; rfl
  refine ⟨hok, ?_⟩
  rw [idVal_yes hok]
  apply Subtype.ext
  apply List.ext_getElem
  · simp [accId, hx]
  · intro j h1 h2
    have hj : j < 32 := by omega
    have hb := (x.1[j]'(by omega)).toNat_lt
    simp only [accId, List.getElem_map, List.getElem_range]
    unfold accB
    rw [if_pos (by omega), (hat j hj).1, (hat j hj).2, hv_dig _ (by omega), hv_dig _ (by omega), show (x.1[j]'(by omega)).toNat / 16 * 16 + (x.1[j]'(by omega)).toNat % 16 = (x.1[j]'(by omega)).toNat by omega]
    exact UInt8.ofNat_toNat
theorem hex_id {p : List UInt8} (h : idOk p = true) : hexOf (idVal p) = p := by
  rw [idVal_yes h]
  unfold idOk at h
  simp only [Bool.and_eq_true, decide_eq_true_eq, List.all_eq_true] at h
  obtain ⟨hl, hall⟩ := h
  have hchr : ∀ i, (hi : i < 64) → chr p i = p[i]'(by omega) ∧ hv (p[i]'(by omega)) < 16 := fun i hi => by
    refine ⟨by unfold chr; rw [List.getD_eq_getElem?_getD, List.getElem?_eq_getElem (by omega)]; rfl, ?_⟩
    have := hall _ (List.getElem_mem (show i < p.length by omega))
    simpa [isHex] using this
  apply List.ext_getElem
  · rw [hexOf_length, hl]
  · intro i h1 h2
    have hi : i < 64 := by omega
    have hat := hexL_at (accId p 64).1 (i / 2) (by rw [(accId p 64).2]; omega)
    have hj : (accId p 64).1[i / 2]'(by rw [(accId p 64).2]; omega) = UInt8.ofNat (accB p 64 (i / 2)) := by simp [accId]
    rw [hj] at hat
    have hA : accB p 64 (i / 2) = hv (chr p (2 * (i / 2))) * 16 + hv (chr p (2 * (i / 2) + 1)) := by unfold accB; rw [if_pos (by omega)]
    have c1 := hchr (2 * (i / 2)) (by omega)
    have c2 := hchr (2 * (i / 2) + 1) (by omega)
    have hlt : accB p 64 (i / 2) < 256 := by rw [hA, c1.1, c2.1]; omega
    have hnat : (UInt8.ofNat (accB p 64 (i / 2))).toNat = accB p 64 (i / 2) := by simp; omega
    rw [hnat] at hat
    have e1 : accB p 64 (i / 2) / 16 = hv (chr p (2 * (i / 2))) := by rw [hA, c1.1, c2.1]; omega
    have e2 : accB p 64 (i / 2) % 16 = hv (chr p (2 * (i / 2) + 1)) := by rw [hA, c1.1, c2.1]; omega
    rw [e1, e2, c1.1, c2.1, dig_hv _ c1.2, dig_hv _ c2.2, ← List.getElem?_eq_getElem, ← List.getElem?_eq_getElem] at hat
    have hg : (hexOf (accId p 64))[i]? = some (p[i]'h2) := by
      have : i = 2 * (i / 2) ∨ i = 2 * (i / 2) + 1 := by omega
      rcases this with e | e
      · have hh := hat.1
        rw [← e] at hh
        rw [show hexOf (accId p 64) = hexL (accId p 64).1 from rfl, hh]
        exact List.getElem?_eq_getElem h2
      · have hh := hat.2
        rw [← e] at hh
        rw [show hexOf (accId p 64) = hexL (accId p 64).1 from rfl, hh]
        exact List.getElem?_eq_getElem h2
    exact Option.some.inj ((List.getElem?_eq_getElem h1).symm.trans hg)

end Go.Proofs.YtdjaphcelpchaaaGreatDoor
