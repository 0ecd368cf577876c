/- A line's text there and back: what Parse tells of the text that Print writes, and the other way round. -/
import Derived.Test.YtdjaphcelpchaaaGreatDoorPlain
namespace Go.Proofs.YtdjaphcelpchaaaGreatDoor
open Go Go.RowKit Go.Proofs

theorem str_data (l : List UInt8) : (str l).data.toList = l := by simp [str]
theorem no9_dig (u : Nat) : (9 : UInt8) ∉ Lib.decDigits u := fun h => by
  have := List.all_eq_true.1 (dec_back u).2.1 9 h
  revert this; decide
theorem no_hex (c : UInt8) (hc : isHex c = false) (x : Id32) : c ∉ hexOf x := fun h => by
  have h1 := (id_hex x).1
  unfold idOk at h1
  simp only [Bool.and_eq_true, List.all_eq_true] at h1
  rw [h1.2 c h] at hc
  cases hc
theorem no9_text {l : List UInt8} {most : Int} (h : textErr l most = 0) : (9 : UInt8) ∉ l := fun h9 => by
  unfold textErr at h
  split at h
  · cases h
  · split at h
    · cases h
    · rename_i hb
      exact hb (List.any_eq_true.2 ⟨9, h9, by decide⟩)
theorem mem_join {c : UInt8} {sep : List UInt8} : ∀ {xs : List (List UInt8)}, c ∈ Lib.join xs sep → c ∈ sep ∨ ∃ x ∈ xs, c ∈ x
  | [], h => by simp [Lib.join_nil] at h
  | [x], h => by rw [Lib.join_one] at h; exact Or.inr ⟨x, by simp, h⟩
  | x :: y :: r, h => by
    rw [join_two, List.append_assoc, List.mem_append, List.mem_append] at h
    rcases h with h | h | h
    · exact Or.inr ⟨x, by simp, h⟩
    · exact Or.inl h
    · rcases mem_join h with h | ⟨z, hz, hc⟩
      · exact Or.inl h
      · exact Or.inr ⟨z, List.mem_cons_of_mem _ hz, hc⟩
theorem refsTxt_eq (ids : List Id32) : refsTxt ids = Lib.join (ids.map hexOf) [44] := by
  unfold refsTxt joinS
  rw [List.map_map]
  congr 1
theorem no9_refs (ids : List Id32) : (9 : UInt8) ∉ refsTxt ids := fun h => by
  rw [refsTxt_eq] at h
  rcases mem_join h with h | ⟨x, hx, hc⟩
  · revert h; decide
  · obtain ⟨y, _, rfl⟩ := List.mem_map.1 hx
    exact no_hex 9 (by decide) y hc
theorem refTexts_txt (ids : List Id32) : refTexts (str (refsTxt ids)) = ids.map hexOf := by
  unfold refTexts
  rw [str_size, str_data, refsTxt_eq]
  cases ids with
  | nil => rfl
  | cons x r =>
    have hs := split_join 44 ((x :: r).map hexOf) (by simp) (fun y hy => by
      obtain ⟨z, _, rfl⟩ := List.mem_map.1 hy
      exact no_hex 44 (by decide) z)
    rw [if_neg, hs]
    intro e
    rw [List.length_eq_zero_iff] at e
    rw [e] at hs
    have h64 := hexOf_length x
    cases r with
    | nil =>
      simp only [List.map_cons, List.map_nil, splitL, List.cons.injEq] at hs
      rw [← hs.1] at h64; simp at h64
    | cons y t => simp [splitL] at hs
theorem refIds_txt (ids : List Id32) : refIds (str (refsTxt ids)) = ids ∧ refsPart (str (refsTxt ids)) = refsErr ids := by
  have h1 : refIds (str (refsTxt ids)) = ids := by
    unfold refIds
    rw [refTexts_txt, List.map_map]
    conv => rhs; rw [← List.map_id ids]
    apply List.map_congr_left
    intro x _
    exact (id_hex x).2
  refine ⟨h1, ?_⟩
  unfold refsPart
  rw [h1, if_pos]
  rw [refTexts_txt, List.all_eq_true]
  intro y hy
  obtain ⟨z, _, rfl⟩ := List.mem_map.1 hy
  exact (id_hex z).1
theorem txt_refIds {p : ByteArray} (h : refsPart p = 0) : refsTxt (refIds p) = p.data.toList ∧ refsErr (refIds p) = 0 := by
  unfold refsPart at h
  split at h
  · rename_i hall
    refine ⟨?_, h⟩
    rw [refsTxt_eq]
    unfold refIds
    rw [List.map_map]
    have e : (refTexts p).map (hexOf ∘ idVal) = refTexts p := by
      conv => rhs; rw [← List.map_id (refTexts p)]
      apply List.map_congr_left
      intro x hx
      exact hex_id (List.all_eq_true.1 hall x hx)
    rw [e]
    unfold refTexts
    split
    · rename_i h0
      rw [Lib.join_nil]
      exact (List.length_eq_zero_iff.1 (by rw [size_list]; exact h0)).symm
    · exact join_split 44 _
  · cases h
theorem split_line (n : Nat) (id : Id32) (name : ByteArray) (d : Nat) (subject : ByteArray) (ids : List Id32) (b : Nat) (h1 : (9 : UInt8) ∉ name.data.toList) (h2 : (9 : UInt8) ∉ subject.data.toList) :
    splitS 9 (str (lineTxt n id name d subject ids b)) = lineParts n id name d subject ids b := by
  unfold splitS lineTxt joinS
  rw [str_data, split_join]
  · rw [List.map_map]
    conv => rhs; rw [← List.map_id (lineParts n id name d subject ids b)]
    apply List.map_congr_left
    intro x _
    exact str_of x
  · simp [lineParts]
  · intro x hx
    simp only [lineParts, List.map_cons, List.map_nil, List.mem_cons, List.mem_nil_iff, or_false, str_data, hexS] at hx
    rcases hx with rfl | rfl | rfl | rfl | rfl | rfl | rfl
    · exact no9_dig n
    · exact no_hex 9 (by decide) id
    · exact h1
    · exact no9_dig d
    · exact h2
    · exact no9_refs ids
    · exact no9_dig b
theorem lineErr_of {g : GLine} {ids : List Id32} (h1 : rangeErr g.number 1 2147483646 2 = 0) (h2 : textErr g.name.data.toList 60 = 0) (h3 : rangeErr g.date 0 105190559 13 = 0) (h4 : textErr g.subject.data.toList 200 = 0) (h5 : refsErr ids = 0) (h6 : rangeErr g.bytes 0 65536 2 = 0) : lineErr g ids = 0 := by
  unfold lineErr
  rw [h1, h2, h3, h4, h5, h6]; rfl
theorem numErr_zero {l : List UInt8} {lo hi e : Int} (h : numErr l lo hi e = 0) : numOk l = true ∧ rangeErr (numVal l) lo hi e = 0 := by
  unfold numErr at h
  split at h
  · rename_i hk; exact ⟨hk, h⟩
  · cases h
theorem range_zero {n lo hi e : Int} (he : e ≠ 0) (h : rangeErr n lo hi e = 0) : lo ≤ n ∧ n ≤ hi := by
  unfold rangeErr at h
  split at h
  · exact absurd h he
  · omega

/-- What Parse tells of the text that Print writes of a line without error. -/
theorem parse_print {g : GLine} {ids : List Id32} (he : lineErr g ids = 0) :
    parseOut (str (lineTxt g.number.toNat g.id g.name g.date.toNat g.subject ids g.bytes.toNat)) = (0, 0) ∧
    ∀ G is, ParsedIs (str (lineTxt g.number.toNat g.id g.name g.date.toNat g.subject ids g.bytes.toNat)) G is → G = { g with refs := G.refs } ∧ is = ids := by
  obtain ⟨e1, e2, e3, e4, e5, e6⟩ := lineErr_zero he
  have hz := orErr_zero he
  have z1 := hz (rangeErr g.number 1 2147483646 2) (by simp)
  have z2 := hz (textErr g.name.data.toList 60) (by simp)
  have z3 := hz (rangeErr g.date 0 105190559 13) (by simp)
  have z4 := hz (textErr g.subject.data.toList 200) (by simp)
  have z5 := hz (refsErr ids) (by simp)
  have z6 := hz (rangeErr g.bytes 0 65536 2) (by simp)
  obtain ⟨n, hn⟩ : ∃ n : Nat, g.number = n := ⟨g.number.toNat, by omega⟩
  obtain ⟨d, hd⟩ : ∃ n : Nat, g.date = n := ⟨g.date.toNat, by omega⟩
  obtain ⟨b, hb⟩ : ∃ n : Nat, g.bytes = n := ⟨g.bytes.toNat, by omega⟩
  rw [hn] at z1 ⊢
  rw [hd] at z3 ⊢
  rw [hb] at z6 ⊢
  simp only [Int.toNat_natCast]
  obtain ⟨n1, n2⟩ := num_dec n (by omega)
  obtain ⟨d1, d2⟩ := num_dec d (by omega)
  obtain ⟨b1, b2⟩ := num_dec b (by omega)
  obtain ⟨i1, i2⟩ := id_hex g.id
  obtain ⟨r1, r2⟩ := refIds_txt ids
  have hT := split_line n g.id g.name d g.subject ids b (no9_text z2) (no9_text z4)
  have hbad : firstBad (lineParts n g.id g.name d g.subject ids b) = none := firstBad_none (fun j hj => by
    match j, hj with
    | 0, _ => show numErr (Lib.decDigits n) 1 2147483646 2 = 0; rw [numErr_yes n1, n2]; exact z1
    | 1, _ => show (if idOk (hexOf g.id) then (0 : Int) else 3) = 0; rw [i1]; rfl
    | 2, _ => exact z2
    | 3, _ => show numErr (Lib.decDigits d) 0 105190559 13 = 0; rw [numErr_yes d1, d2]; exact z3
    | 4, _ => exact z4
    | 5, _ => show refsPart (str (refsTxt ids)) = 0; rw [r2]; exact z5
    | 6, _ => show numErr (Lib.decDigits b) 0 65536 2 = 0; rw [numErr_yes b1, b2]; exact z6)
  have hpo : parseOut (str (lineTxt n g.id g.name d g.subject ids b)) = (0, 0) := by
    unfold parseOut
    rw [hT, hbad]; rfl
  refine ⟨hpo, fun G is hP => ?_⟩
  obtain ⟨v, hG, hi⟩ := hP.yes (by rw [hpo])
  rw [hT] at hG hi
  have hG2 : G = ⟨(numVal (Lib.decDigits n) : Nat), idVal (hexOf g.id), g.name, (numVal (Lib.decDigits d) : Nat), g.subject, v, (numVal (Lib.decDigits b) : Nat)⟩ := hG
  rw [n2, i2, d2, b2] at hG2
  refine ⟨?_, ?_⟩
  · rw [hG2]
  · rw [hi]; exact r1
/-- What Print writes of the line that Parse reads without error. -/
theorem print_parse {s : ByteArray} {G : GLine} {is : List Id32} (h0 : (parseOut s).1 = 0) (hP : ParsedIs s G is) :
    lineErr G is = 0 ∧ str (lineTxt G.number.toNat G.id G.name G.date.toNat G.subject is G.bytes.toNat) = s := by
  obtain ⟨v, hG, hi⟩ := hP.yes h0
  have hlen : (splitS 9 s).length = 7 := by
    unfold parseOut at h0
    split at h0
    · cases h0
    · split at h0
      · cases h0
      · omega
  have hok : ∀ j, j < 7 → partErr j (nth (splitS 9 s) j) = 0 := by
    have hb : firstBad (splitS 9 s) = none := by
      unfold parseOut at h0
      rw [if_neg (by omega), if_neg (by omega)] at h0
      cases hq : firstBad (splitS 9 s) with
      | none => rfl
      | some k =>
        rw [hq] at h0
        have := List.find?_some hq
        simp at this h0
        exact absurd h0 this
    intro j hj
    unfold firstBad at hb
    rw [List.find?_eq_none] at hb
    have := hb j (by simpa using hj)
    simpa using this
  have hjoin : joinS (splitS 9 s) [9] = s.data.toList := by
    unfold joinS splitS
    rw [List.map_map]
    have e : (splitL 9 s.data.toList).map ((fun x => x.data.toList) ∘ str) = splitL 9 s.data.toList := by
      conv => rhs; rw [← List.map_id (splitL 9 s.data.toList)]
      rfl
    rw [e]
    exact join_split 9 _
  have hT : splitS 9 s = [nth (splitS 9 s) 0, nth (splitS 9 s) 1, nth (splitS 9 s) 2, nth (splitS 9 s) 3, nth (splitS 9 s) 4, nth (splitS 9 s) 5, nth (splitS 9 s) 6] := by
    generalize splitS 9 s = T at hlen
    match T, hlen with
    | [a, b, c, d, e, f, g], _ => rfl
  generalize splitS 9 s = T at hG hi hok hjoin hT
  have hG2 : G = ⟨(numVal (nth T 0).data.toList : Nat), idVal (nth T 1).data.toList, nth T 2, (numVal (nth T 3).data.toList : Nat), nth T 4, v, (numVal (nth T 6).data.toList : Nat)⟩ := hG
  have k0 := numErr_zero (show numErr (nth T 0).data.toList 1 2147483646 2 = 0 from hok 0 (by omega))
  have k1 : idOk (nth T 1).data.toList = true := by
    have h1 : (if idOk (nth T 1).data.toList then (0 : Int) else 3) = 0 := hok 1 (by omega)
    split at h1
    · assumption
    · cases h1
  have k2 : textErr (nth T 2).data.toList 60 = 0 := hok 2 (by omega)
  have k3 := numErr_zero (show numErr (nth T 3).data.toList 0 105190559 13 = 0 from hok 3 (by omega))
  have k4 : textErr (nth T 4).data.toList 200 = 0 := hok 4 (by omega)
  have k5 := txt_refIds (show refsPart (nth T 5) = 0 from hok 5 (by omega))
  have k6 := numErr_zero (show numErr (nth T 6).data.toList 0 65536 2 = 0 from hok 6 (by omega))
  rw [hG2, hi]
  refine ⟨lineErr_of k0.2 k2 k3.2 k4 k5.2 k6.2, ?_⟩
  unfold lineTxt
  have e : lineParts (numVal (nth T 0).data.toList) (idVal (nth T 1).data.toList) (nth T 2) (numVal (nth T 3).data.toList) (nth T 4) (refIds (nth T 5)) (numVal (nth T 6).data.toList) = T := by
    unfold lineParts hexS
    rw [dec_num k0.1, hex_id k1, dec_num k3.1, k5.1, dec_num k6.1, str_of, str_of, str_of, str_of, str_of]
    exact hT.symm
  simp only [Int.toNat_natCast]
  rw [e, hjoin]
  exact str_of s

end Go.Proofs.YtdjaphcelpchaaaGreatDoor
