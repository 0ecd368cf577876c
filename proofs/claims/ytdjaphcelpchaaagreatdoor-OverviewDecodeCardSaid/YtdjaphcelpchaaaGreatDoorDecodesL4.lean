/- Parts of the proofs about bulletinlaw28: GroupsA, Groups, Where, Rel, Groups2, Ref, Ref2, Ref2b, Fork, Ref3, Do, InOps. -/
import Derived.Test.YtdjaphcelpchaaaGreatDoorShelf
import Derived.Test.YtdjaphcelpchaaaGreatDoorK1
import Derived.Test.YtdjaphcelpchaaaGreatDoorK2
import Derived.Test.YtdjaphcelpchaaaGreatDoorShelf2
import Derived.Test.YtdjaphcelpchaaaGreatDoorDecodesL1
import Derived.Test.YtdjaphcelpchaaaGreatDoorDecodesL2
import Derived.Test.YtdjaphcelpchaaaGreatDoorDecodesL3

namespace Go.Proofs.YtdjaphcelpchaaaGreatDoor
open Go Go.RowKit Go.Proofs

/-- A slice of strings in memory: nil, or the head of a block at or beyond B. -/
def StrsAt (B : Nat) (w : World) (v : Value) (xs : List ByteArray) : Prop := (xs = [] ∧ v = .slice none 0 0) ∨ ∃ b c, v = .slice (some ⟨b, 0, none⟩) xs.length c ∧ xs.length ≤ c ∧ StrRow w b 0 xs ∧ B ≤ b ∧ b < w.heap.size
theorem StrsAt.slice {B : Nat} {w : World} {v : Value} {xs : List ByteArray} (h : StrsAt B w v xs) : ∃ a c, v = .slice a xs.length c := by
  rcases h with ⟨e, h⟩ | ⟨b, c, e, _⟩
  · exact ⟨none, 0, by rw [h, e]; rfl⟩
  · exact ⟨_, _, e⟩

/-- A name that is not too long. -/
def SName : Type := { s : ByteArray // s.size ≤ 100000 }
instance : Inhabited SName := ⟨⟨⟨#[]⟩, by decide⟩⟩
def mkN (s : ByteArray) (h : s.size ≤ 100000) : SName := ⟨s, h⟩
def encN (x : SName) : Value := .string x.1
def cfN (x y : SName) : Int := cmpN x.1 y.1
theorem swoN : Go.Sort.SWO (ltOf cfN) where
  irrefl x := by unfold ltOf cfN; rw [cmpN_refl]; rfl
  trans x y z h1 h2 := by
    unfold ltOf cfN at *
    rw [decide_eq_true_eq] at *
    exact cmpN_trans h1 h2
  ntrans x y z h1 h2 := by
    unfold ltOf cfN at *
    rw [decide_eq_false_iff_not] at *
    intro h3
    by_cases h : cmpN y.1 x.1 < 0
    · exact h2 (cmpN_trans h h3)
    · exact h2 (cmpN_total h1 h ▸ h3)

theorem below_sortWorld (w : World) (blk off m : Nat) (dk : Array SName) (os : Array Obj) (hb : blk ≤ w.heap.size) : Below blk w (sortWorld encN w blk off m dk os) where
  os := rfl
  tape := rfl
  output := rfl
  size := by simp [sortWorld]
  block k hk := by
    unfold sortWorld
    rw [Go.Sort.heap_grow_old _ _ (by simp; omega)]
    unfold Go.Sort.putRow Go.Sort.mapBlock
    simp only [Array.getElem?_modify]
    rw [if_neg (by omega)]
    rfl

theorem cmpLays (w : World) (hG : Gl w) (blk off n : Nat) (hb : Tryz.prog.globals.size ≤ blk) (hbl : blk ≤ w.heap.size) : CmpLays1 Tryz.prog 86 #[] encN cfN blk off n w := fun m os dk _ x y => by
  refine (compare_any x.1 y.1 (sortWorld encN w blk off m dk os) (hG.below (below_sortWorld w blk off m dk os hbl) hb) x.2 y.2).mono ?_
  rintro e w' ⟨rfl, _, rfl⟩
  refine ⟨rfl, 0, #[.cells ((splitS 46 x.1).map Value.string).toArray 9, .cells ((splitS 46 y.1).map Value.string).toArray 9], ?_⟩
  rw [Go.Sort.alloc_eq_grow, Go.Sort.alloc_eq_grow, Go.Sort.grow_grow]
  rfl

/-- The map of the groups, as the shelf's contracts speak of it. -/
def anyElem (_ : Value) : Option (DataW Unit × List MemPlace) := some (.nil, [])
def datumP (P : Program) (gs : List MG) : DataW Unit := .map (((gs.map fun G => enE ekS G.e).map (Go.WideElems.rg P 9 anyElem)).foldr DataW.insert [])
theorem name_size {s : ByteArray} (h : nameErr s = 0) : s.size ≤ 80 := by
  unfold nameErr at h
  split at h
  · cases h
  · omega
theorem rg_name (G : MG) (h : nameErr G.name = 0) : Go.WideElems.rd Tryz.prog 9 anyElem (enE ekS G.e) = some (.string G.name.data.toList, .nil) := by
  have hs := name_size h
  have hk : Go.keyOf Tryz.prog 9 (.string G.name) = some (.string G.name.data.toList) := Go.WideMaps.keyOf_string_mk Tryz.underlying9 (by unfold maxLen; omega)
  unfold Go.WideElems.rd
  show (Go.keyOf Tryz.prog 9 (.string G.name)).bind _ = _
  rw [hk]
  rfl
theorem IdxAt.owns {B : Nat} {w : World} {ib M mc : Nat} {gs : List MG} (h : IdxAt B w ib M gs mc) (hn : gs.length ≤ 65536) : w.ownsMap Tryz.prog 9 anyElem M gs.length (datumP Tryz.prog gs) := by
  refine ⟨_, mc, h.map, ⟨?_, ⟨?_, ?_, ?_⟩, ?_⟩, by simp, ?_⟩
  · simp; unfold maxLen; omega
  · intro x hx
    simp only [List.map_map, List.mem_map, Function.comp] at hx
    obtain ⟨G, hG, rfl⟩ := hx
    exact h.young G hG
  · simp only [List.map_map]
    exact h.born
  · simp only [List.map_map]
    have : (gs.map fun G => Value.string G.name).Nodup := by
      have := h.names
      unfold List.Nodup at *
      rw [List.pairwise_map] at *
      exact this.imp fun hne e => hne (Value.string.inj e)
    exact this
  · intro x hx
    simp only [List.map_map, List.mem_map, Function.comp] at hx
    obtain ⟨G, hG, rfl⟩ := hx
    exact ⟨_, rg_name G (h.grps G hG).named⟩
  · unfold datumP
    simp [List.map_map, Function.comp_def]
theorem strKeys_datum {B : Nat} {w : World} {ib M mc : Nat} {gs : List MG} (h : IdxAt B w ib M gs mc) : (Go.strKeys (datumP Tryz.prog gs)).Perm (gs.map fun G => G.name.data.toList) := by
  unfold datumP Go.strKeys
  refine ((Go.WideShapes.sorted_perm _).map _).trans ?_
  rw [List.map_map, List.map_map]
  refine List.Perm.of_eq (List.map_congr_left fun G hG => ?_)
  simp only [Function.comp]
  unfold Go.WideElems.rg
  rw [rg_name G (h.grps G hG).named]
  rfl
theorem size_datum (gs : List MG) : Go.Maps.size (datumP Tryz.prog gs) = gs.length := by
  unfold datumP
  rw [Go.Maps.size_eq, length_sorted]
  simp
theorem length_le_total' : ∀ {gs : List MG}, (∀ G ∈ gs, G.ms ≠ []) → gs.length ≤ total gs
  | [], _ => Nat.zero_le _
  | G :: gs, h => by
    have h1 := length_le_total' (gs := gs) (fun K hK => h K (by simp [hK]))
    have h2 : 0 < G.ms.length := List.length_pos_iff.2 (h G (by simp))
    unfold total at *
    rw [List.map_cons, List.sum_cons, List.length_cons]
    omega
theorem IdxAt.groups {B : Nat} {w : World} {ib M mc : Nat} {gs : List MG} (h : IdxAt B w ib M gs mc) : gs.length ≤ 65536 :=
  Nat.le_trans (length_le_total' fun G hG => (h.grps G hG).some') h.few

/-- What Groups answers. -/
def GroupsPost (gs : List MG) (w : World) (r : Ending) (w' : World) : Prop := ∃ v ns, r = .returned v ∧ StrsAt w.heap.size w' v ns ∧ ordN ns ∧ (∀ t, t ∈ ns ↔ ∃ G ∈ gs, G.name = t) ∧ Below w.heap.size w w'

theorem pmap_mkN : ∀ (ss : List ByteArray) (hd : ∀ s ∈ ss, s.size ≤ 100000), ss.pmap (fun a h => (mkN a h).1) hd = ss
  | [], _ => rfl
  | s :: ss, hd => by
    rw [List.pmap_cons, pmap_mkN ss]
    rfl
/-- A row of strings sorted. -/
theorem sorted_row {w w' : World} {blk : Nat} {ss : List ByteArray} (hd : ∀ s ∈ ss, s.size ≤ 100000) (hn : ss.Nodup) (_hr : StrRow w blk 0 ss) (hb : blk < w.heap.size) (d' : Array SName) (n : Nat) (os : Array Obj)
    (hH : Go.Sort.Holds encN w blk 0 (ss.pmap mkN hd).toArray)
    (hp : Go.Sort.PermIn 0 (ss.pmap mkN hd).toArray.size (ss.pmap mkN hd).toArray d') (hs : Go.Sort.SortedIn (ltOf cfN) 0 (ss.pmap mkN hd).toArray.size d') (hw : w' = sortWorld encN w blk 0 n d' os) :
    ∃ ns : List ByteArray, ns.length = ss.length ∧ StrRow w' blk 0 ns ∧ ordN ns ∧ ∀ t, t ∈ ns ↔ t ∈ ss := by
  obtain ⟨hsz, _, hperm⟩ := hp
  have hsz' : d'.size = ss.length := by rw [hsz]; simp
  have e1 : d'.extract 0 ((ss.pmap mkN hd).toArray).size = d' := by rw [← hsz]; exact Array.extract_size
  rw [e1, Array.extract_size] at hperm
  have hpn : (d'.toList.map (·.1)).Perm ss := by
    have := hperm.map (fun x : SName => x.1)
    rw [List.toList_toArray, List.map_pmap] at this
    exact pmap_mkN ss hd ▸ this
  refine ⟨d'.toList.map (·.1), by simp [hsz'], ?_, ?_, fun t => hpn.mem_iff⟩
  · intro k x hx
    have hk : k < d'.size := by
      have := (List.getElem?_eq_some_iff.1 hx).1
      simpa using this
    have h1 := (Go.Proofs.holds_sortWorld encN w blk 0 n _ d' os hb hH hsz) k hk
    rw [hw, h1.1]
    rw [List.getElem?_map, Array.getElem?_toList, Array.getElem?_eq_getElem hk] at hx
    simp only [Option.map_some, Option.some.injEq] at hx
    rw [getElem!_pos d' k hk]
    unfold encN
    rw [hx]
  · unfold ordN
    have hnd : (d'.toList.map (·.1)).Nodup := hpn.nodup_iff.2 hn
    rw [List.pairwise_iff_getElem]
    intro i j hi hj hij
    simp only [List.length_map, Array.length_toList] at hi hj
    have h1 := hs i j (Nat.zero_le _) hij (by rw [← hsz]; exact hj)
    rw [getElem!_pos d' i hi, getElem!_pos d' j hj] at h1
    unfold ltOf cfN at h1
    rw [decide_eq_false_iff_not] at h1
    simp only [List.getElem_map, Array.getElem_toList]
    refine Classical.byContradiction fun h2 => ?_
    have e := cmpN_total h2 h1
    have h3 := List.pairwise_iff_getElem.1 hnd i j (by simpa using hi) (by simpa using hj) hij
    simp only [List.getElem_map, Array.getElem_toList] at h3
    exact h3 e

theorem pmap_size (bs : List ByteArray) (hbz : ∀ s ∈ bs, s.size ≤ 100000) : (bs.pmap mkN hbz).toArray.size = bs.length := by simp
theorem sort_any (g cap : Nat) (bs : List ByteArray) (w2 : World) (hG2 : Gl w2) (hbz : ∀ s ∈ bs, s.size ≤ 100000) (hglt : g < w2.heap.size) (hg : Tryz.prog.globals.size ≤ g) (hHo : Go.Sort.Holds encN w2 g 0 (bs.pmap mkN hbz).toArray) (hlen : bs.length ≤ 65536) :
    Calls Tryz.prog (Tryz.sortA_ren.f 6) #[.slice (some ⟨g, 0, none⟩) (bs.pmap mkN hbz).toArray.size cap, .func (.func 86) #[] #[]] w2 fun e w' =>
          e = .returned (.tuple #[]) ∧ ∃ d' n os, Go.Sort.PermIn 0 (bs.pmap mkN hbz).toArray.size (bs.pmap mkN hbz).toArray d' ∧ Go.Sort.SortedIn (ltOf cfN) 0 (bs.pmap mkN hbz).toArray.size d' ∧ w' = sortWorld encN w2 g 0 n d' os :=
  Any.slices_SortFunc Tryz.sortA encN (fun _ => rfl) cfN swoN 86 #[] g 0 cap (bs.pmap mkN hbz).toArray w2 (enters_of Tryz.func86 (by kernel_rfl) rfl) (cmpLays w2 hG2 g 0 _ hg (by omega)) hHo hglt (by rw [pmap_size]; omega)
theorem sort_fn : Tryz.sortA_ren.f 6 = 118 := rfl
theorem sort_any' (g cap n : Nat) (bs : List ByteArray) (w2 : World) (hG2 : Gl w2) (hbz : ∀ s ∈ bs, s.size ≤ 100000) (hglt : g < w2.heap.size) (hg : Tryz.prog.globals.size ≤ g) (hHo : Go.Sort.Holds encN w2 g 0 (bs.pmap mkN hbz).toArray) (hlen : bs.length ≤ 65536) (hn : n = bs.length) :
    Calls Tryz.prog 118 #[.slice (some ⟨g, 0, none⟩) n cap, .func (.func 86) #[] #[]] w2 fun e w' =>
          e = .returned (.tuple #[]) ∧ ∃ d' n os, Go.Sort.PermIn 0 (bs.pmap mkN hbz).toArray.size (bs.pmap mkN hbz).toArray d' ∧ Go.Sort.SortedIn (ltOf cfN) 0 (bs.pmap mkN hbz).toArray.size d' ∧ w' = sortWorld encN w2 g 0 n d' os := by
  have h := sort_any g cap bs w2 hG2 hbz hglt hg hHo hlen
  rw [sort_fn] at h
  have e : (n : Nat) = (bs.pmap mkN hbz).toArray.size := by rw [pmap_size, hn]
  rw [e]
  exact h

end Go.Proofs.YtdjaphcelpchaaaGreatDoor

namespace Go.Proofs.YtdjaphcelpchaaaGreatDoor
open Go Go.RowKit Go.Proofs

set_option maxRecDepth 100000 in
set_option maxHeartbeats 4000000 in
theorem groups_any (B ib M mc : Nat) (gs : List MG) (w : World) (hG : Gl w) (h : IdxAt B w ib M gs mc) :
    Calls Tryz.prog 47 #[.pointer (some ⟨ib, 0, none⟩)] w fun r w' => GroupsPost gs w r w' := by
  have hc := h.cell0
  obtain ⟨W1, hW1⟩ : ∃ W1, W1 = w.alloc (.cells #[.map (some M)] 102) := ⟨_, rfl⟩
  have hb1 : Below w.heap.size w W1 := by rw [hW1]; exact (Below.refl _ _).alloc (Nat.le_refl _) _
  have hX1 := h.below hb1
  have hs1 : W1.heap.size = w.heap.size + 1 := by rw [hW1]; simp
  have hm1 : W1.cell? ⟨w.heap.size, 0, none⟩ = some (.map (some M)) := by rw [hW1]; exact cells_new w _ _ 0
  have hown := hX1.owns h.groups
  have hseq : SeqGives Fence.wide 2 Tryz.prog 119 #[.pointer (some ⟨w.heap.size, 0, none⟩)] encStr (fun ss => ss.Perm (Go.strKeys (datumP Tryz.prog gs))) (Go.Maps.size (datumP Tryz.prog gs)) W1 :=
    AnyZ.keys_gives (ρ := Tryz.keysA_ren) { Tryz.keysA with } Fence.wide _ trivial rfl (by omega) w.heap.size M gs.length _ _ (by omega) hm1 hown
  have hK : Calls Tryz.prog 85 #[.map (some M)] w fun e w' => e = .returned (.func (.func 119) #[] #[.pointer (some ⟨w.heap.size, 0, none⟩)]) ∧ w' = W1 := by
    rw [hW1]
    exact (callsIn_wide (n := 5)).1 (AnyZ.keys_in Tryz.keysA Fence.wide 5 trivial rfl (some M) w)
  have hgl := h.groups
  have hC : Calls Tryz.prog 117 #[.func (.func 119) #[] #[.pointer (some ⟨w.heap.size, 0, none⟩)]] W1 fun e w' => ∃ (v : Value) (ss : List (List UInt8)), e = .returned v ∧ ss.Perm (Go.strKeys (datumP Tryz.prog gs)) ∧ w'.ownsRow W1.heap.size 9 1 v ss.length (ss.map encStr) ∧ (v = .slice none 0 0 ↔ ss = []) ∧ Below W1.heap.size W1 w' :=
    (callsIn_wide (n := 4)).1 (AnyZ.collect_in Tryz.collectA Fence.wide 4 trivial trivial rfl (by omega) 119 _ trivial (enters_of Tryz.func119 (by kernel_rfl) rfl) _ _ (by rw [size_datum]; unfold maxLen; omega) (by rw [size_datum]; omega) W1 hseq)
  have hkeys := strKeys_datum h
  have hnames : ∀ G ∈ gs, G.name.size ≤ 80 := fun G hG => name_size (h.grps G hG).named
  have hnd := h.names
  have HS : Hid (Calls Tryz.prog 84 #[.func (.func 119) #[] #[.pointer (some ⟨w.heap.size, 0, none⟩)], .func (.func 86) #[] #[]] W1 fun r w' => GroupsPost gs w r w') := Lib.hid (by
    have HC := Lib.hid hC
    have HG := Lib.hid (hG.later hb1)
    have HB1 := Lib.hid hb1
    clear hC hK hseq hown hX1 hc h hG hb1 hm1 hW1
    go_enter Tryz.func84, Tryz.ntmps84
    go_wp2_with fail
    refine HC.out.mono ?_
    rintro r w2 ⟨v, ss, rfl, hp, hrow, hnil, hb2⟩
    have hB2 := HB1.out.trans (hb2.mono (by omega))
    have hpn : ss.Perm (gs.map fun G => G.name.data.toList) := hp.trans hkeys
    have hG2 := HG.out.later hb2
    have HB2 := Lib.hid hB2
    rcases hrow.2 with ⟨rfl, h0⟩ | ⟨g, cap, cur, rfl, hg, hcur, hle, hmx, hcs, htk⟩
    · have hss : ss = [] := List.length_eq_zero_iff.1 h0
      have hgs : gs = [] := by
        rw [hss] at hpn
        have := hpn.symm.eq_nil
        simpa using this
      clear hrow hnil hb2 hB2 hp hpn hG2 HG HC HB1 hkeys h0 hnames hnd hs1 hgl
      go_wp2_with fail
      refine (AnyF.slices_SortFunc_none (L := { Tryz.sortA with }) none 0 _ w2).mono ?_
      rintro r w' ⟨rfl, rfl⟩
      go_wp2
      go_ret
      exact ⟨_, [], rfl, .inl ⟨rfl, rfl⟩, .nil, fun t => by rw [hgs]; simp, HB2.out⟩
    · obtain ⟨bs, hbs⟩ : ∃ bs : List ByteArray, bs = ss.map str := ⟨_, rfl⟩
      have hbl : bs.length = ss.length := by rw [hbs]; simp
      have hbp : bs.Perm (gs.map fun G => G.name) := by
        rw [hbs]
        refine (hpn.map str).trans ?_
        rw [List.map_map]
        refine List.Perm.of_eq (List.map_congr_left fun G _ => ?_)
        rfl
      have hbn : bs.Nodup := hbp.nodup_iff.2 hnd
      have hbz : ∀ s ∈ bs, s.size ≤ 100000 := fun s hs => by
        obtain ⟨G, hG, e⟩ := List.mem_map.1 (hbp.mem_iff.1 hs)
        have := hnames G hG
        rw [← e]; omega
      have hlen : ss.length = gs.length := by
        have := hpn.length_eq
        simpa using this
      have hglt := (Array.getElem?_eq_some_iff.1 hcur).1
      have hsr : StrRow w2 g 0 bs := fun k x hx => by
        have := World.ownsRow.cells hrow (g := g) rfl k (.string x) (by
          rw [hbs, List.getElem?_map] at hx
          rw [List.getElem?_map]
          cases hk : ss[k]? with
          | none => rw [hk] at hx; cases hx
          | some l => rw [hk] at hx; cases hx; rfl)
        rwa [Addr.add_lit] at this
      have hHo : Go.Sort.Holds encN w2 g 0 (bs.pmap mkN hbz).toArray := fun j hj => by
        have hj' : j < bs.length := by simpa using hj
        refine ⟨?_, ?_⟩
        · rw [hsr j bs[j] (List.getElem?_eq_getElem hj'), getElem!_pos _ j hj]
          simp only [List.getElem_toArray, List.getElem_pmap]
          rfl
        · unfold World.frozen?
          rw [hcur]
          simp
      have hsz : (bs.pmap mkN hbz).toArray.size = ss.length := by simp [hbl]
      have HSO := Lib.hid (sort_any' g cap ss.length bs w2 hG2 hbz hglt (Nat.le_trans (HG.out.size) hg) hHo (by omega) hbl.symm)
      have HFIN := Lib.hid (fun (w' : World) (d' : Array SName) n os hp hs hw => sorted_row (w := w2) (w' := w') hbz hbn hsr hglt d' n os hHo hp hs hw)
      have HMEM : Hid (∀ t, t ∈ bs ↔ ∃ G ∈ gs, G.name = t) := Lib.hid (fun t => by rw [hbp.mem_iff, List.mem_map])
      have HBL := Lib.hid hbl
      have HLEN := Lib.hid hlen
      clear hHo hsr hrow hnil hb2 hB2 hp hpn hG2 HC hkeys hnames hnd hcs htk hbn hbp hbs hcur hbl hlen hsz
      clear HG HB1
      go_wp2_with fail
      refine HSO.out.mono ?_
      rintro r w3 ⟨rfl, d', n, os, hp, hs, hw⟩
      obtain ⟨ns, hnl, hr3, ho3, hm3⟩ := HFIN.out w3 d' n os hp hs hw
      have hB3 : Below g w2 w3 := by rw [hw]; exact below_sortWorld w2 g 0 n d' os (by omega)
      have HB3 := Lib.hid (HB2.out.trans (hB3.mono (by omega)))
      have hl3 : g < w3.heap.size := Nat.lt_of_lt_of_le hglt hB3.size
      clear hp hs hw HFIN HSO hB3
      have hnl' := Lib.hid (show ns.length = ss.length by rw [hnl, HBL.out])
      clear hnl
      go_wp2
      go_ret
      exact ⟨_, ns, rfl, .inr ⟨g, cap, by rw [hnl'.out]; rfl, by rw [hnl'.out]; exact hle, hr3, by omega, hl3⟩, ho3, fun t => (hm3 t).trans (HMEM.out t), HB3.out⟩)
  have HK := Lib.hid hK
  clear hC hK hseq hown hX1 h hG hb1 hm1 hkeys hnames hnd hs1 hgl
  clear hW1
  go_enter Tryz.func47, Tryz.ntmps47
  go_wp2_with fail
  refine HK.out.mono ?_
  rintro r w' ⟨rfl, rfl⟩
  go_wp2_with fail
  refine HS.out.mono ?_
  rintro r w' ⟨v, ns, rfl, hpost⟩
  have HP := Lib.hid hpost
  obtain ⟨va, vc, rfl⟩ := hpost.1.slice
  clear hpost
  go_wp2
  go_ret
  exact ⟨_, ns, rfl, HP.out⟩

end Go.Proofs.YtdjaphcelpchaaaGreatDoor

namespace Go.Proofs.YtdjaphcelpchaaaGreatDoor
open Go Go.RowKit Go.Proofs

attribute [local go_sem ↓] ex_load_id ex_store_id ex_load_line ex_store_line ex_alloc_line ex_build_line

attribute [local go_sem] ld_id st_id ld_line st_line guard_id okCells_drew rdCells_drew okCells_drewN rdCells_drewN rowOk_drew rowOk_cells okCells_cells rdCells_cells setRow_drew setRow_new setRow_past

theorem groupOf_of {gs : List MG} (hn : (gs.map fun G => G.name).Nodup) {G : MG} (hG : G ∈ gs) : groupOf gs G.name = some G := by
  unfold groupOf
  cases h : gs.find? fun H => decide (H.name = G.name) with
  | none =>
    rw [List.find?_eq_none] at h
    exact absurd (h G hG) (by simp)
  | some H =>
    have h1 := List.mem_of_find?_eq_some h
    have h2 : H.name = G.name := by simpa using List.find?_some h
    rw [name_inj hn H h1 G hG h2]
theorem own_slice {w : World} {B t s n : Nat} {v : Value} {xs : List Value} (h : w.ownsRow B t s v n xs) : ∃ a n c, v = .slice a n c := by
  rcases h.2 with ⟨e, _⟩ | ⟨g, cap, cur, e, _⟩
  · exact ⟨_, _, _, e⟩
  · exact ⟨_, _, _, e⟩
theorem ownsRow_base {W : World} {B B' t s n : Nat} {v : Value} {xs : List Value} (h : W.ownsRow B t s v n xs) (hb : B' ≤ B) : W.ownsRow B' t s v n xs := by
  refine ⟨h.1, ?_⟩
  rcases h.2 with hn | ⟨g, cap, cur, hv, hbg, rest⟩
  · exact .inl hn
  · exact .inr ⟨g, cap, cur, hv, Nat.le_trans hb hbg, rest⟩
end Go.Proofs.YtdjaphcelpchaaaGreatDoor

namespace Go.Proofs.YtdjaphcelpchaaaGreatDoor
open Go Go.RowKit Go.Proofs

/-- The index holds the lines of the reference. -/
def RelR (gs : List MG) (rs : List MR) : Prop := ∀ t p, (∃ m ∈ linesIn gs t, m.p = p) ↔ ∃ r ∈ rs, r.s = t ∧ r.m.p = p

theorem ofR_ord {rs : List MR} (ho : ordR rs) (t : ByteArray) : (ofR rs t).Pairwise fun a b => a.m.p.number < b.m.p.number := by
  refine List.Pairwise.imp_of_mem ?_ (ho.sublist List.filter_sublist)
  intro a b ha hb h
  rcases h with h | ⟨_, h⟩
  · have ea := (ofR_mem.1 ha).2
    have eb := (ofR_mem.1 hb).2
    rw [ea, eb, cmpN_refl] at h
    omega
  · exact h
theorem rel_lines {B : Nat} {w : World} {ib M mc : Nat} {gs : List MG} (h : IdxAt B w ib M gs mc) {rs : List MR} (hr : RelR gs rs) (ho : ordR rs) (t : ByteArray) : (linesIn gs t).map (·.p) = (ofR rs t).map (·.m.p) := by
  refine sorted_ext (R := fun a b : PLine => a.number < b.number) (fun a ha => by omega) (fun a b c h1 h2 => by omega) ?_ ?_ ?_
  · have := h.sorted t
    unfold nums at this
    rw [List.pairwise_map] at this ⊢
    exact this
  · rw [List.pairwise_map]
    exact ofR_ord ho t
  · intro p
    rw [List.mem_map, List.mem_map]
    constructor
    · intro hm
      obtain ⟨r, h1, h2, h3⟩ := (hr t p).1 hm
      exact ⟨r, ofR_mem.2 ⟨h1, h2⟩, h3⟩
    · rintro ⟨r, h1, h3⟩
      exact (hr t p).2 ⟨r, (ofR_mem.1 h1).1, (ofR_mem.1 h1).2, h3⟩
theorem linesIn_of {B : Nat} {w : World} {ib M mc : Nat} {gs : List MG} (h : IdxAt B w ib M gs mc) {G : MG} (hG : G ∈ gs) : linesIn gs G.name = G.ms := by
  unfold linesIn
  rw [groupOf_of h.names hG]
theorem rel_names {B : Nat} {w : World} {ib M mc : Nat} {gs : List MG} (h : IdxAt B w ib M gs mc) {rs : List MR} (hr : RelR gs rs) (ho : ordR rs) {ns : List ByteArray} (hn : ordN ns) (hm : ∀ t, t ∈ ns ↔ ∃ G ∈ gs, G.name = t) : ns = groupsR rs := by
  obtain ⟨h1, h2, _⟩ := groupsR_ok rs ho
  refine ordN_ext hn h1 fun t => ?_
  rw [hm, h2]
  constructor
  · rintro ⟨G, hG, rfl⟩
    have hne := (h.grps G hG).some'
    obtain ⟨m, hmm⟩ := List.exists_mem_of_ne_nil _ hne
    obtain ⟨r, k1, k2, _⟩ := (hr G.name m.p).1 ⟨m, by rw [linesIn_of h hG]; exact hmm, rfl⟩
    exact ⟨r, k1, k2⟩
  · rintro ⟨r, k1, k2⟩
    obtain ⟨m, hmm, _⟩ := (hr t r.m.p).2 ⟨r, k1, k2, rfl⟩
    have hne : linesIn gs t ≠ [] := fun e => by rw [e] at hmm; cases hmm
    obtain ⟨G, hG, _, _⟩ := linesIn_ne hne
    exact ⟨G, groupOf_mem hG⟩
/-- What the reference's Add finds. -/
def clashR (rs : List MR) (s : ByteArray) (p : PLine) : Bool := rs.any fun r => decide (r.s = s) && (decide (r.m.p.number = p.number) || decide (r.m.p.id = p.id))
end Go.Proofs.YtdjaphcelpchaaaGreatDoor

namespace Go.Proofs.YtdjaphcelpchaaaGreatDoor
open Go Go.RowKit Go.Proofs

/-- What Groups answers, and the type of its row. -/
def GroupsPostT (gs : List MG) (w : World) (r : Ending) (w' : World) : Prop := ∃ v ns, r = .returned v ∧ StrsAt w.heap.size w' v ns ∧ ordN ns ∧ (∀ t, t ∈ ns ↔ ∃ G ∈ gs, G.name = t) ∧ Below w.heap.size w w' ∧ ∀ b, v.ownBlock = some b → ∃ cs fz, w'.heap[b]? = some (.cells cs 9 fz)
theorem sortWorld_typed (w : World) (blk off m : Nat) (dk : Array SName) (os : Array Obj) {cur : Array Value} {ty : TypeId} {fz : Nat × Nat} (h : w.heap[blk]? = some (.cells cur ty fz)) : ∃ cs fz', (sortWorld encN w blk off m dk os).heap[blk]? = some (.cells cs ty fz') := by
  have hl := (Array.getElem?_eq_some_iff.1 h).1
  have h' : (Go.Sort.ahead w m).heap[blk]? = some (.cells cur ty fz) := h
  unfold sortWorld
  rw [Go.Sort.heap_grow_old _ _ (by simp; omega)]
  unfold Go.Sort.putRow Go.Sort.mapBlock
  simp only [Array.getElem?_modify]
  rw [if_pos trivial, h']
  exact ⟨_, _, rfl⟩

set_option maxRecDepth 100000 in
set_option maxHeartbeats 4000000 in
theorem groups_typed (B ib M mc : Nat) (gs : List MG) (w : World) (hG : Gl w) (h : IdxAt B w ib M gs mc) :
    Calls Tryz.prog 47 #[.pointer (some ⟨ib, 0, none⟩)] w fun r w' => GroupsPostT gs w r w' := by
  have hc := h.cell0
  obtain ⟨W1, hW1⟩ : ∃ W1, W1 = w.alloc (.cells #[.map (some M)] 102) := ⟨_, rfl⟩
  have hb1 : Below w.heap.size w W1 := by rw [hW1]; exact (Below.refl _ _).alloc (Nat.le_refl _) _
  have hX1 := h.below hb1
  have hs1 : W1.heap.size = w.heap.size + 1 := by rw [hW1]; simp
  have hm1 : W1.cell? ⟨w.heap.size, 0, none⟩ = some (.map (some M)) := by rw [hW1]; exact cells_new w _ _ 0
  have hown := hX1.owns h.groups
  have hseq : SeqGives Fence.wide 2 Tryz.prog 119 #[.pointer (some ⟨w.heap.size, 0, none⟩)] encStr (fun ss => ss.Perm (Go.strKeys (datumP Tryz.prog gs))) (Go.Maps.size (datumP Tryz.prog gs)) W1 :=
    AnyZ.keys_gives (ρ := Tryz.keysA_ren) { Tryz.keysA with } Fence.wide _ trivial rfl (by omega) w.heap.size M gs.length _ _ (by omega) hm1 hown
  have hK : Calls Tryz.prog 85 #[.map (some M)] w fun e w' => e = .returned (.func (.func 119) #[] #[.pointer (some ⟨w.heap.size, 0, none⟩)]) ∧ w' = W1 := by
    rw [hW1]
    exact (callsIn_wide (n := 5)).1 (AnyZ.keys_in Tryz.keysA Fence.wide 5 trivial rfl (some M) w)
  have hgl := h.groups
  have hC : Calls Tryz.prog 117 #[.func (.func 119) #[] #[.pointer (some ⟨w.heap.size, 0, none⟩)]] W1 fun e w' => ∃ (v : Value) (ss : List (List UInt8)), e = .returned v ∧ ss.Perm (Go.strKeys (datumP Tryz.prog gs)) ∧ w'.ownsRow W1.heap.size 9 1 v ss.length (ss.map encStr) ∧ (v = .slice none 0 0 ↔ ss = []) ∧ Below W1.heap.size W1 w' :=
    (callsIn_wide (n := 4)).1 (AnyZ.collect_in Tryz.collectA Fence.wide 4 trivial trivial rfl (by omega) 119 _ trivial (enters_of Tryz.func119 (by kernel_rfl) rfl) _ _ (by rw [size_datum]; unfold maxLen; omega) (by rw [size_datum]; omega) W1 hseq)
  have hkeys := strKeys_datum h
  have hnames : ∀ G ∈ gs, G.name.size ≤ 80 := fun G hG => name_size (h.grps G hG).named
  have hnd := h.names
  have HS : Hid (Calls Tryz.prog 84 #[.func (.func 119) #[] #[.pointer (some ⟨w.heap.size, 0, none⟩)], .func (.func 86) #[] #[]] W1 fun r w' => GroupsPostT gs w r w') := Lib.hid (by
    have HC := Lib.hid hC
    have HG := Lib.hid (hG.later hb1)
    have HB1 := Lib.hid hb1
    clear hC hK hseq hown hX1 hc h hG hb1 hm1 hW1
    go_enter Tryz.func84, Tryz.ntmps84
    go_wp2_with fail
    refine HC.out.mono ?_
    rintro r w2 ⟨v, ss, rfl, hp, hrow, hnil, hb2⟩
    have hB2 := HB1.out.trans (hb2.mono (by omega))
    have hpn : ss.Perm (gs.map fun G => G.name.data.toList) := hp.trans hkeys
    have hG2 := HG.out.later hb2
    have HB2 := Lib.hid hB2
    rcases hrow.2 with ⟨rfl, h0⟩ | ⟨g, cap, cur, rfl, hg, hcur, hle, hmx, hcs, htk⟩
    · have hss : ss = [] := List.length_eq_zero_iff.1 h0
      have hgs : gs = [] := by
        rw [hss] at hpn
        have := hpn.symm.eq_nil
        simpa using this
      clear hrow hnil hb2 hB2 hp hpn hG2 HG HC HB1 hkeys h0 hnames hnd hs1 hgl
      go_wp2_with fail
      refine (AnyF.slices_SortFunc_none (L := { Tryz.sortA with }) none 0 _ w2).mono ?_
      rintro r w' ⟨rfl, rfl⟩
      go_wp2
      go_ret
      exact ⟨_, [], rfl, .inl ⟨rfl, rfl⟩, .nil, fun t => by rw [hgs]; simp, HB2.out, fun b hb => by cases hb⟩
    · obtain ⟨bs, hbs⟩ : ∃ bs : List ByteArray, bs = ss.map str := ⟨_, rfl⟩
      have hbl : bs.length = ss.length := by rw [hbs]; simp
      have hbp : bs.Perm (gs.map fun G => G.name) := by
        rw [hbs]
        refine (hpn.map str).trans ?_
        rw [List.map_map]
        refine List.Perm.of_eq (List.map_congr_left fun G _ => ?_)
        rfl
      have hbn : bs.Nodup := hbp.nodup_iff.2 hnd
      have hbz : ∀ s ∈ bs, s.size ≤ 100000 := fun s hs => by
        obtain ⟨G, hG, e⟩ := List.mem_map.1 (hbp.mem_iff.1 hs)
        have := hnames G hG
        rw [← e]; omega
      have hlen : ss.length = gs.length := by
        have := hpn.length_eq
        simpa using this
      have hglt := (Array.getElem?_eq_some_iff.1 hcur).1
      have hsr : StrRow w2 g 0 bs := fun k x hx => by
        have := World.ownsRow.cells hrow (g := g) rfl k (.string x) (by
          rw [hbs, List.getElem?_map] at hx
          rw [List.getElem?_map]
          cases hk : ss[k]? with
          | none => rw [hk] at hx; cases hx
          | some l => rw [hk] at hx; cases hx; rfl)
        rwa [Addr.add_lit] at this
      have hHo : Go.Sort.Holds encN w2 g 0 (bs.pmap mkN hbz).toArray := fun j hj => by
        have hj' : j < bs.length := by simpa using hj
        refine ⟨?_, ?_⟩
        · rw [hsr j bs[j] (List.getElem?_eq_getElem hj'), getElem!_pos _ j hj]
          simp only [List.getElem_toArray, List.getElem_pmap]
          rfl
        · unfold World.frozen?
          rw [hcur]
          simp
      have hsz : (bs.pmap mkN hbz).toArray.size = ss.length := by simp [hbl]
      have HSO := Lib.hid (sort_any' g cap ss.length bs w2 hG2 hbz hglt (Nat.le_trans (HG.out.size) hg) hHo (by omega) hbl.symm)
      have HCUR := Lib.hid hcur
      have HFIN := Lib.hid (fun (w' : World) (d' : Array SName) n os hp hs hw => sorted_row (w := w2) (w' := w') hbz hbn hsr hglt d' n os hHo hp hs hw)
      have HMEM : Hid (∀ t, t ∈ bs ↔ ∃ G ∈ gs, G.name = t) := Lib.hid (fun t => by rw [hbp.mem_iff, List.mem_map])
      have HBL := Lib.hid hbl
      have HLEN := Lib.hid hlen
      clear hHo hsr hrow hnil hb2 hB2 hp hpn hG2 HC hkeys hnames hnd hcs htk hbn hbp hbs hcur hbl hlen hsz
      clear HG HB1
      go_wp2_with fail
      refine HSO.out.mono ?_
      rintro r w3 ⟨rfl, d', n, os, hp, hs, hw⟩
      obtain ⟨ns, hnl, hr3, ho3, hm3⟩ := HFIN.out w3 d' n os hp hs hw
      have hB3 : Below g w2 w3 := by rw [hw]; exact below_sortWorld w2 g 0 n d' os (by omega)
      have HB3 := Lib.hid (HB2.out.trans (hB3.mono (by omega)))
      have hl3 : g < w3.heap.size := Nat.lt_of_lt_of_le hglt hB3.size
      have HTY : Hid (∃ cs fz, w3.heap[g]? = some (.cells cs 9 fz)) := Lib.hid (by rw [hw]; exact sortWorld_typed w2 g 0 n d' os HCUR.out)
      clear hp hs hw HFIN HSO hB3
      have hnl' := Lib.hid (show ns.length = ss.length by rw [hnl, HBL.out])
      clear hnl
      go_wp2
      go_ret
      exact ⟨_, ns, rfl, .inr ⟨g, cap, by rw [hnl'.out]; rfl, by rw [hnl'.out]; exact hle, hr3, by omega, hl3⟩, ho3, fun t => (hm3 t).trans (HMEM.out t), HB3.out, fun b hb => by cases hb; exact HTY.out⟩)
  have HK := Lib.hid hK
  clear hC hK hseq hown hX1 h hG hb1 hm1 hkeys hnames hnd hs1 hgl
  clear hW1
  go_enter Tryz.func47, Tryz.ntmps47
  go_wp2_with fail
  refine HK.out.mono ?_
  rintro r w' ⟨rfl, rfl⟩
  go_wp2_with fail
  refine HS.out.mono ?_
  rintro r w' ⟨v, ns, rfl, hpost⟩
  have HP := Lib.hid hpost
  obtain ⟨va, vc, rfl⟩ := hpost.1.slice
  clear hpost
  go_wp2
  go_ret
  exact ⟨_, ns, rfl, HP.out⟩

end Go.Proofs.YtdjaphcelpchaaaGreatDoor

namespace Go.Proofs.YtdjaphcelpchaaaGreatDoor
open Go Go.RowKit Go.Proofs

def rList (r : MR) : List Value := .string r.s :: lineList r.m.g
def flatR (rs : List MR) : List Value := rs.flatMap rList
theorem rList_length (r : MR) : (rList r).length = 39 := by simp [rList, lineList_length]
theorem rList_cells (r : MR) : rlineCells r.s r.m.g = (rList r).toArray := rfl
theorem flatR_length (rs : List MR) : (flatR rs).length = rs.length * 39 := by
  induction rs with
  | nil => rfl
  | cons m ms ih => simp [flatR, rList_length] at ih ⊢; omega
theorem flatR_get : ∀ (rs : List MR) (j i : Nat) (hj : j < rs.length), i < 39 → (flatR rs)[j * 39 + i]? = (rList rs[j])[i]?
  | m :: ms, 0, i, _, hi => by
    show ((rList m) ++ flatR ms)[0 * 39 + i]? = _
    rw [Nat.zero_mul, Nat.zero_add, List.getElem?_append_left (by rw [rList_length]; exact hi)]
    rfl
  | m :: ms, j + 1, i, hj, hi => by
    show ((rList m) ++ flatR ms)[(j + 1) * 39 + i]? = _
    rw [List.getElem?_append_right (by rw [rList_length]; omega), rList_length, show (j + 1) * 39 + i - 39 = j * 39 + i by omega]
    exact flatR_get ms j i (by simpa using hj) hi
theorem flatR_append (a b : List MR) : flatR (a ++ b) = flatR a ++ flatR b := by simp [flatR]
theorem flatR_one (r : MR) : flatR [r] = rList r := by simp [flatR]
theorem flatR_take (rs : List MR) (i : Nat) : (flatR rs).take (i * 39) = flatR (rs.take i) := by
  induction rs generalizing i with
  | nil => simp [flatR]
  | cons m ms ih =>
    cases i with
    | zero => simp [flatR]
    | succ i =>
      show ((rList m) ++ flatR ms).take ((i + 1) * 39) = _
      rw [List.take_append, rList_length, show (i + 1) * 39 - 39 = i * 39 by omega, ih, List.take_of_length_le (by rw [rList_length]; omega)]
      rfl
theorem flatR_drop (rs : List MR) (i : Nat) : (flatR rs).drop (i * 39) = flatR (rs.drop i) := by
  induction rs generalizing i with
  | nil => simp [flatR]
  | cons m ms ih =>
    cases i with
    | zero => simp
    | succ i =>
      show ((rList m) ++ flatR ms).drop ((i + 1) * 39) = _
      rw [List.drop_append, rList_length, show (i + 1) * 39 - 39 = i * 39 by omega, ih, List.drop_of_length_le (by rw [rList_length]; omega)]
      rfl
theorem rList_one {r : MR} (h : r.m.v.oneCell' = true) : ∀ u ∈ rList r, u.oneCell' = true := by
  intro u hu
  rcases List.mem_cons.1 hu with rfl | hu
  · rfl
  · exact flat_cells (ms := [r.m]) (fun m hm => by rw [List.mem_singleton.1 hm]; exact h) u (by simpa [flatLines] using hu)
theorem flatR_cells {rs : List MR} (h : ∀ r ∈ rs, r.m.v.oneCell' = true) : ∀ u ∈ flatR rs, u.oneCell' = true := by
  intro u hu
  obtain ⟨r, hr, hu⟩ := List.mem_flatMap.1 hu
  exact rList_one (h r hr) u hu

theorem Tryz.info_rline : (Tryz.prog.info? 26).map (fun i => (i.zero, i.size, i.bytes)) = some (some (.agg (rlineCells ⟨#[]⟩ zeroLine)), 39, 128) := by kernel_rfl
theorem ex_bs_rline (ρ : Operand → Value) (d : Option Tmp) (x : Operand) (ty : TypeId) (pos : String) (af : Array Edge) (g : Option (Nat × Bool)) (w : World) :
    Sem.run Tryz.prog (execOp ρ ⟨d, .buildSlice 49 1 #[(0, x)], ty, pos, af, g⟩) w = bsRes Tryz.prog 49 w (ρ x) := by kernel_rfl
theorem bs_rline (w : World) (s : ByteArray) (g : GLine) : bsRes Tryz.prog 49 w (.agg (rlineCells s g)) = .ok (.value (.slice (some ⟨w.heap.size, 0, none⟩) 1 1)) (w.alloc (.cells (rlineCells s g) 26)) := by
  obtain ⟨i0, hi, hz0, hz1, hz2⟩ := info_parts Tryz.info_rline
  unfold bsRes
  rw [Sem.run_bind, run_buildSlice w 49 26 1 _ (rlineCells s g) i0 _ Tryz.underlying49 hi hz0 (by rw [hz1]; decide) (by rw [hz1]; decide) (by
    rw [hz1]
    exact fill_one _ _ 39 (rlineCells_size s g) (by simp))]
  rfl

attribute [local go_sem ↓] ex_load_id ex_store_id ex_load_line ex_store_line ex_load_rline ex_store_rline ex_alloc_line ex_build_line ex_alloc_rline ex_build_rline ex_bs_rline

attribute [local go_sem] ld_id st_id ld_line st_line ld_rline st_rline guard_id okCells_drew rdCells_drew okCells_drewN rdCells_drewN rowOk_drew rowOk_cells okCells_cells rdCells_cells setRow_drew setRow_new setRow_past bs_rline

/-- A list of the reference in memory. -/
structure RefsAt (B : Nat) (w : World) (v : Value) (rs : List MR) : Prop where
  row : w.ownsRow B 26 39 v rs.length (flatR rs)
  one : ∀ r ∈ rs, r.m.v.oneCell' = true
  names : ∀ r ∈ rs, r.s.size ≤ 100000
  few : rs.length ≤ 100000
theorem RefsAt.nil (B : Nat) (w : World) : RefsAt B w (.slice none 0 0) [] := ⟨World.ownsRow_nil _ _ _ _, fun _ h => (by cases h), fun _ h => (by cases h), Nat.zero_le _⟩
theorem RefsAt.head {B : Nat} {w : World} {v : Value} {rs : List MR} (h : RefsAt B w v rs) : (v = .slice none 0 0 ∧ rs = []) ∨ ∃ g cap cur, v = .slice (some ⟨g, 0, none⟩) rs.length cap ∧ B ≤ g ∧ g < w.heap.size ∧ rs.length ≤ cap ∧ cap ≤ maxLen ∧ w.heap[g]? = some (.cells cur 26 (0, 0)) ∧
    ∀ j u, (flatR rs)[j]? = some u → w.cell? ⟨g, j, none⟩ = some u := by
  rcases h.row.2 with ⟨rfl, h0⟩ | ⟨g, cap, cur, rfl, hg, hcur, hle, hmx, hcs, htk⟩
  · exact .inl ⟨rfl, List.length_eq_zero_iff.1 h0⟩
  · refine .inr ⟨g, cap, cur, rfl, hg, (Array.getElem?_eq_some_iff.1 hcur).1, hle, hmx, hcur, fun j u hu => ?_⟩
    have := World.ownsRow.cells h.row (g := g) rfl j u hu
    rwa [Addr.add_lit, Nat.zero_add] at this
theorem rAt_cell {w : World} {g : Nat} {rs : List MR} (h : ∀ j u, (flatR rs)[j]? = some u → w.cell? ⟨g, j, none⟩ = some u) {k : Nat} (hk : k < rs.length) {i : Nat} {u : Value} (hu : (rList rs[k])[i]? = some u) : w.cell? ⟨g, k * 39 + i, none⟩ = some u := by
  have hi : i < 39 := by have := (List.getElem?_eq_some_iff.1 hu).1; rwa [rList_length] at this
  exact h _ _ (by rw [flatR_get rs k i hk hi]; exact hu)
theorem rAt_rd {w : World} {g : Nat} {rs : List MR} (h : ∀ j u, (flatR rs)[j]? = some u → w.cell? ⟨g, j, none⟩ = some u) {k : Nat} (hk : k < rs.length) : okCells w ⟨g, k * 39, none⟩ 39 = true ∧ rdCells w ⟨g, k * 39, none⟩ 39 = rlineCells rs[k].s rs[k].m.g := by
  have := rd_of_cells (w := w) (a := ⟨g, k * 39, none⟩) (cs := rList rs[k]) (fun j v hj => by rw [Addr.add_lit]; exact rAt_cell h hk hj)
  rw [rList_length] at this
  exact this
theorem rAt_id {w : World} {g : Nat} {rs : List MR} (h : ∀ j u, (flatR rs)[j]? = some u → w.cell? ⟨g, j, none⟩ = some u) {k : Nat} (hk : k < rs.length) : okCells w ⟨g, k * 39 + 2, none⟩ 32 = true ∧ rdCells w ⟨g, k * 39 + 2, none⟩ 32 = (encId rs[k].m.p.id).toArray := by
  have := rd_of_cells (w := w) (a := ⟨g, k * 39 + 2, none⟩) (cs := encId rs[k].m.p.id) (fun j v hj => by
    have hj32 : j < 32 := by have := (List.getElem?_eq_some_iff.1 hj).1; rwa [encId_length] at this
    rw [Addr.add_lit, Nat.add_assoc]
    refine rAt_cell h hk ?_
    rw [← hj, show 2 + j = (j + 1) + 1 by omega]
    unfold rList lineList
    rw [List.getElem?_cons_succ, List.getElem?_cons_succ, List.getElem?_append_left (by rw [encId_length]; exact hj32)]
    rfl)
  rwa [encId_length] at this

set_option maxRecDepth 100000 in
set_option maxHeartbeats 2000000 in
theorem before_any (a b : MR) (w : World) (ha : a.s.size ≤ 100000) (hb : b.s.size ≤ 100000) :
    Calls Tryz.prog 75 #[.agg (rlineCells a.s a.m.g), .agg (rlineCells b.s b.m.g)] w fun r w' => r = .returned (.bool (beforeB a b)) ∧ Below w.heap.size w w' := by
  obtain ⟨W, hW⟩ : ∃ W, W = (w.alloc (.cells (rlineCells a.s a.m.g) 26)).alloc (.cells (rlineCells b.s b.m.g) 26) := ⟨_, rfl⟩
  have hb0 : Below w.heap.size w W := by rw [hW]; exact ((Below.refl _ _).alloc (Nat.le_refl _) _).alloc (by simp) _
  have hs0 : W.heap.size = w.heap.size + 2 := by rw [hW]; simp
  have hA : RVar W w.heap.size a.s a.m.g := by
    unfold RVar
    rw [hW, heap_alloc_old _ _ (by simp), heap_alloc_new]
  have hB : RVar W (w.heap.size + 1) b.s b.m.g := by
    unfold RVar
    have := heap_alloc_new (w.alloc (.cells (rlineCells a.s a.m.g) 26)) (.cells (rlineCells b.s b.m.g) 26)
    rw [hW]
    simpa using this
  have a0 := (hA.cell 0).trans (rc0 a.s a.m.g)
  have b0 := (hB.cell 0).trans (rc0 b.s b.m.g)
  have HA := Lib.hid hA
  have HB := Lib.hid hB
  have HC := Lib.hid (rcompare_any a.s b.s W ha hb)
  have HB0 := Lib.hid hb0
  clear hA hB hb0
  rw [hW] at a0 b0
  go_enter Tryz.func75, Tryz.ntmps75
  go_wp2_with fail
  rw [← hW]
  clear hW a0 b0
  refine HC.out.mono ?_
  rintro r w1 ⟨rfl, hb1⟩
  have hA1 : RVar w1 w.heap.size a.s a.m.g := (hb1.block _ (by omega)).trans HA.out
  have hB1 : RVar w1 (w.heap.size + 1) b.s b.m.g := (hb1.block _ (by omega)).trans HB.out
  have a1 := (hA1.cell 1).trans (rc1 a.s a.m.g)
  have b1 := (hB1.cell 1).trans (rc1 b.s b.m.g)
  have HBB := Lib.hid (HB0.out.trans (hb1.mono HB0.out.size) : Below w.heap.size w w1)
  clear hA1 hB1 HA HB HC HB0 hb1
  have HE : Hid (beforeB a b = (decide (cmpN a.s b.s < 0) || (decide (cmpN a.s b.s = 0) && decide (a.m.g.number < b.m.g.number)))) := Lib.hid rfl
  generalize cmpN a.s b.s = c at HE
  generalize a.m.g.number = na at HE a1
  generalize b.m.g.number = nb at HE b1
  by_cases hc : c < 0
  · have he : beforeB a b = true := by rw [HE.out]; simp [hc]
    go_wp2
    go_ret
    exact ⟨by rw [he]; rfl, HBB.out⟩
  · by_cases hc0 : c = 0
    · subst hc0
      have he : beforeB a b = decide (na < nb) := by rw [HE.out]; simp
      by_cases hn : na < nb
      · go_wp2
        go_ret
        exact ⟨by rw [he, decide_eq_true hn]; rfl, HBB.out⟩
      · go_wp2
        go_ret
        exact ⟨by rw [he]; rfl, HBB.out⟩
    · have he : beforeB a b = decide (c < 0) := by rw [HE.out]; simp [hc0]
      go_wp2
      go_ret
      exact ⟨by rw [he]; rfl, HBB.out⟩

end Go.Proofs.YtdjaphcelpchaaaGreatDoor

namespace Go.Proofs.YtdjaphcelpchaaaGreatDoor
open Go Go.RowKit Go.Proofs

attribute [local go_sem ↓] ex_load_id ex_store_id ex_load_line ex_store_line ex_load_rline ex_store_rline ex_alloc_line ex_build_line ex_alloc_rline ex_build_rline ex_bs_rline

attribute [local go_sem] ld_id st_id ld_line st_line ld_rline st_rline guard_id okCells_drew rdCells_drew okCells_drewN rdCells_drewN rowOk_drew rowOk_cells okCells_cells rdCells_cells setRow_drew setRow_new setRow_past bs_rline

theorem own_empty (w : World) (t s : Nat) : (w.alloc (.cells #[] t)).ownsRow w.heap.size t s (.slice (some ⟨w.heap.size, 0, none⟩) 0 0) 0 [] :=
  ⟨by simp, .inr ⟨w.heap.size, 0, #[], rfl, Nat.le_refl _, heap_alloc_new _ _, Nat.le_refl _, by unfold maxLen; omega, by simp, by simp⟩⟩
set_option maxRecDepth 100000 in
set_option maxHeartbeats 2000000 in
theorem of_any (B : Nat) (v : Value) (rs : List MR) (s : ByteArray) (w : World) (h : RefsAt B w v rs) :
    Calls Tryz.prog 29 #[v, .string s] w fun r w' => ∃ v', r = .returned v' ∧ RefsAt w.heap.size w' v' (ofR rs s) ∧ Below w.heap.size w w' := by
  obtain ⟨i0, hi, hz0, hz1, hz2⟩ := info_parts Tryz.info_rline
  have hfew := h.few
  have HX := Lib.hid h
  rcases h.head with ⟨rfl, rfl⟩ | ⟨g, cap, cur, rfl, hB, hlt, hle, hmx, hcur, hcell⟩
  · clear h
    go_enter Tryz.func29, Tryz.ntmps29
    go_wp2
    go_loop [5, 6] (fun p i => p = .slice none 0 0 ∧ i = .int .i64 0) (fun _ _ => 0)
    case atStart => exact ⟨rfl, rfl⟩
    case round =>
      obtain ⟨rfl, rfl⟩ := hrel
      go_wp2
      go_ret
      exact ⟨_, rfl, RefsAt.nil _ _, Below.refl _ _⟩
  · have HC := Lib.hid hcell
    clear hcell h hcur
    go_enter Tryz.func29, Tryz.ntmps29
    go_wp2
    go_loopw [5, 6] (fun p i wr => ∃ k : Nat, k ≤ rs.length ∧ i = .int .i64 k ∧ wr.ownsRow w.heap.size 26 39 p (ofR (rs.take k) s).length (flatR (ofR (rs.take k) s)) ∧ Below w.heap.size w wr) (fun _ i _ => rs.length - (intOf i).toNat)
    case atStart => exact ⟨0, by omega, rfl, World.ownsRow_nil _ _ _ _, Below.refl _ _⟩
    case round =>
      obtain ⟨k, hk, rfl, hown, hb⟩ := hrel
      by_cases hltk : k < rs.length
      · have hltz : (k : Int) < (rs.length : Int) := by omega
        have hcw : ∀ j u, (flatR rs)[j]? = some u → wr.cell? ⟨g, j, none⟩ = some u := fun j u hu => (hb.cell (p := ⟨g, j, none⟩) hlt).trans (HC.out j u hu)
        have c0 : wr.cell? ⟨g, k * 39, none⟩ = some (.string rs[k].s) := rAt_cell hcw hltk (i := 0) rfl
        obtain ⟨c1, c2⟩ := rAt_rd hcw hltk
        have HTK : Hid (ofR (rs.take (k + 1)) s = ofR (rs.take k) s ++ (if rs[k].s = s then [rs[k]] else [])) := Lib.hid (by
          rw [List.take_succ_eq_append_getElem hltk]
          unfold ofR
          rw [List.filter_append]
          by_cases he : rs[k].s = s <;> simp [he])
        have hone := HX.out.one rs[k] (List.getElem_mem hltk)
        generalize rs[k] = r0 at c0 c1 c2 HTK hone
        have HOWN := Lib.hid hown
        have HBr := Lib.hid hb
        have hlen2 : (ofR (rs.take k) s).length ≤ k := by
          unfold ofR
          exact Nat.le_trans (List.length_filter_le _ _) (by rw [List.length_take]; omega)
        clear hown hb hcw
        by_cases ht : r0.s = s
        · have HTK1 : Hid (ofR (rs.take (k + 1)) s = ofR (rs.take k) s ++ [r0]) := Lib.hid (by rw [HTK.out, if_pos ht])
          have hte : (r0.s.toList == s.toList) = true := by rw [str_eq_iff, decide_eq_true ht]
          clear HTK
          have HONE := Lib.hid (rList_one hone)
          have hownA := HOWN.out.alloc (.cells (rlineCells r0.s r0.m.g) 26)
          have hlt2 := Lib.hid (fun j hj => (HOWN.out.lt j hj).1)
          obtain ⟨nn, hnn⟩ : ∃ nn, nn = (ofR (rs.take k) s).length := ⟨_, rfl⟩
          rw [← hnn] at hownA hlen2
          have HNN := Lib.hid hnn
          clear hnn HOWN hone
          clear ht
          go_wp2_with (at_builtin; refine wpList_append_own _ rfl (.tmp 20) (.tmp 25) 49 rfl w.heap.size 26 i0 (.agg (rlineCells ⟨#[]⟩ zeroLine)) 39 128 Tryz.underlying49 hi hz0 hz1 hz2 (rlineCells_size _ _) (by decide) _ _ _ rfl hownA ⟨wr.heap.size, 0, none⟩ 1 1 (rList r0) rfl (rList_length r0) ?c1 HONE.out ?c3 ?c4 ?c5 ?_)
          case c1 =>
            intro j u hj
            rw [Addr.add_lit, Nat.zero_add, cells_new, rList_cells]
            simpa using hj
          case c3 => unfold maxLen; omega
          case c4 => omega
          case c5 => have := HBr.out.size; simp; omega
          intro v' w3 hown' hgrow _
          have hb3 : Below w.heap.size w w3 := (HBr.out.alloc HBr.out.size _).grown hgrow (by have := HBr.out.size; simp; omega) (fun j hj => hlt2.out j hj)
          clear hownA hgrow
          go_wp2
          go_roundw
          case rel => exact ⟨k + 1, by omega, by go_num, by rw [HTK1.out, flatR_append, flatR_one, List.length_append, ← HNN.out]; exact hown', hb3⟩
          case measure => simp [intOf]; omega
        · have HTK1 : Hid (ofR (rs.take (k + 1)) s = ofR (rs.take k) s) := Lib.hid (by rw [HTK.out, if_neg ht, List.append_nil])
          have hte : (r0.s.toList == s.toList) = false := by rw [str_eq_iff, decide_eq_false ht]
          clear HTK
          go_wp2
          go_roundw
          case rel => exact ⟨k + 1, by omega, by go_num, by rw [HTK1.out]; exact HOWN.out, HBr.out⟩
          case measure => simp [intOf]; omega
      · have HE : Hid (rs.take k = rs) := Lib.hid (List.take_of_length_le (by omega))
        have HBr := Lib.hid hb
        rw [HE.out] at hown
        obtain ⟨pa, pn, pc, hp⟩ : ∃ a n c, u5 = .slice a n c := own_slice hown
        have HOWN := Lib.hid hown
        subst hp
        clear hown hb
        go_wp2
        go_ret
        exact ⟨_, rfl, ⟨HOWN.out, fun r hr => HX.out.one r (ofR_mem.1 hr).1, fun r hr => HX.out.names r (ofR_mem.1 hr).1, Nat.le_trans (List.length_filter_le _ _) HX.out.few⟩, HBr.out⟩

end Go.Proofs.YtdjaphcelpchaaaGreatDoor

namespace Go.Proofs.YtdjaphcelpchaaaGreatDoor
open Go Go.RowKit Go.Proofs

attribute [local go_sem ↓] ex_load_id ex_store_id ex_load_line ex_store_line ex_load_rline ex_store_rline ex_alloc_line ex_build_line ex_alloc_rline ex_build_rline ex_bs_rline

attribute [local go_sem] ld_id st_id ld_line st_line ld_rline st_rline guard_id okCells_drew rdCells_drew okCells_drewN rdCells_drewN rowOk_drew rowOk_cells okCells_cells rdCells_cells setRow_drew setRow_new setRow_past bs_rline

theorem stepG_last (o : List ByteArray) (t s : ByteArray) : stepG (o ++ [t]) s = if t = s then o ++ [t] else o ++ [t] ++ [s] := by
  unfold stepG
  rw [List.getLast?_concat]
  by_cases h : t = s <;> simp [h]
theorem stepG_nil (s : ByteArray) : stepG [] s = [s] := rfl
theorem groups_length (rs : List MR) : (groupsR rs).length ≤ rs.length := by
  refine snoc_ind (p := fun rs => (groupsR rs).length ≤ rs.length) (Nat.le_refl _) ?_ rs
  intro l a ih
  rw [groupsR_snoc]
  unfold stepG
  split
  · simp; omega
  · simp; omega
set_option maxRecDepth 100000 in
set_option maxHeartbeats 2000000 in
theorem groupsRef_any (B : Nat) (v : Value) (rs : List MR) (w : World) (h : RefsAt B w v rs) :
    Calls Tryz.prog 66 #[v] w fun r w' => ∃ v', r = .returned v' ∧ w'.ownsRow w.heap.size 9 1 v' (groupsR rs).length ((groupsR rs).map Value.string) ∧ Below w.heap.size w w' := by
  obtain ⟨i0, hi, hz0, hz1, hz2⟩ := info_parts Tryz.info_str
  have hfew := h.few
  have HX := Lib.hid h
  rcases h.head with ⟨rfl, rfl⟩ | ⟨g, cap, cur, rfl, hB, hlt, hle, hmx, hcur, hcell⟩
  · clear h
    go_enter Tryz.func66, Tryz.ntmps66
    go_wp2
    go_loop [3, 4] (fun p i => p = .slice none 0 0 ∧ i = .int .i64 0) (fun _ _ => 0)
    case atStart => exact ⟨rfl, rfl⟩
    case round =>
      obtain ⟨rfl, rfl⟩ := hrel
      go_wp2
      go_ret
      exact ⟨_, rfl, World.ownsRow_nil _ _ _ _, Below.refl _ _⟩
  · have HC := Lib.hid hcell
    clear hcell h hcur
    go_enter Tryz.func66, Tryz.ntmps66
    go_wp2
    go_loopw [3, 4] (fun p i wr => ∃ k : Nat, k ≤ rs.length ∧ i = .int .i64 k ∧ wr.ownsRow w.heap.size 9 1 p (groupsR (rs.take k)).length ((groupsR (rs.take k)).map Value.string) ∧ Below w.heap.size w wr) (fun _ i _ => rs.length - (intOf i).toNat)
    case atStart => exact ⟨0, by omega, rfl, World.ownsRow_nil _ _ _ _, Below.refl _ _⟩
    case round =>
      obtain ⟨k, hk, rfl, hown, hb⟩ := hrel
      by_cases hltk : k < rs.length
      · have hltz : (k : Int) < (rs.length : Int) := by omega
        have hcw : ∀ j u, (flatR rs)[j]? = some u → wr.cell? ⟨g, j, none⟩ = some u := fun j u hu => (hb.cell (p := ⟨g, j, none⟩) hlt).trans (HC.out j u hu)
        have c0 : wr.cell? ⟨g, k * 39, none⟩ = some (.string rs[k].s) := rAt_cell hcw hltk (i := 0) rfl
        have HTK : Hid (groupsR (rs.take (k + 1)) = stepG (groupsR (rs.take k)) rs[k].s) := Lib.hid (by
          rw [List.take_succ_eq_append_getElem hltk, groupsR_snoc])
        have hlen2 : (groupsR (rs.take k)).length ≤ k := Nat.le_trans (groups_length _) (by rw [List.length_take]; omega)
        generalize rs[k].s = t at c0 HTK
        generalize groupsR (rs.take k) = o at hown HTK hlen2
        have HBr := Lib.hid hb
        clear hb hcw
        have hq0 : ∀ n, (wr.drewN n).cell? ⟨g, k * 39, none⟩ = some (.string t) := fun n => by rw [World.cell?_drewN]; exact c0
        clear c0
        -- whether the name is new
        by_cases hnew : stepG o t = o
        · have hne : o ≠ [] := fun e => by rw [e, stepG_nil] at hnew; cases hnew
          have hla : o.getLast hne = t := by
            have h1 := List.dropLast_concat_getLast hne
            rw [← h1, stepG_last] at hnew
            split at hnew
            · assumption
            · have := congrArg List.length hnew; simp at this
          obtain ⟨ol, hol⟩ : ∃ ol, o.length = ol + 1 := ⟨o.length - 1, by have := List.length_pos_iff.2 hne; omega⟩
          rw [hol] at hown hlen2
          obtain ⟨pb, pcap, rfl, hpb, hpc⟩ : ∃ pb pcap, u3 = .slice (some ⟨pb, 0, none⟩) (ol + 1) pcap ∧ pb < wr.heap.size ∧ ol + 1 ≤ pcap := by
            rcases hown.2 with ⟨_, h0⟩ | ⟨g', cap', cur', e, hg', hcur', hle', _⟩
            · omega
            · exact ⟨g', cap', e, (Array.getElem?_eq_some_iff.1 hcur').1, hle'⟩
          have hlc : wr.cell? ⟨pb, ol, none⟩ = some (.string t) := by
            have := World.ownsRow.cells hown (g := pb) rfl ol (.string t) (by
              rw [List.getElem?_map, show ol = o.length - 1 by omega, ← List.getLast?_eq_getElem?, List.getLast?_eq_some_getLast hne, hla]; rfl)
            rwa [Addr.add_lit, Nat.zero_add] at this
          have hq1 : ∀ n, (wr.drewN n).cell? ⟨pb, ol, none⟩ = some (.string t) := fun n => by rw [World.cell?_drewN]; exact hlc
          have hd1 : ((ol : Int) + 1 == 0) = false := by rw [beq_eq_false_iff_ne]; omega
          have hwr : IntKind.i64.wrap (ol : Int) = ol := by rw [IntKind.wrap_i64]; omega
          have hd2 : (ol : Int) < (ol : Int) + 1 := by omega
          have hd3 : (t.toList == t.toList) = true := by simp
          have HOWN := Lib.hid hown
          have HNEW := Lib.hid hnew
          have HOL := Lib.hid hol
          clear hlc hown hnew hla hne hol
          go_wp2_with fail
          go_quiet (fail)
          clear hq0 hq1
          go_wp2
          go_roundw
          case rel => exact ⟨k + 1, by omega, by go_num, by rw [HTK.out, HNEW.out, HOL.out]; exact HOWN.out, below_drewN' HBr.out _⟩
          case measure => simp [intOf]; omega
        · have hst : stepG o t = o ++ [t] := by
            unfold stepG at hnew ⊢
            split at hnew
            · exact absurd rfl hnew
            · rename_i h; rw [if_neg h]
          have HST : Hid (groupsR (rs.take (k + 1)) = o ++ [t]) := Lib.hid (HTK.out.trans hst)
          have hlast : ∀ u, o.getLast? = some u → u ≠ t := fun u hu e => hnew (by unfold stepG; rw [hu, e, if_pos rfl])
          clear HTK hst hnew
          have hown0 := hown
          have hlt2 := Lib.hid (fun j hj => (hown0.lt j hj).1)
          obtain ⟨nn, hnn⟩ : ∃ nn, nn = o.length := ⟨_, rfl⟩
          rw [← hnn] at hown hlen2
          have HNN := Lib.hid hnn
          obtain ⟨pa, pc, hpe, hcase⟩ : ∃ pa pc, u3 = .slice pa nn pc ∧ (nn = 0 ∨ ∃ pb ol u, pa = some ⟨pb, 0, none⟩ ∧ nn = ol + 1 ∧ ol + 1 ≤ pc ∧ u ≠ t ∧ wr.cell? ⟨pb, ol, none⟩ = some (.string u)) := by
            rcases hown.2 with ⟨e, h0⟩ | ⟨g', cap', cur', e, hg', hcur', hle', _⟩
            · exact ⟨none, 0, by rw [e, h0], .inl h0⟩
            · refine ⟨_, _, e, ?_⟩
              rcases Nat.eq_zero_or_pos nn with h0 | h0
              · exact .inl h0
              · have hne : o ≠ [] := fun e => by rw [e] at hnn; simp at hnn; omega
                have hl := List.getLast?_eq_some_getLast hne
                refine .inr ⟨g', nn - 1, o.getLast hne, rfl, by omega, by omega, hlast _ hl, ?_⟩
                have := World.ownsRow.cells hown (g := g') (by rw [e]; rfl) (nn - 1) (.string (o.getLast hne)) (by
                  rw [List.getElem?_map, hnn, ← List.getLast?_eq_getElem?, hl]; rfl)
                rwa [Addr.add_lit, Nat.zero_add] at this
          have HOWN := Lib.hid hown
          clear hown hown0 hlast hnn
          subst hpe
          have fin : ∀ (n : Nat), (wr.drewN n).ownsRow w.heap.size 9 1 (.slice pa nn pc) nn (o.map Value.string) := fun n => HOWN.out
          have finB : ∀ n, Below w.heap.size w (wr.drewN n) := fun n => below_drewN' HBr.out n
          have finL : ∀ n, (wr.drewN n).heap.size = wr.heap.size := fun n => rfl
          have FIN := Lib.hid fin
          have FINB := Lib.hid finB
          clear fin finB
          rcases hcase with h0 | ⟨pb, ol, u, hpa, hol, hpc, hut, hlc⟩
          · subst h0
            go_wp2_with fail
            go_quiet (fail)
            clear HOWN HBr
            have hown1 := FIN.out nq
            have hBr1 := FINB.out nq
            have hc0 := hq0 nq
            clear hq0 FIN FINB
            generalize wr.drewN nq = W2 at hown1 hBr1 hc0 ⊢
            have HBr1 := Lib.hid hBr1
            have hownA := hown1.alloc (.cells #[.string t] 9)
            clear hown1 hBr1
            go_wp2_with (at_builtin; refine wpList_append_own _ rfl (.tmp 28) (.tmp 34) 78 rfl w.heap.size 9 i0 (.string ⟨#[]⟩) 1 16 Tryz.underlying78 hi hz0 hz1 hz2 rfl (by decide) _ _ _ rfl hownA ⟨W2.heap.size, 0, none⟩ 1 1 [.string t] rfl rfl ?c1 ?c2 ?c3 ?c4 ?c5 ?_)
            case c1 =>
              intro j u hj
              rw [Addr.add_lit, Nat.zero_add, cells_new]
              match j, hj with
              | 0, hj => simpa using hj
            case c2 => intro u hu; simp at hu; subst hu; rfl
            case c3 => unfold maxLen; omega
            case c4 => omega
            case c5 => have := HBr1.out.size; simp; omega
            intro v' w3 hown' hgrow _
            have hb3 : Below w.heap.size w w3 := (HBr1.out.alloc HBr1.out.size _).grown hgrow (by have := HBr1.out.size; simp; omega) (fun j hj => hlt2.out j hj)
            clear hownA hgrow
            go_wp2
            go_roundw
            case rel => exact ⟨k + 1, by omega, by go_num, by rw [HST.out, List.map_append, List.length_append, ← HNN.out]; exact hown', hb3⟩
            case measure => simp [intOf]; omega
          · subst hpa
            subst hol
            have hd1 : ((ol : Int) + 1 == 0) = false := by rw [beq_eq_false_iff_ne]; omega
            have hwr : IntKind.i64.wrap (ol : Int) = ol := by rw [IntKind.wrap_i64]; omega
            have hd2 : (ol : Int) < (ol : Int) + 1 := by omega
            have hq1 : ∀ n, (wr.drewN n).cell? ⟨pb, ol, none⟩ = some (.string u) := fun n => by rw [World.cell?_drewN]; exact hlc
            have hte : (u.toList == t.toList) = false := by rw [str_eq_iff, decide_eq_false hut]
            clear hlc hut
            go_wp2_with fail
            go_quiet (fail)
            clear hq1
            clear HOWN HBr
            have hown1 := FIN.out nq
            have hBr1 := FINB.out nq
            have hc0 := hq0 nq
            clear hq0 FIN FINB
            generalize wr.drewN nq = W2 at hown1 hBr1 hc0 ⊢
            have HBr1 := Lib.hid hBr1
            have hownA := hown1.alloc (.cells #[.string t] 9)
            clear hown1 hBr1
            go_wp2_with (at_builtin; refine wpList_append_own _ rfl (.tmp 28) (.tmp 34) 78 rfl w.heap.size 9 i0 (.string ⟨#[]⟩) 1 16 Tryz.underlying78 hi hz0 hz1 hz2 rfl (by decide) _ _ _ rfl hownA ⟨W2.heap.size, 0, none⟩ 1 1 [.string t] rfl rfl ?c1 ?c2 ?c3 ?c4 ?c5 ?_)
            case c1 =>
              intro j u hj
              rw [Addr.add_lit, Nat.zero_add, cells_new]
              match j, hj with
              | 0, hj => simpa using hj
            case c2 => intro u hu; simp at hu; subst hu; rfl
            case c3 => unfold maxLen; omega
            case c4 => omega
            case c5 => have := HBr1.out.size; simp; omega
            intro v' w3 hown' hgrow _
            have hb3 : Below w.heap.size w w3 := (HBr1.out.alloc HBr1.out.size _).grown hgrow (by have := HBr1.out.size; simp; omega) (fun j hj => hlt2.out j hj)
            clear hownA hgrow
            go_wp2
            go_roundw
            case rel => exact ⟨k + 1, by omega, by go_num, by rw [HST.out, List.map_append, List.length_append, ← HNN.out]; exact hown', hb3⟩
            case measure => simp [intOf]; omega
      · have HE : Hid (rs.take k = rs) := Lib.hid (List.take_of_length_le (by omega))
        have HBr := Lib.hid hb
        rw [HE.out] at hown
        obtain ⟨pa, pn, pc, hp⟩ : ∃ a n c, u3 = .slice a n c := own_slice hown
        have HOWN := Lib.hid hown
        subst hp
        clear hown hb
        go_wp2
        go_ret
        exact ⟨_, rfl, HOWN.out, HBr.out⟩

end Go.Proofs.YtdjaphcelpchaaaGreatDoor

namespace Go.Proofs.YtdjaphcelpchaaaGreatDoor
open Go Go.RowKit Go.Proofs

section
variable {P : Program} {ops : Array Oper} {Q : Exit → Act → World → Prop} {C : World → Prop}

/-- Which of the acting operations may come next. -/
def readyF (ops : Array Oper) (R : List Nat) : List Nat := R.filter fun r => R.all fun s => !Region.waitsFor .any ops r s
/-- The acting operations, in every order. -/
def wpF (P : Program) (ops : Array Oper) (Q : Exit → Act → World → Prop) (C : World → Prop) (E : List Nat) : Nat → List Nat → Act → World → Prop
  | 0, _, a, w => Q .normal a w
  | n + 1, R, a, w => ∀ r ∈ readyF ops R, wpOp P ops (NoPanic Q) r (fun a' w' => (needB ops E r = true → C w') ∧ wpF P ops Q C E n (R.erase r) a' w') a w

/-- The closed checks. -/
def forkB (ops : Array Oper) (E R : List Nat) : Bool :=
  Region.noSelect ops && decide ((E ++ R).Nodup) && decide (E.length + R.length = ops.size) && ((List.range ops.size).all fun i => E.contains i || R.contains i)
  && E.all (predsB ops E) && pairB (fun y e => !Region.waitsFor .any ops y e && apartB ops y e) E
  && R.all (predsB ops (E ++ R)) && pairB (fun r s => !Region.waitsFor .any ops r s) R
  && (R.all fun r => E.all fun y => apartB ops y r)
  && (E.all fun e => match ops[e]? with | some o => !isCall o | none => false)

theorem erase_split {R1 R2 : List Nat} {r : Nat} (h : (R1 ++ r :: R2).Nodup) : (R1 ++ r :: R2).erase r = R1 ++ R2 := by
  have h1 : r ∉ R1 := fun h' => (List.nodup_append.1 h).2.2 r h' r (by simp) rfl
  rw [List.erase_append_right _ h1, List.erase_cons_head]

theorem fork_main {E R : List Nat} (hB : forkB ops E R = true) : ∀ (n : Nat) (L : Array Bool) (a : Act) (w : World), L.size = ops.size → Closed ops L →
    (E.filter (unl L)).length + (R.filter (unl L)).length = n → (E.filter (unl L) ≠ [] → C w) →
    wpQuiet P ops C (fun a' => wpF P ops Q C E (R.filter (unl L)).length (R.filter (unl L)) a' w) (opsAt ops (E.filter (unl L))) a → wpAny P .any ops (NoPanic Q) n L a w := by
  simp only [forkB, Bool.and_eq_true, decide_eq_true_eq, List.all_eq_true] at hB
  obtain ⟨⟨⟨⟨⟨⟨⟨⟨⟨hns, hnd⟩, hlen⟩, hcov⟩, hpE⟩, hpair⟩, hpR⟩, hpairR⟩, hapR⟩, hcalls⟩ := hB
  have hsel := Region.noSelect_spec hns
  have hpair' := pairB_spec hpair
  have hpairR' := pairB_spec hpairR
  have hndE : E.Nodup := (List.nodup_append.1 hnd).1
  have hndR : R.Nodup := (List.nodup_append.1 hnd).2.1
  have hdis : ∀ x, x ∈ E → x ∈ R → False := fun x h1 h2 => (List.nodup_append.1 hnd).2.2 x h1 x h2 rfl
  have hget : ∀ (l : List Nat) (e : Nat), predsB ops l e = true → ∃ o, ops[e]? = some o ∧ ∀ x ∈ o.after, Region.binds .any x = true → x.on ∈ l ∧ x.on ≠ e := by
    intro l e h
    unfold predsB at h
    split at h
    · rename_i o ho
      refine ⟨o, ho, fun x hx hb => ?_⟩
      have h1 := (Array.all_eq_true_iff_forall_mem.1 h) x hx
      simp only [hb, Bool.not_true, Bool.false_or, Bool.and_eq_true, List.contains_iff_mem, bne_iff_ne] at h1
      exact h1
    · cases h
  have hapart : ∀ y e, apartB ops y e = true → Region.waitsFor .any ops e y = false → ∃ oy oe, ops[y]? = some oy ∧ ops[e]? = some oe ∧ oy.apart ops oe = true := by
    intro y e h hw
    unfold apartB at h
    rw [hw, Bool.false_or] at h
    split at h
    · rename_i oy oe h1 h2
      exact ⟨oy, oe, h1, h2, h⟩
    · cases h
  have hinE : ∀ x, x ∈ E → x < ops.size := fun x hx => by
    obtain ⟨ox, hox, _⟩ := hget E x (hpE _ hx)
    exact (Array.getElem?_eq_some_iff.1 hox).1
  have hinR : ∀ x, x ∈ R → x < ops.size := fun x hx => by
    obtain ⟨ox, hox, _⟩ := hget (E ++ R) x (hpR _ hx)
    exact (Array.getElem?_eq_some_iff.1 hox).1
  have hun : ∀ (L : Array Bool) (l : List Nat) (x : Nat), x ∈ l.filter (unl L) ↔ x ∈ l ∧ L.getD x true = false := fun L l x => by
    rw [List.mem_filter]; simp only [unl, Bool.not_eq_true']
  intro n
  induction n with
  | zero =>
    intro L a w hsz hcl hn _ h
    have hE0 : E.filter (unl L) = [] := List.eq_nil_of_length_eq_zero (by omega)
    have hR0 : R.filter (unl L) = [] := List.eq_nil_of_length_eq_zero (by omega)
    rw [hE0, hR0] at h
    refine ⟨?_, ?_⟩
    · rw [List.eq_nil_iff_forall_not_mem]
      intro i hi
      obtain ⟨h1, o, ho, _⟩ := mem_ready.1 hi
      have hlt := (Array.getElem?_eq_some_iff.1 ho).1
      have hc := hcov i (List.mem_range.2 hlt)
      simp only [Bool.or_eq_true, List.contains_iff_mem] at hc
      rcases hc with hc | hc
      · have : i ∈ E.filter (unl L) := (hun L E i).2 ⟨hc, h1⟩
        rw [hE0] at this; cases this
      · have : i ∈ R.filter (unl L) := (hun L R i).2 ⟨hc, h1⟩
        rw [hR0] at this; cases this
    · exact h
  | succ n ih =>
    intro L a w hsz hcl hn hCw h
    -- something may come up
    have hsome : Region.ready .any ops L ≠ [] := by
      cases hE' : E.filter (unl L) with
      | cons e T =>
        have he := (hun L E e).1 (by rw [hE']; simp)
        obtain ⟨o, ho, hpre⟩ := hget E e (hpE e he.1)
        have hpw := hpair'.filter (p := unl L)
        rw [hE'] at hpw
        have : e ∈ Region.ready .any ops L := mem_ready.2 ⟨he.2, o, ho, fun x hx hb => by
          obtain ⟨hxE, hxe⟩ := hpre x hx hb
          cases hlx : L.getD x.on false with
          | true => rfl
          | false =>
            exfalso
            have hxm : x.on ∈ E.filter (unl L) := (hun L E _).2 ⟨hxE, getD_in (by rw [hsz]; exact hinE _ hxE) hlx⟩
            rw [hE'] at hxm
            rcases List.mem_cons.1 hxm with h1 | h1
            · exact hxe h1
            · have h2 := (List.pairwise_cons.1 hpw).1 _ h1
              simp only [Bool.and_eq_true, Bool.not_eq_true'] at h2
              rw [waitsFor_of ho hx hb rfl] at h2
              cases h2.1⟩
        intro h0; rw [h0] at this; cases this
      | nil =>
        cases hR' : R.filter (unl L) with
        | nil => rw [hE', hR'] at hn; simp at hn
        | cons r rest =>
          have hr := (hun L R r).1 (by rw [hR']; simp)
          obtain ⟨o, ho, hpre⟩ := hget (E ++ R) r (hpR r hr.1)
          have hpw := hpairR'.filter (p := unl L)
          rw [hR'] at hpw
          have : r ∈ Region.ready .any ops L := mem_ready.2 ⟨hr.2, o, ho, fun x hx hb => by
            obtain ⟨hxE, hxe⟩ := hpre x hx hb
            cases hlx : L.getD x.on false with
            | true => rfl
            | false =>
              exfalso
              rcases List.mem_append.1 hxE with h1 | h1
              · have : x.on ∈ E.filter (unl L) := (hun L E _).2 ⟨h1, getD_in (by rw [hsz]; exact hinE _ h1) hlx⟩
                rw [hE'] at this; cases this
              · have hxm : x.on ∈ R.filter (unl L) := (hun L R _).2 ⟨h1, getD_in (by rw [hsz]; exact hinR _ h1) hlx⟩
                rw [hR'] at hxm
                rcases List.mem_cons.1 hxm with h3 | h3
                · exact hxe h3
                · have h4 := (List.pairwise_cons.1 hpw).1 _ h3
                  simp only [Bool.not_eq_true'] at h4
                  rw [waitsFor_of ho hx hb rfl] at h4
                  cases h4⟩
          intro h0; rw [h0] at this; cases this
    refine ⟨fun h0 => absurd h0 hsome, fun i hi => ?_⟩
    obtain ⟨hiu, oi, hoi, hall⟩ := mem_ready.1 hi
    have hilt := (Array.getElem?_eq_some_iff.1 hoi).1
    have hcl' : Closed ops (L.setIfInBounds i true) := fun j oj hj hl e he hb => by
      by_cases hij : i = j
      · subst hij
        have : oj = oi := Option.some.inj (hj.symm.trans hoi)
        subst this
        exact getD_set_true (hall e he hb)
      · rw [getD_set_ne false hij] at hl
        exact getD_set_true (hcl j oj hj hl e he hb)
    have hc := hcov i (List.mem_range.2 hilt)
    simp only [Bool.or_eq_true, List.contains_iff_mem] at hc
    rcases hc with hc | hc
    · -- a quiet one
      have himem : i ∈ E.filter (unl L) := (hun L E i).2 ⟨hc, hiu⟩
      obtain ⟨E1, E2, hsplit⟩ := List.append_of_mem himem
      have hiR : i ∉ R := fun h' => hdis i hc h'
      have hpw := hpair'.filter (p := unl L)
      rw [hsplit] at hpw h
      have hap : ∀ x ∈ E1, ∃ ox, ops[x]? = some ox ∧ ox.apart ops oi = true := by
        intro x hx
        have h2 := (List.pairwise_append.1 hpw).2.2 x hx i (by simp)
        simp only [Bool.and_eq_true, Bool.not_eq_true'] at h2
        have hxu : L.getD x true = false := ((hun L E x).1 (by rw [hsplit]; simp [hx])).2
        obtain ⟨oy, oe, h3, h4, h5⟩ := hapart x i h2.2 (not_waits_of_ready hi hxu)
        have : oe = oi := Option.some.inj (h4.symm.trans hoi)
        subst this
        exact ⟨oy, h3, h5⟩
      have hq := quiet_front hoi hsel E1 E2 a hap h
      have hfs := filter_set (by rw [hsz]; exact hilt) hndE hsplit
      have hfR := filter_set_not (L := L) hiR
      have hCw' : C w := hCw (by rw [hsplit]; simp)
      have hcall : isCall oi = false := by
        have := hcalls i hc
        rw [hoi] at this
        simpa using this
      refine still_of_quiet hoi hcall hCw' (fun a' h' => ?_) hq
      refine ih (L.setIfInBounds i true) a' w (by simpa using hsz) hcl' ?_ (fun _ => hCw') ?_
      · rw [hfs, hfR]; rw [hsplit] at hn; simp only [List.length_append, List.length_cons] at hn ⊢; omega
      · rw [hfs, hfR]; exact h'
    · -- an acting one
      have hiE : i ∉ E := fun h' => hdis i h' hc
      have himem : i ∈ R.filter (unl L) := (hun L R i).2 ⟨hc, hiu⟩
      obtain ⟨R1, R2, hsplit⟩ := List.append_of_mem himem
      have hap : ∀ x ∈ E.filter (unl L), ∃ ox, ops[x]? = some ox ∧ ox.apart ops oi = true := by
        intro x hx
        have hx' := (hun L E x).1 hx
        have h2 := hapR i hc x hx'.1
        obtain ⟨oy, oe, h3, h4, h5⟩ := hapart x i h2 (not_waits_of_ready hi hx'.2)
        have : oe = oi := Option.some.inj (h4.symm.trans hoi)
        subst this
        exact ⟨oy, h3, h5⟩
      have hrf : i ∈ readyF ops (R.filter (unl L)) := by
        unfold readyF
        rw [List.mem_filter, List.all_eq_true]
        refine ⟨himem, fun s hs => ?_⟩
        rw [not_waits_of_ready hi ((hun L R s).1 hs).2]
        rfl
      have hln : (R.filter (unl L)).length = (R1 ++ R2).length + 1 := by rw [hsplit]; simp; omega
      have her : (R.filter (unl L)).erase i = R1 ++ R2 := by
        rw [hsplit]
        exact erase_split (by rw [← hsplit]; exact hndR.filter _)
      have h1 : wpQuiet P ops C (fun a' => wpOp P ops (NoPanic Q) i (fun a' w' => (needB ops E i = true → C w') ∧ wpF P ops Q C E (R1 ++ R2).length (R1 ++ R2) a' w') a' w) (opsAt ops (E.filter (unl L))) a := by
        refine wpQuiet_mono (fun a'' h'' => ?_) _ _ h
        rw [hln] at h''
        have := h'' i hrf
        rw [her] at this
        exact this
      have h2 := act_front hoi hsel (E.filter (unl L)) a hap h1
      have hfs := filter_set_not (L := L) hiE
      have hfR := filter_set (by rw [hsz]; exact hilt) hndR hsplit
      have hneed : E.filter (unl L) ≠ [] → needB ops E i = true := by
        intro hne
        cases hq : needB ops E i with
        | true => rfl
        | false =>
          exfalso
          unfold needB at hq
          simp only [Bool.not_eq_false', List.all_eq_true] at hq
          obtain ⟨e, he⟩ := List.exists_mem_of_ne_nil _ hne
          have he' := (hun L E e).1 he
          have h4 := anc_listed hcl ops.size i e (fun o ho => by
            have : o = oi := Option.some.inj (ho.symm.trans hoi)
            subst this; exact hall) (hq e he'.1)
          rw [getD_both he'.2] at h4
          cases h4
      refine wpOp_mono (fun a' w' h3 => ?_) h2
      refine ih (L.setIfInBounds i true) a' w' (by simpa using hsz) hcl' ?_ (fun hne => ?_) ?_
      · rw [hfs, hfR]; rw [hln] at hn; omega
      · rw [hfs] at hne
        exact (quiet_const _ _ h3) (hneed hne)
      · rw [hfs, hfR]
        exact wpQuiet_mono (fun a'' h'' => h''.2) _ _ h3

/-- The walk over a region: first the quiet ones, then the acting ones in every order. -/
theorem wp_region_fork {id : Nat} {a : Act} {w : World} (E R : List Nat) (n : Nat) (C : World → Prop) (hm : P.follows .mixedOrders = true) (hB : forkB ops E R = true) (hn : R.length = n) (hC : C w.drew)
    (h : wpQuiet P ops C (fun a' => wpF P ops Q C E n R a' w.drew) (opsAt ops E) a) : (Code.region id ops true).wp P Q a w := by
  refine wp_region_noPanic (wp_region_any hm ?_)
  have hB0 := hB
  simp only [forkB, Bool.and_eq_true, decide_eq_true_eq, List.all_eq_true] at hB
  obtain ⟨⟨⟨⟨⟨⟨⟨⟨⟨hns, hnd⟩, hlen⟩, hcov⟩, hpE⟩, hpair⟩, hpR⟩, hpairR⟩, hapR⟩, hcalls⟩ := hB
  have hlt : ∀ l i, predsB ops l i = true → i < ops.size := by
    intro l i hcov
    unfold predsB at hcov
    split at hcov
    · rename_i o ho; exact (Array.getElem?_eq_some_iff.1 ho).1
    · cases hcov
  have hall : E.filter (unl (Array.replicate ops.size false)) = E := by
    rw [List.filter_eq_self]
    intro i hi
    simp [unl, hlt E i (hpE i hi)]
  have hallR : R.filter (unl (Array.replicate ops.size false)) = R := by
    rw [List.filter_eq_self]
    intro i hi
    simp [unl, hlt _ i (hpR i hi)]
  refine fork_main hB0 ops.size (Array.replicate ops.size false) a w.drew (by simp) (fun j oj _ hl => by rw [getD_replicate_false] at hl; cases hl) (by rw [hall, hallR]; exact hlen) (fun _ => hC) ?_
  rw [hall, hallR, hn]
  exact h

/-- A chain at the end has one order. -/
theorem wpF_chain {E : List Nat} : ∀ (R : List Nat) (a : Act) (w : World), R.Nodup → chainR ops R = true → pairB (fun r s => !Region.waitsFor .any ops r s) R = true → wpR P ops Q C E R a w → wpF P ops Q C E R.length R a w
  | [], _, _, _, _, _, h => h
  | r :: R, a, w, hnd, hc, hp, h => by
    intro i hi
    unfold readyF at hi
    rw [List.mem_filter, List.all_eq_true] at hi
    have hir : i = r := by
      rcases List.mem_cons.1 hi.1 with h1 | h1
      · exact h1
      · exfalso
        obtain ⟨p, hpm, hw⟩ := chain_pred hc i h1
        have := hi.2 p hpm
        rw [hw] at this
        cases this
    subst hir
    rw [List.erase_cons_head]
    unfold wpR at h
    rw [List.nodup_cons] at hnd
    refine wpOp_mono (fun a' w' h3 => ⟨h3.1, wpF_chain R a' w' hnd.2 (chain_suffix [i] R hc) ?_ h3.2⟩) h
    simp only [pairB, Bool.and_eq_true] at hp
    exact hp.2
theorem wpF_end {E : List Nat} {n : Nat} (R : List Nat) (hn : R.length = n) {a : Act} {w : World} (hnd : decide R.Nodup = true) (hc : chainR ops R = true) (hp : pairB (fun r s => !Region.waitsFor .any ops r s) R = true) (h : wpR P ops Q C E R a w) : wpF P ops Q C E n R a w := by
  subst hn
  exact wpF_chain R a w (of_decide_eq_true hnd) hc hp h
/-- What stands behind one acting operation. -/
def QnF (P : Program) (ops : Array Oper) (Q : Exit → Act → World → Prop) (C : World → Prop) (E : List Nat) (n : Nat) (rest : List Nat) (b : Bool) : Exit → Act → World → Prop
  | .normal, a, w => (b = true → C w) ∧ wpF P ops Q C E n rest a w
  | .panic _, _, _ => False
  | e, a, w => Q e a w
theorem wpF_op {E R rest : List Nat} {n r : Nat} {o : Oper} {a : Act} {w : World} (b : Bool) (hr : ops[r]? = some o) (hb : needB ops E r = b) (he : R.erase r = rest) (h : wpList P ops (QnF P ops Q C E n rest b) [o] a w) :
    wpOp P ops (NoPanic Q) r (fun a' w' => (needB ops E r = true → C w') ∧ wpF P ops Q C E n (R.erase r) a' w') a w := by
  subst he
  unfold wpOp
  simp only [hr]
  unfold wpList at h
  have hl : LetsOut (QnF P ops Q C E n (R.erase r) b) → LetsOut (NoPanic Q) := fun ⟨a, w, h⟩ => ⟨a, w, h⟩
  have hk : ∀ a' w', wpList P ops (QnF P ops Q C E n (R.erase r) b) [] a' w' → (needB ops E r = true → C w') ∧ wpF P ops Q C E n (R.erase r) a' w' := fun a' w' h' => by
    rw [hb]; exact h'
  split
  · rename_i hw
    rw [if_pos hw] at h
    rcases h with h | ⟨h1, h2⟩
    · refine .inl ?_
      unfold Oper.wp at *
      generalize (execOp a.eval o).run P w = r at *
      cases r with
      | ok n w' =>
        cases n <;> simp only [Oper.upon] at h ⊢
        case value u => exact hk _ _ h
        case skip => exact hk _ _ h
        case defer d => exact hk _ _ h
        case enter f args =>
          refine Calls.mono h fun e w'' he => ?_
          cases e with
          | returned u => exact hk _ _ he
          | panicked c => exact he
          | outgrown => exact hl he
        case row row args => exact Rows.mono h fun u w'' he => hk _ _ he
      | halt x w' => cases x <;> simp only [Oper.upon] at h ⊢ <;> exact h
    · exact .inr ⟨h1, hl h2⟩
  · rename_i hw
    rw [if_neg hw] at h
    exact hk _ _ h
/-- The same, the operation by its number. -/
theorem wpF_at {E R rest : List Nat} {n r : Nat} {a : Act} {w : World} (b : Bool) (hlt : decide (r < ops.size) = true) (hb : needB ops E r = b) (he : R.erase r = rest) (h : wpList P ops (QnF P ops Q C E n rest b) (opsAt ops [r]) a w) :
    wpOp P ops (NoPanic Q) r (fun a' w' => (needB ops E r = true → C w') ∧ wpF P ops Q C E n (R.erase r) a' w') a w :=
  wpF_op b (o := ops.getD r default) (by simp [of_decide_eq_true hlt]) hb he h
theorem wpR_at {E rest : List Nat} {r : Nat} {a : Act} {w : World} (b : Bool) (hlt : decide (r < ops.size) = true) (hb : needB ops E r = b) (h : wpList P ops (Qn P ops Q C E rest b) (opsAt ops [r]) a w) : wpR P ops Q C E (r :: rest) a w :=
  wpR_cons b (o := ops.getD r default) (by simp [of_decide_eq_true hlt]) hb h
/-- Two may come next. -/
theorem wpF_two {E R : List Nat} {n r s : Nat} {a : Act} {w : World} (hr : readyF ops R = [r, s])
    (h1 : wpOp P ops (NoPanic Q) r (fun a' w' => (needB ops E r = true → C w') ∧ wpF P ops Q C E n (R.erase r) a' w') a w)
    (h2 : wpOp P ops (NoPanic Q) s (fun a' w' => (needB ops E s = true → C w') ∧ wpF P ops Q C E n (R.erase s) a' w') a w) : wpF P ops Q C E (n + 1) R a w := by
  intro i hi
  rw [hr] at hi
  rcases List.mem_cons.1 hi with rfl | hi
  · exact h1
  · rw [List.mem_singleton] at hi
    subst hi
    exact h2
end
end Go.Proofs.YtdjaphcelpchaaaGreatDoor

namespace Go.Proofs.YtdjaphcelpchaaaGreatDoor
open Go Go.RowKit Go.Proofs

attribute [local go_sem ↓] ex_load_id ex_store_id ex_load_line ex_store_line ex_load_rline ex_store_rline ex_alloc_line ex_build_line ex_alloc_rline ex_build_rline ex_bs_rline

attribute [local go_sem] ld_id st_id ld_line st_line ld_rline st_rline guard_id okCells_drew rdCells_drew okCells_drewN rdCells_drewN rowOk_drew rowOk_cells okCells_cells rdCells_cells setRow_drew setRow_new setRow_past bs_rline run_eql_id run_neq_id eqIn_id

theorem atR_snoc : ∀ (l : List MR) (a r : MR) (i k : Nat), atR (l ++ [a]) r i k = if beforeB a r then i + l.length + 1 else atR l r i k
  | [], a, r, i, k => by simp [atR]
  | b :: l, a, r, i, k => by
    rw [List.cons_append]
    unfold atR
    rw [atR_snoc l a r (i + 1) _, List.length_cons, show i + 1 + l.length + 1 = i + (l.length + 1) + 1 by omega]
/-- The error of the reference's Add. -/
def addErrR (rs : List MR) (s : ByteArray) (p : PLine) : Int := if nameErr s ≠ 0 then nameErr s else if pErr p ≠ 0 then pErr p else if clashR rs s p then 7 else 0
/-- What the reference's Add does. -/
def AddRPost (v : Value) (rs : List MR) (s : ByteArray) (p : PLine) (v0 : Value) (w : World) (r : Ending) (w' : World) : Prop :=
  Below w.heap.size w w' ∧ ((addErrR rs s p ≠ 0 ∧ r = .returned (.tuple #[v, .int .i64 (addErrR rs s p)])) ∨ (addErrR rs s p = 0 ∧ ∃ v', r = .returned (.tuple #[v', .int .i64 0]) ∧ RefsAt w.heap.size w' v' (addR rs ⟨s, ⟨p, v0⟩⟩)))
theorem rvar_id {w : World} {lb : Nat} {s : ByteArray} {g : GLine} (h : RVar w lb s g) : okCells w ⟨lb, 2, none⟩ 32 = true ∧ rdCells w ⟨lb, 2, none⟩ 32 = (encId g.id).toArray := by
  have := rd_of_cells (w := w) (a := ⟨lb, 2, none⟩) (cs := encId g.id) (fun j v hj => by
    have hj32 : j < 32 := by have := (List.getElem?_eq_some_iff.1 hj).1; rwa [encId_length] at this
    rw [Addr.add_lit, h.cell, show 2 + j = (1 + j) + 1 by omega, rc_succ, ← hj]
    simp only [lineCells, lineList, List.getElem?_toArray]
    rw [show 1 + j = j + 1 by omega, List.getElem?_cons_succ, List.getElem?_append_left (by rw [encId_length]; exact hj32)])
  rwa [encId_length] at this

theorem cell_of_same {w w' : World} {a : Addr} (h : w'.heap[a.block]? = w.heap[a.block]?) : w'.cell? a = w.cell? a := by
  unfold World.cell?
  rw [h]
/-- append(s, x...) of a nil x: s itself. -/
theorem wpList_append_nilR {ops : Array Oper} {rest : List Oper} {o : Oper} {a : Act} {w : World} {Q : Exit → Act → World → Prop} (hgd : o.guard = none) (s x : Operand)
    (ho : o.op = .call { callee := .builtin .append, args := #[s, x], argTypes := #[49, 49] }) (ad : Option Addr) (n c k : Nat) (hn : n ≤ c) (hs : a.eval s = .slice ad n c) (hx : a.eval x = .slice none 0 k)
    (h : wpList Tryz.prog ops Q rest (a.put o.dst (.slice ad n c)) w) : wpList Tryz.prog ops Q (o :: rest) a w := by
  refine wpList_plain hgd fun K hK => ?_
  have hr : (Builtin.append_ #[49, 49] o.type #[.slice ad n c, .slice none 0 k]).run Tryz.prog w = .ok (.slice ad n c) w := by
    have hz := Tryz.sizeOf26
    cases ad with
    | none => simp [Builtin.append_, hz, Builtin.lenOf, Builtin.firstCells, hn]
    | some b => simp [Builtin.append_, hz, Builtin.lenOf, Builtin.firstCells, hn, storeCells]
  unfold Oper.wp execOp
  simp only [ho, resolve, invoke, builtin, Sem.run_bind, Sem.run_pure, Result.andThen_ok, List.map_toArray, List.map_cons, List.map_nil, hs, hx, hr]
  exact hK _ _ h

theorem addR_length (rs : List MR) (r : MR) : (addR rs r).length = rs.length + 1 := by
  unfold addR
  rw [List.length_append, List.length_cons, List.length_take, List.length_drop]
  omega
theorem clash_take {rs : List MR} {s : ByteArray} {p : PLine} {k : Nat} (hk : k < rs.length) (h0 : clashR (rs.take k) s p = false) (h1 : ¬ (rs[k].s = s ∧ (rs[k].m.p.number = p.number ∨ rs[k].m.p.id = p.id))) : clashR (rs.take (k + 1)) s p = false := by
  rw [List.take_succ_eq_append_getElem hk]
  unfold clashR at h0 ⊢
  rw [List.any_append, h0, Bool.false_or, List.any_cons, List.any_nil, Bool.or_false, Bool.eq_false_iff]
  simp only [ne_eq, Bool.and_eq_true, Bool.or_eq_true, decide_eq_true_eq]
  exact h1
theorem clash_at {rs : List MR} {s : ByteArray} {p : PLine} {k : Nat} (hk : k < rs.length) (h1 : rs[k].s = s ∧ (rs[k].m.p.number = p.number ∨ rs[k].m.p.id = p.id)) : clashR rs s p = true := by
  unfold clashR
  rw [List.any_eq_true]
  refine ⟨rs[k], List.getElem_mem hk, ?_⟩
  simp only [Bool.and_eq_true, Bool.or_eq_true, decide_eq_true_eq]
  exact h1

set_option maxRecDepth 100000 in
set_option maxHeartbeats 8000000 in
theorem addRef_any (B : Nat) (v : Value) (rs : List MR) (s : ByteArray) (p : PLine) (v0 : Value) (w : World) (h : RefsAt B w v rs) (ho : ordR rs) (hs : s.size ≤ 100000) (hO : LineOk w (ML.g ⟨p, v0⟩) p.ids) (hfw : rs.length < 100000) :
    Calls Tryz.prog 33 #[v, .agg (rlineCells s (ML.g ⟨p, v0⟩))] w fun r w' => AddRPost v rs s p v0 w r w' := by
  obtain ⟨i0, hi, hz0, hz1, hz2⟩ := info_parts Tryz.info_rline
  have hone0 : v0.oneCell' = true := hO.refs.one
  have HONE : Hid (∀ u ∈ rList ⟨s, ⟨p, v0⟩⟩, u.oneCell' = true) := Lib.hid (rList_one (r := ⟨s, ⟨p, v0⟩⟩) hone0)
  have HONES : Hid (∀ r ∈ addR rs ⟨s, ⟨p, v0⟩⟩, r.m.v.oneCell' = true) := Lib.hid fun r hr => by
    rcases addR_mem.1 hr with rfl | hr
    · exact hone0
    · exact h.one r hr
  have HNAMES : Hid (∀ r ∈ addR rs ⟨s, ⟨p, v0⟩⟩, r.s.size ≤ 100000) := Lib.hid fun r hr => by
    rcases addR_mem.1 hr with rfl | hr
    · exact hs
    · exact h.names r hr
  have HFEW : Hid ((addR rs ⟨s, ⟨p, v0⟩⟩).length ≤ 100000) := Lib.hid (by rw [addR_length]; omega)
  obtain ⟨g, hg⟩ : ∃ g, g = ML.g ⟨p, v0⟩ := ⟨_, rfl⟩
  have HG := Lib.hid hg
  have hgn : g.number = p.number := by rw [hg]; rfl
  have hgi : g.id = p.id := by rw [hg]; rfl
  have hge : lineErr g p.ids = pErr p := by rw [hg]; rfl
  have HBF : Hid (∀ (a : MR) (wx : World), a.s.size ≤ 100000 → Calls Tryz.prog 75 #[.agg (rlineCells a.s a.m.g), .agg (rlineCells s g)] wx fun r w' => r = .returned (.bool (beforeB a ⟨s, ⟨p, v0⟩⟩)) ∧ Below wx.heap.size wx w') := Lib.hid fun a wx ha => by
    rw [hg]
    exact before_any a ⟨s, ⟨p, v0⟩⟩ wx ha hs
  rw [← hg] at hO ⊢
  clear hg hone0
  obtain ⟨W, hW⟩ : ∃ W, W = w.alloc (.cells (rlineCells s g) 26) := ⟨_, rfl⟩
  have hb0 : Below w.heap.size w W := by rw [hW]; exact (Below.refl _ _).alloc (Nat.le_refl _) _
  have hR0 : RVar W w.heap.size s g := by rw [hW]; exact heap_alloc_new _ _
  have c0 := (hR0.cell 0).trans (rc0 s g)
  have HCK := Lib.hid (rcheck_any s W hs)
  have HR0 := Lib.hid hR0
  have HB0 := Lib.hid hb0
  have hss : w.heap.size < W.heap.size := hR0.lt
  have HO := Lib.hid hO
  have HX := Lib.hid h
  have HORD := Lib.hid ho
  rw [hW] at c0
  clear hR0 hb0 hO h ho
  obtain ⟨va, vn, vc, hv⟩ : ∃ a n c, v = .slice a n c := own_slice HX.out.row
  have HE0 : Hid (addErrR rs s p = if nameErr s ≠ 0 then nameErr s else if pErr p ≠ 0 then pErr p else if clashR rs s p then 7 else 0) := Lib.hid rfl
  subst hv
  go_enter Tryz.func33, Tryz.ntmps33
  go_wp2_with fail
  rw [← hW]
  clear hW c0
  refine HCK.out.mono ?_
  rintro r w1 ⟨rfl, hb1⟩
  have HB1 := Lib.hid (HB0.out.trans (hb1.mono HB0.out.size) : Below w.heap.size w w1)
  have HR1 : Hid (RVar w1 w.heap.size s g) := Lib.hid ((hb1.block _ hss).trans HR0.out)
  clear hb1 HR0 HB0 HCK hss
  by_cases hne : nameErr s = 0
  · rw [hne]
    obtain ⟨q1, q2⟩ := HR1.out.rd
    have HRC := Lib.hid (refCheck_any s g p.ids w1 (HO.out.below HB1.out))
    rw [hge] at HRC
    go_wp2_with fail
    refine HRC.out.mono ?_
    rintro r w2 ⟨rfl, hb2⟩
    have HB2 := Lib.hid (HB1.out.trans (hb2.mono HB1.out.size) : Below w.heap.size w w2)
    have HR2 : Hid (RVar w2 w.heap.size s g) := Lib.hid ((hb2.block _ HR1.out.lt).trans HR1.out)
    clear hb2 HR1 HB1 HRC q1 q2
    by_cases hpe : pErr p = 0
    · rw [hpe]
      have HEC : Hid (addErrR rs s p = if clashR rs s p then 7 else 0) := Lib.hid (by rw [HE0.out, if_neg (by rw [hne]; simp), if_neg (by rw [hpe]; simp)])
      clear HE0
      have HHD := Lib.hid HX.out.head
      rcases HHD.out with ⟨hvn, hrs⟩ | ⟨gb, cap, cur, hve, hBg, hgb, hle, hmx, _, hcell⟩
      · cases hvn
        have HERR : Hid (addErrR rs s p = 0) := Lib.hid (by rw [HEC.out, hrs]; rfl)
        have HADD : Hid (addR rs ⟨s, ⟨p, v0⟩⟩ = [⟨s, ⟨p, v0⟩⟩]) := Lib.hid (by rw [hrs]; rfl)
        clear hrs HHD HEC
        go_wp2
        go_loopw [8, 9] (fun a i wr => a = .int .i64 0 ∧ i = .int .i64 0 ∧ wr = w2) (fun _ _ _ => 0)
        case atStart => exact ⟨rfl, rfl, rfl⟩
        case round =>
          obtain ⟨rfl, rfl, hwe⟩ := hrel
          subst hwe
          have HBr := HB2
          have z1 : ∀ z : Later wr, okCells z.1 ⟨w.heap.size, 0, none⟩ 39 = true := fun z => (RVar.rd ((z.2.block _ HR2.out.lt).trans HR2.out)).1
          have z2 : ∀ z : Later wr, rdCells z.1 ⟨w.heap.size, 0, none⟩ 39 = rlineCells s g := fun z => (RVar.rd ((z.2.block _ HR2.out.lt).trans HR2.out)).2
          go_wp2
          refine wp_region_fork [1, 2, 3, 5, 8, 9, 10] [0, 4, 6, 7, 11, 12, 13] 7 (fun w' => ∃ z : Later wr, w' = z.1) (by kernel_rfl) (by kernel_rfl) rfl ⟨⟨_, (Below.refl _ _).drew⟩, rfl⟩ ?_
          simp only [opsAt, List.map_cons, List.map_nil, Array.getD_eq_getD_getElem?, List.getElem?_toArray, List.getElem?_cons_zero, List.getElem?_cons_succ, Option.getD_some]
          repeat (go_big_quiet_step (fail))
          refine wpQuiet_nil ?_
          clear z1 z2
          generalize hWd : wr.drew = Wd
          have HBWd : Hid (Below wr.heap.size wr Wd) := Lib.hid (by rw [← hWd]; exact (Below.refl _ _).drew)
          clear hWd
          refine wpF_two (r := 0) (s := 6) (by kernel_rfl) ?_ ?_
          · refine wpF_at true (by kernel_rfl) (by kernel_rfl) (rest := [4, 6, 7, 11, 12, 13]) rfl ?_
            simp only [opsAt, List.map_cons, List.map_nil, Array.getD_eq_getD_getElem?, List.getElem?_toArray, List.getElem?_cons_zero, Option.getD_some]
            go_wp2_with fail
            have hE := ownsRow_base (own_empty Wd 26 39) HBWd.out.size
            have hBn : Below wr.heap.size wr (Wd.alloc (.cells #[] 26)) := HBWd.out.alloc HBWd.out.size _
            have hG0 : Below Wd.heap.size Wd (Wd.alloc (.cells #[] 26)) := (Below.refl _ _).alloc (Nat.le_refl _) _
            have hs0 : (Wd.alloc (.cells #[] 26)).heap.size = Wd.heap.size + 1 := by simp
            have hb66 : wr.heap.size ≤ Wd.heap.size := HBWd.out.size
            generalize Wd.alloc (.cells #[] 26) = Wa at hE hBn hG0 hs0 ⊢
            have HS0 := Lib.hid hs0
            clear hs0
            have HBWa := Lib.hid hBn
            have HE := Lib.hid hE
            clear hE hBn hG0
            refine ⟨fun _ => ⟨⟨_, HBWa.out⟩, rfl⟩, ?_⟩
            refine wpF_two (r := 4) (s := 6) (by kernel_rfl) ?_ ?_
            · refine wpF_at true (by kernel_rfl) (by kernel_rfl) (rest := [6, 7, 11, 12, 13]) rfl ?_
              simp only [opsAt, List.map_cons, List.map_nil, Array.getD_eq_getD_getElem?, List.getElem?_toArray, List.getElem?_cons_zero, List.getElem?_cons_succ, Option.getD_some]
              refine wpList_append_nilR rfl (.tmp 66) (.tmp 69) rfl _ _ _ 0 (Nat.le_refl 0) rfl rfl ?_
              have HO70 := HE
              go_wp2_with fail
              refine ⟨fun _ => ⟨⟨_, HBWa.out⟩, rfl⟩, ?_⟩
              refine wpF_end [6, 7, 11, 12, 13] rfl rfl (by kernel_rfl) (by kernel_rfl) ?_
              refine wpR_at true (by kernel_rfl) (by kernel_rfl) ?_
              simp only [opsAt, List.map_cons, List.map_nil, Array.getD_eq_getD_getElem?, List.getElem?_toArray, List.getElem?_cons_zero, List.getElem?_cons_succ, Option.getD_some]
              go_wp2_with fail
              have c72 : ∀ j, (Wa.alloc (.cells (rlineCells s g) 26)).cell? ⟨Wa.heap.size, j, none⟩ = (rlineCells s g)[j]? := fun j => cells_new _ _ _ j
              have hBn : Below wr.heap.size wr (Wa.alloc (.cells (rlineCells s g) 26)) := HBWa.out.alloc HBWa.out.size _
              have hs6 : (Wa.alloc (.cells (rlineCells s g) 26)).heap.size = Wa.heap.size + 1 := by simp
              have hown6 := HO70.out.alloc (.cells (rlineCells s g) 26)
              obtain ⟨b72, hb72⟩ : ∃ b, b = Wa.heap.size := ⟨_, rfl⟩
              rw [← hb72] at c72 ⊢
              generalize Wa.alloc (.cells (rlineCells s g) 26) = Wc at c72 hBn hs6 hown6 ⊢
              have HBWc := Lib.hid hBn
              have C72 := Lib.hid c72
              have l72 : b72 < Wc.heap.size := by omega
              have HS6 := Lib.hid hs6
              have HB72 := Lib.hid hb72
              clear hs6 hb72
              have HO70 := Lib.hid hown6
              clear c72 hBn hown6
              refine ⟨fun _ => ⟨⟨_, HBWc.out⟩, rfl⟩, ?_⟩
              refine wpR_at true (by kernel_rfl) (by kernel_rfl) ?_
              simp only [opsAt, List.map_cons, List.map_nil, Array.getD_eq_getD_getElem?, List.getElem?_toArray, List.getElem?_cons_zero, List.getElem?_cons_succ, Option.getD_some]
              refine wpList_append_own _ rfl (.tmp 70) (.tmp 72) 49 rfl wr.heap.size 26 i0 (.agg (rlineCells ⟨#[]⟩ zeroLine)) 39 128 Tryz.underlying49 hi hz0 hz1 hz2 (rlineCells_size _ _) (by decide) _ _ _ rfl HO70.out ⟨b72, 0, none⟩ 1 1 (rList ⟨s, ⟨p, v0⟩⟩) rfl (rList_length _) ?e1 HONE.out ?e3 ?e4 ?e5 ?_
              case e1 =>
                intro j u hj
                rw [Addr.add_lit, Nat.zero_add, C72.out j]
                rw [HG.out, rList_cells ⟨s, ⟨p, v0⟩⟩]
                simpa using hj
              case e3 => unfold maxLen; omega
              case e4 => omega
              case e5 => exact HBWc.out.size
              intro v73 w3 hown3 hgr3 _
              have HB3 := Lib.hid (HBWc.out.grown hgr3 HBWc.out.size (fun k e => (HO70.out.lt k e).1) : Below wr.heap.size wr w3)
              have HO73 := Lib.hid hown3
              clear hgr3 hown3
              go_wp2_with fail
              refine ⟨fun _ => ⟨⟨_, HB3.out⟩, rfl⟩, wpR_list [11, 12, 13] _ _ (by kernel_rfl) ?_⟩
              simp only [opsAt, List.map_cons, List.map_nil, Array.getD_eq_getD_getElem?, List.getElem?_toArray, List.getElem?_cons_zero, List.getElem?_cons_succ, Option.getD_some]
              obtain ⟨g73, c73, hv73, hc73⟩ : ∃ g c, v73 = .slice g 1 c ∧ 1 ≤ c := by
                rcases HO73.out.2 with ⟨_, h0⟩ | ⟨g', cap', _, e, _, _, hle, _⟩
                · omega
                · exact ⟨_, _, e, by omega⟩
              subst hv73
              refine wpList_append_nilR rfl (.tmp 73) (.tmp 76) rfl _ _ _ 0 hc73 rfl rfl ?_
              go_wp2
              refine NoPanic.normal ?_
              go_wp2
              go_ret2
              have hBf : Below w.heap.size w w3 := HBr.out.trans (HB3.out.mono HBr.out.size)
              refine ⟨hBf, .inr ⟨HERR.out, _, rfl, ⟨?_, HONES.out, HNAMES.out, HFEW.out⟩⟩⟩
              have := ownsRow_base HO73.out HBr.out.size
              rw [HADD.out, flatR_one]
              exact this
            · refine wpF_at true (by kernel_rfl) (by kernel_rfl) (rest := [4, 7, 11, 12, 13]) rfl ?_
              simp only [opsAt, List.map_cons, List.map_nil, Array.getD_eq_getD_getElem?, List.getElem?_toArray, List.getElem?_cons_zero, List.getElem?_cons_succ, Option.getD_some]
              go_wp2_with fail
              have c72 : ∀ j, (Wa.alloc (.cells (rlineCells s g) 26)).cell? ⟨Wa.heap.size, j, none⟩ = (rlineCells s g)[j]? := fun j => cells_new _ _ _ j
              have hBn : Below wr.heap.size wr (Wa.alloc (.cells (rlineCells s g) 26)) := HBWa.out.alloc HBWa.out.size _
              have hs6 : (Wa.alloc (.cells (rlineCells s g) 26)).heap.size = Wa.heap.size + 1 := by simp
              have hown6 := HE.out.alloc (.cells (rlineCells s g) 26)
              obtain ⟨b72, hb72⟩ : ∃ b, b = Wa.heap.size := ⟨_, rfl⟩
              rw [← hb72] at c72 ⊢
              generalize Wa.alloc (.cells (rlineCells s g) 26) = Wb at c72 hBn hs6 hown6 ⊢
              have HBWb := Lib.hid hBn
              have C72 := Lib.hid c72
              have l72 : b72 < Wb.heap.size := by omega
              have HS6 := Lib.hid hs6
              have HB72 := Lib.hid hb72
              clear hs6 hb72
              have HE := Lib.hid hown6
              clear c72 hBn hown6
              refine ⟨fun _ => ⟨⟨_, HBWb.out⟩, rfl⟩, ?_⟩
              refine wpF_end [4, 7, 11, 12, 13] rfl rfl (by kernel_rfl) (by kernel_rfl) ?_
              refine wpR_at true (by kernel_rfl) (by kernel_rfl) ?_
              simp only [opsAt, List.map_cons, List.map_nil, Array.getD_eq_getD_getElem?, List.getElem?_toArray, List.getElem?_cons_zero, List.getElem?_cons_succ, Option.getD_some]
              refine wpList_append_nilR rfl (.tmp 66) (.tmp 69) rfl _ _ _ 0 (Nat.le_refl 0) rfl rfl ?_
              have HO70 := HE
              go_wp2_with fail
              refine ⟨fun _ => ⟨⟨_, HBWb.out⟩, rfl⟩, ?_⟩
              refine wpR_at true (by kernel_rfl) (by kernel_rfl) ?_
              simp only [opsAt, List.map_cons, List.map_nil, Array.getD_eq_getD_getElem?, List.getElem?_toArray, List.getElem?_cons_zero, List.getElem?_cons_succ, Option.getD_some]
              refine wpList_append_own _ rfl (.tmp 70) (.tmp 72) 49 rfl wr.heap.size 26 i0 (.agg (rlineCells ⟨#[]⟩ zeroLine)) 39 128 Tryz.underlying49 hi hz0 hz1 hz2 (rlineCells_size _ _) (by decide) _ _ _ rfl HO70.out ⟨b72, 0, none⟩ 1 1 (rList ⟨s, ⟨p, v0⟩⟩) rfl (rList_length _) ?e1 HONE.out ?e3 ?e4 ?e5 ?_
              case e1 =>
                intro j u hj
                rw [Addr.add_lit, Nat.zero_add, C72.out j]
                rw [HG.out, rList_cells ⟨s, ⟨p, v0⟩⟩]
                simpa using hj
              case e3 => unfold maxLen; omega
              case e4 => omega
              case e5 => exact HBWb.out.size
              intro v73 w3 hown3 hgr3 _
              have HB3 := Lib.hid (HBWb.out.grown hgr3 HBWb.out.size (fun k e => (HO70.out.lt k e).1) : Below wr.heap.size wr w3)
              have HO73 := Lib.hid hown3
              clear hgr3 hown3
              go_wp2_with fail
              refine ⟨fun _ => ⟨⟨_, HB3.out⟩, rfl⟩, wpR_list [11, 12, 13] _ _ (by kernel_rfl) ?_⟩
              simp only [opsAt, List.map_cons, List.map_nil, Array.getD_eq_getD_getElem?, List.getElem?_toArray, List.getElem?_cons_zero, List.getElem?_cons_succ, Option.getD_some]
              obtain ⟨g73, c73, hv73, hc73⟩ : ∃ g c, v73 = .slice g 1 c ∧ 1 ≤ c := by
                rcases HO73.out.2 with ⟨_, h0⟩ | ⟨g', cap', _, e, _, _, hle, _⟩
                · omega
                · exact ⟨_, _, e, by omega⟩
              subst hv73
              refine wpList_append_nilR rfl (.tmp 73) (.tmp 76) rfl _ _ _ 0 hc73 rfl rfl ?_
              go_wp2
              refine NoPanic.normal ?_
              go_wp2
              go_ret2
              have hBf : Below w.heap.size w w3 := HBr.out.trans (HB3.out.mono HBr.out.size)
              refine ⟨hBf, .inr ⟨HERR.out, _, rfl, ⟨?_, HONES.out, HNAMES.out, HFEW.out⟩⟩⟩
              have := ownsRow_base HO73.out HBr.out.size
              rw [HADD.out, flatR_one]
              exact this
          · refine wpF_at true (by kernel_rfl) (by kernel_rfl) (rest := [0, 4, 7, 11, 12, 13]) rfl ?_
            simp only [opsAt, List.map_cons, List.map_nil, Array.getD_eq_getD_getElem?, List.getElem?_toArray, List.getElem?_cons_zero, List.getElem?_cons_succ, Option.getD_some]
            go_wp2_with fail
            have c72 : ∀ j, (Wd.alloc (.cells (rlineCells s g) 26)).cell? ⟨Wd.heap.size, j, none⟩ = (rlineCells s g)[j]? := fun j => cells_new _ _ _ j
            have hBn : Below wr.heap.size wr (Wd.alloc (.cells (rlineCells s g) 26)) := HBWd.out.alloc HBWd.out.size _
            have hs6 : (Wd.alloc (.cells (rlineCells s g) 26)).heap.size = Wd.heap.size + 1 := by simp
            obtain ⟨b72, hb72⟩ : ∃ b, b = Wd.heap.size := ⟨_, rfl⟩
            rw [← hb72] at c72 ⊢
            generalize Wd.alloc (.cells (rlineCells s g) 26) = Wa at c72 hBn hs6 ⊢
            have HBWa := Lib.hid hBn
            have C72 := Lib.hid c72
            have l72 : b72 < Wa.heap.size := by omega
            have HS6 := Lib.hid hs6
            have HB72 := Lib.hid hb72
            clear hs6 hb72
            clear c72 hBn
            refine ⟨fun _ => ⟨⟨_, HBWa.out⟩, rfl⟩, ?_⟩
            refine wpF_end [0, 4, 7, 11, 12, 13] rfl rfl (by kernel_rfl) (by kernel_rfl) ?_
            refine wpR_at true (by kernel_rfl) (by kernel_rfl) ?_
            simp only [opsAt, List.map_cons, List.map_nil, Array.getD_eq_getD_getElem?, List.getElem?_toArray, List.getElem?_cons_zero, Option.getD_some]
            go_wp2_with fail
            have hE := ownsRow_base (own_empty Wa 26 39) HBWa.out.size
            have hBn : Below wr.heap.size wr (Wa.alloc (.cells #[] 26)) := HBWa.out.alloc HBWa.out.size _
            have hG0 : Below Wa.heap.size Wa (Wa.alloc (.cells #[] 26)) := (Below.refl _ _).alloc (Nat.le_refl _) _
            have hs0 : (Wa.alloc (.cells #[] 26)).heap.size = Wa.heap.size + 1 := by simp
            have hb66 : wr.heap.size ≤ Wa.heap.size := HBWa.out.size
            generalize Wa.alloc (.cells #[] 26) = Wb at hE hBn hG0 hs0 ⊢
            have HS0 := Lib.hid hs0
            clear hs0
            have HBWb := Lib.hid hBn
            have HE := Lib.hid hE
            have C72 : Hid (∀ j, Wb.cell? ⟨b72, j, none⟩ = (rlineCells s g)[j]?) := Lib.hid fun j => (hG0.cell (p := ⟨b72, j, none⟩) l72).trans (C72.out j)
            have n72 : b72 ≠ Wa.heap.size := Nat.ne_of_lt l72
            replace l72 : b72 < Wb.heap.size := by have := HS0.out; omega
            clear hE hBn hG0
            refine ⟨fun _ => ⟨⟨_, HBWb.out⟩, rfl⟩, ?_⟩
            refine wpR_at true (by kernel_rfl) (by kernel_rfl) ?_
            simp only [opsAt, List.map_cons, List.map_nil, Array.getD_eq_getD_getElem?, List.getElem?_toArray, List.getElem?_cons_zero, List.getElem?_cons_succ, Option.getD_some]
            refine wpList_append_nilR rfl (.tmp 66) (.tmp 69) rfl _ _ _ 0 (Nat.le_refl 0) rfl rfl ?_
            have HO70 := HE
            go_wp2_with fail
            refine ⟨fun _ => ⟨⟨_, HBWb.out⟩, rfl⟩, ?_⟩
            refine wpR_at true (by kernel_rfl) (by kernel_rfl) ?_
            simp only [opsAt, List.map_cons, List.map_nil, Array.getD_eq_getD_getElem?, List.getElem?_toArray, List.getElem?_cons_zero, List.getElem?_cons_succ, Option.getD_some]
            refine wpList_append_own _ rfl (.tmp 70) (.tmp 72) 49 rfl wr.heap.size 26 i0 (.agg (rlineCells ⟨#[]⟩ zeroLine)) 39 128 Tryz.underlying49 hi hz0 hz1 hz2 (rlineCells_size _ _) (by decide) _ _ _ rfl HO70.out ⟨b72, 0, none⟩ 1 1 (rList ⟨s, ⟨p, v0⟩⟩) rfl (rList_length _) ?e1 HONE.out ?e3 ?e4 ?e5 ?_
            case e1 =>
              intro j u hj
              rw [Addr.add_lit, Nat.zero_add, C72.out j]
              rw [HG.out, rList_cells ⟨s, ⟨p, v0⟩⟩]
              simpa using hj
            case e3 => unfold maxLen; omega
            case e4 => omega
            case e5 => exact HBWb.out.size
            intro v73 w3 hown3 hgr3 _
            have HB3 := Lib.hid (HBWb.out.grown hgr3 HBWb.out.size (fun k e => (HO70.out.lt k e).1) : Below wr.heap.size wr w3)
            have HO73 := Lib.hid hown3
            clear hgr3 hown3
            go_wp2_with fail
            refine ⟨fun _ => ⟨⟨_, HB3.out⟩, rfl⟩, wpR_list [11, 12, 13] _ _ (by kernel_rfl) ?_⟩
            simp only [opsAt, List.map_cons, List.map_nil, Array.getD_eq_getD_getElem?, List.getElem?_toArray, List.getElem?_cons_zero, List.getElem?_cons_succ, Option.getD_some]
            obtain ⟨g73, c73, hv73, hc73⟩ : ∃ g c, v73 = .slice g 1 c ∧ 1 ≤ c := by
              rcases HO73.out.2 with ⟨_, h0⟩ | ⟨g', cap', _, e, _, _, hle, _⟩
              · omega
              · exact ⟨_, _, e, by omega⟩
            subst hv73
            refine wpList_append_nilR rfl (.tmp 73) (.tmp 76) rfl _ _ _ 0 hc73 rfl rfl ?_
            go_wp2
            refine NoPanic.normal ?_
            go_wp2
            go_ret2
            have hBf : Below w.heap.size w w3 := HBr.out.trans (HB3.out.mono HBr.out.size)
            refine ⟨hBf, .inr ⟨HERR.out, _, rfl, ⟨?_, HONES.out, HNAMES.out, HFEW.out⟩⟩⟩
            have := ownsRow_base HO73.out HBr.out.size
            rw [HADD.out, flatR_one]
            exact this
      · cases hve
        have HC := Lib.hid hcell
        clear hcell HHD
        go_wp2
        go_loopw [8, 9] (fun a i wr => ∃ k m : Nat, k ≤ rs.length ∧ m ≤ k ∧ i = .int .i64 k ∧ a = .int .i64 m ∧ Hid (m = atR (rs.take k) ⟨s, ⟨p, v0⟩⟩ 0 0) ∧ Hid (clashR (rs.take k) s p = false) ∧ Hid (Below w2.heap.size w2 wr)) (fun _ i _ => rs.length - (intOf i).toNat)
        case atStart => exact ⟨0, 0, by omega, by omega, rfl, rfl, Lib.hid rfl, Lib.hid rfl, Lib.hid (Below.refl _ _)⟩
        case round =>
          obtain ⟨k, m, hk, hmk, rfl, rfl, HM, HN, HBr⟩ := hrel
          have HRr : Hid (RVar wr w.heap.size s g) := Lib.hid ((HBr.out.block _ HR2.out.lt).trans HR2.out)
          have hgb2 : gb < w2.heap.size := Nat.lt_of_lt_of_le hgb HB2.out.size
          have hcw : ∀ j u, (flatR rs)[j]? = some u → wr.cell? ⟨gb, j, none⟩ = some u := fun j u hu => (HBr.out.cell (p := ⟨gb, j, none⟩) hgb2).trans ((HB2.out.cell (p := ⟨gb, j, none⟩) hgb).trans (HC.out j u hu))
          by_cases hltk : k < rs.length
          · have hltz : (k : Int) < (rs.length : Int) := by omega
            have c0 : wr.cell? ⟨gb, k * 39, none⟩ = some (.string rs[k].s) := rAt_cell hcw hltk (i := 0) rfl
            have c1 : wr.cell? ⟨gb, k * 39 + 1, none⟩ = some (.int .i64 rs[k].m.p.number) := rAt_cell hcw hltk (i := 1) rfl
            obtain ⟨c2, c3⟩ := rAt_id hcw hltk
            have HRD := Lib.hid (rAt_rd hcw hltk)
            have HAT : Hid (rs[k].s = s ∧ (rs[k].m.p.number = p.number ∨ rs[k].m.p.id = p.id) → clashR rs s p = true) := Lib.hid fun h => clash_at hltk h
            have HN2 : Hid (¬ (rs[k].s = s ∧ (rs[k].m.p.number = p.number ∨ rs[k].m.p.id = p.id)) → clashR (rs.take (k + 1)) s p = false) := Lib.hid fun h => clash_take hltk HN.out h
            have HM2 : Hid ((beforeB rs[k] ⟨s, ⟨p, v0⟩⟩ = true → k + 1 = atR (rs.take (k + 1)) ⟨s, ⟨p, v0⟩⟩ 0 0) ∧ (beforeB rs[k] ⟨s, ⟨p, v0⟩⟩ = false → m = atR (rs.take (k + 1)) ⟨s, ⟨p, v0⟩⟩ 0 0)) := Lib.hid (by
              rw [List.take_succ_eq_append_getElem hltk, atR_snoc]
              refine ⟨fun h => ?_, fun h => ?_⟩
              · rw [if_pos h, List.length_take]; omega
              · rw [h, if_neg (by simp)]; exact HM.out)
            have hsz := HX.out.names rs[k] (List.getElem_mem hltk)
            have e0 := (HRr.out.cell 0).trans (rc0 s g)
            have e1 := (HRr.out.cell 1).trans (rc1 s g)
            obtain ⟨e2, e3⟩ := rvar_id HRr.out
            rw [hgn] at e1
            rw [hgi] at e3
            generalize rs[k] = r0 at c0 c1 c2 c3 HRD HAT HN2 HM2 hsz
            have hq0 : ∀ n, (wr.drewN n).cell? ⟨gb, k * 39, none⟩ = some (.string r0.s) := fun n => by rw [World.cell?_drewN]; exact c0
            have hq1 : ∀ n, (wr.drewN n).cell? ⟨gb, k * 39 + 1, none⟩ = some (.int .i64 r0.m.p.number) := fun n => by rw [World.cell?_drewN]; exact c1
            have hq2 : ∀ n, okCells (wr.drewN n) ⟨gb, k * 39 + 2, none⟩ 32 = true := fun n => by rw [okCells_drewN]; exact c2
            have hq3 : ∀ n, rdCells (wr.drewN n) ⟨gb, k * 39 + 2, none⟩ 32 = (encId r0.m.p.id).toArray := fun n => by rw [rdCells_drewN]; exact c3
            have hq4 : ∀ n, (wr.drewN n).cell? ⟨w.heap.size, 0, none⟩ = some (.string s) := fun n => by rw [World.cell?_drewN]; exact e0
            have hq5 : ∀ n, (wr.drewN n).cell? ⟨w.heap.size, 1, none⟩ = some (.int .i64 p.number) := fun n => by rw [World.cell?_drewN]; exact e1
            have hq6 : ∀ n, okCells (wr.drewN n) ⟨w.heap.size, 2, none⟩ 32 = true := fun n => by rw [okCells_drewN]; exact e2
            have hq7 : ∀ n, rdCells (wr.drewN n) ⟨w.heap.size, 2, none⟩ 32 = (encId p.id).toArray := fun n => by rw [rdCells_drewN]; exact e3
            clear c0 c1 c2 c3 e0 e1 e2 e3 hcw
            by_cases ht : r0.s = s
            · have hte : (r0.s.toList == s.toList) = true := by rw [str_eq_iff, decide_eq_true ht]
              by_cases hn : r0.m.p.number = p.number
              · have hnb : (r0.m.p.number == p.number) = true := by rw [beq_iff_eq]; exact hn
                have HT := Lib.hid ht
                have HNE := Lib.hid hn
                clear ht hn
                have HC7 : Hid (addErrR rs s p = 7) := Lib.hid (by rw [HEC.out, HAT.out (⟨HT.out, .inl HNE.out⟩)]; rfl)
                go_wp2_with fail
                go_quiet (fail)
                go_wp2
                go_ret2
                exact ⟨below_drewN' (HB2.out.trans (HBr.out.mono HB2.out.size)) _, .inl ⟨by rw [HC7.out]; decide, by rw [HC7.out]; rfl⟩⟩
              · have hnb : (r0.m.p.number == p.number) = false := by rw [beq_eq_false_iff_ne]; exact hn
                by_cases hx : r0.m.p.id = p.id
                · have hxd : decide (r0.m.p.id = p.id) = true := decide_eq_true hx
                  have HT := Lib.hid ht
                  have HXE := Lib.hid hx
                  clear ht hx hn
                  have HC7 : Hid (addErrR rs s p = 7) := Lib.hid (by rw [HEC.out, HAT.out (⟨HT.out, .inr HXE.out⟩)]; rfl)
                  go_wp2_with fail
                  go_quiet (fail)
                  go_wp2
                  go_ret2
                  exact ⟨below_drewN' (HB2.out.trans (HBr.out.mono HB2.out.size)) _, .inl ⟨by rw [HC7.out]; decide, by rw [HC7.out]; rfl⟩⟩
                · have hxd : decide (r0.m.p.id = p.id) = false := decide_eq_false hx
                  have HN1 := Lib.hid (HN2.out fun h => h.2.elim hn hx)
                  clear ht hx hn HN2
                  go_wp2_with fail
                  go_quiet (fail)
                  clear hq0 hq1 hq2 hq3 hq4 hq5 hq6 hq7 HAT
                  have hbW : Below w2.heap.size w2 (wr.drewN nq) := below_drewN' HBr.out nq
                  have hfW : okCells (wr.drewN nq) ⟨gb, k * 39, none⟩ 39 = true ∧ rdCells (wr.drewN nq) ⟨gb, k * 39, none⟩ 39 = rlineCells r0.s r0.m.g := ⟨by rw [okCells_drewN]; exact HRD.out.1, by rw [rdCells_drewN]; exact HRD.out.2⟩
                  have hrW : RVar (wr.drewN nq) w.heap.size s g := HRr.out
                  generalize wr.drewN nq = W2 at hbW hfW hrW ⊢
                  have z1 : ∀ z : Later W2, okCells z.1 ⟨gb, k * 39, none⟩ 39 = true := fun z => Later.ok hfW.1 z
                  have z2 : ∀ z : Later W2, rdCells z.1 ⟨gb, k * 39, none⟩ 39 = rlineCells r0.s r0.m.g := fun z => (Later.rd hfW.1 z).trans hfW.2
                  have z3 : ∀ z : Later W2, okCells z.1 ⟨w.heap.size, 0, none⟩ 39 = true := fun z => (RVar.rd ((z.2.block _ hrW.lt).trans hrW)).1
                  have z4 : ∀ z : Later W2, rdCells z.1 ⟨w.heap.size, 0, none⟩ 39 = rlineCells s g := fun z => (RVar.rd ((z.2.block _ hrW.lt).trans hrW)).2
                  have HBW := Lib.hid hbW
                  clear hbW hfW hrW HRr HBr HRD
                  go_wp2_with fail
                  refine wp_region_mix0 [0, 1, 2, 3, 4] [5] (fun w' => ∃ z : Later W2, w' = z.1) (by kernel_rfl) (by kernel_rfl) (by kernel_rfl) ⟨⟨_, (Below.refl _ _).drew⟩, rfl⟩ ?_
                  simp only [opsAt, List.map_cons, List.map_nil, Array.getD_eq_getD_getElem?, List.getElem?_toArray, List.getElem?_cons_zero, List.getElem?_cons_succ, Option.getD_some]
                  repeat (go_big_quiet_step (fail))
                  refine wpQuiet_nil ?_
                  clear z1 z2 z3 z4
                  refine wpR_list [5] _ _ (by kernel_rfl) ?_
                  simp only [opsAt, List.map_cons, List.map_nil, Array.getD_eq_getD_getElem?, List.getElem?_toArray, List.getElem?_cons_zero, List.getElem?_cons_succ, Option.getD_some]
                  go_wp2_with fail
                  refine (HBF.out r0 W2.drew hsz).mono ?_
                  rintro r w3 ⟨rfl, hb3⟩
                  have HB3 : Hid (Below w2.heap.size w2 w3) := Lib.hid ((HBW.out.drew).trans (hb3.mono (by exact HBW.out.size)))
                  clear hb3 HBW
                  cases hbb : beforeB r0 ⟨s, ⟨p, v0⟩⟩ with
                  | true =>
                    have HM1 := Lib.hid (HM2.out.1 hbb)
                    go_wp2
                    refine NoPanic.normal ?_
                    go_wp2
                    go_roundw
                    case rel => exact ⟨k + 1, k + 1, by omega, by omega, by go_num, by go_num, HM1, HN1, HB3⟩
                    case measure => simp [intOf]; omega
                  | false =>
                    have HM1 := Lib.hid (HM2.out.2 hbb)
                    go_wp2
                    refine NoPanic.normal ?_
                    go_wp2
                    go_roundw
                    case rel => exact ⟨k + 1, m, by omega, by omega, by go_num, rfl, HM1, HN1, HB3⟩
                    case measure => simp [intOf]; omega
            · have hte : (r0.s.toList == s.toList) = false := by rw [str_eq_iff, decide_eq_false ht]
              have HN1 := Lib.hid (HN2.out fun h => ht h.1)
              clear ht HN2
              go_wp2_with fail
              go_quiet (fail)
              clear hq0 hq1 hq2 hq3 hq4 hq5 hq6 hq7 HAT
              have hbW : Below w2.heap.size w2 (wr.drewN nq) := below_drewN' HBr.out nq
              have hfW : okCells (wr.drewN nq) ⟨gb, k * 39, none⟩ 39 = true ∧ rdCells (wr.drewN nq) ⟨gb, k * 39, none⟩ 39 = rlineCells r0.s r0.m.g := ⟨by rw [okCells_drewN]; exact HRD.out.1, by rw [rdCells_drewN]; exact HRD.out.2⟩
              have hrW : RVar (wr.drewN nq) w.heap.size s g := HRr.out
              generalize wr.drewN nq = W2 at hbW hfW hrW ⊢
              have z1 : ∀ z : Later W2, okCells z.1 ⟨gb, k * 39, none⟩ 39 = true := fun z => Later.ok hfW.1 z
              have z2 : ∀ z : Later W2, rdCells z.1 ⟨gb, k * 39, none⟩ 39 = rlineCells r0.s r0.m.g := fun z => (Later.rd hfW.1 z).trans hfW.2
              have z3 : ∀ z : Later W2, okCells z.1 ⟨w.heap.size, 0, none⟩ 39 = true := fun z => (RVar.rd ((z.2.block _ hrW.lt).trans hrW)).1
              have z4 : ∀ z : Later W2, rdCells z.1 ⟨w.heap.size, 0, none⟩ 39 = rlineCells s g := fun z => (RVar.rd ((z.2.block _ hrW.lt).trans hrW)).2
              have HBW := Lib.hid hbW
              clear hbW hfW hrW HRr HBr HRD
              go_wp2_with fail
              refine wp_region_mix0 [0, 1, 2, 3, 4] [5] (fun w' => ∃ z : Later W2, w' = z.1) (by kernel_rfl) (by kernel_rfl) (by kernel_rfl) ⟨⟨_, (Below.refl _ _).drew⟩, rfl⟩ ?_
              simp only [opsAt, List.map_cons, List.map_nil, Array.getD_eq_getD_getElem?, List.getElem?_toArray, List.getElem?_cons_zero, List.getElem?_cons_succ, Option.getD_some]
              repeat (go_big_quiet_step (fail))
              refine wpQuiet_nil ?_
              clear z1 z2 z3 z4
              refine wpR_list [5] _ _ (by kernel_rfl) ?_
              simp only [opsAt, List.map_cons, List.map_nil, Array.getD_eq_getD_getElem?, List.getElem?_toArray, List.getElem?_cons_zero, List.getElem?_cons_succ, Option.getD_some]
              go_wp2_with fail
              refine (HBF.out r0 W2.drew hsz).mono ?_
              rintro r w3 ⟨rfl, hb3⟩
              have HB3 : Hid (Below w2.heap.size w2 w3) := Lib.hid ((HBW.out.drew).trans (hb3.mono (by exact HBW.out.size)))
              clear hb3 HBW
              cases hbb : beforeB r0 ⟨s, ⟨p, v0⟩⟩ with
              | true =>
                have HM1 := Lib.hid (HM2.out.1 hbb)
                go_wp2
                refine NoPanic.normal ?_
                go_wp2
                go_roundw
                case rel => exact ⟨k + 1, k + 1, by omega, by omega, by go_num, by go_num, HM1, HN1, HB3⟩
                case measure => simp [intOf]; omega
              | false =>
                have HM1 := Lib.hid (HM2.out.2 hbb)
                go_wp2
                refine NoPanic.normal ?_
                go_wp2
                go_roundw
                case rel => exact ⟨k + 1, m, by omega, by omega, by go_num, rfl, HM1, HN1, HB3⟩
                case measure => simp [intOf]; omega
          · have HE : Hid (rs.take k = rs) := Lib.hid (List.take_of_length_le (by omega))
            obtain ⟨at', hat⟩ : ∃ a, a = m := ⟨_, rfl⟩
            have hale : at' ≤ rs.length := by omega
            have HAT : Hid (at' = atR rs ⟨s, ⟨p, v0⟩⟩ 0 0) := Lib.hid (by rw [hat, HM.out, HE.out])
            have HERR : Hid (addErrR rs s p = 0) := Lib.hid (by have := HN.out; rw [HE.out] at this; rw [HEC.out, this]; rfl)
            have HADD : Hid (addR rs ⟨s, ⟨p, v0⟩⟩ = rs.take at' ++ [⟨s, ⟨p, v0⟩⟩] ++ rs.drop at') := Lib.hid (by unfold addR; rw [← HAT.out, List.append_assoc]; rfl)
            have HLEN : Hid ((rs.take at' ++ [(⟨s, ⟨p, v0⟩⟩ : MR)] ++ rs.drop at').length = at' + 1 + (rs.length - at')) := Lib.hid (by
              rw [List.length_append, List.length_append, List.length_take, List.length_drop, List.length_singleton]; omega)
            rw [← hat]
            have hmz : (at' : Int) ≤ (rs.length : Int) := by omega
            clear hat HM HN HEC hmk HE
            have hgbr : gb < wr.heap.size := Nat.lt_of_lt_of_le hgb2 HBr.out.size
            obtain ⟨ad, hadb, had, hdc⟩ : ∃ ad : Addr, (∀ i, (ad.add i).block < wr.heap.size) ∧ (if vc = at' then some (⟨gb, 0, none⟩ : Addr) else some ⟨gb, at' * 39, none⟩) = some ad ∧ ∀ i u, (flatR (rs.drop at'))[i]? = some u → wr.cell? (ad.add i) = some u := by
              by_cases hc : vc = at'
              · refine ⟨⟨gb, 0, none⟩, fun i => by rw [Addr.add_lit]; exact hgbr, if_pos hc, fun i u hu => ?_⟩
                rw [List.drop_of_length_le (by omega)] at hu
                cases hu
              · refine ⟨⟨gb, at' * 39, none⟩, fun i => by rw [Addr.add_lit]; exact hgbr, if_neg hc, fun i u hu => ?_⟩
                rw [Addr.add_lit]
                refine hcw _ _ ?_
                rw [← flatR_drop, List.getElem?_drop] at hu
                exact hu
            have HDC := Lib.hid hdc
            have HADB := Lib.hid hadb
            have HC2 := HC
            have HC : Hid (∀ j u, (flatR rs)[j]? = some u → wr.cell? ⟨gb, j, none⟩ = some u) := Lib.hid hcw
            clear hdc hadb HC2 hcw
            have hl1 : ((flatR rs).take (at' * 39)).length = at' * 39 := by rw [List.length_take, flatR_length]; omega
            have hl2 : (flatR (rs.drop at')).length = (rs.length - at') * 39 := by rw [flatR_length, List.length_drop]
            have HO1 : Hid (∀ u ∈ (flatR rs).take (at' * 39), u.oneCell' = true) := Lib.hid fun u hu => flatR_cells HX.out.one u (List.mem_of_mem_take hu)
            have HO2 : Hid (∀ u ∈ flatR (rs.drop at'), u.oneCell' = true) := Lib.hid (flatR_cells fun r hr => HX.out.one r (List.mem_of_mem_drop hr))
            have HBw2 := HB2
            have HBrr := HBr
            have HBr : Hid (Below w.heap.size w wr) := Lib.hid (HBw2.out.trans (HBrr.out.mono HBw2.out.size))
            have z1 : ∀ z : Later wr, okCells z.1 ⟨w.heap.size, 0, none⟩ 39 = true := fun z => (RVar.rd ((z.2.block _ HRr.out.lt).trans HRr.out)).1
            have z2 : ∀ z : Later wr, rdCells z.1 ⟨w.heap.size, 0, none⟩ 39 = rlineCells s g := fun z => (RVar.rd ((z.2.block _ HRr.out.lt).trans HRr.out)).2
            clear HBw2 HBrr
            go_wp2
            refine wp_region_fork [1, 2, 3, 5, 8, 9, 10] [0, 4, 6, 7, 11, 12, 13] 7 (fun w' => ∃ z : Later wr, w' = z.1) (by kernel_rfl) (by kernel_rfl) rfl ⟨⟨_, (Below.refl _ _).drew⟩, rfl⟩ ?_
            simp only [opsAt, List.map_cons, List.map_nil, Array.getD_eq_getD_getElem?, List.getElem?_toArray, List.getElem?_cons_zero, List.getElem?_cons_succ, Option.getD_some]
            repeat (go_big_quiet_step (fail))
            refine wpQuiet_nil ?_
            clear z1 z2
            try rw [had]
            clear had
            generalize hWd : wr.drew = Wd
            have HBWd : Hid (Below wr.heap.size wr Wd) := Lib.hid (by rw [← hWd]; exact (Below.refl _ _).drew)
            clear hWd
            refine wpF_two (r := 0) (s := 6) (by kernel_rfl) ?_ ?_
            · refine wpF_at true (by kernel_rfl) (by kernel_rfl) (rest := [4, 6, 7, 11, 12, 13]) rfl ?_
              simp only [opsAt, List.map_cons, List.map_nil, Array.getD_eq_getD_getElem?, List.getElem?_toArray, List.getElem?_cons_zero, Option.getD_some]
              go_wp2_with fail
              have hE := ownsRow_base (own_empty Wd 26 39) HBWd.out.size
              have hBn : Below wr.heap.size wr (Wd.alloc (.cells #[] 26)) := HBWd.out.alloc HBWd.out.size _
              have hG0 : Below Wd.heap.size Wd (Wd.alloc (.cells #[] 26)) := (Below.refl _ _).alloc (Nat.le_refl _) _
              have hs0 : (Wd.alloc (.cells #[] 26)).heap.size = Wd.heap.size + 1 := by simp
              have hb66 : wr.heap.size ≤ Wd.heap.size := HBWd.out.size
              generalize Wd.alloc (.cells #[] 26) = Wa at hE hBn hG0 hs0 ⊢
              have HS0 := Lib.hid hs0
              clear hs0
              have HBWa := Lib.hid hBn
              have HE := Lib.hid hE
              clear hE hBn hG0
              refine ⟨fun _ => ⟨⟨_, HBWa.out⟩, rfl⟩, ?_⟩
              refine wpF_two (r := 4) (s := 6) (by kernel_rfl) ?_ ?_
              · refine wpF_at true (by kernel_rfl) (by kernel_rfl) (rest := [6, 7, 11, 12, 13]) rfl ?_
                simp only [opsAt, List.map_cons, List.map_nil, Array.getD_eq_getD_getElem?, List.getElem?_toArray, List.getElem?_cons_zero, List.getElem?_cons_succ, Option.getD_some]
                refine wpList_append_own _ rfl (.tmp 66) (.tmp 69) 49 rfl wr.heap.size 26 i0 (.agg (rlineCells ⟨#[]⟩ zeroLine)) 39 128 Tryz.underlying49 hi hz0 hz1 hz2 (rlineCells_size _ _) (by decide) _ _ _ rfl HE.out ⟨gb, 0, none⟩ at' vc ((flatR rs).take (at' * 39)) rfl hl1 ?c1 HO1.out ?c3 ?c4 ?c5 ?_
                case c1 =>
                  intro i u hu
                  rw [Addr.add_lit, Nat.zero_add]
                  exact (HBWa.out.cell (p := ⟨gb, i, none⟩) hgbr).trans (HC.out i u (by rw [List.getElem?_take] at hu; split at hu; exact hu; cases hu))
                case c3 => unfold maxLen; omega
                case c4 => omega
                case c5 => exact HBWa.out.size
                intro v70 Wb hown1 hgr1 _
                have HBWb := Lib.hid (HBWa.out.grown hgr1 HBWa.out.size (fun k e => by have e' : Wd.heap.size = k := Option.some.inj e; omega) : Below wr.heap.size wr Wb)
                rw [Nat.zero_add, List.nil_append] at hown1
                have HO70 := Lib.hid hown1
                clear hgr1 hown1
                go_wp2_with fail
                refine ⟨fun _ => ⟨⟨_, HBWb.out⟩, rfl⟩, ?_⟩
                refine wpF_end [6, 7, 11, 12, 13] rfl rfl (by kernel_rfl) (by kernel_rfl) ?_
                refine wpR_at true (by kernel_rfl) (by kernel_rfl) ?_
                simp only [opsAt, List.map_cons, List.map_nil, Array.getD_eq_getD_getElem?, List.getElem?_toArray, List.getElem?_cons_zero, List.getElem?_cons_succ, Option.getD_some]
                go_wp2_with fail
                have c72 : ∀ j, (Wb.alloc (.cells (rlineCells s g) 26)).cell? ⟨Wb.heap.size, j, none⟩ = (rlineCells s g)[j]? := fun j => cells_new _ _ _ j
                have hBn : Below wr.heap.size wr (Wb.alloc (.cells (rlineCells s g) 26)) := HBWb.out.alloc HBWb.out.size _
                have hs6 : (Wb.alloc (.cells (rlineCells s g) 26)).heap.size = Wb.heap.size + 1 := by simp
                have hown6 := HO70.out.alloc (.cells (rlineCells s g) 26)
                obtain ⟨b72, hb72⟩ : ∃ b, b = Wb.heap.size := ⟨_, rfl⟩
                rw [← hb72] at c72 ⊢
                generalize Wb.alloc (.cells (rlineCells s g) 26) = Wc at c72 hBn hs6 hown6 ⊢
                have HBWc := Lib.hid hBn
                have C72 := Lib.hid c72
                have l72 : b72 < Wc.heap.size := by omega
                have HS6 := Lib.hid hs6
                have HB72 := Lib.hid hb72
                clear hs6 hb72
                have HO70 := Lib.hid hown6
                clear c72 hBn hown6
                refine ⟨fun _ => ⟨⟨_, HBWc.out⟩, rfl⟩, ?_⟩
                refine wpR_at true (by kernel_rfl) (by kernel_rfl) ?_
                simp only [opsAt, List.map_cons, List.map_nil, Array.getD_eq_getD_getElem?, List.getElem?_toArray, List.getElem?_cons_zero, List.getElem?_cons_succ, Option.getD_some]
                refine wpList_append_own _ rfl (.tmp 70) (.tmp 72) 49 rfl wr.heap.size 26 i0 (.agg (rlineCells ⟨#[]⟩ zeroLine)) 39 128 Tryz.underlying49 hi hz0 hz1 hz2 (rlineCells_size _ _) (by decide) _ _ _ rfl HO70.out ⟨b72, 0, none⟩ 1 1 (rList ⟨s, ⟨p, v0⟩⟩) rfl (rList_length _) ?e1 HONE.out ?e3 ?e4 ?e5 ?_
                case e1 =>
                  intro j u hj
                  rw [Addr.add_lit, Nat.zero_add, C72.out j]
                  rw [HG.out, rList_cells ⟨s, ⟨p, v0⟩⟩]
                  simpa using hj
                case e3 => unfold maxLen; omega
                case e4 => omega
                case e5 => exact HBWc.out.size
                intro v73 w3 hown3 hgr3 _
                have HB3 := Lib.hid (HBWc.out.grown hgr3 HBWc.out.size (fun k e => (HO70.out.lt k e).1) : Below wr.heap.size wr w3)
                have HO73 := Lib.hid hown3
                clear hgr3 hown3
                go_wp2_with fail
                refine ⟨fun _ => ⟨⟨_, HB3.out⟩, rfl⟩, wpR_list [11, 12, 13] _ _ (by kernel_rfl) ?_⟩
                simp only [opsAt, List.map_cons, List.map_nil, Array.getD_eq_getD_getElem?, List.getElem?_toArray, List.getElem?_cons_zero, List.getElem?_cons_succ, Option.getD_some]
                refine wpList_append_own _ rfl (.tmp 73) (.tmp 76) 49 rfl wr.heap.size 26 i0 (.agg (rlineCells ⟨#[]⟩ zeroLine)) 39 128 Tryz.underlying49 hi hz0 hz1 hz2 (rlineCells_size _ _) (by decide) _ _ _ rfl HO73.out ad (rs.length - at') (vc - at') (flatR (rs.drop at')) rfl hl2 ?d1 HO2.out ?d3 ?d4 ?d5 ?_
                case d1 => exact fun i u hu => (HB3.out.cell (p := ad.add i) (HADB.out i)).trans (HDC.out i u hu)
                case d3 => unfold maxLen; omega
                case d4 => omega
                case d5 => exact HB3.out.size
                intro v77 w4 hown4 hgr4 _
                have HB4 := Lib.hid (HB3.out.grown hgr4 HB3.out.size (fun k e => (HO73.out.lt k e).1) : Below wr.heap.size wr w4)
                have HO77 := Lib.hid hown4
                clear hgr4 hown4
                go_wp2
                refine NoPanic.normal ?_
                go_wp2
                go_ret2
                have hBf : Below w.heap.size w w4 := HBr.out.trans (HB4.out.mono HBr.out.size)
                refine ⟨hBf, .inr ⟨HERR.out, _, rfl, ⟨?_, HONES.out, HNAMES.out, HFEW.out⟩⟩⟩
                have := ownsRow_base HO77.out HBr.out.size
                rw [HADD.out, HLEN.out, flatR_append, flatR_append, flatR_one, ← flatR_take]
                exact this
              · refine wpF_at true (by kernel_rfl) (by kernel_rfl) (rest := [4, 7, 11, 12, 13]) rfl ?_
                simp only [opsAt, List.map_cons, List.map_nil, Array.getD_eq_getD_getElem?, List.getElem?_toArray, List.getElem?_cons_zero, List.getElem?_cons_succ, Option.getD_some]
                go_wp2_with fail
                have c72 : ∀ j, (Wa.alloc (.cells (rlineCells s g) 26)).cell? ⟨Wa.heap.size, j, none⟩ = (rlineCells s g)[j]? := fun j => cells_new _ _ _ j
                have hBn : Below wr.heap.size wr (Wa.alloc (.cells (rlineCells s g) 26)) := HBWa.out.alloc HBWa.out.size _
                have hs6 : (Wa.alloc (.cells (rlineCells s g) 26)).heap.size = Wa.heap.size + 1 := by simp
                have hown6 := HE.out.alloc (.cells (rlineCells s g) 26)
                obtain ⟨b72, hb72⟩ : ∃ b, b = Wa.heap.size := ⟨_, rfl⟩
                rw [← hb72] at c72 ⊢
                generalize Wa.alloc (.cells (rlineCells s g) 26) = Wb at c72 hBn hs6 hown6 ⊢
                have HBWb := Lib.hid hBn
                have C72 := Lib.hid c72
                have l72 : b72 < Wb.heap.size := by omega
                have HS6 := Lib.hid hs6
                have HB72 := Lib.hid hb72
                clear hs6 hb72
                have HE := Lib.hid hown6
                clear c72 hBn hown6
                refine ⟨fun _ => ⟨⟨_, HBWb.out⟩, rfl⟩, ?_⟩
                refine wpF_end [4, 7, 11, 12, 13] rfl rfl (by kernel_rfl) (by kernel_rfl) ?_
                refine wpR_at true (by kernel_rfl) (by kernel_rfl) ?_
                simp only [opsAt, List.map_cons, List.map_nil, Array.getD_eq_getD_getElem?, List.getElem?_toArray, List.getElem?_cons_zero, List.getElem?_cons_succ, Option.getD_some]
                refine wpList_append_own _ rfl (.tmp 66) (.tmp 69) 49 rfl wr.heap.size 26 i0 (.agg (rlineCells ⟨#[]⟩ zeroLine)) 39 128 Tryz.underlying49 hi hz0 hz1 hz2 (rlineCells_size _ _) (by decide) _ _ _ rfl HE.out ⟨gb, 0, none⟩ at' vc ((flatR rs).take (at' * 39)) rfl hl1 ?c1 HO1.out ?c3 ?c4 ?c5 ?_
                case c1 =>
                  intro i u hu
                  rw [Addr.add_lit, Nat.zero_add]
                  exact (HBWb.out.cell (p := ⟨gb, i, none⟩) hgbr).trans (HC.out i u (by rw [List.getElem?_take] at hu; split at hu; exact hu; cases hu))
                case c3 => unfold maxLen; omega
                case c4 => omega
                case c5 => exact HBWb.out.size
                intro v70 Wc hown1 hgr1 _
                have HBWc := Lib.hid (HBWb.out.grown hgr1 HBWb.out.size (fun k e => by have e' : Wd.heap.size = k := Option.some.inj e; omega) : Below wr.heap.size wr Wc)
                rw [Nat.zero_add, List.nil_append] at hown1
                have HO70 := Lib.hid hown1
                have C72 : Hid (∀ j, Wc.cell? ⟨b72, j, none⟩ = (rlineCells s g)[j]?) := Lib.hid fun j => (cell_of_same (a := ⟨b72, j, none⟩) (hgr1.block b72 l72 (by intro e; have e' : Wd.heap.size = b72 := (Option.some.inj e).symm; have := HB72.out; have := HS0.out; omega))).trans (C72.out j)
                replace l72 : b72 < Wc.heap.size := Nat.lt_of_lt_of_le l72 hgr1.size
                clear hgr1 hown1
                go_wp2_with fail
                refine ⟨fun _ => ⟨⟨_, HBWc.out⟩, rfl⟩, ?_⟩
                refine wpR_at true (by kernel_rfl) (by kernel_rfl) ?_
                simp only [opsAt, List.map_cons, List.map_nil, Array.getD_eq_getD_getElem?, List.getElem?_toArray, List.getElem?_cons_zero, List.getElem?_cons_succ, Option.getD_some]
                refine wpList_append_own _ rfl (.tmp 70) (.tmp 72) 49 rfl wr.heap.size 26 i0 (.agg (rlineCells ⟨#[]⟩ zeroLine)) 39 128 Tryz.underlying49 hi hz0 hz1 hz2 (rlineCells_size _ _) (by decide) _ _ _ rfl HO70.out ⟨b72, 0, none⟩ 1 1 (rList ⟨s, ⟨p, v0⟩⟩) rfl (rList_length _) ?e1 HONE.out ?e3 ?e4 ?e5 ?_
                case e1 =>
                  intro j u hj
                  rw [Addr.add_lit, Nat.zero_add, C72.out j]
                  rw [HG.out, rList_cells ⟨s, ⟨p, v0⟩⟩]
                  simpa using hj
                case e3 => unfold maxLen; omega
                case e4 => omega
                case e5 => exact HBWc.out.size
                intro v73 w3 hown3 hgr3 _
                have HB3 := Lib.hid (HBWc.out.grown hgr3 HBWc.out.size (fun k e => (HO70.out.lt k e).1) : Below wr.heap.size wr w3)
                have HO73 := Lib.hid hown3
                clear hgr3 hown3
                go_wp2_with fail
                refine ⟨fun _ => ⟨⟨_, HB3.out⟩, rfl⟩, wpR_list [11, 12, 13] _ _ (by kernel_rfl) ?_⟩
                simp only [opsAt, List.map_cons, List.map_nil, Array.getD_eq_getD_getElem?, List.getElem?_toArray, List.getElem?_cons_zero, List.getElem?_cons_succ, Option.getD_some]
                refine wpList_append_own _ rfl (.tmp 73) (.tmp 76) 49 rfl wr.heap.size 26 i0 (.agg (rlineCells ⟨#[]⟩ zeroLine)) 39 128 Tryz.underlying49 hi hz0 hz1 hz2 (rlineCells_size _ _) (by decide) _ _ _ rfl HO73.out ad (rs.length - at') (vc - at') (flatR (rs.drop at')) rfl hl2 ?d1 HO2.out ?d3 ?d4 ?d5 ?_
                case d1 => exact fun i u hu => (HB3.out.cell (p := ad.add i) (HADB.out i)).trans (HDC.out i u hu)
                case d3 => unfold maxLen; omega
                case d4 => omega
                case d5 => exact HB3.out.size
                intro v77 w4 hown4 hgr4 _
                have HB4 := Lib.hid (HB3.out.grown hgr4 HB3.out.size (fun k e => (HO73.out.lt k e).1) : Below wr.heap.size wr w4)
                have HO77 := Lib.hid hown4
                clear hgr4 hown4
                go_wp2
                refine NoPanic.normal ?_
                go_wp2
                go_ret2
                have hBf : Below w.heap.size w w4 := HBr.out.trans (HB4.out.mono HBr.out.size)
                refine ⟨hBf, .inr ⟨HERR.out, _, rfl, ⟨?_, HONES.out, HNAMES.out, HFEW.out⟩⟩⟩
                have := ownsRow_base HO77.out HBr.out.size
                rw [HADD.out, HLEN.out, flatR_append, flatR_append, flatR_one, ← flatR_take]
                exact this
            · refine wpF_at true (by kernel_rfl) (by kernel_rfl) (rest := [0, 4, 7, 11, 12, 13]) rfl ?_
              simp only [opsAt, List.map_cons, List.map_nil, Array.getD_eq_getD_getElem?, List.getElem?_toArray, List.getElem?_cons_zero, List.getElem?_cons_succ, Option.getD_some]
              go_wp2_with fail
              have c72 : ∀ j, (Wd.alloc (.cells (rlineCells s g) 26)).cell? ⟨Wd.heap.size, j, none⟩ = (rlineCells s g)[j]? := fun j => cells_new _ _ _ j
              have hBn : Below wr.heap.size wr (Wd.alloc (.cells (rlineCells s g) 26)) := HBWd.out.alloc HBWd.out.size _
              have hs6 : (Wd.alloc (.cells (rlineCells s g) 26)).heap.size = Wd.heap.size + 1 := by simp
              obtain ⟨b72, hb72⟩ : ∃ b, b = Wd.heap.size := ⟨_, rfl⟩
              rw [← hb72] at c72 ⊢
              generalize Wd.alloc (.cells (rlineCells s g) 26) = Wa at c72 hBn hs6 ⊢
              have HBWa := Lib.hid hBn
              have C72 := Lib.hid c72
              have l72 : b72 < Wa.heap.size := by omega
              have HS6 := Lib.hid hs6
              have HB72 := Lib.hid hb72
              clear hs6 hb72
              clear c72 hBn
              refine ⟨fun _ => ⟨⟨_, HBWa.out⟩, rfl⟩, ?_⟩
              refine wpF_end [0, 4, 7, 11, 12, 13] rfl rfl (by kernel_rfl) (by kernel_rfl) ?_
              refine wpR_at true (by kernel_rfl) (by kernel_rfl) ?_
              simp only [opsAt, List.map_cons, List.map_nil, Array.getD_eq_getD_getElem?, List.getElem?_toArray, List.getElem?_cons_zero, Option.getD_some]
              go_wp2_with fail
              have hE := ownsRow_base (own_empty Wa 26 39) HBWa.out.size
              have hBn : Below wr.heap.size wr (Wa.alloc (.cells #[] 26)) := HBWa.out.alloc HBWa.out.size _
              have hG0 : Below Wa.heap.size Wa (Wa.alloc (.cells #[] 26)) := (Below.refl _ _).alloc (Nat.le_refl _) _
              have hs0 : (Wa.alloc (.cells #[] 26)).heap.size = Wa.heap.size + 1 := by simp
              have hb66 : wr.heap.size ≤ Wa.heap.size := HBWa.out.size
              generalize Wa.alloc (.cells #[] 26) = Wb at hE hBn hG0 hs0 ⊢
              have HS0 := Lib.hid hs0
              clear hs0
              have HBWb := Lib.hid hBn
              have HE := Lib.hid hE
              have C72 : Hid (∀ j, Wb.cell? ⟨b72, j, none⟩ = (rlineCells s g)[j]?) := Lib.hid fun j => (hG0.cell (p := ⟨b72, j, none⟩) l72).trans (C72.out j)
              have n72 : b72 ≠ Wa.heap.size := Nat.ne_of_lt l72
              replace l72 : b72 < Wb.heap.size := by have := HS0.out; omega
              clear hE hBn hG0
              refine ⟨fun _ => ⟨⟨_, HBWb.out⟩, rfl⟩, ?_⟩
              refine wpR_at true (by kernel_rfl) (by kernel_rfl) ?_
              simp only [opsAt, List.map_cons, List.map_nil, Array.getD_eq_getD_getElem?, List.getElem?_toArray, List.getElem?_cons_zero, List.getElem?_cons_succ, Option.getD_some]
              refine wpList_append_own _ rfl (.tmp 66) (.tmp 69) 49 rfl wr.heap.size 26 i0 (.agg (rlineCells ⟨#[]⟩ zeroLine)) 39 128 Tryz.underlying49 hi hz0 hz1 hz2 (rlineCells_size _ _) (by decide) _ _ _ rfl HE.out ⟨gb, 0, none⟩ at' vc ((flatR rs).take (at' * 39)) rfl hl1 ?c1 HO1.out ?c3 ?c4 ?c5 ?_
              case c1 =>
                intro i u hu
                rw [Addr.add_lit, Nat.zero_add]
                exact (HBWb.out.cell (p := ⟨gb, i, none⟩) hgbr).trans (HC.out i u (by rw [List.getElem?_take] at hu; split at hu; exact hu; cases hu))
              case c3 => unfold maxLen; omega
              case c4 => omega
              case c5 => exact HBWb.out.size
              intro v70 Wc hown1 hgr1 _
              have HBWc := Lib.hid (HBWb.out.grown hgr1 HBWb.out.size (fun k e => by have e' : Wa.heap.size = k := Option.some.inj e; omega) : Below wr.heap.size wr Wc)
              rw [Nat.zero_add, List.nil_append] at hown1
              have HO70 := Lib.hid hown1
              have C72 : Hid (∀ j, Wc.cell? ⟨b72, j, none⟩ = (rlineCells s g)[j]?) := Lib.hid fun j => (cell_of_same (a := ⟨b72, j, none⟩) (hgr1.block b72 l72 (by intro e; have e' : Wa.heap.size = b72 := (Option.some.inj e).symm; exact n72 e'.symm))).trans (C72.out j)
              replace l72 : b72 < Wc.heap.size := Nat.lt_of_lt_of_le l72 hgr1.size
              clear hgr1 hown1
              go_wp2_with fail
              refine ⟨fun _ => ⟨⟨_, HBWc.out⟩, rfl⟩, ?_⟩
              refine wpR_at true (by kernel_rfl) (by kernel_rfl) ?_
              simp only [opsAt, List.map_cons, List.map_nil, Array.getD_eq_getD_getElem?, List.getElem?_toArray, List.getElem?_cons_zero, List.getElem?_cons_succ, Option.getD_some]
              refine wpList_append_own _ rfl (.tmp 70) (.tmp 72) 49 rfl wr.heap.size 26 i0 (.agg (rlineCells ⟨#[]⟩ zeroLine)) 39 128 Tryz.underlying49 hi hz0 hz1 hz2 (rlineCells_size _ _) (by decide) _ _ _ rfl HO70.out ⟨b72, 0, none⟩ 1 1 (rList ⟨s, ⟨p, v0⟩⟩) rfl (rList_length _) ?e1 HONE.out ?e3 ?e4 ?e5 ?_
              case e1 =>
                intro j u hj
                rw [Addr.add_lit, Nat.zero_add, C72.out j]
                rw [HG.out, rList_cells ⟨s, ⟨p, v0⟩⟩]
                simpa using hj
              case e3 => unfold maxLen; omega
              case e4 => omega
              case e5 => exact HBWc.out.size
              intro v73 w3 hown3 hgr3 _
              have HB3 := Lib.hid (HBWc.out.grown hgr3 HBWc.out.size (fun k e => (HO70.out.lt k e).1) : Below wr.heap.size wr w3)
              have HO73 := Lib.hid hown3
              clear hgr3 hown3
              go_wp2_with fail
              refine ⟨fun _ => ⟨⟨_, HB3.out⟩, rfl⟩, wpR_list [11, 12, 13] _ _ (by kernel_rfl) ?_⟩
              simp only [opsAt, List.map_cons, List.map_nil, Array.getD_eq_getD_getElem?, List.getElem?_toArray, List.getElem?_cons_zero, List.getElem?_cons_succ, Option.getD_some]
              refine wpList_append_own _ rfl (.tmp 73) (.tmp 76) 49 rfl wr.heap.size 26 i0 (.agg (rlineCells ⟨#[]⟩ zeroLine)) 39 128 Tryz.underlying49 hi hz0 hz1 hz2 (rlineCells_size _ _) (by decide) _ _ _ rfl HO73.out ad (rs.length - at') (vc - at') (flatR (rs.drop at')) rfl hl2 ?d1 HO2.out ?d3 ?d4 ?d5 ?_
              case d1 => exact fun i u hu => (HB3.out.cell (p := ad.add i) (HADB.out i)).trans (HDC.out i u hu)
              case d3 => unfold maxLen; omega
              case d4 => omega
              case d5 => exact HB3.out.size
              intro v77 w4 hown4 hgr4 _
              have HB4 := Lib.hid (HB3.out.grown hgr4 HB3.out.size (fun k e => (HO73.out.lt k e).1) : Below wr.heap.size wr w4)
              have HO77 := Lib.hid hown4
              clear hgr4 hown4
              go_wp2
              refine NoPanic.normal ?_
              go_wp2
              go_ret2
              have hBf : Below w.heap.size w w4 := HBr.out.trans (HB4.out.mono HBr.out.size)
              refine ⟨hBf, .inr ⟨HERR.out, _, rfl, ⟨?_, HONES.out, HNAMES.out, HFEW.out⟩⟩⟩
              have := ownsRow_base HO77.out HBr.out.size
              rw [HADD.out, HLEN.out, flatR_append, flatR_append, flatR_one, ← flatR_take]
              exact this
    · have HER : Hid (addErrR rs s p = pErr p) := Lib.hid (by rw [HE0.out, if_neg (by rw [hne]; simp), if_pos hpe])
      generalize pErr p = e at hpe HER
      go_wp2
      go_ret2
      exact ⟨HB2.out, .inl ⟨by rw [HER.out]; exact hpe, by rw [HER.out]; rfl⟩⟩
  · have HER : Hid (addErrR rs s p = nameErr s) := Lib.hid (by rw [HE0.out, if_pos hne])
    generalize nameErr s = e at hne HER
    go_wp2
    go_ret2
    exact ⟨HB1.out, .inl ⟨by rw [HER.out]; exact hne, by rw [HER.out]; rfl⟩⟩

end Go.Proofs.YtdjaphcelpchaaaGreatDoor

namespace Go.Proofs.YtdjaphcelpchaaaGreatDoor
open Go Go.RowKit Go.Proofs

attribute [local go_sem ↓] ex_load_id ex_store_id ex_load_line ex_store_line ex_load_rline ex_store_rline ex_alloc_line ex_build_line ex_alloc_rline ex_build_rline

attribute [local go_sem] ld_id st_id ld_line st_line ld_rline st_rline guard_id okCells_drew rdCells_drew okCells_drewN rdCells_drewN rowOk_drew rowOk_cells okCells_cells rdCells_cells setRow_drew setRow_new setRow_past run_eql_id run_neq_id eqIn_id

theorem IdxAt.not_op {B : Nat} {w : World} {ib M mc : Nat} {gs : List MG} (h : IdxAt B w ib M gs mc) {ob : Nat} {cur : Array Value} {t : TypeId} (ht : t ≠ 104 ∧ t ≠ 115 ∧ t ≠ 34) (hk : w.heap[ob]? = some (.cells cur t (0, 0))) : ob ∉ foot ib M gs := by
  intro hf
  unfold foot at hf
  simp only [List.mem_cons, List.mem_flatMap] at hf
  rcases hf with rfl | rfl | ⟨G, hG, hf⟩
  · rw [h.blk] at hk; exact ht.1 (cells_ty hk).symm
  · have := h.map; unfold MapAt at this; rw [this] at hk; cases hk
  · have hg := h.grps G hG
    unfold MG.foot at hf
    simp only [List.mem_append, List.mem_cons, List.mem_nil_iff, or_false, Option.mem_toList] at hf
    rcases hf with (rfl | rfl) | hf
    · rw [hg.blk] at hk; exact ht.2.1 (cells_ty hk).symm
    · have := hg.nums; unfold MapAt at this; rw [this] at hk; cases hk
    · obtain ⟨c2, h2⟩ := ownsRow_typed hg.lines.row hf
      rw [h2] at hk; exact ht.2.2 (cells_ty hk).symm
theorem RefsAt.below {B : Nat} {w w' : World} {v : Value} {rs : List MR} (h : RefsAt B w v rs) (hb : Below w.heap.size w w') : RefsAt B w' v rs := ⟨ownsRow_below h.row hb, h.one, h.names, h.few⟩
theorem RefsAt.mono {B B' : Nat} {w : World} {v : Value} {rs : List MR} (h : RefsAt B w v rs) (hb : B' ≤ B) : RefsAt B' w v rs := ⟨ownsRow_base h.row hb, h.one, h.names, h.few⟩

end Go.Proofs.YtdjaphcelpchaaaGreatDoor

namespace Go.Proofs.YtdjaphcelpchaaaGreatDoor
open Go Go.RowKit Go.Proofs

theorem exI_load_id (ro : Option Nat) (ρ : Operand → Value) (d : Option Tmp) (x : Operand) (ty : TypeId) (pos : String) (af : Array Edge) (g : Option (Nat × Bool)) (w : World) :
    Sem.run Tryz.prog (Oper.semAt ro ρ ⟨d, .load 23 x, ty, pos, af, g⟩) w = ldRes Tryz.prog 23 w (ρ x) := by
  rw [Oper.semAt_eq _ _ _ (by intro c h; cases h)]
  exact ex_load_id ..
theorem exI_store_id (ro : Option Nat) (ρ : Operand → Value) (d : Option Tmp) (x y : Operand) (ty : TypeId) (pos : String) (af : Array Edge) (g : Option (Nat × Bool)) (w : World) :
    Sem.run Tryz.prog (Oper.semAt ro ρ ⟨d, .store 23 x y, ty, pos, af, g⟩) w = stRes Tryz.prog 23 w (ρ x) (ρ y) := by
  rw [Oper.semAt_eq _ _ _ (by intro c h; cases h)]
  exact ex_store_id ..
theorem exI_load_line (ro : Option Nat) (ρ : Operand → Value) (d : Option Tmp) (x : Operand) (ty : TypeId) (pos : String) (af : Array Edge) (g : Option (Nat × Bool)) (w : World) :
    Sem.run Tryz.prog (Oper.semAt ro ρ ⟨d, .load 34 x, ty, pos, af, g⟩) w = ldRes Tryz.prog 34 w (ρ x) := by
  rw [Oper.semAt_eq _ _ _ (by intro c h; cases h)]
  exact ex_load_line ..
theorem exI_store_line (ro : Option Nat) (ρ : Operand → Value) (d : Option Tmp) (x y : Operand) (ty : TypeId) (pos : String) (af : Array Edge) (g : Option (Nat × Bool)) (w : World) :
    Sem.run Tryz.prog (Oper.semAt ro ρ ⟨d, .store 34 x y, ty, pos, af, g⟩) w = stRes Tryz.prog 34 w (ρ x) (ρ y) := by
  rw [Oper.semAt_eq _ _ _ (by intro c h; cases h)]
  exact ex_store_line ..
theorem exI_alloc_line (ro : Option Nat) (ρ : Operand → Value) (d : Option Tmp) (ty : TypeId) (pos : String) (af : Array Edge) (g : Option (Nat × Bool)) (w : World) :
    Sem.run Tryz.prog (Oper.semAt ro ρ ⟨d, .alloc 34, ty, pos, af, g⟩) w = .ok (.value (.pointer (some ⟨w.heap.size, 0, none⟩))) (w.alloc (.cells (lineCells zeroLine) 34)) := by
  rw [Oper.semAt_eq _ _ _ (by intro c h; cases h)]
  exact ex_alloc_line ..
theorem exI_load_rline (ro : Option Nat) (ρ : Operand → Value) (d : Option Tmp) (x : Operand) (ty : TypeId) (pos : String) (af : Array Edge) (g : Option (Nat × Bool)) (w : World) :
    Sem.run Tryz.prog (Oper.semAt ro ρ ⟨d, .load 26 x, ty, pos, af, g⟩) w = ldRes Tryz.prog 26 w (ρ x) := by
  rw [Oper.semAt_eq _ _ _ (by intro c h; cases h)]
  exact ex_load_rline ..
theorem exI_store_rline (ro : Option Nat) (ρ : Operand → Value) (d : Option Tmp) (x y : Operand) (ty : TypeId) (pos : String) (af : Array Edge) (g : Option (Nat × Bool)) (w : World) :
    Sem.run Tryz.prog (Oper.semAt ro ρ ⟨d, .store 26 x y, ty, pos, af, g⟩) w = stRes Tryz.prog 26 w (ρ x) (ρ y) := by
  rw [Oper.semAt_eq _ _ _ (by intro c h; cases h)]
  exact ex_store_rline ..
end Go.Proofs.YtdjaphcelpchaaaGreatDoor
