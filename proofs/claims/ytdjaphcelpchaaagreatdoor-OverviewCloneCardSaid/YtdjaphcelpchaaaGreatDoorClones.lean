/- The tied card of bulletinlaw28.OverviewClone, proved: for every two lists of operations the call returns true; package-level tables of Go's library as the program's text lays them. -/
import Derived.Test.YtdjaphcelpchaaaGreatDoorShelf
import Derived.Test.YtdjaphcelpchaaaGreatDoorK1
import Derived.Test.YtdjaphcelpchaaaGreatDoorK2
import Derived.Test.YtdjaphcelpchaaaGreatDoorShelf2
import Derived.Test.YtdjaphcelpchaaaGreatDoorClonesL1
import Derived.Test.YtdjaphcelpchaaaGreatDoorClonesL2
import Derived.Test.YtdjaphcelpchaaaGreatDoorClonesL3
import Derived.Test.YtdjaphcelpchaaaGreatDoorClonesL4
import Derived.Test.YtdjaphcelpchaaaGreatDoorClonesL5
import Derived.Test.YtdjaphcelpchaaaGreatDoorClonesL6

namespace Go.Proofs.YtdjaphcelpchaaaGreatDoor
open Go Go.RowKit Go.Proofs

attribute [local go_sem ↓] ex_load_id ex_store_id ex_load_line ex_store_line ex_load_rline ex_store_rline ex_alloc_line ex_build_line ex_alloc_rline ex_build_rline ex_load_op

attribute [local go_sem] ld_id st_id ld_line st_line ld_rline st_rline guard_id okCells_drew rdCells_drew okCells_drewN rdCells_drewN rowOk_drew rowOk_cells okCells_cells rdCells_cells setRow_drew setRow_new setRow_past ld_op

attribute [local go_sem] Oper.semAt_some

attribute [local go_sem ↓] exI_load_line exI_store_line exI_alloc_line exI_load_id exI_store_id exI_load_rline exI_store_rline

theorem parts_abc : splitS 44 ⟨#[97, 44, 97, 46, 98, 44, 98]⟩ = [⟨#[97]⟩, ⟨#[97, 46, 98]⟩, ⟨#[98]⟩] := by
  unfold splitS
  simp [splitL, str]

theorem res_tmp {P : Program} {fn : Func} {p : Tmp} (h : fn.results = #[.tmp p]) (tmps : Array Value) (w : World) (v : Value) (hv : tmps.getD p undef = v) : (results fn tmps).run P w = .ok v w := by
  rw [← hv]
  exact results_tmp h _ _ _

set_option maxRecDepth 100000 in
set_option maxHeartbeats 8000000 in
theorem law_clone (v0 v1 : Value) (os more : List MO) (w : World) (hG : Gl w) (h0 : OpsAt w v0 os) (h1 : OpsAt w v1 more) :
    Calls Tryz.prog 9 #[v0, v1] w fun r w' => r = .returned (.bool true) ∧ Below w.heap.size w w' := by
  obtain ⟨a0, c0, rfl, hc0, hr0⟩ := h0.row
  obtain ⟨a1, c1, rfl, hc1, hr1⟩ := h1.row
  have hfew1 := h1.few
  have HX0 := Lib.hid h0
  have HX1 := Lib.hid h1
  have HG := Lib.hid hG
  have HR1 := Lib.hid hr1
  clear h0 h1 hG hr0 hr1
  refine (callsIn_wide (n := 3)).1 (callsIn_of_wp_marks Tryz.func9 rfl trivial ?_ rfl)
  simp only [Tryz.ntmps9, List.size_toArray, List.length_cons, List.length_nil, Nat.reduceAdd, Nat.reduceSub, Array.replicate_succ, Array.replicate_zero, List.push_toArray, List.append_toArray, List.nil_append, List.cons_append]
  refine wpIn_wide.2 ?_
  go_wp2_with fail
  refine (knows w HG.out).mono ?_
  rintro r w1 ⟨rfl, hb1⟩
  have HB1 := Lib.hid hb1
  have HF := Lib.hid (fits_any _ os w1 (HX0.out.below hb1))
  clear hb1
  go_wp2_with fail
  refine HF.out.mono ?_
  rintro r w2 ⟨rfl, hb2⟩
  have HB2 := Lib.hid (HB1.out.trans (hb2.mono HB1.out.size) : Below w.heap.size w w2)
  clear hb2 HF HB1
  cases hfit : fitsB os with
  | false =>
    clear hfit
    go_wp2_with fail
    refine (knows w2 (HG.out.later HB2.out)).mono ?_
    rintro r w3 ⟨rfl, hb3⟩
    have HB3 := Lib.hid (HB2.out.trans (hb3.mono HB2.out.size) : Below w.heap.size w w3)
    clear hb3
    go_wp2
    exact ⟨.bool true, res_tmp rfl _ _ _ rfl, rfl, HB3.out⟩
  | true =>
    have HF2 := Lib.hid (fits_any _ more w2 (HX1.out.below HB2.out))
    go_wp2_with fail
    refine HF2.out.mono ?_
    rintro r w3 ⟨rfl, hb3⟩
    have HB3 := Lib.hid (HB2.out.trans (hb3.mono HB2.out.size) : Below w.heap.size w w3)
    clear hb3 HF2 HB2
    cases hfit1 : fitsB more with
    | false =>
      clear hfit1 hfit
      go_wp2_with fail
      refine (knows w3 (HG.out.later HB3.out)).mono ?_
      rintro r w4 ⟨rfl, hb4⟩
      have HB4 := Lib.hid (HB3.out.trans (hb4.mono HB3.out.size) : Below w.heap.size w w4)
      clear hb4
      go_wp2
      exact ⟨.bool true, res_tmp rfl _ _ _ rfl, rfl, HB4.out⟩
    | true =>
      have h40 : os.length ≤ 40 := by
        have hf2 := hfit
        unfold fitsB at hf2
        rw [Bool.and_eq_true, decide_eq_true_eq] at hf2
        exact hf2.1
      have hf2 := hfit1
      unfold fitsB at hf2
      rw [Bool.and_eq_true, decide_eq_true_eq, List.all_eq_true] at hf2
      obtain ⟨h40b, hsm⟩ := hf2
      have HSM := Lib.hid hsm
      have HBU := Lib.hid (build_any _ os w w3 HG.out HX0.out HB3.out hfit)
      clear hfit hfit1 hsm HB3
      go_wp2_with fail
      refine HBU.out.mono ?_
      rintro r w4 ⟨ib, M, gs, mc, wv, rs, rfl, hp⟩
      obtain ⟨va, vn, vc, hve⟩ : ∃ a n c, wv = .slice a n c := own_slice hp.refs.row
      subst hve
      have HP4 := Lib.hid hp
      clear hp HBU
      have HCL := Lib.hid (cloneIdx_any w.heap.size ib M mc gs w4 HP4.out.idx)
      go_wp2_with fail
      refine HCL.out.mono ?_
      rintro r w5 ⟨ib2, M2, gs2, mc2, rfl, hx2, hlf, htot, hb5⟩
      have HP5 := Lib.hid (HP4.out.later hb5)
      have HX2 := Lib.hid hx2
      have HR2 := Lib.hid (HP5.out.rel.lf hlf.symm)
      have HAP : Hid (ApartF (foot ib M gs) (foot ib2 M2 gs2)) := Lib.hid fun j hj hj' => by
        have h1 := (HP4.out.idx.foot_lt j hj).2
        have h2 := (hx2.foot_lt j hj').1
        omega
      have HBB : Hid (w.heap.size ≤ w4.heap.size) := Lib.hid HP4.out.bl.size
      have HT2 := Lib.hid htot
      clear hx2 hlf htot hb5 HCL HP4
      have HE1 := Lib.hid (equalIdx_any w4.heap.size w.heap.size ib2 ib M2 M mc2 mc gs2 gs w5 HX2.out HP5.out.idx)
      have HQ1 : Hid (eqG gs2 gs = true) := Lib.hid (rel_eqG HX2.out HP5.out.idx HP5.out.ord HR2.out HP5.out.rel)
      rw [HQ1.out] at HE1
      go_wp2_with fail
      refine HE1.out.mono ?_
      rintro r w6 ⟨rfl, hb6⟩
      have HP6 := Lib.hid (HP5.out.later hb6)
      have HX6 := Lib.hid (HX2.out.below hb6)
      have HE2 := Lib.hid (equalIdx_any w.heap.size w4.heap.size ib ib2 M M2 mc mc2 gs gs2 w6 HP6.out.idx HX6.out)
      have HQ2 : Hid (eqG gs gs2 = true) := Lib.hid (rel_eqG HP6.out.idx HX6.out HP6.out.ord HP6.out.rel HR2.out)
      rw [HQ2.out] at HE2
      clear hb6 HE1 HP5 HX2 HQ1
      go_wp2_with fail
      refine HE2.out.mono ?_
      rintro r w7 ⟨rfl, hb7⟩
      have HP7 := Lib.hid (HP6.out.later hb7)
      have HX7 := Lib.hid (HX6.out.below hb7)
      clear hb7 HE2 HP6 HX6 HQ2
      obtain ⟨T, hT⟩ : ∃ T, T = splitS 44 ⟨#[97, 44, 97, 46, 98, 44, 98]⟩ := ⟨_, rfl⟩
      have hT3 : T.length = 3 := by rw [hT, parts_abc]; rfl
      have HPA : Hid (∀ W, Calls Tryz.prog 44 #[.string ⟨#[97, 44, 97, 46, 98, 44, 98]⟩, .int .u8 44] W fun r w' => ∃ b c, r = .returned (.slice (some ⟨b, 0, none⟩) 3 c) ∧ StrRow w' b 0 T ∧ b < w'.heap.size ∧ Below W.heap.size W w') := Lib.hid fun W => by
        refine (parts_any ⟨#[97, 44, 97, 46, 98, 44, 98]⟩ 44 W (by decide +kernel)).mono ?_
        rintro r w' ⟨v, rfl, hown, hb⟩
        rw [← hT] at hown
        obtain ⟨b, c, rfl, hrow, _, hl⟩ := row_strs hown (fun e => by rw [e] at hT3; cases hT3)
        rw [hT3]
        exact ⟨b, c, rfl, hrow, hl, hb⟩
      have HT3 := Lib.hid hT3
      clear hT hT3
      go_wp2_with fail
      refine (HPA.out w7).mono ?_
      rintro r w8 ⟨pb, pc, rfl, hrow, hpl, hb8⟩
      have HS8 : Hid (CloSt w ib M gs mc (.slice va vn vc) rs os.length w4.heap.size ib2 M2 gs2 mc2 pb T [] w8) := Lib.hid ⟨HP7.out.later hb8, HX7.out.below hb8, hrow, hpl, fun D hD => (by cases hD), List.nodup_nil, fun D hD => (by cases hD)⟩
      clear hrow hpl hb8 HP7 HX7
      go_wp2
      refine wp_loop (fun a W => ∃ ds i, CloInv w (.slice a0 os.length c0) (.slice a1 more.length c1) ib M gs mc (.slice va vn vc) rs os.length w4.heap.size ib2 M2 gs2 mc2 pb pc T ds i a W) leftC ?start ?round
      case start => exact ⟨[], 0, Nat.zero_le _, HS8.out, ⟨rfl, rfl, rfl, rfl, rfl, rfl, rfl, rfl, rfl, rfl⟩, rfl⟩
      case round =>
        rintro a W ⟨ds, i, hinv⟩
        have hmu := hinv.left
        have HMU : Hid (∀ ds' a' W', CloInv w (.slice a0 os.length c0) (.slice a1 more.length c1) ib M gs mc (.slice va vn vc) rs os.length w4.heap.size ib2 M2 gs2 mc2 pb pc T ds' (i + 1) a' W' → i < 3 → leftC a' W' < leftC a W) := Lib.hid fun ds' a' W' h hl => by rw [h.left, hmu]; omega
        generalize leftC a W = mu at HMU
        clear hmu
        obtain ⟨tm, df⟩ := a
        obtain rfl : df = ds.map markD := hinv.df
        obtain ⟨f, hf, hft⟩ := hinv.sl.out
        simp only at hft
        subst hft
        have HST := Lib.hid hinv.st
        have hle3 := hinv.le
        clear hinv hf HS8
        by_cases hlt : i < 3
        · have hltz : (i : Int) < 3 := by omega
          obtain ⟨t, ht⟩ : ∃ t, T[i]? = some t := ⟨_, List.getElem?_eq_getElem (by rw [HT3.out]; exact hlt)⟩
          have HTI := Lib.hid ht
          clear ht
          go_wp2_with fail
          refine (HPA.out W).mono ?_
          rintro r W1 ⟨pb1, pc1, rfl, hrow1, hpl1, hb1⟩
          have HST1 := Lib.hid (HST.out.step hb1)
          have HBW1 : Hid (Below W.heap.size W W1) := Lib.hid hb1
          have q1 : W1.cell? ⟨pb1, i, none⟩ = some (.string t) := by
            have := hrow1 i t HTI.out
            rwa [Nat.zero_add] at this
          clear hrow1 hpl1 hb1
          go_wp2_with fail
          refine (range_call (some ⟨ib, 0, none⟩) t 0 1099511627776 W1).mono ?_
          rintro r W8 ⟨rfl, hW8⟩
          have hb8 : Below W1.heap.size W1 W8 := by rw [← hW8]; exact ((((Below.refl _ _).alloc (Nat.le_refl _) _).alloc (by simp) _).alloc (by simp; omega) _).alloc (by simp; omega) _
          have d0 : W8.cell? ⟨W1.heap.size, 0, none⟩ = some (.pointer (some ⟨ib, 0, none⟩)) := by
            rw [← hW8]; exact Lib.cell?_alloc_some _ (Lib.cell?_alloc_some _ (Lib.cell?_alloc_some _ (cells_new W1 _ _ 0)))
          have d1 : W8.cell? ⟨W1.heap.size + 1, 0, none⟩ = some (.string t) := by
            rw [← hW8]; exact Lib.cell?_alloc_some _ (Lib.cell?_alloc_some _ (by simp))
          have d2 : W8.cell? ⟨W1.heap.size + 1 + 1, 0, none⟩ = some (.int .i64 0) := by
            rw [← hW8]; exact Lib.cell?_alloc_some _ (by simpa using cells_new ((W1.alloc (.cells #[.pointer (some ⟨ib, 0, none⟩)] 47)).alloc (.cells #[.string t] 9)) #[.int .i64 0] 3 0)
          have d3 : W8.cell? ⟨W1.heap.size + 1 + 1 + 1, 0, none⟩ = some (.int .i64 1099511627776) := by
            rw [← hW8]; simpa using cells_new (((W1.alloc (.cells #[.pointer (some ⟨ib, 0, none⟩)] 47)).alloc (.cells #[.string t] 9)).alloc (.cells #[.int .i64 0] 3)) #[.int .i64 1099511627776] 3 0
          have HC := Lib.hid (And.intro d0 (And.intro d1 (And.intro d2 d3)))
          have HST8 := Lib.hid (HST1.out.step hb8)
          have HBW8 : Hid (Below W.heap.size W W8) := Lib.hid (HBW1.out.trans (hb8.mono HBW1.out.size))
          obtain ⟨n6, hn6⟩ : ∃ n6, n6 = W1.heap.size := ⟨_, rfl⟩
          rw [← hn6] at HC ⊢
          clear hW8 hb8 d0 d1 d2 d3 HST1 q1 hn6
          go_wp2_with fail
          refine name_act fun a8 ha8 => ?_
          have HA8 := Lib.hid ha8
          have hsz8 : a8.tmps.size = 127 := by rw [ha8]; rfl
          have he62 : a8.eval (.tmp 62) = .func (.func 67) #[] #[.pointer (some ⟨n6, 0, none⟩), .pointer (some ⟨n6 + 1, 0, none⟩), .pointer (some ⟨n6 + 1 + 1, 0, none⟩), .pointer (some ⟨n6 + 1 + 1 + 1, 0, none⟩)] := by rw [ha8]; rfl
          clear ha8
          refine (wpIn_wide (n := 3)).1 (wpIn_rangeFunc_guard (F := Fence.wide) rfl (by omega) (gf := 67) he62 trivial (enters_of Tryz.func67 (by kernel_rfl) rfl) (encs := fun x : ML => #[.agg (lineCells x.g)]) (Gd := GdL (rangeP (linesIn gs t) 0 1099511627776)) (Kp := KpL) (S := fun xs => xs.map (·.p) = rangeP (linesIn gs t) 0 1099511627776)
            (fun W' hb' hs' => rangeSeq_any _ _ _ _ _ w.heap.size ib M mc gs t 0 1099511627776 W' ((hb'.cell (block_lt_of_cell HC.out.1)).trans HC.out.1) ((hb'.cell (block_lt_of_cell HC.out.2.1)).trans HC.out.2.1) ((hb'.cell (block_lt_of_cell HC.out.2.2.1)).trans HC.out.2.2.1) ((hb'.cell (block_lt_of_cell HC.out.2.2.2)).trans HC.out.2.2.2) (HST8.out.p.idx.below hb'))
            ?kl ?kr (fun _ => rfl) (fun _ _ X => Below W8.heap.size W8 X) (fun _ _ _ _ => False) (fun B pre X Y hi _ _ hb => hi.trans (hb.below hi.size)) (fun _ _ _ _ _ h _ _ _ => h) (fun X hb _ => hb)
            (CloAx (rangeP (linesIn gs t) 0 1099511627776) W8) ?assign ?hax ?ka ?body ?done (fun _ _ _ _ _ h _ => h.elim) (fun _ _ _ _ h => h.elim))
          case kl =>
            rintro B x X Y Z l o h1 h2 hk rfl
            have hsz : (X.putObj l o).heap.size = X.heap.size := by simp [World.putObj]
            exact ⟨by have := hk.1; omega, fun k hA hB hne => (hk.2 k hA hB hne).trans (World.putObj_heap_other (by omega))⟩
          case kr =>
            rintro B x X Y l o h1 h2 hk
            have hsz : (Y.putObj l o).heap.size = Y.heap.size := by simp [World.putObj]
            exact ⟨by have := hk.1; omega, fun k hA hB hne => (World.putObj_heap_other (by omega)).trans (hk.2 k hA hB hne)⟩
          case ka =>
            rintro B x X Y Z hb hBX hk
            exact ⟨Nat.le_trans hb.size hk.1, fun k hA hB hne => (hk.2 k hA hB hne).trans (hb.block k (by omega))⟩
          case hax =>
            rintro B pre x a' X l o ⟨h1, h2, h3, yb, h5, h6, h7⟩ hl1 hl2
            have hbs : Beside W8.heap.size (W8.heap.size + 2) X (X.putObj l o) := Beside.putObj X l o ⟨hl1, hl2⟩
            refine ⟨h1.trans (hbs.below h1.size), ⟨h2.here, h2.past, h2.refs.block fun k hk => World.putObj_heap_other (by have := (h2.refs.lt hk).1; omega), h2.lt⟩, h3, yb, ?_, h6, h7⟩
            exact (World.putObj_heap_other (by omega)).trans h5
          case assign =>
            intro l B pre x X K hi hB hBX hgd hK
            have hsz63 : (a8.tmps.setIfInBounds 63 (.agg (lineCells x.g))).size = 127 := by simpa using hsz8
            have h63 : (a8.tmps.setIfInBounds 63 (.agg (lineCells x.g))).getD 63 undef = .agg (lineCells x.g) := by
              simp [hsz8]
            rw [foldl_one]
            generalize a8.tmps.setIfInBounds 63 (.agg (lineCells x.g)) = t63 at hsz63 h63
            obtain ⟨f', hf', hft⟩ := slots127 t63 hsz63
            have h63' : f' 63 = .agg (lineCells x.g) := (hf' 63).trans h63
            rw [hft, h63']
            have hone := hgd.refs.one
            have hft2 := fits_line (g := x.g) hone
            have hzs : ((lineCells zeroLine).size == 38) = true := by rw [lineCells_size]; rfl
            have HK := Lib.hid hK
            have HI8 := Lib.hid hi
            have HGD := Lib.hid hgd
            clear hK hi hgd hft hf' h63 h63' hsz63
            gi_wp2
            have hba : Below X.heap.size X (X.alloc (.cells (lineCells x.g) 34)) := (Below.refl _ _).alloc (Nat.le_refl _) _
            refine HK.out _ _ ⟨HI8.out.trans (hba.mono HI8.out.size), HGD.out.below hba, rfl, X.heap.size, heap_alloc_new _ _, by omega, rfl, rfl⟩ hba
          case body =>
            rintro l B pre x a' X rfl hB hBX ⟨hbl, hgd, hdf, yb, hyv, hyb, hys⟩
            obtain ⟨tm, df⟩ := a'
            obtain rfl : df = [] := hdf
            obtain ⟨f', hf', hft⟩ := hys.out
            simp only at hft
            subst hft
            clear hf' hys
            obtain ⟨ra, rc, hrv, _, _⟩ := hgd.refs.at
            have HRV := Lib.hid hrv
            have HGD := Lib.hid hgd
            have HBL := Lib.hid hbl
            have hlen : x.p.ids.length ≤ 20 := by
              have h1 := List.mem_of_getElem? hgd.here
              unfold rangeP at h1
              obtain ⟨m, hm, e⟩ := List.mem_map.1 (List.mem_filter.1 h1).1
              rw [← e]
              exact refs_len (HST8.out.p.idx.good_in hm)
            have hform : (x.v = .slice none 0 0 ∧ x.p.ids.length = 0) ∨ ∃ g cap, x.v = .slice (some ⟨g, 0, none⟩) x.p.ids.length cap := by
              rcases hgd.refs.2 with ⟨e, h0⟩ | ⟨g, cap, cur, e, _⟩
              · exact .inl ⟨e, h0⟩
              · exact .inr ⟨g, cap, e⟩
            have HFM := Lib.hid hform
            have hyo : x.v.ownBlock ≠ some yb := fun e => by
              obtain ⟨c, hc⟩ := hgd.refs.typed e
              have : X.heap[yb]? = some (.cells (lineCells x.g) 34 (0, 0)) := hyv
              rw [this] at hc
              exact absurd (cells_ty hc) (by decide)
            have HBD0 : Hid (BdSt x yb X X) := Lib.hid ⟨hyv, fun rb hr => by
              have h1 := hgd.refs
              rcases hform with ⟨e, _⟩ | ⟨g, cap, e⟩
              · rw [e] at hr; cases hr
              · rw [e] at hr h1
                cases hr
                exact Bytes0.of h1, Kept.of_below (Below.refl _ _)⟩
            have HYO := Lib.hid hyo
            have HOW : Hid (∀ k, x.v.ownBlock = some k → W8.heap.size + 2 ≤ k ∧ k < X.heap.size) := Lib.hid fun k hk => hgd.refs.lt hk
            clear hform hyo
            clear hgd hbl hyv hrv
            gi_wp2_with fail
            gi_loopw [12] (fun i wy => ∃ k : Nat, k ≤ x.p.ids.length ∧ i = .int .i64 k ∧ Hid (BdSt x yb X wy)) (fun i _ => x.p.ids.length - (intOf i).toNat)
            case atStart => exact ⟨0, Nat.zero_le _, rfl, HBD0⟩
            case round =>
              obtain ⟨k, hk, rfl, HBD⟩ := hrel
              have c36 : wr.cell? ⟨yb, 36, none⟩ = some (.slice ra x.p.ids.length rc) := by
                have h1 := (HBD.out.yv.cell 36).trans (lc36 x.g)
                rw [← HRV.out]
                exact h1
              by_cases hlk : k < x.p.ids.length
              · have hltz : (k : Int) < (x.p.ids.length : Int) := by omega
                obtain ⟨rb, hrb⟩ : ∃ rb, ra = some ⟨rb, 0, none⟩ := by
                  rcases HFM.out with ⟨_, h0⟩ | ⟨g, cap, e⟩
                  · omega
                  · rw [HRV.out] at e
                    cases e
                    exact ⟨g, rfl⟩
                subst hrb
                have hob : x.v.ownBlock = some rb := by rw [HRV.out]; rfl
                have hby := HBD.out.bt rb hob
                obtain ⟨z', hz⟩ := hby.cell hlk
                have hfz := hby.free (k * 32)
                have c36' := c36
                have HZ := Lib.hid hz
                clear hz hfz hby
                gi_wp2_with fail
                refine wpIn_region_stages (by kernel_rfl) (fun ⟨_, _, h⟩ => h) (by kernel_rfl) ?_
                have hbd : Below wr.heap.size wr wr.drew := (Below.refl _ _).drew
                have z1 : ∀ z : Later wr.drew, z.1.cell? ⟨yb, 36, none⟩ = some (.slice (some ⟨rb, 0, none⟩) x.p.ids.length rc) := fun z => Later.cell (w := wr.drew) (a := ⟨yb, 36, none⟩) c36' z
                have z2 : ∀ z : Later wr.drew, z.1.cell? ⟨rb, k * 32, none⟩ = some (.int .u8 z') := fun z => Later.cell (w := wr.drew) (a := ⟨rb, k * 32, none⟩) HZ.out z
                have HBD2 : Hid (BdSt x yb X wr.drew) := Lib.hid ⟨HBD.out.yv, fun rb h => ⟨(HBD.out.bt rb h).blk⟩, ⟨HBD.out.kp.os, HBD.out.kp.tape, HBD.out.kp.output, HBD.out.kp.size, HBD.out.kp.block⟩⟩
                generalize wr.drew = Xd at hbd z1 z2 HBD2 ⊢
                clear hbd c36 c36' HBD HZ
                refine wp_stage [0, 1, 2, 3, 4, 5, 6, 7, 8] [9] 0 (fun w' => ∃ z : Later Xd, w' = z.1) (by kernel_rfl) (by kernel_rfl) (by kernel_rfl) rfl rfl ⟨⟨_, Below.refl _ _⟩, rfl⟩ ?_
                simp only [opsAt, List.map_cons, List.map_nil, Array.getD_eq_getD_getElem?, List.getElem?_toArray, List.getElem?_cons_zero, List.getElem?_cons_succ, Option.getD_some]
                repeat (go_big_quiet_step (fail))
                refine wpQuiet_nil ?_
                clear z1
                have hby := HBD2.out.bt rb hob
                have hcz := z2 ⟨Xd, Below.refl _ _⟩
                simp only at hcz
                have hfz := hby.free (k * 32)
                clear z2
                refine wpN_list [9] _ _ (by kernel_rfl) ?_
                simp only [opsAt, List.map_cons, List.map_nil, Array.getD_eq_getD_getElem?, List.getElem?_toArray, List.getElem?_cons_zero, List.getElem?_cons_succ, Option.getD_some]
                go_wp2
                have HN : Hid (BdSt x yb X (Xd.setCell ⟨rb, k * 32, none⟩ (.int .u8 ((z' + 1) % 256)))) := Lib.hid (by
                  have ho : ∀ j, j ≠ rb → (Xd.setCell ⟨rb, k * 32, none⟩ (.int .u8 ((z' + 1) % 256))).heap[j]? = Xd.heap[j]? := fun j hj => heap_setCell_other Xd ⟨rb, k * 32, none⟩ j _ hj
                  refine ⟨(ho yb fun e => HYO.out (by rw [hob, e])).trans HBD2.out.yv, fun rb' h' => ?_, ⟨HBD2.out.kp.os, HBD2.out.kp.tape, HBD2.out.kp.output, ?_, fun j hj hn => (ho j fun e => hn (by rw [Option.mem_toList, hob, e])).trans (HBD2.out.kp.block j hj hn)⟩⟩
                  · rw [hob] at h'
                    cases h'
                    exact hby.set k _
                  · simpa using HBD2.out.kp.size)
                clear hby hcz hfz HBD2
                refine NoPanic.normal ?_
                rw [QS_normal]
                refine wpSt_end (by kernel_rfl) ?_
                gi_wp2
                go_roundw
                case rel => exact ⟨k + 1, by omega, by go_num, HN⟩
                case measure => simp [intOf]; omega
              · have hltz : ¬ (k : Int) < (x.p.ids.length : Int) := by omega
                have hko := HBD.out.kp
                clear HBD0
                gi_wp2
                have hno : ∀ k, k < W8.heap.size + 2 → k ∉ x.v.ownBlock.toList := fun k hk hm => by
                  rw [Option.mem_toList] at hm
                  have := (HOW.out k hm).1
                  omega
                refine ⟨⟨hko.size, fun k hA hB' => hko.block k (by omega) (hno k (by omega))⟩, ⟨hko.size, fun k hA hB' hne => hko.block k (by omega) (fun hm => hne (by rw [Option.mem_toList] at hm; exact hm))⟩, HBL.out.trans (hko.below HBL.out.size fun k hm => by
                  rw [Option.mem_toList] at hm
                  have := (HOW.out k hm).1
                  omega)⟩
          case done =>
            intro B xs W9 hB hBW hS hi hmk
            have HST9 := Lib.hid (HST8.out.step hi)
            have HMK := Lib.hid hmk
            have h98 := hi.size
            have h8W := HBW8.out.size
            have HB9 : Hid (Below W.heap.size W W9) := Lib.hid (HBW8.out.trans (hi.mono h8W))
            have hDl : ∀ D ∈ ds, D < W.heap.size := fun D hD => (Array.getElem?_eq_some_iff.1 (HST.out.ms D hD)).1
            have hw8 := HST8.out.p.bl.size
            have hst10 : CloSt w ib M gs mc (.slice va vn vc) rs os.length w4.heap.size ib2 M2 gs2 mc2 pb T (W8.heap.size :: ds) W9 := by
              refine ⟨HST9.out.p, HST9.out.c, HST9.out.row, HST9.out.pbl, fun D hD => ?_, ?_, fun D hD => ?_⟩
              · rcases List.mem_cons.1 hD with rfl | hD
                · exact HMK.out
                · exact HST9.out.ms D hD
              · refine List.nodup_cons.2 ⟨fun hD => ?_, HST9.out.md⟩
                have := hDl _ hD
                omega
              · rcases List.mem_cons.1 hD with rfl | hD
                · exact hw8
                · exact HST9.out.mb D hD
            clear hS hi hmk
            rw [HA8.out]
            go_wp2
            exact ⟨⟨_, i + 1, by omega, hst10, ⟨rfl, rfl, rfl, rfl, rfl, rfl, rfl, rfl, rfl, by go_num⟩, rfl⟩, HMU.out (W8.heap.size :: ds) _ _ ⟨by omega, hst10, ⟨rfl, rfl, rfl, rfl, rfl, rfl, rfl, rfl, rfl, by go_num⟩, rfl⟩ hlt⟩
        · have hi3 : i = 3 := by omega
          subst hi3
          have HCG0 : Hid (ClgSt w ib M gs mc (.slice va vn vc) rs os.length w4.heap.size ib2 M2 gs2 mc2 (.slice va vn vc) rs 0 ds W) := Lib.hid ⟨HST.out.p, HST.out.c, HBB.out, HAP.out, HST.out.p.refs, HR2.out, HST.out.p.ord, HST.out.p.ids, by rw [HT2.out]; exact HST.out.p.tot, HST.out.p.len, HST.out.ms⟩
          have HMD := Lib.hid HST.out.md
          have HMB := Lib.hid HST.out.mb
          clear HST HMU hlt HPA
          go_wp2
          go_loopw [7, 13, 14] (fun ok vv i wr => ∃ (k : Nat) (gs2 : List MG) (mc2 : Nat) (vs : List MR), k ≤ more.length ∧ ok = .bool true ∧ i = .int .i64 k ∧ Hid (ClgSt w ib M gs mc (.slice va vn vc) rs os.length w4.heap.size ib2 M2 gs2 mc2 vv vs k ds wr)) (fun _ _ i _ => more.length - (intOf i).toNat)
          case atStart => exact ⟨0, gs2, mc2, rs, Nat.zero_le _, rfl, rfl, HCG0⟩
          case round =>
            obtain ⟨k, gs2', mc2', vs, hk, rfl, rfl, HC⟩ := hrel
            by_cases hlt : k < more.length
            · have hltz : (k : Int) < (more.length : Int) := by omega
              have hne : more ≠ [] := fun e => by rw [e] at hlt; cases hlt
              obtain ⟨b, off, rfl, hbl, hcell⟩ := HR1.out hne
              obtain ⟨o1, d1⟩ := opAt_rd (w := wr) (b := b) (off := off) (os := more) (fun j hj i u hu => (HC.out.p.bl.cell (p := ⟨b, off + j * 40 + i, none⟩) hbl).trans (hcell j hj i u hu)) hlt
              have hmem : more[k] ∈ more := List.getElem_mem hlt
              have hsm := HSM.out _ hmem
              unfold smallB at hsm
              rw [Bool.and_eq_true, decide_eq_true_eq, decide_eq_true_eq] at hsm
              have hkind := HX1.out.kind _ hmem
              have hids := HX1.out.ids _ hmem
              have hnm := HX1.out.names _ hmem
              have htot := HC.out.tot
              have hlen := HC.out.len
              have HD := Lib.hid (do_any w4.heap.size w.heap.size ib2 M2 mc2' gs2' u13 vs more[k].k more[k].s more[k].m.p more[k].m.v wr hkind (HG.out.later HC.out.p.bl) HC.out.c HC.out.refs HC.out.p.bl.size HC.out.rel HC.out.ord (by omega) ⟨hids.below HC.out.p.bl, by unfold maxLen; omega, Nat.le_trans hnm.2.1 (Nat.div_le_self _ _), Nat.le_trans hnm.2.2 (Nat.div_le_self _ _)⟩ (by omega) (by omega) (by omega))
              have HID := Lib.hid hids
              generalize more[k] = o at o1 d1 HD HID
              clear hsm hkind hids hnm hmem htot hlen hcell
              go_wp2_with fail
              refine HD.out.mono ?_
              rintro r w9 ⟨gs3, mc3, v3, vs3, hd⟩
              have hret := hd.ret
              subst hret
              have HC9 := Lib.hid (HC.out.next HID.out hd)
              obtain ⟨v3a, v3n, v3c, hve⟩ : ∃ a n c, v3 = .slice a n c := own_slice HC9.out.refs.row
              subst hve
              clear hd HD HC o1 d1
              go_wp2
              go_roundw
              case rel =>
                repeat apply Exists.intro
                refine ⟨?_, rfl⟩
                exact ⟨k + 1, gs3, mc3, vs3, by omega, rfl, by go_num, HC9⟩
              case measure => simp [intOf]; omega
            · have hltz : ¬ (k : Int) < (more.length : Int) := by omega
              obtain ⟨v3a, v3n, v3c, hve⟩ : ∃ a n c, u13 = .slice a n c := own_slice HC.out.refs.row
              subst hve
              have HQ1 : Hid (eqG gs2' gs = decide (refTxt vs vs.length = refTxt rs rs.length)) := Lib.hid (eq_texts HC.out.c HC.out.p.idx HC.out.rel HC.out.p.rel HC.out.ord HC.out.p.ord)
              have HQ2 : Hid (eqG gs gs2' = decide (refTxt vs vs.length = refTxt rs rs.length)) := Lib.hid (by
                have h1 := eq_texts HC.out.p.idx HC.out.c HC.out.p.rel HC.out.rel HC.out.p.ord HC.out.ord
                rw [h1]
                exact decide_eq_decide.2 eq_comm)
              have HGD : Hid (∀ W, ClgSt w ib M gs mc (.slice va vn vc) rs os.length w4.heap.size ib2 M2 gs2' mc2' (.slice v3a v3n v3c) vs k ds W → (∀ r ∈ vs, pErr r.m.p = 0) ∧ (∀ r ∈ rs, pErr r.m.p = 0)) := Lib.hid fun W h => by
                refine ⟨fun r hr => ?_, fun r hr => ?_⟩
                · obtain ⟨m, hm, e⟩ := (h.rel r.s r.m.p).2 ⟨r, hr, rfl, rfl⟩
                  rw [← e]
                  exact h.c.good_in hm
                · obtain ⟨m, hm, e⟩ := (h.p.rel r.s r.m.p).2 ⟨r, hr, rfl, rfl⟩
                  rw [← e]
                  exact h.p.idx.good_in hm
              have HR1 := Lib.hid (refEncode_any w.heap.size (.slice v3a v3n v3c) vs wr HC.out.refs (fun r hr => (HC.out.ids r hr).below HC.out.p.bl) (HGD.out _ HC.out).1)
              go_wp2_with fail
              refine HR1.out.mono ?_
              rintro r w9 ⟨rfl, hb9⟩
              have HC9 := Lib.hid (HC.out.later hb9)
              clear hb9 HR1 HC
              have HR2' := Lib.hid (refEncode_any w.heap.size (.slice va vn vc) rs w9 HC9.out.p.refs (fun r hr => (HC9.out.p.ids r hr).below HC9.out.p.bl) (HGD.out _ HC9.out).2)
              go_wp2_with fail
              refine HR2'.out.mono ?_
              rintro r w10 ⟨rfl, hb10⟩
              have HC10 := Lib.hid (HC9.out.later hb10)
              clear hb10 HR2' HC9 HGD
              have hqt : ((str (refTxt vs vs.length)).toList == (str (refTxt rs rs.length)).toList) = decide (refTxt vs vs.length = refTxt rs rs.length) := by
                rw [ByteArray.toList_eq, ByteArray.toList_eq, str_data, str_data]
                cases hx : decide (refTxt vs vs.length = refTxt rs rs.length) with
                | true => rw [decide_eq_true_eq] at hx; rw [hx]; simp
                | false => rw [decide_eq_false_iff_not] at hx; rw [beq_eq_false_iff_ne]; exact hx
              generalize decide (refTxt vs vs.length = refTxt rs rs.length) = eqv at HQ1 HQ2 hqt
              generalize str (refTxt vs vs.length) = S1 at hqt ⊢
              generalize str (refTxt rs rs.length) = S2 at hqt ⊢
              have HS1 := Lib.hid (same_any w.heap.size w.heap.size ib M mc gs (.slice va vn vc) rs w10 (HG.out.later HC10.out.p.bl) HC10.out.p.idx HC10.out.p.refs HC10.out.p.rel HC10.out.p.ord (fun r hr => (HC10.out.p.ids r hr).below HC10.out.p.bl))
              go_wp2_with fail
              refine HS1.out.mono ?_
              rintro r w11 ⟨rfl, hb11⟩
              have HC11 := Lib.hid (HC10.out.later hb11)
              clear hb11 HS1 HC10
              have HS2 := Lib.hid (same_any w4.heap.size w.heap.size ib2 M2 mc2' gs2' (.slice v3a v3n v3c) vs w11 (HG.out.later HC11.out.p.bl) HC11.out.c HC11.out.refs HC11.out.rel HC11.out.ord (fun r hr => (HC11.out.ids r hr).below HC11.out.p.bl))
              go_wp2_with fail
              refine HS2.out.mono ?_
              rintro r w12 ⟨rfl, hb12⟩
              have HC12 := Lib.hid (HC11.out.later hb12)
              clear hb12 HS2 HC11
              have HE1 := Lib.hid (equalIdx_any w4.heap.size w.heap.size ib2 ib M2 M mc2' mc gs2' gs w12 HC12.out.c HC12.out.p.idx)
              rw [HQ1.out] at HE1
              go_wp2_with fail
              refine HE1.out.mono ?_
              rintro r w13 ⟨rfl, hb13⟩
              have HC13 := Lib.hid (HC12.out.later hb13)
              clear hb13 HE1 HC12
              have HE2 := Lib.hid (equalIdx_any w.heap.size w4.heap.size ib ib2 M M2 mc mc2' gs gs2' w13 HC13.out.p.idx HC13.out.c)
              rw [HQ2.out] at HE2
              go_wp2_with fail
              refine HE2.out.mono ?_
              rintro r w14 ⟨rfl, hb14⟩
              have HC14 := Lib.hid (HC13.out.later hb14)
              clear hb14 HE2 HC13
              go_wp2
              refine leaves_marks ds _ HMD.out HC14.out.ms (fun w' e1 e2 e3 e4 e5 => ?_)
              have hbs := HC14.out.p.bl
              refine ⟨.bool true, res_tmp rfl _ _ _ rfl, rfl, ⟨e1.trans hbs.os, e2.trans hbs.tape, e3.trans hbs.output, by rw [e4]; exact hbs.size, fun k hk => (e5 k (fun hD => by have := HMB.out _ hD; omega)).trans (hbs.block k hk)⟩⟩

end Go.Proofs.YtdjaphcelpchaaaGreatDoor

namespace Go.Proofs.YtdjaphcelpchaaaGreatDoor.overviewClone
open Go Go.RowKit Go.Proofs Go.Proofs.YtdjaphcelpchaaaGreatDoor Go.ChangeShapes Go.WideShapes Go.ChangeAt Go.WideMaps Go.ChangeMaps

set_option maxRecDepth 100000 in
theorem contract (H : Type) (enc : TypeId × Value → H) (W : World) (base : Nat) (args : Array Value) (ds gs : List (DataW H)) (before : List MemPlace)
    (hval : ∀ (j : Nat) t v, Tryz.f9.params[j]? = some t → args[j]? = some v → Value.okWide Tryz.prog W .any base t v)
    (hW : DataW.Whole enc Tryz.prog Tryz.f9.params.toList Rows.overviewCloneSpec.vars false W args.toList ds gs before)
    (hR : (DataW.weightsEach Tryz.prog (Tryz.f9.params.toList ++ (OpenSpec.ofChange Rows.overviewCloneSpec).bare.plain.varTypes Tryz.prog) (ds ++ gs)).all (· ≤ reachBytes) = true)
    (hL : laidMetH Tryz.prog Rows.overviewCloneRow.laid W) (hS : W.ShapedOpen Tryz.prog) :
    Calls Tryz.prog 9 args W fun e W' => ∃ v, e = .returned v ∧ Rows.overviewCloneSpec.post enc Tryz.prog Tryz.f9 false true false false W args v W' := by
  have hW' := hW
  obtain ⟨p, q, hA0, hV, rfl, hfz, hnd⟩ := hW
  have hA : DataW.TrodAll enc Tryz.prog W 0 (fun _ => true) true Tryz.f9.params.toList args.toList ds p := hA0
  rw [Tryz.params9] at hA hval hR
  obtain ⟨v0, v1, d0, d1, p0, p1, rfl, rfl, rfl, h0, h1⟩ := trodAll_two hA
  obtain ⟨fuel0, hf0⟩ := h0
  obtain ⟨va, os0, hcs0, hO0⟩ := open_ops (cs := v0.cells.toList) hf0 (fun n hn => by
    have := List.all_eq_true.1 hR n (DataW.weights_mem_each (j := 0) rfl rfl n hn)
    simpa using this)
  obtain rfl : v0 = va := by
    have ho := ops_cells (hval 0 45 v0 rfl rfl)
    rw [ho] at hcs0
    simpa using hcs0
  obtain ⟨fuel1, hf1⟩ := h1
  obtain ⟨vb, os1, hcs1, hO1⟩ := open_ops (cs := v1.cells.toList) hf1 (fun n hn => by
    have := List.all_eq_true.1 hR n (DataW.weights_mem_each (j := 1) rfl rfl n hn)
    simpa using this)
  obtain rfl : v1 = vb := by
    have ho := ops_cells (hval 1 45 v1 rfl rfl)
    rw [ho] at hcs1
    simpa using hcs1
  clear hA0 hA
  refine (law_clone v0 v1 os0 os1 W (gl_of hL hS) hO0 hO1).mono fun e W' ⟨he, hb⟩ => ?_
  subst he
  exact ⟨_, rfl, law_post rfl (by kernel_rfl) hW' (by rw [Tryz.params9]; intro t ht; obtain rfl : t = 45 := (by simpa using ht); exact ⟨by kernel_rfl, of_decide_eq_true (by kernel_rfl)⟩) rfl hb⟩

theorem reads (os : Os) {H : Type} (enc : TypeId × Value → H) : ∃ places, DataW.whole enc Tryz.prog ((World.laidAll Tryz.prog os Rows.overviewCloneRow.laid).forCall (fun _ _ => 0) ⟨#[], #[.slice none 0 0, .slice none 0 0], []⟩).memory Tryz.f9.params.toList Rows.overviewCloneSpec.vars false (#[.slice none 0 0, .slice none 0 0] : Array Value).toList 8 = some ([.nil, .nil], [], places) :=
  ⟨[], by kernel_rfl⟩

set_option maxRecDepth 100000 in
theorem lifted (os : Os) (started : os.Started) (H : Type) (enc : TypeId × Value → H) (F : Stop.Interp) :
    ReturnsInHanded {} Tryz.checked os 9 .any ((OpenSpec.ofChange Rows.overviewCloneSpec).preRow enc Tryz.prog Tryz.f9 Rows.overviewCloneRow.domain false Rows.overviewCloneRow.laid) (((OpenSpec.ofChange Rows.overviewCloneSpec).at F).post enc Tryz.prog Tryz.f9 false true false false) := by
  obtain ⟨places, hx⟩ := reads os enc
  refine returnsInHanded_of_row (C := Tryz.checked) (s := OpenSpec.ofChange Rows.overviewCloneSpec) own started (by kernel_rfl) Tryz.func9
    (witness_row_at (enc := enc) (C := Tryz.checked) false (World.laidAll Tryz.prog os Rows.overviewCloneRow.laid) #[.slice none 0 0, .slice none 0 0] (World.laidAll_os _ _ _) (by kernel_rfl) (by kernel_rfl) (by kernel_rfl)
      (OpenSpec.preRow_of_cond 8 hx (by kernel_rfl) (fun k hk => by cases hk) (by kernel_rfl) (laidMet_laidAll _ (by kernel_rfl) (by kernel_rfl)))) ?_
  intro W base args ds gs before hval hW _ _ hR hL hS _
  exact contract H enc W base args ds gs before hval hW hR hL hS

theorem said : Rows.OverviewCloneSaid :=
  OpenClaim.holds_of_cond 9 Tryz.f9 rfl rfl rfl rfl rfl rfl rfl ⟨rfl, rfl, rfl, rfl, rfl⟩ rfl rfl rfl rfl rfl (by kernel_rfl) Tryz.func9 (by kernel_rfl)
    (of_decide_eq_true (by kernel_rfl)) (by unfold Func.isWrapper; first | (rw [if_pos (by decide +kernel)]; kernel_rfl) | (rw [if_neg (by decide +kernel)]; exact ⟨rfl, rfl⟩))
    (fun os started H enc _ F => by rw [OpenClaim.pre_eq_preRow]; exact lifted os started H enc F)

theorem plain (f : FuncId) (fn : Func) (hf : Tryz.pinned.checked.prog.funcNamed "bulletin/bulletinlaw28.OverviewClone" = some f) (hfn : Tryz.pinned.checked.prog.funcs[f]? = some fn) :
    true = Tryz.pinned.checked.prog.looks [] ∧ ∀ (j : Nat) t, fn.params[j]? = some t → Tryz.pinned.checked.prog.wantsStandIn t = false := by
  obtain rfl : f = 9 := Option.some.inj ((show Tryz.prog.funcNamed "bulletin/bulletinlaw28.OverviewClone" = some 9 by kernel_rfl).symm.trans hf) |>.symm
  obtain rfl : fn = Tryz.f9 := (Option.some.inj (Tryz.func9.symm.trans hfn)).symm
  refine ⟨by kernel_rfl, fun j t ht => ?_⟩
  rw [Tryz.params9] at ht
  obtain rfl : t = 45 := by simpa using Array.mem_of_getElem? ht
  exact (show Tryz.prog.wantsStandIn 45 = false by kernel_rfl)

end Go.Proofs.YtdjaphcelpchaaaGreatDoor.overviewClone
namespace Go.Proofs.YtdjaphcelpchaaaGreatDoor
open Go
theorem overviewClone_card : Rows.OverviewCloneCardSaid :=
  Claim7.holds_tied_plain_at .later [] _ _ _ _ overviewClone.said (fun _ h => by cases h) (by kernel_rfl) (fun _ h => by cases h) overviewClone_row_tie rfl ⟨rfl, rfl⟩ (by kernel_rfl) rfl overviewClone.plain (by kernel_rfl)
#print axioms overviewClone_card
end Go.Proofs.YtdjaphcelpchaaaGreatDoor
