/- The tied card of bulletinlaw28.OverviewNil, proved: for every line the call returns true; package-level tables of Go's library as the program's text lays them. -/
import Derived.Test.YtdjaphcelpchaaaGreatDoorOpenLine
import Derived.Test.YtdjaphcelpchaaaGreatDoorLawNil
namespace Go.Proofs.YtdjaphcelpchaaaGreatDoor.overviewNil
open Go Go.RowKit Go.Proofs Go.Proofs.YtdjaphcelpchaaaGreatDoor Go.ChangeShapes Go.WideShapes Go.ChangeAt Go.WideMaps Go.ChangeMaps

set_option maxRecDepth 100000 in
theorem contract (H : Type) (enc : TypeId × Value → H) (W : World) (base : Nat) (args : Array Value) (ds gs : List (DataW H)) (before : List MemPlace)
    (hval : ∀ (j : Nat) t v, Tryz.f10.params[j]? = some t → args[j]? = some v → Value.okWide Tryz.prog W .any base t v)
    (hW : DataW.Whole enc Tryz.prog Tryz.f10.params.toList Rows.overviewNilSpec.vars false W args.toList ds gs before)
    (hR : (DataW.weightsEach Tryz.prog (Tryz.f10.params.toList ++ (OpenSpec.ofChange Rows.overviewNilSpec).bare.plain.varTypes Tryz.prog) (ds ++ gs)).all (· ≤ reachBytes) = true)
    (hL : laidMetH Tryz.prog Rows.overviewNilRow.laid W) (hS : W.ShapedOpen Tryz.prog) :
    Calls Tryz.prog 10 args W fun e W' => ∃ v, e = .returned v ∧ Rows.overviewNilSpec.post enc Tryz.prog Tryz.f10 false true false false W args v W' := by
  have hW' := hW
  obtain ⟨p, q, hA0, hV, rfl, hfz, hnd⟩ := hW
  have hA : DataW.TrodAll enc Tryz.prog W 0 (fun _ => true) true Tryz.f10.params.toList args.toList ds p := hA0
  rw [Tryz.params10] at hA hval hR
  obtain ⟨v0, d0, rfl, rfl, h0⟩ := trodAll_one hA
  have ho := hval 0 26 v0 rfl rfl
  unfold Value.okWide at ho
  rw [Tryz.underlying26] at ho
  obtain ⟨cs, rfl, _, _⟩ := ho
  obtain ⟨fuel, hf⟩ := h0
  obtain ⟨s, g, ids, hcs, hI, h1, h2, h3, h4⟩ := open_rlinecells (cs := cs.toList) hf (fun n hn => by
    have := List.all_eq_true.1 hR n (DataW.weights_mem_each (j := 0) rfl rfl n hn)
    simpa using this)
  obtain rfl : cs = rlineCells s g := by
    unfold rlineCells
    rw [← hcs]
  unfold reachBytes at h1 h2 h3 h4
  clear hA0 hA
  refine (law_nil s g ids W (gl_of hL hS) hI (by unfold maxLen; omega) (by unfold maxLen; omega) (by unfold maxLen; omega) (by unfold maxLen; omega)).mono fun e W' ⟨he, hb⟩ => ?_
  subst he
  exact ⟨_, rfl, law_post rfl (by kernel_rfl) hW' (by rw [Tryz.params10]; intro t ht; obtain rfl : t = 26 := (by simpa using ht); exact ⟨by kernel_rfl, of_decide_eq_true (by kernel_rfl)⟩) rfl hb⟩

def zeroArg : Value := .agg (rlineCells ⟨#[]⟩ zeroLine)
theorem reads (os : Os) {H : Type} (enc : TypeId × Value → H) : ∃ places, DataW.whole enc Tryz.prog ((World.laidAll Tryz.prog os Rows.overviewNilRow.laid).forCall (fun _ _ => 0) ⟨#[], #[zeroArg], []⟩).memory Tryz.f10.params.toList Rows.overviewNilSpec.vars false #[zeroArg].toList 8 = some ([.agg [.lit (.string []), .lit (.int .i64 0), .agg (List.replicate 32 (.lit (.int .u8 0))), .lit (.string []), .lit (.int .i64 0), .lit (.string []), .nil, .lit (.int .i64 0)]], [], places) :=
  ⟨[], by kernel_rfl⟩

set_option maxRecDepth 100000 in
theorem lifted (os : Os) (started : os.Started) (H : Type) (enc : TypeId × Value → H) (F : Stop.Interp) :
    ReturnsInHanded {} Tryz.checked os 10 .any ((OpenSpec.ofChange Rows.overviewNilSpec).preRow enc Tryz.prog Tryz.f10 Rows.overviewNilRow.domain false Rows.overviewNilRow.laid) (((OpenSpec.ofChange Rows.overviewNilSpec).at F).post enc Tryz.prog Tryz.f10 false true false false) := by
  obtain ⟨places, hx⟩ := reads os enc
  refine returnsInHanded_of_row (C := Tryz.checked) (s := OpenSpec.ofChange Rows.overviewNilSpec) own started (by kernel_rfl) Tryz.func10
    (witness_row_at (enc := enc) (C := Tryz.checked) false (World.laidAll Tryz.prog os Rows.overviewNilRow.laid) #[zeroArg] (World.laidAll_os _ _ _) (by kernel_rfl) (by kernel_rfl) (by kernel_rfl)
      (OpenSpec.preRow_of_cond 8 hx (by kernel_rfl) (fun k hk => by cases hk) (by kernel_rfl) (laidMet_laidAll _ (by kernel_rfl) (by kernel_rfl)))) ?_
  intro W base args ds gs before hval hW _ _ hR hL hS _
  exact contract H enc W base args ds gs before hval hW hR hL hS

theorem said : Rows.OverviewNilSaid :=
  OpenClaim.holds_of_cond 10 Tryz.f10 rfl rfl rfl rfl rfl rfl rfl ⟨rfl, rfl, rfl, rfl, rfl⟩ rfl rfl rfl rfl rfl (by kernel_rfl) Tryz.func10 (by kernel_rfl)
    (of_decide_eq_true (by kernel_rfl)) (by unfold Func.isWrapper; first | (rw [if_pos (by decide +kernel)]; kernel_rfl) | (rw [if_neg (by decide +kernel)]; exact ⟨rfl, rfl⟩))
    (fun os started H enc _ F => by rw [OpenClaim.pre_eq_preRow]; exact lifted os started H enc F)

theorem plain (f : FuncId) (fn : Func) (hf : Tryz.pinned.checked.prog.funcNamed "bulletin/bulletinlaw28.OverviewNil" = some f) (hfn : Tryz.pinned.checked.prog.funcs[f]? = some fn) :
    true = Tryz.pinned.checked.prog.looks [] ∧ ∀ (j : Nat) t, fn.params[j]? = some t → Tryz.pinned.checked.prog.wantsStandIn t = false := by
  obtain rfl : f = 10 := Option.some.inj ((show Tryz.prog.funcNamed "bulletin/bulletinlaw28.OverviewNil" = some 10 by kernel_rfl).symm.trans hf) |>.symm
  obtain rfl : fn = Tryz.f10 := (Option.some.inj (Tryz.func10.symm.trans hfn)).symm
  refine ⟨by kernel_rfl, fun j t ht => ?_⟩
  rw [Tryz.params10] at ht
  obtain rfl : t = 26 := by simpa using Array.mem_of_getElem? ht
  exact (show Tryz.prog.wantsStandIn 26 = false by kernel_rfl)

end Go.Proofs.YtdjaphcelpchaaaGreatDoor.overviewNil
namespace Go.Proofs.YtdjaphcelpchaaaGreatDoor
open Go
theorem overviewNil_card : Rows.OverviewNilCardSaid :=
  Claim7.holds_tied_plain_at .later [] _ _ _ _ overviewNil.said (fun _ h => by cases h) (by kernel_rfl) (fun _ h => by cases h) overviewNil_row_tie rfl ⟨rfl, rfl⟩ (by kernel_rfl) rfl overviewNil.plain (by kernel_rfl)
#print axioms overviewNil_card
end Go.Proofs.YtdjaphcelpchaaaGreatDoor
