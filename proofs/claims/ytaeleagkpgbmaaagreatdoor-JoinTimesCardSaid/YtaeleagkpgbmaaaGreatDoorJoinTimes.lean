/- The law JoinTimes of layer 13 answers true for every id and every three times. The package variables that the row lists hold what their initialisers lay (the card's tie). -/
import Derived.Test.YtaeleagkpgbmaaaGreatDoorTimes1
import Derived.Test.YtaeleagkpgbmaaaGreatDoorClose
import Derived.Lay
namespace Go.Proofs.YtaeleagkpgbmaaaGreatDoor
open Go.ChangeShapes Go.WideShapes Go.ChangeAt Go.RowKit
set_option linter.unusedSimpArgs false
set_option linter.unusedVariables false
set_option maxRecDepth 100000

namespace JoinTimes
def wArgs : Array Value := #[.agg (Array.replicate 32 (.int .u8 0)), .agg #[.float .f64 0, .float .f64 0, .float .f64 0]]
theorem reads (os : Os) {H : Type} (enc : TypeId × Value → H) : ∃ ds places, DataW.whole enc Tryz.prog ((World.laidAll Tryz.prog os Rows.joinTimesRow.laid).forCall (fun _ _ => 0) ⟨#[], wArgs, []⟩).memory Tryz.f7.params.toList Rows.joinTimesSpec.vars false wArgs.toList 8 = some (ds, [], places) :=
  ⟨[.agg (List.replicate 32 (.lit (.int .u8 0))), .agg (List.replicate 3 (.lit (.float .f64 0)))], [], by kernel_rfl⟩
/-- the walk, for every argument and every world of the row -/
theorem contract (H : Type) (enc : TypeId × Value → H) (W : World) (base : Nat) (args : Array Value) (ds gs : List (DataW H)) (before : List MemPlace)
    (hval : ∀ (j : Nat) t v, Tryz.f7.params[j]? = some t → args[j]? = some v → Value.okWide Tryz.prog W .any base t v)
    (hW : DataW.Whole enc Tryz.prog Tryz.f7.params.toList Rows.joinTimesSpec.vars false W args.toList ds gs before) (hsh : W.ShapedOpen Tryz.prog) :
    Calls Tryz.prog 7 args W fun e W' => ∃ v, e = .returned v ∧ Rows.joinTimesSpec.post enc Tryz.prog Tryz.f7 false true false false W args v W' := by
  have hW' := hW
  obtain ⟨p, q, hA0, hV, rfl, hfz, hnd⟩ := hW
  have hA : DataW.TrodAll enc Tryz.prog W 0 (fun _ => true) true Tryz.f7.params.toList args.toList ds p := hA0
  rw [Tryz.params7] at hA hval
  obtain ⟨v0, v1, d0, d1, p0, p1, rfl, rfl, rfl, h0, h1⟩ := trodAll_two hA
  obtain ⟨rfl, rfl⟩ := trodVars_none hV
  obtain ⟨x, rfl⟩ := open_id (hval 0 43 v0 rfl rfl)
  obtain ⟨a, b, c, rfl, ka, kb, kc⟩ := open_stamps (hval 1 64 v1 rfl rfl)
  refine (c7 x a b c W (gmax_of hsh) ka kb kc).mono fun e W' ⟨he, hb⟩ => ?_
  subst he
  exact ⟨_, rfl, law_post hW' rfl (by kernel_rfl) rfl rfl rfl (by rw [Tryz.params7]; intro t ht; simp only [List.mem_cons, List.mem_nil_iff, or_false] at ht; rcases ht with rfl | rfl <;> exact ⟨by kernel_rfl, of_decide_eq_true (by kernel_rfl)⟩) hb⟩

theorem lifted (os : Os) (started : os.Started) (H : Type) (enc : TypeId × Value → H) (F : Stop.Interp) :
    ReturnsInHanded {} Tryz.checked os 7 .any ((OpenSpec.ofChange Rows.joinTimesSpec).preRow enc Tryz.prog Tryz.f7 Rows.joinTimesRow.domain false Rows.joinTimesRow.laid) (((OpenSpec.ofChange Rows.joinTimesSpec).at F).post enc Tryz.prog Tryz.f7 false true false false) := by
  obtain ⟨ds, places, hx⟩ := reads os enc
  refine returnsInHanded_of_row (C := Tryz.checked) (s := OpenSpec.ofChange Rows.joinTimesSpec) own started (by kernel_rfl) Tryz.func7
    (witness_row_at (enc := enc) (C := Tryz.checked) false (World.laidAll Tryz.prog os Rows.joinTimesRow.laid) wArgs (World.laidAll_os _ _ _) (by kernel_rfl) (by kernel_rfl) (by kernel_rfl)
      (OpenSpec.preRow_of_cond 8 hx (by kernel_rfl) (fun k hk => by cases hk) (by kernel_rfl) (laidMet_laidAll _ (by kernel_rfl) (by kernel_rfl)))) ?_
  intro W base args ds gs before hval hW _ _ _ hL hsh _
  exact contract H enc W base args ds gs before hval hW hsh

theorem said : Rows.JoinTimesSaid :=
  OpenClaim.holds_of_cond 7 Tryz.f7 rfl rfl rfl rfl rfl rfl rfl ⟨rfl, rfl, rfl, rfl, rfl⟩ rfl rfl rfl rfl rfl (by kernel_rfl) Tryz.func7 (by kernel_rfl)
    (of_decide_eq_true (by kernel_rfl)) (by unfold Func.isWrapper; first | (rw [if_pos (by decide +kernel)]; kernel_rfl) | (rw [if_neg (by decide +kernel)]; exact ⟨rfl, rfl⟩))
    (fun os started H enc _ F => by rw [OpenClaim.pre_eq_preRow]; exact lifted os started H enc F)
theorem plain (f : FuncId) (fn : Func) (hf : Tryz.pinned.checked.prog.funcNamed "towline/towlinelaw13.JoinTimes" = some f) (hfn : Tryz.pinned.checked.prog.funcs[f]? = some fn) :
    true = Tryz.pinned.checked.prog.looks [] ∧ ∀ (j : Nat) t, fn.params[j]? = some t → Tryz.pinned.checked.prog.wantsStandIn t = false := by
  obtain rfl : f = 7 := Option.some.inj ((show Tryz.prog.funcNamed "towline/towlinelaw13.JoinTimes" = some 7 by kernel_rfl).symm.trans hf) |>.symm
  obtain rfl : fn = Tryz.f7 := (Option.some.inj (Tryz.func7.symm.trans hfn)).symm
  refine ⟨by kernel_rfl, fun j t ht => ?_⟩
  rw [Tryz.params7] at ht
  have hm : t ∈ [43, 64] := by simpa using Array.mem_of_getElem? ht
  have hall : ([43, 64].all fun u => !Tryz.prog.wantsStandIn u) = true := by kernel_rfl
  exact (show Tryz.prog.wantsStandIn t = false by simpa using List.all_eq_true.1 hall t hm)
end JoinTimes
/-- the claim -/
theorem joinTimes_holds : Rows.JoinTimesCardSaid :=
  Claim7.holds_tied_plain_at .later [] _ _ _ _ JoinTimes.said (fun _ h => by cases h) (by kernel_rfl) (fun _ h => by cases h) joinTimes_row_tie rfl ⟨rfl, rfl⟩ (by kernel_rfl) rfl JoinTimes.plain (by kernel_rfl)
end Go.Proofs.YtaeleagkpgbmaaaGreatDoor
