/- The law JoinSides of layer 13 answers true for every two lists of files, where what is read is of bulk at most 1048576. The package variables that the row lists hold what their initialisers lay (the card's tie). -/
import Derived.Test.YtaeleagkpgbmaaaGreatDoorSides1
import Derived.Test.YtaeleagkpgbmaaaGreatDoorOpenF
import Derived.Lay
namespace Go.Proofs.YtaeleagkpgbmaaaGreatDoor
open Go.ChangeShapes Go.WideShapes Go.ChangeAt Go.RowKit
set_option linter.unusedSimpArgs false
set_option linter.unusedVariables false
set_option maxRecDepth 100000

namespace JoinSides
def wArgs : Array Value := #[.slice none 0 0, .slice none 0 0]
theorem reads (os : Os) {H : Type} (enc : TypeId × Value → H) : ∃ ds places, DataW.whole enc Tryz.prog ((World.laidAll Tryz.prog os Rows.joinSidesUptoRow.laid).forCall (fun _ _ => 0) ⟨#[], wArgs, []⟩).memory Tryz.f4.params.toList Rows.joinSidesSpec.vars false wArgs.toList 8 = some (ds, [], places) ∧ Rows.uptoSmall H (ds ++ []) = true :=
  ⟨[.nil, .nil], [], by kernel_rfl, by kernel_rfl⟩
theorem small {H : Type} {d0 d1 : DataW H} (h : Rows.uptoSmall H ([d0, d1] ++ []) = true) : Rows.uptoBulk d0 ≤ 1048576 ∧ Rows.uptoBulk d1 ≤ 1048576 := by
  unfold Rows.uptoSmall at h
  simp only [List.append_nil, Rows.uptoBulkAll, decide_eq_true_eq] at h
  omega
/-- the walk, for every argument and every world of the row -/
theorem contract (H : Type) (enc : TypeId × Value → H) (W : World) (base : Nat) (args : Array Value) (ds gs : List (DataW H)) (before : List MemPlace)
    (hval : ∀ (j : Nat) t v, Tryz.f4.params[j]? = some t → args[j]? = some v → Value.okWide Tryz.prog W .any base t v)
    (hW : DataW.Whole enc Tryz.prog Tryz.f4.params.toList Rows.joinSidesSpec.vars false W args.toList ds gs before) (hsmall : Rows.uptoSmall H (ds ++ gs) = true) (hsh : W.ShapedOpen Tryz.prog) :
    Calls Tryz.prog 4 args W fun e W' => ∃ v, e = .returned v ∧ Rows.joinSidesSpec.post enc Tryz.prog Tryz.f4 false true false false W args v W' := by
  have hW' := hW
  obtain ⟨p, q, hA0, hV, rfl, hfz, hnd⟩ := hW
  have hA : DataW.TrodAll enc Tryz.prog W 0 (fun _ => true) true Tryz.f4.params.toList args.toList ds p := hA0
  rw [Tryz.params4] at hA hval
  obtain ⟨v0, v1, d0, d1, p0, p1, rfl, rfl, rfl, h0, h1⟩ := trodAll_two hA
  obtain ⟨rfl, rfl⟩ := trodVars_none hV
  obtain ⟨hs0, hs1⟩ := small hsmall
  obtain ⟨b, hb, kb⟩ := open_files (hval 0 22 v0 rfl rfl) h0 hs0
  obtain ⟨o, ho, ko⟩ := open_files (hval 1 22 v1 rfl rfl) h1 hs1
  refine (c4 v0 v1 b o W hb ho (gmax_of hsh) kb ko).mono fun e W' ⟨he, hx⟩ => ?_
  subst he
  exact ⟨_, rfl, law_post hW' rfl (by kernel_rfl) rfl rfl rfl (by rw [Tryz.params4]; intro t ht; simp only [List.mem_cons, List.mem_nil_iff, or_false] at ht; rcases ht with rfl | rfl <;> exact ⟨by kernel_rfl, of_decide_eq_true (by kernel_rfl)⟩) hx⟩

theorem lifted (os : Os) (started : os.Started) (H : Type) (enc : TypeId × Value → H) (F : Stop.Interp) :
    ReturnsInHanded {} Tryz.checked os 4 .any ((Rows.OpenSpec.upto Rows.joinSidesSpec).preRow enc Tryz.prog Tryz.f4 Rows.joinSidesUptoRow.domain false Rows.joinSidesUptoRow.laid) (((Rows.OpenSpec.upto Rows.joinSidesSpec).at F).post enc Tryz.prog Tryz.f4 false true false false) := by
  obtain ⟨ds, places, hx, hsm⟩ := reads os enc
  refine returnsInHanded_of_row (C := Tryz.checked) (s := Rows.OpenSpec.upto Rows.joinSidesSpec) own started (by kernel_rfl) Tryz.func4
    (witness_row_at (enc := enc) (C := Tryz.checked) false (World.laidAll Tryz.prog os Rows.joinSidesUptoRow.laid) wArgs (World.laidAll_os _ _ _) (by kernel_rfl) (by kernel_rfl) (by kernel_rfl)
      (OpenSpec.preRow_of_cond 8 hx (by kernel_rfl) (fun k hk => by cases hk; exact hsm) (by kernel_rfl) (laidMet_laidAll _ (by kernel_rfl) (by kernel_rfl)))) ?_
  intro W base args ds gs before hval hW _ hcond _ hL hsh _
  exact contract H enc W base args ds gs before hval hW (hcond _ rfl) hsh

theorem said : Rows.JoinSidesUptoSaid :=
  OpenClaim.holds_of_cond 4 Tryz.f4 rfl rfl rfl rfl rfl rfl rfl ⟨rfl, rfl, rfl, rfl, rfl⟩ rfl rfl rfl rfl rfl (by kernel_rfl) Tryz.func4 (by kernel_rfl)
    (of_decide_eq_true (by kernel_rfl)) (by unfold Func.isWrapper; first | (rw [if_pos (by decide +kernel)]; kernel_rfl) | (rw [if_neg (by decide +kernel)]; exact ⟨rfl, rfl⟩))
    (fun os started H enc _ F => by rw [OpenClaim.pre_eq_preRow]; exact lifted os started H enc F)
theorem plain (f : FuncId) (fn : Func) (hf : Tryz.pinned.checked.prog.funcNamed "towline/towlinelaw13.JoinSides" = some f) (hfn : Tryz.pinned.checked.prog.funcs[f]? = some fn) :
    true = Tryz.pinned.checked.prog.looks [] ∧ ∀ (j : Nat) t, fn.params[j]? = some t → Tryz.pinned.checked.prog.wantsStandIn t = false := by
  obtain rfl : f = 4 := Option.some.inj ((show Tryz.prog.funcNamed "towline/towlinelaw13.JoinSides" = some 4 by kernel_rfl).symm.trans hf) |>.symm
  obtain rfl : fn = Tryz.f4 := (Option.some.inj (Tryz.func4.symm.trans hfn)).symm
  refine ⟨by kernel_rfl, fun j t ht => ?_⟩
  rw [Tryz.params4] at ht
  have hm : t ∈ [22, 22] := by simpa using Array.mem_of_getElem? ht
  have hall : ([22, 22].all fun u => !Tryz.prog.wantsStandIn u) = true := by kernel_rfl
  exact (show Tryz.prog.wantsStandIn t = false by simpa using List.all_eq_true.1 hall t hm)
end JoinSides
/-- the claim -/
theorem joinSidesUpto_holds : Rows.JoinSidesUptoCardSaid :=
  Claim7.holds_tied_plain_at .later [] _ _ _ _ JoinSides.said (fun _ h => by cases h) (by kernel_rfl) (fun _ h => by cases h) joinSidesUpto_row_tie rfl ⟨rfl, rfl⟩ (by kernel_rfl) rfl JoinSides.plain (by kernel_rfl)
end Go.Proofs.YtaeleagkpgbmaaaGreatDoor
