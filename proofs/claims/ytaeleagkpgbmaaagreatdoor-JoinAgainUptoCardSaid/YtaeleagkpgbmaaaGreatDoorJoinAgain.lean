/- The law JoinAgain of layer 13 answers true for every three lists of files, where what is read is of bulk at most 1048576. The package variables that the row lists hold what their initialisers lay (the card's tie). -/
import Derived.Test.YtaeleagkpgbmaaaGreatDoorAgain1
import Derived.Test.YtaeleagkpgbmaaaGreatDoorOpenF
import Derived.Lay
namespace Go.Proofs.YtaeleagkpgbmaaaGreatDoor
open Go.ChangeShapes Go.WideShapes Go.ChangeAt Go.RowKit
set_option linter.unusedSimpArgs false
set_option linter.unusedVariables false
set_option maxRecDepth 100000

section
variable {H : Type} {enc : TypeId × Value → H} {W : World} {base : Nat}
theorem cells22 : Tryz.prog.cellsOf 22 = 1 := by kernel_rfl
theorem ok_slice22 {b0 : Nat} {u : Value} (h : Cell.okWide Tryz.prog W .any b0 22 u) : ∃ A l c, u = .slice A l c := by
  unfold Cell.okWide Cell.ok at h
  rw [Tryz.underlying22] at h
  cases u <;> simp only at h
  exact ⟨_, _, _, rfl⟩
theorem okWide22 {b0 : Nat} {u : Value} (h : Cell.okWide Tryz.prog W .any b0 22 u) : Value.okWide Tryz.prog W .any b0 22 u := by
  unfold Value.okWide
  rw [Tryz.underlying22]
  exact h
/-- three lists of files in an array -/
theorem open_lists {b0 : Nat} {v : Value} {d : DataW H} {ps : List MemPlace} (hval : Value.okWide Tryz.prog W .any b0 23 v) (h : DataW.Trod enc Tryz.prog W base (fun _ => true) true 23 v d ps) (hb : Rows.uptoBulk d ≤ 1048576) :
    ∃ v0 v1 v2 l0 l1 l2, v = .agg #[v0, v1, v2] ∧ (Files W v0 l0 ∧ okFiles l0) ∧ (Files W v1 l1 ∧ okFiles l1) ∧ (Files W v2 l2 ∧ okFiles l2) := by
  obtain ⟨cs, rfl, hl, hc⟩ := okWide_cells Tryz.underlying23 rfl (n := 3) (e := 22) (by kernel_rfl) (by decide) (by kernel_rfl) hval
  obtain ⟨fuel, hn⟩ := h
  have hn' : DataW.trod enc Tryz.prog W base (fun _ => true) true fuel 23 cs = some (d, ps) := by
    have e : (Value.agg cs.toArray).cells.toList = cs := by simp [Value.cells]
    rw [e] at hn
    exact hn
  obtain ⟨xs, m, -, hx, -, hxl, hel⟩ := DataW.trod_array Tryz.underlying23 hn'
  injection hx with hd _
  rw [cells22] at hel
  have key : ∀ i, i < 3 → ∃ u l, cs[i]? = some u ∧ Files W u l ∧ okFiles l := by
    intro i hi
    obtain ⟨u, hu⟩ : ∃ u, cs[i]? = some u := ⟨_, List.getElem?_eq_getElem (by omega)⟩
    obtain ⟨y, hy⟩ : ∃ y, xs[i]? = some y := ⟨_, List.getElem?_eq_getElem (by omega)⟩
    have hok := hc u (List.mem_of_getElem? hu)
    have h1 := hel i hi
    rw [hy] at h1
    have e1 : (cs.drop (i * 1)).take 1 = [u] := by
      obtain ⟨hlt, rfl⟩ := List.getElem?_eq_some_iff.1 hu
      rw [Nat.mul_one, List.drop_eq_getElem_cons hlt]
      rfl
    rw [e1] at h1
    obtain ⟨A, n, c, rfl⟩ := ok_slice22 hok
    have ht : DataW.Trod enc Tryz.prog W base (fun _ => true) true 22 (.slice A n c) y.1 y.2 := ⟨m, h1⟩
    have hbi : Rows.uptoBulk y.1 ≤ 1048576 := by
      have h2 := bulk_mem (d := y.1) (ds := xs.map (·.1)) (List.mem_map.2 ⟨y, List.mem_of_getElem? hy, rfl⟩)
      rw [hd] at hb
      simp only [Rows.uptoBulk] at hb
      omega
    obtain ⟨l, hf, hkl⟩ := open_files (okWide22 hok) ht hbi
    exact ⟨_, l, hu, hf, hkl⟩
  match cs, hl, key with
  | [u0, u1, u2], _, key =>
    obtain ⟨v0, l0, e0, f0⟩ := key 0 (by omega)
    obtain ⟨v1, l1, e1, f1⟩ := key 1 (by omega)
    obtain ⟨v2, l2, e2, f2⟩ := key 2 (by omega)
    simp only [List.getElem?_cons_zero, List.getElem?_cons_succ, Option.some.injEq] at e0 e1 e2
    subst e0 e1 e2
    exact ⟨_, _, _, l0, l1, l2, rfl, f0, f1, f2⟩
end
namespace JoinAgain
def wArgs : Array Value := #[.agg #[.slice none 0 0, .slice none 0 0, .slice none 0 0]]
theorem reads (os : Os) {H : Type} (enc : TypeId × Value → H) : ∃ ds places, DataW.whole enc Tryz.prog ((World.laidAll Tryz.prog os Rows.joinAgainUptoRow.laid).forCall (fun _ _ => 0) ⟨#[], wArgs, []⟩).memory Tryz.f6.params.toList Rows.joinAgainSpec.vars false wArgs.toList 8 = some (ds, [], places) ∧ Rows.uptoSmall H (ds ++ []) = true :=
  ⟨[.agg [.nil, .nil, .nil]], [], by kernel_rfl, by kernel_rfl⟩
theorem small {H : Type} {d0 : DataW H} (h : Rows.uptoSmall H ([d0] ++ []) = true) : Rows.uptoBulk d0 ≤ 1048576 := by
  unfold Rows.uptoSmall at h
  simp only [List.append_nil, Rows.uptoBulkAll, decide_eq_true_eq] at h
  omega
/-- the walk, for every argument and every world of the row -/
theorem contract (H : Type) (enc : TypeId × Value → H) (W : World) (base : Nat) (args : Array Value) (ds gs : List (DataW H)) (before : List MemPlace)
    (hval : ∀ (j : Nat) t v, Tryz.f6.params[j]? = some t → args[j]? = some v → Value.okWide Tryz.prog W .any base t v)
    (hW : DataW.Whole enc Tryz.prog Tryz.f6.params.toList Rows.joinAgainSpec.vars false W args.toList ds gs before) (hsmall : Rows.uptoSmall H (ds ++ gs) = true) (hsh : W.ShapedOpen Tryz.prog) :
    Calls Tryz.prog 6 args W fun e W' => ∃ v, e = .returned v ∧ Rows.joinAgainSpec.post enc Tryz.prog Tryz.f6 false true false false W args v W' := by
  have hW' := hW
  obtain ⟨p, q, hA0, hV, rfl, hfz, hnd⟩ := hW
  have hA : DataW.TrodAll enc Tryz.prog W 0 (fun _ => true) true Tryz.f6.params.toList args.toList ds p := hA0
  rw [Tryz.params6] at hA hval
  obtain ⟨v, d0, rfl, rfl, h0⟩ := trodAll_one hA
  obtain ⟨rfl, rfl⟩ := trodVars_none hV
  have hs0 := small hsmall
  obtain ⟨v0, v1, v2, l0, l1, l2, rfl, ⟨f0, k0⟩, ⟨f1, k1⟩, ⟨f2, k2⟩⟩ := open_lists (hval 0 23 v rfl rfl) h0 hs0
  refine (c6 v0 v1 v2 l0 l1 l2 W f0 f1 f2 (gmax_of hsh) k0 k1 k2).mono fun e W' ⟨he, hx⟩ => ?_
  subst he
  exact ⟨_, rfl, law_post hW' rfl (by kernel_rfl) rfl rfl rfl (by rw [Tryz.params6]; intro t ht; simp only [List.mem_cons, List.mem_nil_iff, or_false] at ht; subst ht; exact ⟨by kernel_rfl, of_decide_eq_true (by kernel_rfl)⟩) hx⟩

theorem lifted (os : Os) (started : os.Started) (H : Type) (enc : TypeId × Value → H) (F : Stop.Interp) :
    ReturnsInHanded {} Tryz.checked os 6 .any ((Rows.OpenSpec.upto Rows.joinAgainSpec).preRow enc Tryz.prog Tryz.f6 Rows.joinAgainUptoRow.domain false Rows.joinAgainUptoRow.laid) (((Rows.OpenSpec.upto Rows.joinAgainSpec).at F).post enc Tryz.prog Tryz.f6 false true false false) := by
  obtain ⟨ds, places, hx, hsm⟩ := reads os enc
  refine returnsInHanded_of_row (C := Tryz.checked) (s := Rows.OpenSpec.upto Rows.joinAgainSpec) own started (by kernel_rfl) Tryz.func6
    (witness_row_at (enc := enc) (C := Tryz.checked) false (World.laidAll Tryz.prog os Rows.joinAgainUptoRow.laid) wArgs (World.laidAll_os _ _ _) (by kernel_rfl) (by kernel_rfl) (by kernel_rfl)
      (OpenSpec.preRow_of_cond 8 hx (by kernel_rfl) (fun k hk => by cases hk; exact hsm) (by kernel_rfl) (laidMet_laidAll _ (by kernel_rfl) (by kernel_rfl)))) ?_
  intro W base args ds gs before hval hW _ hcond _ hL hsh _
  exact contract H enc W base args ds gs before hval hW (hcond _ rfl) hsh

theorem said : Rows.JoinAgainUptoSaid :=
  OpenClaim.holds_of_cond 6 Tryz.f6 rfl rfl rfl rfl rfl rfl rfl ⟨rfl, rfl, rfl, rfl, rfl⟩ rfl rfl rfl rfl rfl (by kernel_rfl) Tryz.func6 (by kernel_rfl)
    (of_decide_eq_true (by kernel_rfl)) (by unfold Func.isWrapper; first | (rw [if_pos (by decide +kernel)]; kernel_rfl) | (rw [if_neg (by decide +kernel)]; exact ⟨rfl, rfl⟩))
    (fun os started H enc _ F => by rw [OpenClaim.pre_eq_preRow]; exact lifted os started H enc F)
theorem plain (f : FuncId) (fn : Func) (hf : Tryz.pinned.checked.prog.funcNamed "towline/towlinelaw13.JoinAgain" = some f) (hfn : Tryz.pinned.checked.prog.funcs[f]? = some fn) :
    true = Tryz.pinned.checked.prog.looks [] ∧ ∀ (j : Nat) t, fn.params[j]? = some t → Tryz.pinned.checked.prog.wantsStandIn t = false := by
  obtain rfl : f = 6 := Option.some.inj ((show Tryz.prog.funcNamed "towline/towlinelaw13.JoinAgain" = some 6 by kernel_rfl).symm.trans hf) |>.symm
  obtain rfl : fn = Tryz.f6 := (Option.some.inj (Tryz.func6.symm.trans hfn)).symm
  refine ⟨by kernel_rfl, fun j t ht => ?_⟩
  rw [Tryz.params6] at ht
  have hm : t ∈ [23] := by simpa using Array.mem_of_getElem? ht
  have hall : ([23].all fun u => !Tryz.prog.wantsStandIn u) = true := by kernel_rfl
  exact (show Tryz.prog.wantsStandIn t = false by simpa using List.all_eq_true.1 hall t hm)
end JoinAgain
/-- the claim -/
theorem joinAgainUpto_holds : Rows.JoinAgainUptoCardSaid :=
  Claim7.holds_tied_plain_at .later [] _ _ _ _ JoinAgain.said (fun _ h => by cases h) (by kernel_rfl) (fun _ h => by cases h) joinAgainUpto_row_tie rfl ⟨rfl, rfl⟩ (by kernel_rfl) rfl JoinAgain.plain (by kernel_rfl)
end Go.Proofs.YtaeleagkpgbmaaaGreatDoor
