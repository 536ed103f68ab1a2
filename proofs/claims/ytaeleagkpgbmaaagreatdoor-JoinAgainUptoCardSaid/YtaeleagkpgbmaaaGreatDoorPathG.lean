/- path.Compare: behind it the world has only grown (what the library's sort asks). -/
import Derived.Test.YtaeleagkpgbmaaaGreatDoorPath
import Derived.Test.YtaeleagkpgbmaaaGreatDoorGrw
namespace Go.Proofs.YtaeleagkpgbmaaaGreatDoor
open Go.RowKit
set_option linter.unusedSimpArgs false
set_option linter.unusedVariables false

theorem c90g (s : ByteArray) (w : World) (hG : GMax w) (hs : s.size < 4294967280) :
    Calls Tryz.prog 90 #[.string s, .string slB] w fun e w' => ∃ v, e = .returned v ∧ Strs w' v (Lib.splitB slB 0 (Lib.countB s slB) s) ∧ Grw w w' := by
  obtain ⟨m, hm⟩ := hG
  refine (Tryz.strings_Split s slB m w (by omega) hm (by decide)).mono ?_
  rintro e w' ⟨rfl, rfl⟩
  have hl := splitAll_length s
  have hc := countB_le s
  refine ⟨_, rfl, ?_, Grw.alloc _ _⟩
  have := Strs.new w (Lib.splitB slB 0 (Lib.countB s slB) s) (by omega)
  rw [hl] at this
  exact this

set_option maxHeartbeats 400000 in
theorem c78g (s : ByteArray) (w : World) (hG : GMax w) (hs : s.size < 4294967280) :
    Calls Tryz.prog 78 #[.string s] w fun e w' => ∃ v, e = .returned v ∧ Strs w' v (splitP s) ∧ Grw w w' := by
  unfold splitP
  cases hE : s.toList.isEmpty
  · have H := Lib.hid (c90g s w hG hs)
    unfold slB at H
    simp only [Bool.false_eq_true, if_false]
    generalize hL : Lib.splitB slB 0 (Lib.countB s slB) s = L
    unfold slB at hL
    rw [hL] at H
    clear hL
    go_enter Tryz.func78, Tryz.ntmps78
    go_wp2_with fail
    refine H.out.mono ?_
    rintro e w' ⟨v, rfl, hv, he⟩
    have Hv := Lib.hid hv
    have He := Lib.hid he
    clear hv he
    go_wp2_with fail
    go_ret
    exact ⟨_, rfl, Hv.out, He.out⟩
  · simp only [if_true]
    go_enter Tryz.func78, Tryz.ntmps78
    go_wp2_with fail
    go_ret
    exact ⟨_, rfl, Sl.nil _ _ _, Grw.refl _⟩

set_option maxHeartbeats 400000 in
theorem c39g (a b : ByteArray) (w : World) (hG : GMax w) (ha : a.size < 4294967280) (hb : b.size < 4294967280) :
    Calls Tryz.prog 39 #[.string a, .string b] w fun e w' => e = .returned (.int .i64 (cmpP a b)) ∧ Grw w w' := by
  unfold cmpP
  have H1 := Lib.hid (c78g a w hG ha)
  have H2 := fun w' (he : Grw w w') => Lib.hid (c78g b w' (hG.ext he.ext) hb)
  have H3 := Lib.hid H2
  clear H2
  go_enter Tryz.func39, Tryz.ntmps39
  go_wp2_with fail
  refine H1.out.mono ?_
  rintro e w1 ⟨v1, rfl, hv1, he1⟩
  have He1 := Lib.hid he1
  have Hv1 := Lib.hid hv1
  clear he1 hv1
  go_wp2_with fail
  refine (H3.out w1 He1.out).out.mono ?_
  rintro e w2 ⟨v2, rfl, hv2, he2⟩
  have He2 := Lib.hid he2
  have Hv2 := Lib.hid hv2
  clear he2 hv2
  go_wp2_with fail
  refine (c77 v1 v2 _ _ w2 (Sl.ext Hv1.out He2.out.ext) Hv2.out).mono ?_
  rintro e w3 ⟨rfl, rfl⟩
  go_wp2_with fail
  go_ret
  exact ⟨rfl, He1.out.trans He2.out⟩
end Go.Proofs.YtaeleagkpgbmaaaGreatDoor
