/- The merged time: (*join.three).when. -/
import Derived.Test.YtaeleagkpgbmaaaGreatDoorJoin1
namespace Go.Proofs.YtaeleagkpgbmaaaGreatDoor
open Go.RowKit
set_option linter.unusedSimpArgs false
set_option linter.unusedVariables false

def okStamp (n : Nat) : Prop := n < 18446744073709551616
/-- the merged time -/
def whenF (h0 h1 h2 : Bool) (s0 s1 s2 : Nat) : Nat :=
  if h1 = false then bitsF s2 else if h2 = false then bitsF s1
  else if h0 = true ∧ cmpF s1 s0 = 0 then bitsF s2 else if h0 = true ∧ cmpF s2 s0 = 0 then bitsF s1 else latestF [s1, s2]

theorem late_two (x y : Nat) (w : World) (kx : okStamp x) (ky : okStamp y) :
    Calls Tryz.prog 123 #[.slice (some ⟨w.heap.size, 0, none⟩) 2 2] (w.alloc (.cells #[.float .f64 x, .float .f64 y] 44)) fun e w' => e = .returned (.float .f64 (latestF [x, y])) ∧ (w.alloc (.cells #[.float .f64 x, .float .f64 y] 44)) = w' := by
  refine c123 w.heap.size 0 2 [x, y] _ (by simp) ?_ ?_
  · intro z hz
    simp at hz
    rcases hz with rfl | rfl
    · exact kx
    · exact ky
  · intro j z hj
    rw [World.cell?_alloc_at _ _ _ _ rfl]
    match j, hj with
    | 0, hj => simp at hj; subst hj; rfl
    | 1, hj => simp at hj; subst hj; rfl

set_option maxHeartbeats 2000000 in
theorem c80 (B : Nat) (t : ThreeD) (w : World) (h : IsT w B t) (k0 : okStamp t.s0) (k1 : okStamp t.s1) (k2 : okStamp t.s2) :
    Calls Tryz.prog 80 #[.pointer (some ⟨B, 0, none⟩)] w fun e w' => e = .returned (.float .f64 (whenF t.h0 t.h1 t.h2 t.s0 t.s1 t.s2)) ∧ Ext w w' := by
  have e1 := EW.cell h.s1_
  have e2 := EW.cell h.s2_
  have H := Lib.hid h
  clear h
  have H94a := fun w' => Lib.hid (c94 t.s1 t.s0 w' (bitsF_lt k1) (bitsF_lt k0))
  have H94b := fun w' => Lib.hid (c94 t.s2 t.s0 w' (bitsF_lt k2) (bitsF_lt k0))
  have g94a := Lib.hid H94a
  have g94b := Lib.hid H94b
  have gl := Lib.hid (fun w' => late_two t.s1 t.s2 w' k1 k2)
  clear H94a H94b
  generalize hW : whenF t.h0 t.h1 t.h2 t.s0 t.s1 t.s2 = W
  have HW := Lib.hid hW
  clear hW
  cases q1 : t.h1
  · have Hw := Lib.hid (show W = bitsF t.s2 from by rw [← HW.out]; simp [whenF, q1])
    rw [Hw.out]
    have Hq1 := Lib.hid q1
    clear q1
    go_enter Tryz.func80, Tryz.ntmps80
    go_wp2_with fail
    refine wp_region_ext_lit (by kernel_rfl) (by kernel_rfl) ?_
    repeat go_big_quiet_step (fail)
    refine wpQuiet_nil ?_
    rintro _ ⟨⟨w1, he1⟩, rfl⟩
    have he := Lib.hid he1
    have cq1 := (H.out.ext he1).h1_
    rw [Hq1.out] at cq1
    have cs := (H.out.ext he1).s0_
    clear he1 e1 e2
    go_wp2_with fail
    refine (c122 _ _).mono ?_
    rintro e w' ⟨rfl, rfl⟩
    go_wp2_with fail
    go_ret
    exact ⟨rfl, he.out⟩
  · cases q2 : t.h2
    · have Hw := Lib.hid (show W = bitsF t.s1 from by rw [← HW.out]; simp [whenF, q1, q2])
      rw [Hw.out]
      have Hq1 := Lib.hid q1
      have Hq2 := Lib.hid q2
      clear q1 q2
      go_enter Tryz.func80, Tryz.ntmps80
      go_wp2_with fail
      refine wp_region_ext_lit (by kernel_rfl) (by kernel_rfl) ?_
      repeat go_big_quiet_step (fail)
      refine wpQuiet_nil ?_
      rintro _ ⟨⟨w1, he1⟩, rfl⟩
      have he := Lib.hid he1
      have cq1 := (H.out.ext he1).h1_
      rw [Hq1.out] at cq1
      have cq2 := (H.out.ext he1).h2_
      rw [Hq2.out] at cq2
      have cs := (H.out.ext he1).s0_
      clear he1 e1 e2
      go_wp2_with fail
      refine (c122 _ _).mono ?_
      rintro e w' ⟨rfl, rfl⟩
      go_wp2_with fail
      go_ret
      exact ⟨rfl, he.out⟩
    · cases q0 : t.h0
      · have Hw := Lib.hid (show W = latestF [t.s1, t.s2] from by rw [← HW.out]; simp [whenF, q1, q2, q0])
        rw [Hw.out]
        have Hq1 := Lib.hid q1
        have Hq2 := Lib.hid q2
        have Hq0 := Lib.hid q0
        clear q1 q2 q0
        go_enter Tryz.func80, Tryz.ntmps80
        go_wp2_with fail
        refine wp_region_ext_lit (by kernel_rfl) (by kernel_rfl) ?_
        repeat go_big_quiet_step (fail)
        refine wpQuiet_nil ?_
        rintro _ ⟨⟨w1, he1⟩, rfl⟩
        have he := Lib.hid he1
        have cq1 := (H.out.ext he1).h1_
        rw [Hq1.out] at cq1
        have cq2 := (H.out.ext he1).h2_
        rw [Hq2.out] at cq2
        have cq0 := (H.out.ext he1).h0_
        rw [Hq0.out] at cq0
        have cs := (H.out.ext he1).s0_
        clear he1 e1 e2
        go_wp2_with fail
        refine (gl.out _).mono ?_
        rintro e w' ⟨rfl, rfl⟩
        go_wp2_with fail
        go_ret
        exact ⟨rfl, he.out.trans (Ext.alloc _ _)⟩
      · by_cases z1 : cmpF t.s1 t.s0 = 0
        · have Hw := Lib.hid (show W = bitsF t.s2 from by rw [← HW.out]; simp [whenF, q1, q2, q0, z1])
          rw [Hw.out]
          have Hq1 := Lib.hid q1
          have Hq2 := Lib.hid q2
          have Hq0 := Lib.hid q0
          have Hz1 := Lib.hid z1
          have bz1 : (cmpF t.s1 t.s0 == 0) = true := beq_iff_eq.2 z1
          clear q1 q2 q0 z1
          go_enter Tryz.func80, Tryz.ntmps80
          go_wp2_with fail
          refine wp_region_ext_lit (by kernel_rfl) (by kernel_rfl) ?_
          repeat go_big_quiet_step (fail)
          refine wpQuiet_nil ?_
          rintro _ ⟨⟨w1, he1⟩, rfl⟩
          have he := Lib.hid he1
          have cq1 := (H.out.ext he1).h1_
          rw [Hq1.out] at cq1
          have cq2 := (H.out.ext he1).h2_
          rw [Hq2.out] at cq2
          have cq0 := (H.out.ext he1).h0_
          rw [Hq0.out] at cq0
          have cs := (H.out.ext he1).s0_
          clear he1 e1 e2
          go_wp2_with fail
          refine ((g94a.out _).out).mono ?_
          rintro e w' ⟨rfl, rfl⟩
          go_wp2_with fail
          refine (c122 _ _).mono ?_
          rintro e w' ⟨rfl, rfl⟩
          go_wp2_with fail
          go_ret
          exact ⟨rfl, he.out⟩
        · by_cases z2 : cmpF t.s2 t.s0 = 0
          · have Hw := Lib.hid (show W = bitsF t.s1 from by rw [← HW.out]; simp [whenF, q1, q2, q0, z1, z2])
            rw [Hw.out]
            have Hq1 := Lib.hid q1
            have Hq2 := Lib.hid q2
            have Hq0 := Lib.hid q0
            have Hz1 := Lib.hid z1
            have bz1 : (cmpF t.s1 t.s0 == 0) = false := beq_eq_false_iff_ne.2 z1
            have Hz2 := Lib.hid z2
            have bz2 : (cmpF t.s2 t.s0 == 0) = true := beq_iff_eq.2 z2
            clear q1 q2 q0 z1 z2
            go_enter Tryz.func80, Tryz.ntmps80
            go_wp2_with fail
            refine wp_region_ext_lit (by kernel_rfl) (by kernel_rfl) ?_
            repeat go_big_quiet_step (fail)
            refine wpQuiet_nil ?_
            rintro _ ⟨⟨w1, he1⟩, rfl⟩
            have he := Lib.hid he1
            have cq1 := (H.out.ext he1).h1_
            rw [Hq1.out] at cq1
            have cq2 := (H.out.ext he1).h2_
            rw [Hq2.out] at cq2
            have cq0 := (H.out.ext he1).h0_
            rw [Hq0.out] at cq0
            have cs := (H.out.ext he1).s0_
            clear he1 e1 e2
            go_wp2_with fail
            refine ((g94a.out _).out).mono ?_
            rintro e w' ⟨rfl, rfl⟩
            go_wp2_with fail
            refine ((g94b.out _).out).mono ?_
            rintro e w' ⟨rfl, rfl⟩
            go_wp2_with fail
            refine (c122 _ _).mono ?_
            rintro e w' ⟨rfl, rfl⟩
            go_wp2_with fail
            go_ret
            exact ⟨rfl, he.out⟩
          · have Hw := Lib.hid (show W = latestF [t.s1, t.s2] from by rw [← HW.out]; simp [whenF, q1, q2, q0, z1, z2])
            rw [Hw.out]
            have Hq1 := Lib.hid q1
            have Hq2 := Lib.hid q2
            have Hq0 := Lib.hid q0
            have Hz1 := Lib.hid z1
            have bz1 : (cmpF t.s1 t.s0 == 0) = false := beq_eq_false_iff_ne.2 z1
            have Hz2 := Lib.hid z2
            have bz2 : (cmpF t.s2 t.s0 == 0) = false := beq_eq_false_iff_ne.2 z2
            clear q1 q2 q0 z1 z2
            go_enter Tryz.func80, Tryz.ntmps80
            go_wp2_with fail
            refine wp_region_ext_lit (by kernel_rfl) (by kernel_rfl) ?_
            repeat go_big_quiet_step (fail)
            refine wpQuiet_nil ?_
            rintro _ ⟨⟨w1, he1⟩, rfl⟩
            have he := Lib.hid he1
            have cq1 := (H.out.ext he1).h1_
            rw [Hq1.out] at cq1
            have cq2 := (H.out.ext he1).h2_
            rw [Hq2.out] at cq2
            have cq0 := (H.out.ext he1).h0_
            rw [Hq0.out] at cq0
            have cs := (H.out.ext he1).s0_
            clear he1 e1 e2
            go_wp2_with fail
            refine ((g94a.out _).out).mono ?_
            rintro e w' ⟨rfl, rfl⟩
            go_wp2_with fail
            refine ((g94b.out _).out).mono ?_
            rintro e w' ⟨rfl, rfl⟩
            go_wp2_with fail
            refine (gl.out _).mono ?_
            rintro e w' ⟨rfl, rfl⟩
            go_wp2_with fail
            go_ret
            exact ⟨rfl, he.out.trans (Ext.alloc _ _)⟩

end Go.Proofs.YtaeleagkpgbmaaaGreatDoor
