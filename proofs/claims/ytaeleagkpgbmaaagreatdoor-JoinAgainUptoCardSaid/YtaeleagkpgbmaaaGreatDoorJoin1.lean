/- Contracts of the methods of join.three that only read. -/
import Derived.Test.YtaeleagkpgbmaaaGreatDoorThree
import Derived.Test.YtaeleagkpgbmaaaGreatDoorQuiet
namespace Go.Proofs.YtaeleagkpgbmaaaGreatDoor
open Go.RowKit
set_option linter.unusedSimpArgs false
set_option linter.unusedVariables false

theorem ret_b {a b : Bool} (h : a = b) : Ending.returned (.bool a) = .returned (.bool b) := by rw [h]
theorem size43 : (Tryz.prog.info? 43).map (·.size) = some 32 := by kernel_rfl

set_option maxHeartbeats 1000000 in
theorem c79_12 (B : Nat) (t : ThreeD) (w : World) (h : IsT w B t) :
    Calls Tryz.prog 79 #[.pointer (some ⟨B, 0, none⟩), .int .i64 1, .int .i64 2] w fun e w' => e = .returned (.bool (t.h1 == t.h2 && decide (t.i1 = t.i2))) ∧ Ext w w' := by
  have ha := EW.cell h.h1_
  have hb := EW.cell h.h2_
  have ra := Lib.hid (EW.range h.i1_)
  have rb := Lib.hid (EW.range h.i2_)
  clear h
  generalize t.i1 = x at *
  generalize t.i2 = y at *
  generalize t.h1 = p at *
  generalize t.h2 = q at *
  cases p
  all_goals cases q
  all_goals
    go_enter Tryz.func79, Tryz.ntmps79
    go_wp2_with fail
    refine wp_region_ext_lit (by kernel_rfl) (by kernel_rfl) ?_
    repeat (first | ((with_reducible refine wpQuiet_load_mid ?_ 43 _ rfl B 71 rfl (encId x) _ ra.out Tryz.underlying43 rfl (by rw [encId_length]; exact size43) ?_); (rfl); (simp only [Act.put, List.setIfInBounds_toArray, List.set_cons_zero, List.set_cons_succ])) | ((with_reducible refine wpQuiet_load_mid ?_ 43 _ rfl B 103 rfl (encId y) _ rb.out Tryz.underlying43 rfl (by rw [encId_length]; exact size43) ?_); (rfl); (simp only [Act.put, List.setIfInBounds_toArray, List.set_cons_zero, List.set_cons_succ])) | go_big_quiet_step (fail))
    refine wpQuiet_nil ?_
    rintro _ ⟨⟨w1, he1⟩, rfl⟩
    go_wp2_with fail
    go_ret
    exact ⟨ret_b (by simp), he1⟩

set_option maxHeartbeats 1000000 in
theorem c79_02 (B : Nat) (t : ThreeD) (w : World) (h : IsT w B t) :
    Calls Tryz.prog 79 #[.pointer (some ⟨B, 0, none⟩), .int .i64 0, .int .i64 2] w fun e w' => e = .returned (.bool (t.h0 == t.h2 && decide (t.i0 = t.i2))) ∧ Ext w w' := by
  have ha := EW.cell h.h0_
  have hb := EW.cell h.h2_
  have ra := Lib.hid (EW.range h.i0_)
  have rb := Lib.hid (EW.range h.i2_)
  clear h
  generalize t.i0 = x at *
  generalize t.i2 = y at *
  generalize t.h0 = p at *
  generalize t.h2 = q at *
  cases p
  all_goals cases q
  all_goals
    go_enter Tryz.func79, Tryz.ntmps79
    go_wp2_with fail
    refine wp_region_ext_lit (by kernel_rfl) (by kernel_rfl) ?_
    repeat (first | ((with_reducible refine wpQuiet_load_mid ?_ 43 _ rfl B 39 rfl (encId x) _ ra.out Tryz.underlying43 rfl (by rw [encId_length]; exact size43) ?_); (rfl); (simp only [Act.put, List.setIfInBounds_toArray, List.set_cons_zero, List.set_cons_succ])) | ((with_reducible refine wpQuiet_load_mid ?_ 43 _ rfl B 103 rfl (encId y) _ rb.out Tryz.underlying43 rfl (by rw [encId_length]; exact size43) ?_); (rfl); (simp only [Act.put, List.setIfInBounds_toArray, List.set_cons_zero, List.set_cons_succ])) | go_big_quiet_step (fail))
    refine wpQuiet_nil ?_
    rintro _ ⟨⟨w1, he1⟩, rfl⟩
    go_wp2_with fail
    go_ret
    exact ⟨ret_b (by simp), he1⟩

set_option maxHeartbeats 1000000 in
theorem c79_01 (B : Nat) (t : ThreeD) (w : World) (h : IsT w B t) :
    Calls Tryz.prog 79 #[.pointer (some ⟨B, 0, none⟩), .int .i64 0, .int .i64 1] w fun e w' => e = .returned (.bool (t.h0 == t.h1 && decide (t.i0 = t.i1))) ∧ Ext w w' := by
  have ha := EW.cell h.h0_
  have hb := EW.cell h.h1_
  have ra := Lib.hid (EW.range h.i0_)
  have rb := Lib.hid (EW.range h.i1_)
  clear h
  generalize t.i0 = x at *
  generalize t.i1 = y at *
  generalize t.h0 = p at *
  generalize t.h1 = q at *
  cases p
  all_goals cases q
  all_goals
    go_enter Tryz.func79, Tryz.ntmps79
    go_wp2_with fail
    refine wp_region_ext_lit (by kernel_rfl) (by kernel_rfl) ?_
    repeat (first | ((with_reducible refine wpQuiet_load_mid ?_ 43 _ rfl B 39 rfl (encId x) _ ra.out Tryz.underlying43 rfl (by rw [encId_length]; exact size43) ?_); (rfl); (simp only [Act.put, List.setIfInBounds_toArray, List.set_cons_zero, List.set_cons_succ])) | ((with_reducible refine wpQuiet_load_mid ?_ 43 _ rfl B 71 rfl (encId y) _ rb.out Tryz.underlying43 rfl (by rw [encId_length]; exact size43) ?_); (rfl); (simp only [Act.put, List.setIfInBounds_toArray, List.set_cons_zero, List.set_cons_succ])) | go_big_quiet_step (fail))
    refine wpQuiet_nil ?_
    rintro _ ⟨⟨w1, he1⟩, rfl⟩
    go_wp2_with fail
    go_ret
    exact ⟨ret_b (by simp), he1⟩

end Go.Proofs.YtaeleagkpgbmaaaGreatDoor
