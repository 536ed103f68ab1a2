/- Equality of ids and of arrays of three. -/
import Derived.Test.YtaeleagkpgbmaaaGreatDoorLaws
import Derived.Stop.BytesEq
import Derived.ChangeKeysEq
namespace Go.Proofs.YtaeleagkpgbmaaaGreatDoor
open Go.RowKit
set_option linter.unusedSimpArgs false
set_option linter.unusedVariables false

@[go_sem] theorem eqg43 : Tryz.prog.eqGuardType Tryz.prog.depth 43 = false := by kernel_rfl
@[go_sem] theorem eqg45 : Tryz.prog.eqGuardType Tryz.prog.depth 45 = false := by kernel_rfl
@[go_sem] theorem eqg46 : Tryz.prog.eqGuardType Tryz.prog.depth 46 = false := by kernel_rfl
theorem isSome43 : (Tryz.prog.info? 43).isSome = true := by kernel_rfl
theorem isSome4 : (Tryz.prog.info? 4).isSome = true := by kernel_rfl
theorem cellsOf43 : Tryz.prog.cellsOf 43 = 32 := by kernel_rfl
theorem cellsOf4 : Tryz.prog.cellsOf 4 = 1 := by kernel_rfl
theorem cellsOf5 : Tryz.prog.cellsOf 5 = 1 := by kernel_rfl
theorem isSome5 : (Tryz.prog.info? 5).isSome = true := by kernel_rfl

theorem size5 (w : World) : (sizeOf 5).run Tryz.prog w = .ok 1 w := by
  obtain ⟨i, hi⟩ := Option.isSome_iff_exists.1 isSome5
  rw [run_sizeOf w hi, cellsOf5]

theorem equalIn43 (d : Nat) (x y : ID) (w : World) : (Op.equalIn (d + 2) 43 (.agg (encId x).toArray) (.agg (encId y).toArray)).run Tryz.prog w = .ok (decide (x = y)) w := by
  have h := run_equalIn_bytes w d 43 5 32 Tryz.underlying43 Tryz.underlying5 size5 x.1 y.1 x.2 y.2
  have e : ∀ z : ID, encId z = z.1.map Extern.Stop.cell := by intro z; unfold encId; rfl
  have e2 : (x.1 == y.1) = decide (x = y) := by
    by_cases hxy : x = y
    · subst hxy; simp
    · have hn : ¬ x.1 = y.1 := fun e => hxy (Subtype.ext e)
      simp only [hxy, decide_false]
      exact beq_eq_false_iff_ne.2 hn
  rw [e, e, h, e2]
@[go_sem] theorem equalIn43' (x y : ID) (w : World) : (Op.equalIn 10000 43 (.agg (encId x).toArray) (.agg (encId y).toArray)).run Tryz.prog w = .ok (decide (x = y)) w := equalIn43 9998 x y w

/-- three ids -/
def encIds (x y z : ID) : List Value := encId x ++ (encId y ++ encId z)
theorem encIds_length (x y z : ID) : (encIds x y z).length = 96 := by simp [encIds, encId_length]
theorem encIds_0 (x y z : ID) : (encIds x y z).toArray.extract 0 32 = (encId x).toArray := by
  rw [encIds]
  simp [List.extract_toArray, List.extract_eq_take_drop, List.take_append_of_le_length, encId_length, List.take_of_length_le]
theorem encIds_1 (x y z : ID) : (encIds x y z).toArray.extract 32 64 = (encId y).toArray := by
  rw [encIds]
  have h : List.drop 32 (encId x) = [] := List.drop_eq_nil_of_le (by rw [encId_length]; decide)
  simp [List.extract_toArray, List.extract_eq_take_drop, List.drop_append, h, encId_length, List.take_append_of_le_length, List.take_of_length_le]
theorem encIds_2 (x y z : ID) : (encIds x y z).toArray.extract 64 96 = (encId z).toArray := by
  rw [encIds]
  have h : List.drop 64 (encId x) = [] := List.drop_eq_nil_of_le (by rw [encId_length]; decide)
  have h2 : List.drop 32 (encId y) = [] := List.drop_eq_nil_of_le (by rw [encId_length]; decide)
  simp [List.extract_toArray, List.extract_eq_take_drop, List.drop_append, h, h2, encId_length, List.take_of_length_le]

theorem agg43 (w : World) : (isAgg 43).run Tryz.prog w = .ok true w := by simp [isAgg, run_underlying Tryz.underlying43]
theorem sz43 (w : World) : (sizeOf 43).run Tryz.prog w = .ok 32 w := by
  obtain ⟨i, hi⟩ := Option.isSome_iff_exists.1 isSome43
  rw [run_sizeOf w hi, cellsOf43]
theorem part43 (cs : Array Value) (o : Nat) (w : World) : (part 43 cs o).run Tryz.prog w = .ok (.agg (cs.extract o (o + 32))) w := by
  simp [part, agg43, sz43]

theorem part46_0 (x y z : ID) (w : World) : (part 43 (encIds x y z).toArray 0).run Tryz.prog w = .ok (.agg (encId x).toArray) w := by rw [part43, encIds_0]
theorem part46_1 (x y z : ID) (w : World) : (part 43 (encIds x y z).toArray 32).run Tryz.prog w = .ok (.agg (encId y).toArray) w := by rw [part43, encIds_1]
theorem part46_2 (x y z : ID) (w : World) : (part 43 (encIds x y z).toArray 64).run Tryz.prog w = .ok (.agg (encId z).toArray) w := by rw [part43, encIds_2]
theorem equalIn46 (x y z x' y' z' : ID) (w : World) : (Op.equalIn 10000 46 (.agg (encIds x y z).toArray) (.agg (encIds x' y' z').toArray)).run Tryz.prog w =
    .ok (decide (x = x' ∧ y = y' ∧ z = z')) w := by
  obtain ⟨i, hi⟩ := Option.isSome_iff_exists.1 isSome43
  rw [run_equalIn_array w 9999 _ _ Tryz.underlying46 hi, cellsOf43]
  have e : List.range 3 = [0, 1, 2] := rfl
  rw [e]
  simp only [Op.eqItems, Sem.run_bind, part46_0, part46_1, part46_2, Result.andThen_ok, Nat.reduceMul, equalIn43 9997]
  by_cases h1 : x = x'
  · by_cases h2 : y = y'
    · by_cases h3 : z = z'
      · simp only [h1, h2, h3, decide_true, Bool.not_true, Bool.false_eq_true, if_false, Sem.run_bind, part46_1, part46_2, Result.andThen_ok, equalIn43 9997, and_self, Sem.run_pure]
      · simp only [h1, h2, h3, decide_true, decide_false, Bool.not_true, Bool.not_false, Bool.false_eq_true, if_false, if_true, Sem.run_bind, part46_1, part46_2, Result.andThen_ok, equalIn43 9997, and_false, Sem.run_pure]
    · simp only [h1, h2, decide_true, decide_false, Bool.not_true, Bool.not_false, Bool.false_eq_true, if_false, if_true, Sem.run_bind, part46_1, part46_2, Result.andThen_ok, equalIn43 9997, and_false, false_and, Sem.run_pure]
  · simp only [h1, decide_false, Bool.not_false, if_true, false_and, Sem.run_pure]
attribute [go_sem] equalIn46

theorem part4 (cs : Array Value) (o : Nat) (v : Value) (w : World) (h : cs[o]? = some v) : (part 4 cs o).run Tryz.prog w = .ok v w := by
  simp [part, isAgg, run_underlying Tryz.underlying4, h]
theorem equalIn45 (a b c a' b' c' : Bool) (w : World) : (Op.equalIn 10000 45 (.agg #[.bool a, .bool b, .bool c]) (.agg #[.bool a', .bool b', .bool c'])).run Tryz.prog w =
    .ok (decide (a = a' ∧ b = b' ∧ c = c')) w := by
  obtain ⟨i, hi⟩ := Option.isSome_iff_exists.1 isSome4
  rw [run_equalIn_array w 9999 _ _ Tryz.underlying45 hi, cellsOf4]
  have e : List.range 3 = [0, 1, 2] := rfl
  rw [e]
  have hb := fun (u : World) (p q : Bool) => run_equalIn_bool u 9998 4 p q Tryz.underlying4
  simp only [Nat.reduceAdd] at hb
  simp only [Op.eqItems, Sem.run_bind, Nat.reduceMul, Result.andThen_ok, part4 #[.bool a, .bool b, .bool c] 0 _ _ rfl, part4 #[.bool a, .bool b, .bool c] 1 _ _ rfl, part4 #[.bool a, .bool b, .bool c] 2 _ _ rfl,
    part4 #[.bool a', .bool b', .bool c'] 0 _ _ rfl, part4 #[.bool a', .bool b', .bool c'] 1 _ _ rfl, part4 #[.bool a', .bool b', .bool c'] 2 _ _ rfl, hb]
  cases a <;> cases a' <;> cases b <;> cases b' <;> cases c <;> cases c' <;> simp [hb, part4 #[.bool _, .bool _, .bool _] 1 _ _ rfl, part4 #[.bool _, .bool _, .bool _] 2 _ _ rfl]
attribute [go_sem] equalIn45
end Go.Proofs.YtaeleagkpgbmaaaGreatDoor
