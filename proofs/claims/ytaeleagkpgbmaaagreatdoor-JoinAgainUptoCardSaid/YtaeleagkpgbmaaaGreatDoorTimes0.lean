/- The merged time, by itself. -/
import Derived.Test.YtaeleagkpgbmaaaGreatDoorJoin2
namespace Go.Proofs.YtaeleagkpgbmaaaGreatDoor
open Go.RowKit
set_option linter.unusedSimpArgs false
set_option linter.unusedVariables false

theorem nan_hi {n : Nat} (h : 9218868437227405312 < n % 9223372036854775808) : nanB n = true := by
  have hr : ∃ s t, FloatKind.f64.format.read n = .nan s t := by
    have e1 : Ieee.double.signWeight = 9223372036854775808 := by decide
    have e2 : Ieee.double.binade = 4503599627370496 := by decide
    have e3 : Ieee.double.infRung = 9218868437227405312 := by decide
    show ∃ s t, Ieee.double.read n = .nan s t
    unfold Ieee.Format.read
    simp only [e1, e2, e3]
    rw [if_neg (by omega), if_neg (by omega), if_neg (by omega)]
    exact ⟨_, _, rfl⟩
  obtain ⟨s, t, hr⟩ := hr
  unfold nanB Ieee.Format.order
  rw [hr]
  rfl
theorem bitsF_low {n : Nat} (h : n < 18446744073709551616) : bitsF n < 18446744073709551616 ∧ (9223372036854775808 ≤ bitsF n → bitsF n ≤ 18442240474082181120) := by
  refine ⟨bitsF_lt h, fun h1 => ?_⟩
  unfold bitsF at h1 ⊢
  split
  · omega
  · rename_i hn
    rw [if_neg hn] at h1
    have : ¬ 9218868437227405312 < n % 9223372036854775808 := fun e => hn (nan_hi e)
    omega
theorem keyF_eq (n : Nat) (h : n < 18446744073709551616) : (bitsF n < 9223372036854775808 ∧ keyF n = bitsF n + 9223372036854775808) ∨ (9223372036854775808 ≤ bitsF n ∧ bitsF n ≤ 18442240474082181120 ∧ keyF n = 18446744073709551615 - bitsF n) := by
  have hl := bitsF_low h
  unfold keyF
  split
  · right
    have : 9223372036854775808 ≤ bitsF n := by omega
    exact ⟨this, hl.2 this, rfl⟩
  · left
    exact ⟨by omega, rfl⟩
theorem beforeF_key {a b : Nat} (ha : a < 18446744073709551616) (hb : b < 18446744073709551616) : beforeF a b = decide (keyF a < keyF b) := by
  have h1 := keyF_eq a ha
  have h2 := keyF_eq b hb
  unfold beforeF
  split
  · rw [decide_eq_decide]; omega
  · split
    · rw [decide_eq_decide]; omega
    · rw [decide_eq_decide]; omega
theorem cmpF_zero {a b : Nat} (ha : a < 18446744073709551616) (hb : b < 18446744073709551616) : cmpF a b = 0 ↔ bitsF a = bitsF b := by
  have h1 := keyF_eq a ha
  have h2 := keyF_eq b hb
  unfold cmpF
  split
  · constructor
    · intro h; omega
    · intro h; omega
  · split
    · constructor
      · intro h; omega
      · intro h; omega
    · constructor
      · intro _; omega
      · intro _; rfl
theorem keyF_bits {n : Nat} : keyF (bitsF n) = keyF n := by unfold keyF; rw [bitsF_idem]
theorem low_key : keyF 18442240474082181120 = 4503599627370495 := by kernel_rfl
theorem low_bits : bitsF 18442240474082181120 = 18442240474082181120 := by kernel_rfl
theorem lateStep_key (o f : Nat) : lateStep o f = if keyF o < keyF f then bitsF f else o := by
  unfold lateStep cmpF
  by_cases h : keyF o < keyF f
  · have h' : ¬ keyF f < keyF o := by omega
    simp [h, h']
  · by_cases h' : keyF f < keyF o
    · simp [h, h']
    · simp [h, h']
/-- the later of two times: it is one of them, and neither stands behind it -/
theorem latest_two {x y : Nat} (hx : x < 18446744073709551616) (hy : y < 18446744073709551616) : (bitsF (latestF [x, y]) = bitsF x ∨ bitsF (latestF [x, y]) = bitsF y) ∧ keyF x ≤ keyF (latestF [x, y]) ∧ keyF y ≤ keyF (latestF [x, y]) ∧ latestF [x, y] < 18446744073709551616 := by
  have h1 := keyF_eq x hx
  have h2 := keyF_eq y hy
  have e : latestF [x, y] = lateStep (lateStep 18442240474082181120 x) y := rfl
  have hl : latestF [x, y] < 18446744073709551616 := late_lt [x, y] (by
    intro z hz
    simp at hz
    rcases hz with rfl | rfl
    · exact hx
    · exact hy) _ (by omega)
  by_cases hA : 4503599627370495 < keyF x
  · have e1 : lateStep 18442240474082181120 x = bitsF x := by rw [lateStep_key, low_key, if_pos hA]
    rw [e1, lateStep_key, keyF_bits] at e
    by_cases hB : keyF x < keyF y
    · rw [if_pos hB] at e
      rw [e] at hl ⊢
      rw [bitsF_idem, keyF_bits]
      exact ⟨.inr rfl, by omega, by omega, hl⟩
    · rw [if_neg hB] at e
      rw [e] at hl ⊢
      rw [bitsF_idem, keyF_bits]
      exact ⟨.inl rfl, by omega, by omega, hl⟩
  · have e0 : bitsF x = 18442240474082181120 ∧ keyF x = 4503599627370495 := by omega
    have e1 : lateStep 18442240474082181120 x = 18442240474082181120 := by rw [lateStep_key, low_key, if_neg hA]
    rw [e1, lateStep_key, low_key] at e
    by_cases hB : 4503599627370495 < keyF y
    · rw [if_pos hB] at e
      rw [e] at hl ⊢
      rw [bitsF_idem, keyF_bits]
      exact ⟨.inr rfl, by omega, by omega, hl⟩
    · rw [if_neg hB] at e
      rw [e] at hl ⊢
      rw [low_bits, low_key]
      exact ⟨.inl e0.1.symm, by omega, by omega, hl⟩
/-- the law of the merged time where all three have the file -/
theorem when_law {s0 s1 s2 : Nat} (h0 : s0 < 18446744073709551616) (h1 : s1 < 18446744073709551616) (h2 : s2 < 18446744073709551616) :
    if bitsF s1 = bitsF s0 then bitsF (whenF true true true s0 s1 s2) = bitsF s2 else if bitsF s2 = bitsF s0 then bitsF (whenF true true true s0 s1 s2) = bitsF s1
    else (bitsF (whenF true true true s0 s1 s2) = bitsF s1 ∨ bitsF (whenF true true true s0 s1 s2) = bitsF s2) ∧ beforeF (whenF true true true s0 s1 s2) s1 = false ∧ beforeF (whenF true true true s0 s1 s2) s2 = false := by
  unfold whenF
  simp only [Bool.true_eq_false, if_false, true_and, cmpF_zero h1 h0, cmpF_zero h2 h0]
  split
  · exact bitsF_idem _
  · split
    · exact bitsF_idem _
    · obtain ⟨a, b, c, d⟩ := latest_two h1 h2
      refine ⟨a, ?_, ?_⟩
      · rw [beforeF_key d h1, decide_eq_false_iff_not]; omega
      · rw [beforeF_key d h2, decide_eq_false_iff_not]; omega
end Go.Proofs.YtaeleagkpgbmaaaGreatDoor
