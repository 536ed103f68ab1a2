/- The order of paths. -/
import Derived.Test.YtaeleagkpgbmaaaGreatDoorPathG
import Derived.Test.YtaeleagkpgbmaaaGreatDoorTab2
import Derived.Sort.Walk0
namespace Go.Proofs.YtaeleagkpgbmaaaGreatDoor
open Go.RowKit Go.Sort
set_option linter.unusedSimpArgs false
set_option linter.unusedVariables false

theorem toList_ne {x y : ByteArray} (e : ¬ x = y) : x.toList ≠ y.toList := fun h => by
  have := sEq x y
  rw [h, decide_eq_false e] at this
  simp at this
theorem cmpS_cases (x y : ByteArray) : (x.toList < y.toList ∧ cmpS x y = -1) ∨ (x = y ∧ cmpS x y = 0) ∨ (y.toList < x.toList ∧ cmpS x y = 1) := by
  unfold cmpS
  rw [bytesLess_eq, sEq]
  by_cases h : x.toList < y.toList
  · exact .inl ⟨h, by simp [h]⟩
  · by_cases e : x = y
    · exact .inr (.inl ⟨e, by simp [h, e]⟩)
    · refine .inr (.inr ⟨?_, by simp [h, e]⟩)
      rcases Std.le_total (a := x.toList) (b := y.toList) with hle | hle
      · exact absurd (Std.lt_of_le_of_ne hle (toList_ne e)) h
      · exact Std.lt_of_le_of_ne hle (fun h' => toList_ne e h'.symm)
theorem cmpS_self (x : ByteArray) : cmpS x x = 0 := by
  rcases cmpS_cases x x with ⟨h, _⟩ | ⟨_, h⟩ | ⟨h, _⟩
  · exact absurd h (Std.lt_irrefl)
  · exact h
  · exact absurd h (Std.lt_irrefl)
theorem cmpS_swap (x y : ByteArray) : cmpS y x = - cmpS x y := by
  rcases cmpS_cases x y with ⟨h, e⟩ | ⟨h, e⟩ | ⟨h, e⟩
  · rcases cmpS_cases y x with ⟨h', e'⟩ | ⟨h', e'⟩ | ⟨h', e'⟩
    · exact absurd (Std.lt_trans h h') Std.lt_irrefl
    · subst h'; exact absurd h Std.lt_irrefl
    · omega
  · subst h; rw [cmpS_self]; rfl
  · rcases cmpS_cases y x with ⟨h', e'⟩ | ⟨h', e'⟩ | ⟨h', e'⟩
    · omega
    · subst h'; exact absurd h Std.lt_irrefl
    · exact absurd (Std.lt_trans h h') Std.lt_irrefl
theorem cmpS_trans {x y z : ByteArray} (h1 : cmpS x y < 0) (h2 : cmpS y z < 0) : cmpS x z < 0 := by
  rcases cmpS_cases x y with ⟨h, e⟩ | ⟨h, e⟩ | ⟨h, e⟩ <;> (try omega)
  rcases cmpS_cases y z with ⟨h', e'⟩ | ⟨h', e'⟩ | ⟨h', e'⟩ <;> (try omega)
  have hxz := Std.lt_trans h h'
  rcases cmpS_cases x z with ⟨k, f⟩ | ⟨k, f⟩ | ⟨k, f⟩
  · omega
  · subst k; exact absurd hxz Std.lt_irrefl
  · exact absurd (Std.lt_trans hxz k) Std.lt_irrefl
theorem cmpS_zero {x y : ByteArray} (h : cmpS x y = 0) : x = y := by
  rcases cmpS_cases x y with ⟨_, e⟩ | ⟨h', _⟩ | ⟨_, e⟩
  · omega
  · exact h'
  · omega
theorem cmpL_self : ∀ (a : List ByteArray), cmpL a a = 0
  | [] => rfl
  | x :: xs => by rw [cmpL, if_pos (cmpS_self x), cmpL_self xs]
theorem cmpL_swap : ∀ (a b : List ByteArray), cmpL b a = - cmpL a b
  | [], [] => rfl
  | [], _ :: _ => rfl
  | _ :: _, [] => rfl
  | x :: xs, y :: ys => by
    rw [cmpL, cmpL, cmpS_swap x y]
    by_cases h : cmpS x y = 0
    · rw [if_pos h, if_pos (by omega), cmpL_swap xs ys]
    · rw [if_neg h, if_neg (by omega)]
theorem cmpL_zero : ∀ {a b : List ByteArray}, cmpL a b = 0 → a = b
  | [], [], _ => rfl
  | [], _ :: _, h => by simp [cmpL] at h
  | _ :: _, [], h => by simp [cmpL] at h
  | x :: xs, y :: ys, h => by
    rw [cmpL] at h
    by_cases h0 : cmpS x y = 0
    · rw [if_pos h0] at h
      rw [cmpS_zero h0, cmpL_zero h]
    · rw [if_neg h0] at h; exact absurd h h0
theorem cmpL_trans : ∀ {a b c : List ByteArray}, cmpL a b < 0 → cmpL b c < 0 → cmpL a c < 0
  | [], [], _, h, _ => by simp [cmpL] at h
  | [], _ :: _, [], _, h => by simp [cmpL] at h
  | [], _ :: _, _ :: _, _, _ => by simp [cmpL]
  | _ :: _, [], _, h, _ => by simp [cmpL] at h
  | _ :: _, _ :: _, [], _, h => by simp [cmpL] at h
  | x :: xs, y :: ys, z :: zs, h1, h2 => by
    rw [cmpL] at h1 h2 ⊢
    by_cases e1 : cmpS x y = 0
    · have := cmpS_zero e1
      subst this
      rw [if_pos e1] at h1
      by_cases e2 : cmpS x z = 0
      · rw [if_pos e2] at h2 ⊢
        exact cmpL_trans h1 h2
      · rw [if_neg e2] at h2 ⊢; exact h2
    · rw [if_neg e1] at h1
      by_cases e2 : cmpS y z = 0
      · have := cmpS_zero e2
        subst this
        rw [if_neg e1]; exact h1
      · rw [if_neg e2] at h2
        have h3 := cmpS_trans h1 h2
        rw [if_neg (by omega)]; exact h3
/-- strings that are no longer than any path -/
def PStr : Type := { s : ByteArray // s.size < 4294967280 }
instance : Inhabited PStr := ⟨⟨⟨#[]⟩, by decide⟩⟩
def cmpQ (a b : PStr) : Int := cmpP a.1 b.1
theorem cmpP_nlt {a b c : ByteArray} (h1 : ¬ cmpP a b < 0) (h2 : ¬ cmpP b c < 0) : ¬ cmpP a c < 0 := by
  unfold cmpP at *
  intro h
  have s1 := cmpL_swap (splitP a) (splitP b)
  have s2 := cmpL_swap (splitP b) (splitP c)
  by_cases e1 : cmpL (splitP a) (splitP b) = 0
  · rw [cmpL_zero e1] at h; exact h2 h
  · by_cases e2 : cmpL (splitP b) (splitP c) = 0
    · rw [← cmpL_zero e2] at h; exact h1 h
    · have h3 := cmpL_trans (show cmpL (splitP c) (splitP b) < 0 by omega) (show cmpL (splitP b) (splitP a) < 0 by omega)
      have s3 := cmpL_swap (splitP a) (splitP c)
      omega
theorem swoQ : SWO (ltOf cmpQ) where
  irrefl x := by
    unfold ltOf cmpQ cmpP
    rw [cmpL_self]; rfl
  trans x y z h1 h2 := by
    unfold ltOf cmpQ cmpP at *
    simp only [decide_eq_true_eq] at *
    exact cmpL_trans h1 h2
  ntrans x y z h1 h2 := by
    unfold ltOf cmpQ at *
    simp only [decide_eq_false_iff_not] at *
    exact cmpP_nlt h1 h2
end Go.Proofs.YtaeleagkpgbmaaaGreatDoor
