/- A path's names, by its bytes. -/
import Derived.Test.YtaeleagkpgbmaaaGreatDoorOrder
import Derived.Test.YtaeleagkpgbmaaaGreatDoorShelfB
namespace Go.Proofs.YtaeleagkpgbmaaaGreatDoor
open Go.RowKit Go.Sort
set_option linter.unusedSimpArgs false
set_option linter.unusedVariables false

/-- the pieces between the strokes -/
def namesL : List UInt8 → List (List UInt8)
  | [] => [[]]
  | c :: r => if c = 47 then [] :: namesL r else match namesL r with
    | [] => [[c]]
    | x :: xs => (c :: x) :: xs
theorem namesL_ne (s : List UInt8) : namesL s ≠ [] := by
  cases s with
  | nil => simp [namesL]
  | cons c r =>
    unfold namesL
    split
    · simp
    · split <;> simp
/-- put a byte ahead of the first piece -/
def headC (c : UInt8) : List (List UInt8) → List (List UInt8)
  | [] => [[c]]
  | x :: xs => (c :: x) :: xs
theorem namesL_cons (c : UInt8) (r : List UInt8) : namesL (c :: r) = if c = 47 then [] :: namesL r else headC c (namesL r) := by
  rw [namesL]
  split
  · rfl
  · cases namesL r <;> rfl
theorem index47 (c : UInt8) (r : List UInt8) : Lib.index (c :: r) [47] = if c = 47 then 0 else if Lib.index r [47] = -1 then -1 else Lib.index r [47] + 1 := by
  rw [Lib.index]
  by_cases h : c = 47
  · subst h; simp [List.isPrefixOf]
  · have h' : ¬ (47 : UInt8) = c := fun e => h e.symm
    simp [List.isPrefixOf, h, h']
theorem split47 : ∀ (s : List UInt8), Lib.splitK [47] 0 (Lib.count s [47]) s = namesL s
  | [] => by
    have h : Lib.index [] [47] = -1 := rfl
    rw [Lib.count_miss h]; rfl
  | c :: r => by
    have ih := split47 r
    rw [namesL_cons]
    by_cases h : c = 47
    · subst h
      rw [if_pos rfl]
      have hi : Lib.index (47 :: r) [47] = ((0 : Nat) : Int) := by rw [index47, if_pos rfl]; rfl
      rw [Lib.count_hit (by simp) hi, Nat.add_comm 1, Lib.splitK, hi]
      simp only [Int.toNat_natCast, List.length_cons, List.length_nil, Nat.zero_add, List.drop_succ_cons, List.drop_zero, List.take_zero, Nat.add_zero]
      rw [if_neg (by decide), ih]
    · rw [if_neg h]
      by_cases h1 : Lib.index r [47] = -1
      · have hi : Lib.index (c :: r) [47] = -1 := by rw [index47, if_neg h, if_pos h1]
        rw [Lib.count_miss hi]
        rw [Lib.count_miss h1] at ih
        rw [← ih]; rfl
      · have hge := Lib.index_ge r [47]
        obtain ⟨i, hi⟩ : ∃ i : Nat, Lib.index r [47] = i := ⟨(Lib.index r [47]).toNat, by omega⟩
        have hi2 : Lib.index (c :: r) [47] = ((i + 1 : Nat) : Int) := by rw [index47, if_neg h, if_neg h1, hi]; rfl
        rw [Lib.count_hit (by simp) hi] at ih
        rw [Lib.count_hit (by simp) hi2, ← ih, Nat.add_comm 1, Nat.add_comm 1]
        have e1 : ¬ (((i + 1 : Nat) : Int) == -1) = true := by simp; omega
        have e2 : ¬ ((i : Int) == -1) = true := by simp
        rw [Lib.splitK, Lib.splitK, hi, hi2, if_neg e1, if_neg e2]
        simp only [headC, Int.toNat_natCast, Nat.add_zero, List.take_succ_cons, List.length_cons, List.length_nil, Nat.zero_add, List.drop_succ_cons]
/-- the pieces back -/
def unL : List (List UInt8) → List UInt8
  | [] => []
  | [x] => x
  | x :: xs => x ++ 47 :: unL xs
theorem unL_headC (c : UInt8) (l : List (List UInt8)) (h : l ≠ []) : unL (headC c l) = c :: unL l := by
  cases l with
  | nil => exact absurd rfl h
  | cons x xs => cases xs <;> simp [headC, unL]
theorem unL_names : ∀ (s : List UInt8), unL (namesL s) = s
  | [] => rfl
  | c :: r => by
    have ih := unL_names r
    rw [namesL_cons]
    split
    · rename_i h
      subst h
      cases hn : namesL r with
      | nil => exact absurd hn (namesL_ne r)
      | cons x xs => rw [hn] at ih; simp [unL, ih]
    · rw [unL_headC _ _ (namesL_ne r), ih]
theorem splitP_names (s : ByteArray) : (splitP s).map (·.data.toList) = if s.data.toList = [] then [] else namesL s.data.toList := by
  unfold splitP
  have e : s.toList = s.data.toList := Lib.toList_data s
  rw [e]
  by_cases h : s.data.toList = []
  · simp [h]
  · have h' : s.data.toList.isEmpty = false := by simpa [List.isEmpty_iff] using h
    rw [h', if_neg h]
    simp only [Bool.false_eq_true, if_false]
    rw [Lib.splitB_data]
    exact split47 _
theorem ba_ext {a b : ByteArray} (h : a.data.toList = b.data.toList) : a = b := by
  cases a; cases b
  simp only at h
  rw [Array.toList_inj] at h
  rw [h]
theorem cmpP_zero {a b : ByteArray} (h : cmpP a b = 0) : a = b := by
  have h1 := cmpL_zero h
  have h2 := congrArg (List.map (fun s : ByteArray => s.data.toList)) h1
  rw [splitP_names, splitP_names] at h2
  apply ba_ext
  by_cases ha : a.data.toList = [] <;> by_cases hb : b.data.toList = []
  · rw [ha, hb]
  · rw [if_pos ha, if_neg hb] at h2; exact absurd h2.symm (namesL_ne _)
  · rw [if_neg ha, if_pos hb] at h2; exact absurd h2 (namesL_ne _)
  · rw [if_neg ha, if_neg hb] at h2
    rw [← unL_names a.data.toList, h2, unL_names]
theorem cmpQ_zero {a b : PStr} (h1 : ltOf cmpQ a b = false) (h2 : ltOf cmpQ b a = false) : a = b := by
  have s := cmpL_swap (splitP a.1) (splitP b.1)
  unfold ltOf cmpQ cmpP at *
  simp only [decide_eq_false_iff_not] at *
  exact Subtype.ext (cmpP_zero (show cmpL _ _ = 0 by omega))
end Go.Proofs.YtaeleagkpgbmaaaGreatDoor
