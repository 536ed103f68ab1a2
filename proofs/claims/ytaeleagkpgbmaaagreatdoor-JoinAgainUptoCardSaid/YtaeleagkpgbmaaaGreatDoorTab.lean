/- The table of lines.Pairs. -/
import Derived.Test.YtaeleagkpgbmaaaGreatDoorLines2
import Derived.Test.YtaeleagkpgbmaaaGreatDoorThree
import Derived.StillTailTactics
namespace Go.Proofs.YtaeleagkpgbmaaaGreatDoor
open Go.RowKit
set_option linter.unusedSimpArgs false
set_option linter.unusedVariables false

theorem Blk.put {w : World} {B : Nat} {T : TypeId} {l : List Value} (h : Blk w B T l) (j : Nat) (v : Value) : Blk (w.setCell ⟨B, j, none⟩ v) B T (l.set j v) := by
  unfold Blk at h ⊢
  simp [World.setCell, Array.getElem?_modify, h]

/-- the box of a table: the slice of its cells, and its width -/
def TabBox (w : World) (tp tb N W : Nat) : Prop := Blk w tp 322 [.slice (some ⟨tb, 0, none⟩) N N, .int .i64 W]
theorem TabBox.drewN {w : World} {tp tb N W q : Nat} (h : TabBox w tp tb N W) : TabBox (w.drewN q) tp tb N W := h

set_option maxHeartbeats 400000 in
theorem c194 (tp tb N W i k : Nat) (w : World) (h : TabBox w tp tb N W) (hik : i * W + k < N) (hN : N < 4294967296) :
    Calls Tryz.prog 194 #[.pointer (some ⟨tp, 0, none⟩), .int .i64 i, .int .i64 k] w fun e w' => e = .returned (.pointer (some ⟨tb, i * W + k, none⟩)) ∧ ∃ q, w' = w.drewN q := by
  have h0 : w.cell? ⟨tp, 0, none⟩ = some (.slice (some ⟨tb, 0, none⟩) N N) := h.cell 0
  have h1 : w.cell? ⟨tp, 1, none⟩ = some (.int .i64 W) := h.cell 1
  clear h
  have hc : (i : Int) * (W : Int) = ((i * W : Nat) : Int) := by simp
  have q1 : IntKind.i64.wrap ((i : Int) * (W : Int)) = ((i * W : Nat) : Int) := by rw [hc]; exact IntWalk.i64_in _ (by omega)
  have q2 : IntKind.i64.wrap (((i * W : Nat) : Int) + (k : Int)) = ((i * W + k : Nat) : Int) := by rw [IntWalk.i64_in _ (by omega)]; omega
  have q3 : (0 : Int) ≤ ((i * W + k : Nat) : Int) := by omega
  have q4 : ((i * W + k : Nat) : Int) < (N : Int) := by omega
  have q5 : ((i * W + k : Nat) : Int).toNat = i * W + k := by omega
  have q6 : ((i * W + k : Nat) : Int).toNat < N := by omega
  clear hc
  go_enter Tryz.func194, Tryz.ntmps194
  go_wp2_with fail
  go_quiet (fail)
  go_wp2_with fail
  go_ret
  exact ⟨rfl, _, rfl⟩

/-- how long a longest common list is -/
def lcsGo (x : ByteArray) (f : List ByteArray → Nat) : List ByteArray → Nat
  | [] => 0
  | y :: ys => if x = y then f ys + 1 else max (f (y :: ys)) (lcsGo x f ys)
def lcs : List ByteArray → List ByteArray → Nat
  | [] => fun _ => 0
  | x :: xs => lcsGo x (lcs xs)
theorem lcs_nil (b : List ByteArray) : lcs [] b = 0 := rfl
theorem lcs_nil' (a : List ByteArray) : lcs a [] = 0 := by cases a <;> rfl
theorem lcs_cons (x y : ByteArray) (xs ys : List ByteArray) : lcs (x :: xs) (y :: ys) = if x = y then lcs xs ys + 1 else max (lcs xs (y :: ys)) (lcs (x :: xs) ys) := rfl
theorem lcs_le (a b : List ByteArray) : lcs a b ≤ a.length := by
  induction a generalizing b with
  | nil => simp [lcs]
  | cons x xs ih =>
    induction b with
    | nil => rw [lcs_nil']; omega
    | cons y ys ihy =>
      rw [lcs_cons, List.length_cons]
      have h1 := ih ys
      have h2 := ih (y :: ys)
      rw [List.length_cons] at ihy
      split <;> omega
theorem lcs_at {a b : List ByteArray} {i k : Nat} {x y : ByteArray} (hx : a[i]? = some x) (hy : b[k]? = some y) :
    lcs (a.drop i) (b.drop k) = if x = y then lcs (a.drop (i + 1)) (b.drop (k + 1)) + 1 else max (lcs (a.drop (i + 1)) (b.drop k)) (lcs (a.drop i) (b.drop (k + 1))) := by
  obtain ⟨hi, rfl⟩ := List.getElem?_eq_some_iff.1 hx
  obtain ⟨hk, rfl⟩ := List.getElem?_eq_some_iff.1 hy
  rw [List.drop_eq_getElem_cons hi, List.drop_eq_getElem_cons hk, lcs_cons]
theorem lcs_end {a b : List ByteArray} {i k : Nat} (h : a.length ≤ i ∨ b.length ≤ k) : lcs (a.drop i) (b.drop k) = 0 := by
  rcases h with h | h
  · rw [List.drop_eq_nil_of_le h, lcs_nil]
  · rw [List.drop_eq_nil_of_le h, lcs_nil']

/-- the table's cells are these numbers -/
def TabIs (l : List Value) (la W : Nat) (F : Nat → Nat → Nat) : Prop := ∀ i k, i ≤ la → k < W → l[i * W + k]? = some (.int .i64 (F i k))
theorem TabIs.set {l : List Value} {la W i0 k0 : Nat} {F G : Nat → Nat → Nat} (h : TabIs l la W F) (hi : i0 ≤ la) (hk : k0 < W)
    (hG : ∀ i k, i ≤ la → k < W → ¬ (i = i0 ∧ k = k0) → G i k = F i k) : TabIs (l.set (i0 * W + k0) (.int .i64 (G i0 k0))) la W G := by
  intro i k hi' hk'
  by_cases he : i = i0 ∧ k = k0
  · obtain ⟨rfl, rfl⟩ := he
    have := h i k hi' hk'
    rw [List.getElem?_set_self (List.getElem?_eq_some_iff.1 this).1]
  · have hne : i0 * W + k0 ≠ i * W + k := fun h' => he (by
      have d1 : (i0 * W + k0) / W = i0 := by rw [Nat.mul_comm, Nat.mul_add_div (by omega), Nat.div_eq_of_lt hk]; rfl
      have d2 : (i * W + k) / W = i := by rw [Nat.mul_comm, Nat.mul_add_div (by omega), Nat.div_eq_of_lt hk']; rfl
      have : i = i0 := by rw [← d1, ← d2, h']
      subst this
      exact ⟨rfl, by omega⟩)
    rw [List.getElem?_set_ne hne, hG i k hi' hk' he]
    exact h i k hi' hk'
theorem TabIs.cell {w : World} {tb T : Nat} {l : List Value} {la W : Nat} {F : Nat → Nat → Nat} (h : TabIs l la W F) (hb : Blk w tb T l) {i k : Nat} (hi : i ≤ la) (hk : k < W) :
    w.cell? ⟨tb, i * W + k, none⟩ = some (.int .i64 (F i k)) := (hb.cell _).trans (h i k hi hk)
end Go.Proofs.YtaeleagkpgbmaaaGreatDoor
