/- Words for memory: slices that read as lists; worlds that only grow. -/
import Derived.Test.YtaeleagkpgbmaaaGreatDoorRows
import Derived.WalkKit
import Derived.WalkSpells
import Derived.WalkLawsBesides
import Derived.Lib.Hide
import Derived.Deep.Draws
namespace Go.Proofs.YtaeleagkpgbmaaaGreatDoor
open Go.RowKit
set_option linter.unusedSimpArgs false
set_option linter.unusedVariables false

/-- all that was there is as it was -/
def Ext (w w' : World) : Prop := Below w.heap.size w w'
theorem Ext.refl (w : World) : Ext w w := Below.refl _ _
theorem Ext.size {w w' : World} (h : Ext w w') : w.heap.size ≤ w'.heap.size := Below.size h
theorem Ext.trans {a b c : World} (h : Ext a b) (k : Ext b c) : Ext a c := Below.trans h (Below.mono k h.size)
theorem Ext.drew (w : World) : Ext w w.drew := (Below.refl _ _).drew
theorem Ext.drewN (w : World) (n : Nat) : Ext w (w.drewN n) := ⟨rfl, rfl, rfl, Nat.le_refl _, fun _ _ => rfl⟩
theorem Ext.alloc (w : World) (o : Obj) : Ext w (w.alloc o) := (Below.refl _ _).alloc (Nat.le_refl _) o
theorem Ext.setCell {a w : World} (h : Ext a w) {p : Addr} (hp : a.heap.size ≤ p.block) (u : Value) : Ext a (w.setCell p u) := Below.setCell h hp u
theorem Ext.cell {w w' : World} (h : Ext w w') {p : Addr} (hp : p.block < w.heap.size) : w'.cell? p = w.cell? p := Below.cell h hp
theorem Ext.frozen {w w' : World} (h : Ext w w') {p : Addr} (hp : p.block < w.heap.size) : w'.frozen? p = w.frozen? p := Below.frozen h hp
theorem Ext.block {w w' : World} (h : Ext w w') {k : Nat} (hk : k < w.heap.size) : w'.heap[k]? = w.heap[k]? := Below.block h k hk
theorem Ext.cells {w w' : World} (h : Ext w w') {p : Addr} {v : Value} (hv : w.cell? p = some v) : w'.cell? p = some v := by
  rw [h.cell (World.block_lt_of_cell? _ _ hv)]; exact hv

/-- a slice value that reads as a list, each element so many cells -/
def Sl {α : Type} (enc : α → List Value) (sz : Nat) (w : World) (v : Value) (xs : List α) : Prop :=
  xs.length < 4294967296 ∧ ∃ A c, v = .slice A xs.length c ∧ (xs.length ≤ c ∧ (A = none → c = 0)) ∧ (∀ x ∈ xs, (enc x).length = sz) ∧
    (0 < xs.length → ∃ b off, A = some ⟨b, off, none⟩ ∧ b < w.heap.size ∧
      ∀ i x, xs[i]? = some x → ∀ j u, (enc x)[j]? = some u → w.cell? ⟨b, off + i * sz + j, none⟩ = some u)

theorem Sl.ext {α : Type} {enc : α → List Value} {sz : Nat} {w w' : World} {v : Value} {xs : List α} (h : Sl enc sz w v xs) (he : Ext w w') : Sl enc sz w' v xs := by
  obtain ⟨h0, A, c, hv, hc, hz, hx⟩ := h
  refine ⟨h0, A, c, hv, hc, hz, fun hp => ?_⟩
  obtain ⟨b, off, ha, hb, hcells⟩ := hx hp
  exact ⟨b, off, ha, Nat.lt_of_lt_of_le hb he.size, fun i x hi j u hj => (he.cell (p := ⟨b, _, none⟩) hb).trans (hcells i x hi j u hj)⟩

theorem Sl.nil {α : Type} (enc : α → List Value) (sz : Nat) (w : World) : Sl enc sz w (.slice none 0 0) [] :=
  ⟨by simp, none, 0, rfl, ⟨Nat.le_refl _, fun _ => rfl⟩, by simp, by simp⟩

/-- the same, and its block, where it has one, is one of cells of type T -/
def TSl {α : Type} (enc : α → List Value) (sz : Nat) (T : TypeId) (w : World) (v : Value) (xs : List α) : Prop :=
  Sl enc sz w v xs ∧ ∀ g, v.ownBlock = some g → ∃ cs m, w.heap[g]? = some (.cells cs T m)
theorem TSl.ext {α : Type} {enc : α → List Value} {sz : Nat} {T : TypeId} {w w' : World} {v : Value} {xs : List α} (h : TSl enc sz T w v xs) (he : Ext w w') : TSl enc sz T w' v xs := by
  refine ⟨h.1.ext he, fun g hg => ?_⟩
  obtain ⟨cs, m, hc⟩ := h.2 g hg
  refine ⟨cs, m, ?_⟩
  have hlt : g < w.heap.size := (Array.getElem?_eq_some_iff.1 hc).1
  rw [he.block hlt]; exact hc
theorem TSl.nil {α : Type} (enc : α → List Value) (sz : Nat) (T : TypeId) (w : World) : TSl enc sz T w (.slice none 0 0) [] := ⟨Sl.nil _ _ _, fun g hg => by cases hg⟩
/-- block L is not one of cells of type T -/
def NotTy (w : World) (L : Nat) (T : TypeId) : Prop := ∀ cs m, w.heap[L]? ≠ some (.cells cs T m)

/-- strings -/
def encS (s : ByteArray) : List Value := [.string s]
abbrev Strs (w : World) (v : Value) (xs : List ByteArray) : Prop := Sl encS 1 w v xs

theorem Strs.mk_cells {w : World} {b off c : Nat} {xs : List ByteArray} (hl : xs.length < 4294967296) (hc : xs.length ≤ c) (hb : b < w.heap.size)
    (h : ∀ i x, xs[i]? = some x → w.cell? ⟨b, off + i, none⟩ = some (.string x)) : Strs w (.slice (some ⟨b, off, none⟩) xs.length c) xs := by
  refine ⟨hl, _, c, rfl, ⟨hc, by simp⟩, fun _ _ => rfl, fun _ => ⟨b, off, rfl, hb, fun i x hi j u hj => ?_⟩⟩
  cases j with
  | zero => simp [encS] at hj; subst hj; simpa using h i x hi
  | succ j => simp [encS] at hj

theorem Strs.open_ {w : World} {v : Value} {xs : List ByteArray} (h : Strs w v xs) :
    ∃ A c, v = .slice A xs.length c ∧ xs.length ≤ c ∧ xs.length < 4294967296 ∧
      (0 < xs.length → ∃ b off, A = some ⟨b, off, none⟩ ∧ b < w.heap.size ∧ ∀ i x, xs[i]? = some x → w.cell? ⟨b, off + i, none⟩ = some (.string x)) := by
  obtain ⟨h0, A, c, hv, hc, hz, hx⟩ := h
  refine ⟨A, c, hv, hc.1, h0, fun hp => ?_⟩
  obtain ⟨b, off, ha, hb, hcells⟩ := hx hp
  exact ⟨b, off, ha, hb, fun i x hi => by simpa using hcells i x hi 0 _ rfl⟩

theorem Strs.new (w : World) (xs : List ByteArray) (hl : xs.length < 4294967296) :
    Strs (w.alloc (.cells (xs.map Value.string).toArray 9)) (.slice (some ⟨w.heap.size, 0, none⟩) xs.length xs.length) xs := by
  refine Strs.mk_cells hl (Nat.le_refl _) (by simp) fun i x hi => ?_
  rw [World.cell?_alloc_at _ _ _ _ rfl]
  simp [hi]

end Go.Proofs.YtaeleagkpgbmaaaGreatDoor
