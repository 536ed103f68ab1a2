/- Slices of the call's own: what append leaves, element by element. -/
import Derived.Test.YtaeleagkpgbmaaaGreatDoorLaws
namespace Go.Proofs.YtaeleagkpgbmaaaGreatDoor
open Go.RowKit
set_option linter.unusedSimpArgs false
set_option linter.unusedVariables false

theorem flatMap_get {α : Type} (enc : α → List Value) (sz : Nat) : ∀ (xs : List α), (∀ x ∈ xs, (enc x).length = sz) → ∀ i x, xs[i]? = some x → ∀ j, j < sz → (xs.flatMap enc)[i * sz + j]? = (enc x)[j]?
  | [], _, i, x, h, _, _ => by simp at h
  | y :: ys, hz, 0, x, h, j, hj => by
    simp at h; subst h
    rw [List.flatMap_cons, Nat.zero_mul, Nat.zero_add, List.getElem?_append_left (by rw [hz y List.mem_cons_self]; exact hj)]
  | y :: ys, hz, i + 1, x, h, j, hj => by
    have hy := hz y List.mem_cons_self
    rw [List.flatMap_cons, List.getElem?_append_right (by rw [hy, Nat.add_mul]; omega), hy]
    have e : (i + 1) * sz + j - sz = i * sz + j := by rw [Nat.add_mul]; omega
    rw [e]
    exact flatMap_get enc sz ys (fun z hz' => hz z (List.mem_cons_of_mem _ hz')) i x (by simpa using h) j hj
theorem flatMap_len {α : Type} (enc : α → List Value) (sz : Nat) : ∀ (xs : List α), (∀ x ∈ xs, (enc x).length = sz) → (xs.flatMap enc).length = xs.length * sz
  | [], _ => by simp
  | y :: ys, hz => by
    rw [List.flatMap_cons, List.length_append, hz y List.mem_cons_self, flatMap_len enc sz ys (fun z h => hz z (List.mem_cons_of_mem _ h)), List.length_cons, Nat.add_mul]
    omega

/-- a slice of the call's own that holds these elements -/
def Own {α : Type} (enc : α → List Value) (sz : Nat) (T : TypeId) (base : Nat) (w : World) (v : Value) (xs : List α) : Prop :=
  w.ownsRow base T sz v xs.length (xs.flatMap enc)
section
variable {α : Type} {enc : α → List Value} {sz : Nat} {T : TypeId} {base : Nat} {w : World} {v : Value} {xs : List α}
theorem Own.nil : Own enc sz T base w (.slice none 0 0) ([] : List α) := World.ownsRow_nil _ _ _ _
theorem Own.alloc (h : Own enc sz T base w v xs) (o : Obj) : Own enc sz T base (w.alloc o) v xs := World.ownsRow.alloc h o
theorem Own.drew (h : Own enc sz T base w v xs) : Own enc sz T base w.drew v xs := World.ownsRow.drew h
theorem Own.ext {w' : World} (h : Own enc sz T base w v xs) (he : Ext w w') : Own enc sz T base w' v xs := by
  obtain ⟨h1, h2⟩ := h
  refine ⟨h1, ?_⟩
  rcases h2 with h2 | ⟨g, cap, cur, hv, hg, hh, r⟩
  · exact .inl h2
  · refine .inr ⟨g, cap, cur, hv, hg, ?_, r⟩
    have hlt : g < w.heap.size := by
      rcases Nat.lt_or_ge g w.heap.size with hlt | hge
      · exact hlt
      · rw [Array.getElem?_eq_none hge] at hh; cases hh
    rw [he.block hlt]; exact hh
theorem Own.sl (h : Own enc sz T base w v xs) (hz : ∀ x ∈ xs, (enc x).length = sz) (hl : xs.length < 4294967296) : Sl enc sz w v xs := by
  obtain ⟨h1, h2⟩ := h
  rcases h2 with ⟨rfl, h0⟩ | ⟨g, cap, cur, rfl, hg, hh, hc, hm, hs, ht⟩
  · have : xs = [] := List.length_eq_zero_iff.1 h0
    subst this
    exact Sl.nil _ _ _
  · refine ⟨hl, _, cap, rfl, ⟨hc, by simp⟩, hz, fun hp => ⟨g, 0, rfl, ?_, fun i x hi j u hj => ?_⟩⟩
    · rcases Nat.lt_or_ge g w.heap.size with hlt | hge
      · exact hlt
      · rw [Array.getElem?_eq_none hge] at hh; cases hh
    · have hjs : j < sz := by rw [← hz x (List.mem_of_getElem? hi)]; exact (List.getElem?_eq_some_iff.1 hj).1
      have := flatMap_get enc sz xs hz i x hi j hjs
      rw [← ht, hj, List.getElem?_take] at this
      rw [Nat.zero_add, cell_of_row w g _ cur T (0, 0) hh]
      split at this
      · simpa using this
      · cases this
theorem Own.block (h : Own enc sz T base w v xs) : ∀ k, v.ownBlock = some k → base ≤ k ∧ k < w.heap.size := World.ownsRow.lt h
end

theorem Ext.grown {a w w' : World} {row : Option Nat} (h : Ext a w) (hg : w.grownBy w' row) (hr : ∀ k, row = some k → a.heap.size ≤ k) : Ext a w' :=
  Below.grown h hg h.size hr

theorem Ext.grown_ {a w w' : World} {o : Obj} {row : Option Nat} (h : Ext a w) (hg : (w.alloc o).grownBy w' row) (hr : ∀ k, row = some k → a.heap.size ≤ k) : Ext a w' :=
  (h.trans (Ext.alloc w o)).grown hg hr

/-- the type's row of the table -/
structure Row (ST T : TypeId) (z : Value) (size bytes : Nat) : Prop where
  under : Tryz.prog.underlying ST = some (.slice T)
  info : (Tryz.prog.info? T).map (fun i => (i.zero, i.size, i.bytes)) = some (some z, size, bytes)
  cells : z.cells.size = size
  pos : 0 < size
theorem row103 : Row 103 9 (.string ByteArray.empty) 1 16 := ⟨Tryz.underlying103, by kernel_rfl, rfl, by decide⟩

section
variable {ops : Array Oper} {rest : List Oper} {op : Oper} {a : Act} {w : World} {Q : Exit → Act → World → Prop}
/-- out = append(out, x): one element, laid in a block of its own -/
theorem wpList_append_one {α : Type} {enc : α → List Value} {sz bytes base : Nat} {ST T : TypeId} {z : Value} (R : Row ST T z sz bytes)
    (hgd : op.guard = none) (s x : Operand) (ho : op.op = .call { callee := .builtin .append, args := #[s, x], argTypes := #[ST, ST] })
    (v : Value) (xs : List α) (y : α) {w1 : World} (w : World) (hw : w1 = w.alloc (.cells (enc y).toArray T)) (hs : a.eval s = v) (hown : Own enc sz T base w v xs) (hx : a.eval x = .slice (some ⟨w.heap.size, 0, none⟩) 1 1)
    (hl : (enc y).length = sz) (h1 : ∀ u ∈ enc y, u.oneCell' = true) (hn : xs.length < 274877906944) (hb : bytes ≤ 256) (hbase : base ≤ w.heap.size)
    (h : ∀ v' w', Own enc sz T base w' v' (xs ++ [y]) → (w.alloc (.cells (enc y).toArray T)).grownBy w' v.ownBlock → wpList Tryz.prog ops Q rest (a.put op.dst v') w') :
    wpList Tryz.prog ops Q (op :: rest) a w1 := by
  subst hw
  obtain ⟨i0, hi, hz0, hz1, hz2⟩ := info_parts R.info
  refine wpList_append_own _ hgd s x ST ho base T i0 z sz bytes R.under hi hz0 hz1 hz2 R.cells R.pos v xs.length (xs.flatMap enc) hs (hown.alloc _) ⟨w.heap.size, 0, none⟩ 1 1 (enc y) hx (by simpa using hl) ?_ h1 ?_ ?_ ?_ ?_
  · intro j u hj
    rw [Addr.add_mid, World.cell?_alloc_at _ _ _ _ rfl]
    simpa using hj
  · unfold maxLen; omega
  · have : (xs.length + 1) * bytes ≤ (xs.length + 1) * 256 := Nat.mul_le_mul_left _ hb
    omega
  · simp; omega
  · intro v' w' ho' hg _
    refine h v' w' ?_ hg
    unfold Own
    rw [List.length_append, List.flatMap_append]
    simpa using ho'
end
end Go.Proofs.YtaeleagkpgbmaaaGreatDoor
