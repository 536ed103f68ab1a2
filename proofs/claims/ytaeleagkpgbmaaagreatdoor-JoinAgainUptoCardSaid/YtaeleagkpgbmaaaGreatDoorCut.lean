/- x[lo:hi] of a slice. -/
import Derived.Test.YtaeleagkpgbmaaaGreatDoorOwn
import Derived.Laws.Slices
namespace Go.Proofs.YtaeleagkpgbmaaaGreatDoor
open Go.RowKit
set_option linter.unusedSimpArgs false
set_option linter.unusedVariables false

theorem Sl.cut {α : Type} {enc : α → List Value} {sz : Nat} {w : World} {A : Option Addr} {c : Nat} {xs : List α} (h : Sl enc sz w (.slice A xs.length c) xs) {l u : Nat} (hlu : l ≤ u) (hu : u ≤ xs.length) :
    Sl enc sz w (.slice (if c = l then A else A.map (·.add (l * sz))) (u - l) (c - l)) ((xs.drop l).take (u - l)) := by
  obtain ⟨h0, A', c', hv, hc, hz, hx⟩ := h
  injection hv with hA _ hcc
  subst hA; subst hcc
  have hlen : ((xs.drop l).take (u - l)).length = u - l := by rw [List.length_take, List.length_drop]; omega
  refine ⟨by rw [hlen]; omega, _, c - l, by rw [hlen], ⟨by rw [hlen]; omega, ?_⟩, fun x hx' => hz x (List.mem_of_mem_drop (List.mem_of_mem_take hx')), ?_⟩
  · intro hn
    split at hn
    · have := hc.2 hn; omega
    · cases A with
      | none => have := hc.2 rfl; omega
      | some a => simp at hn
  · intro hp
    rw [hlen] at hp
    obtain ⟨b, off, rfl, hb, hcells⟩ := hx (by omega)
    have hne : ¬ c = l := by omega
    rw [if_neg hne]
    refine ⟨b, off + l * sz, by simp [Addr.add_mid], hb, fun i x hi j v hj => ?_⟩
    have hi' : xs[l + i]? = some x := by
      rw [List.getElem?_take] at hi
      split at hi
      · rwa [List.getElem?_drop] at hi
      · cases hi
    have := hcells (l + i) x hi' j v hj
    rw [Nat.add_mul] at this
    rw [show off + l * sz + i * sz + j = off + (l * sz + i * sz) + j by omega]
    exact this

theorem run_cut {ST T : TypeId} {z : Value} {sz bytes : Nat} (R : Row ST T z sz bytes) (A : Option Addr) (len c l u : Nat) (hlu : l ≤ u) (huc : u ≤ c) (lo hi : Option Value)
    (hlo : lo = some (.int .i64 l) ∨ (lo = none ∧ l = 0)) (hhi : hi = some (.int .i64 u) ∨ (hi = none ∧ u = len)) (w : World) :
    (Instr.slice ST (.slice A len c) lo hi none).run Tryz.prog w = .ok (.slice (if c = l then A else A.map (·.add (l * sz))) (u - l) (c - l)) w := by
  obtain ⟨i0, hi0, _, hz1, _⟩ := info_parts R.info
  have hs : (sizeOf T).run Tryz.prog w = .ok sz w := by
    rw [run_sizeOf w hi0]; unfold Program.cellsOf; simp [hi0, hz1]
  unfold Instr.slice
  simp only [Sem.run_bind, run_underlying R.under, Result.andThen_ok]
  rcases hlo with rfl | ⟨rfl, rfl⟩
  all_goals rcases hhi with rfl | ⟨rfl, rfl⟩
  all_goals
    simp [Instr.sliceBounds, Instr.sliceBound, asIntOf, hs, hlu, huc, Int.toNat_natCast]

section
variable {ops : Array Oper} {rest : List Oper} {op : Oper} {a : Act} {w : World} {Q : Exit → Act → World → Prop}
/-- x[lo:hi] as an operation: what comes out reads as the part of the list -/
theorem wpList_cut {ST T : TypeId} {z : Value} {sz bytes : Nat} (R : Row ST T z sz bytes) (hgd : op.guard = none) (x : Operand) (lo hi : Option Operand) (ho : op.op = .slice ST x lo hi none)
    (A : Option Addr) (len c l u : Nat) (hx : a.eval x = .slice A len c) (hlu : l ≤ u) (hul : u ≤ len) (hlc : len ≤ c)
    (hlo : lo.map a.eval = some (.int .i64 l) ∨ (lo.map a.eval = none ∧ l = 0)) (hhi : hi.map a.eval = some (.int .i64 u) ∨ (hi.map a.eval = none ∧ u = len))
    (h : ∀ A' c', u - l ≤ c' → (∀ (α : Type) (enc : α → List Value) (w' : World) (xs : List α), xs.length = len → Sl enc sz w' (.slice A len c) xs → Sl enc sz w' (.slice A' (u - l) c') ((xs.drop l).take (u - l))) →
      wpList Tryz.prog ops Q rest (a.put op.dst (.slice A' (u - l) c')) w) : wpList Tryz.prog ops Q (op :: rest) a w := by
  refine wpList_plain hgd fun K hK => ?_
  have hr : (execOp a.eval op).run Tryz.prog w = .ok (.value (.slice (if c = l then A else A.map (·.add (l * sz))) (u - l) (c - l))) w := by
    simp only [execOp, ho, hx, Option.map_none]
    have := run_cut R A len c l u hlu (Nat.le_trans hul hlc) _ _ hlo hhi w
    simp [run_sliceAt_slice, Instr.sliceAt, run_underlying R.under, this]
  unfold Oper.wp
  rw [hr]
  exact hK _ _ (h _ _ (by omega) (fun α enc w' xs hl hs => by subst hl; exact hs.cut hlu hul))
end
theorem row52 : Row 52 5 (.int .u8 0) 1 1 := ⟨Tryz.underlying52, by kernel_rfl, rfl, by decide⟩
end Go.Proofs.YtaeleagkpgbmaaaGreatDoor
