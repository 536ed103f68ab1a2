/- []T{x} of a whole struct. -/
import Derived.Test.YtaeleagkpgbmaaaGreatDoorOwn
namespace Go.Proofs.YtaeleagkpgbmaaaGreatDoor
open Go.RowKit
set_option linter.unusedSimpArgs false
set_option linter.unusedVariables false

theorem zip_over (off : Nat) : ∀ (cs : List Value) (k : Nat) (A : Array Value), (cs.zipIdx k).foldl (fun (A : Array Value) (p : Value × Nat) => A.setIfInBounds (off + p.2) p.1) A = over A (off + k) cs
  | [], k, A => rfl
  | c :: cs, k, A => by
    rw [List.zipIdx_cons, List.foldl_cons, zip_over off cs (k + 1), over]
    rfl
theorem fill_one (place : Nat → Option (Nat × Nat)) (cells : Array Value) (cs : List Value) (hp : place 0 = some (0, cs.length)) (hc : cells.size = cs.length) :
    Instr.fill place cells [(0, .agg cs.toArray)] = some cs.toArray := by
  unfold Instr.fill
  rw [hp]
  simp only [Value.cells, List.size_toArray, Nat.zero_add, hc, ne_eq, not_true_eq_false, decide_false, Bool.false_or, Nat.lt_irrefl, gt_iff_lt, Bool.false_eq_true, if_false]
  rw [Instr.fill]
  congr 1
  have h := zip_over 0 cs 0 cells
  simp only [Nat.zero_add] at h
  rw [over_all hc] at h
  refine Eq.trans ?_ h
  rw [← Array.foldl_toList]
  simp
theorem run_slice_one {sz bytes : Nat} {ST T : TypeId} {z : Value} (R : Row ST T z sz bytes) (cs : List Value) (hl : cs.length = sz) (hsz : sz ≤ 16777216) (w : World) :
    (Instr.buildSlice ST 1 #[(0, .agg cs.toArray)]).run Tryz.prog w = .ok (.slice (some ⟨w.heap.size, 0, none⟩) 1 1) (w.alloc (.cells cs.toArray T)) := by
  obtain ⟨i0, hi, hz0, hz1, hz2⟩ := info_parts R.info
  have hc := R.cells
  have hp := R.pos
  unfold Instr.buildSlice
  have hs : (sizeOf T).run Tryz.prog w = .ok sz w := by rw [run_sizeOf w hi]; unfold Program.cellsOf; simp [hi, hz1]
  have hzv : (zeroValue T).run Tryz.prog w = .ok z w := by simp [zeroValue, typeInfo, program, Sem.run, Result.andThen, hi, hz0, go_sem]
  simp [run_underlying R.under, hs, hzv, Result.andThen, hsz, Nat.ne_of_gt hp, newRow, newObj, go_sem]
  have hfold : ∀ A : Array Value, A.size = sz → List.foldl (fun (cs : Array Value) (x : Value × Nat) => cs.setIfInBounds x.snd x.fst) A cs.zipIdx = cs.toArray := fun A hA => by
    have h := zip_over 0 cs 0 A
    simp only [Nat.zero_add] at h
    rw [over_all (by omega)] at h
    exact h
  have hfill : ∀ cells : Array Value, cells.size = sz → Instr.fill (fun i => some (i * sz, sz)) cells [(0, .agg cs.toArray)] = some cs.toArray := fun cells hcs => fill_one _ _ cs (by simp [hl]) (by omega)
  first
    | (rw [if_neg (by omega), if_neg (by omega), hfold _ (by simp)]; rfl)
    | (rw [if_neg (by omega), hfill _ (by simp)]; rfl)
section
variable {ops : Array Oper} {rest : List Oper} {op : Oper} {a : Act} {w : World} {Q : Exit → Act → World → Prop}
theorem wpList_slice_one {sz bytes : Nat} {ST T : TypeId} {z : Value} (R : Row ST T z sz bytes) (hgd : op.guard = none) (x : Operand) (ho : op.op = .buildSlice ST 1 #[(0, x)]) (cs : List Value) (hx : a.eval x = .agg cs.toArray) (hl : cs.length = sz) (hsz : sz ≤ 16777216)
    (h : wpList Tryz.prog ops Q rest (a.put op.dst (.slice (some ⟨w.heap.size, 0, none⟩) 1 1)) (w.alloc (.cells cs.toArray T))) : wpList Tryz.prog ops Q (op :: rest) a w := by
  refine wpList_plain hgd fun K hK => ?_
  have hr := run_slice_one R cs hl hsz w
  unfold Oper.wp
  simp [execOp, ho, hx, hr, Result.andThen]
  exact hK _ _ h
end
end Go.Proofs.YtaeleagkpgbmaaaGreatDoor
