/- Structs that are built. -/
import Derived.Test.YtaeleagkpgbmaaaGreatDoorRowOne
import Derived.StillTailTactics
namespace Go.Proofs.YtaeleagkpgbmaaaGreatDoor
open Go.RowKit
set_option linter.unusedSimpArgs false
set_option linter.unusedVariables false

/-- an id, byte by byte -/
theorem id_cases {P : ID → Prop} (h : ∀ b0 b1 b2 b3 b4 b5 b6 b7 b8 b9 b10 b11 b12 b13 b14 b15 b16 b17 b18 b19 b20 b21 b22 b23 b24 b25 b26 b27 b28 b29 b30 b31 : UInt8,
    P ⟨[b0, b1, b2, b3, b4, b5, b6, b7, b8, b9, b10, b11, b12, b13, b14, b15, b16, b17, b18, b19, b20, b21, b22, b23, b24, b25, b26, b27, b28, b29, b30, b31], rfl⟩) (x : ID) : P x := by
  obtain ⟨l, hl⟩ := x
  match l, hl with
  | [b0, b1, b2, b3, b4, b5, b6, b7, b8, b9, b10, b11, b12, b13, b14, b15, b16, b17, b18, b19, b20, b21, b22, b23, b24, b25, b26, b27, b28, b29, b30, b31], _ => exact h _ _ _ _ _ _ _ _ _ _ _ _ _ _ _ _ _ _ _ _ _ _ _ _ _ _ _ _ _ _ _ _

set_option maxRecDepth 10000 in
theorem b56 (p : ByteArray) (x : ID) (s : Nat) (w : World) : (Instr.build 56 #[(0, .string p), (1, .agg (encId x).toArray), (2, .float .f64 s)]).run Tryz.prog w = .ok (.agg (encF ⟨p, x, s⟩).toArray) w := by
  revert x
  refine fun x => id_cases (P := fun x => (Instr.build 56 #[(0, .string p), (1, .agg (encId x).toArray), (2, .float .f64 s)]).run Tryz.prog w = .ok (.agg (encF ⟨p, x, s⟩).toArray) w) ?_ x
  intros
  kernel_rfl
theorem row22 : Row 22 56 (((Tryz.prog.info? 56).bind (·.zero)).getD (.tuple #[])) 34 56 := ⟨Tryz.underlying22, by kernel_rfl, by kernel_rfl, by decide⟩
/-! ### tree.File{..}, []tree.File{..} in a region that draws its order: the whole operation, ahead of the walk's own laws -/
def sb56 (a b c : Value) : Sem Value := Instr.build 56 #[(0, a), (1, b), (2, c)]
def ss22 (a : Value) : Sem Value := Instr.buildSlice 22 1 #[(0, a)]
@[go_sem ↓ high] theorem exec_b56 (ρ : Operand → Value) (d : Option Tmp) (x y z : Operand) (ty : TypeId) (pos : String) (af : Array Edge) (g : Option (Nat × Bool)) (w : World) :
    (execOp ρ ⟨d, .build 56 #[(0, x), (1, y), (2, z)], ty, pos, af, g⟩).run Tryz.prog w = ((sb56 (ρ x) (ρ y) (ρ z)).run Tryz.prog w).andThen fun v w' => .ok (.value v) w' := by
  unfold execOp sb56
  simp [Sem.run_bind, Result.andThen]
@[go_sem ↓ high] theorem exec_s22 (ρ : Operand → Value) (d : Option Tmp) (x : Operand) (ty : TypeId) (pos : String) (af : Array Edge) (g : Option (Nat × Bool)) (w : World) :
    (execOp ρ ⟨d, .buildSlice 22 1 #[(0, x)], ty, pos, af, g⟩).run Tryz.prog w = ((ss22 (ρ x)).run Tryz.prog w).andThen fun v w' => .ok (.value v) w' := by
  unfold execOp ss22
  simp [Sem.run_bind, Result.andThen]
@[go_sem] theorem run_sb56 (p : ByteArray) (x : ID) (s : Nat) (w : World) : (sb56 (.string p) (.agg (encId x).toArray) (.float .f64 s)).run Tryz.prog w = .ok (.agg (encF ⟨p, x, s⟩).toArray) w := b56 p x s w
@[go_sem] theorem run_ss22 (f : FileD) (w : World) : (ss22 (.agg (encF f).toArray)).run Tryz.prog w = .ok (.slice (some ⟨w.heap.size, 0, none⟩) 1 1) (w.alloc (.cells (encF f).toArray 56)) := run_slice_one row22 (encF f) (encF_length f) (by omega) w
attribute [irreducible] sb56 ss22
section
variable {ops : Array Oper} {rest : List Oper} {o : Oper} {a : Act} {w : World} {Q : Act → Prop}
theorem wpStill_val (v : Value) (hw : Region.wanted o (yielded ops a.tmps) = true) (hr : (execOp a.eval o).run Tryz.prog w = .ok (.value v) w) (h : wpStill Tryz.prog ops w Q rest (a.put o.dst v)) : wpStill Tryz.prog ops w Q (o :: rest) a := by
  unfold wpStill
  rw [if_pos hw]
  unfold Oper.still
  rw [hr, Oper.stillUpon_value]
  exact h
theorem wanted_plain (hg : o.guard = none) : Region.wanted o (yielded ops a.tmps) = true := by simp [Region.wanted, hg]
theorem wpStill_load (hw : Region.wanted o (yielded ops a.tmps) = true) (ty : TypeId) (x : Operand) (ho : o.op = .load ty x) (b off : Nat) (hx : a.eval x = .pointer (some ⟨b, off, none⟩)) (cs : List Value) (d : TypeDesc) (hc : w.rangeAt b off cs)
    (hu : Tryz.prog.underlying ty = some d) (hd : d.isRow = true) (hi : (Tryz.prog.info? ty).map (·.size) = some cs.length)
    (h : wpStill Tryz.prog ops w Q rest (a.put o.dst (.agg cs.toArray))) : wpStill Tryz.prog ops w Q (o :: rest) a :=
  wpStill_val _ hw (by
    unfold execOp
    simp only [ho, hx, Instr.loadAt, Instr.sureAddr, Sem.run_bind, Sem.run_pure, Result.andThen_ok, run_loadVar_mid w b off ty cs d hc hu hd hi]) h
theorem wpStill_build (hw : Region.wanted o (yielded ops a.tmps) = true) (T : TypeId) (parts : Array (Nat × Operand)) (ho : o.op = .build T parts) (vals : Array (Nat × Value)) (hv : (parts.map fun (i, x) => (i, a.eval x)) = vals) (v : Value)
    (hr : (Instr.build T vals).run Tryz.prog w = .ok v w) (h : wpStill Tryz.prog ops w Q rest (a.put o.dst v)) : wpStill Tryz.prog ops w Q (o :: rest) a :=
  wpStill_val v hw (by
    unfold execOp
    simp only [ho, hv, Sem.run_bind, Sem.run_pure, hr, Result.andThen_ok]) h
end
end Go.Proofs.YtaeleagkpgbmaaaGreatDoor
