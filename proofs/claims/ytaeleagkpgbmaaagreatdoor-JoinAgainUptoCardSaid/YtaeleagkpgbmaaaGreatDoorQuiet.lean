/- A region that draws its order and whose operations read old memory, compute, or call what only adds to memory and hands back plain values: one walk in the order of the text. -/
import Derived.Test.YtaeleagkpgbmaaaGreatDoorEq
import Derived.BigQuiet
import Derived.Deep.QuietTactic
namespace Go.Proofs.YtaeleagkpgbmaaaGreatDoor
open Go.RowKit
set_option linter.unusedSimpArgs false
set_option linter.unusedVariables false

/-- the worlds in which all that was there is as it was -/
def EW (w : World) : Type := { w' : World // Ext w w' }
instance (w : World) : Inhabited (EW w) := ⟨⟨w, Ext.refl w⟩⟩
theorem EW.cell {w : World} {p : Addr} {v : Value} (h : w.cell? p = some v) (n : EW w) : n.1.cell? p = some v := n.2.cells h
theorem EW.range {w : World} {b o : Nat} {cs : List Value} (h : w.rangeAt b o cs) : ∀ u, (∃ n : EW w, u = n.1) → u.rangeAt b o cs := fun u ⟨n, hn⟩ j v hj => by
  subst hn; exact n.2.cells (h j v hj)

section
variable {P : Program} {ops : Array Oper} {Q : Act → Prop} {a : Act} {o : Oper} {rest : List Oper}

theorem wp_region_ext_lit {id : Nat} {Q : Exit → Act → World → Prop} {a : Act} {w : World} {l : List Oper} (hm : P.follows .mixedOrders = true) (hB : Region.lexB .any l.toArray = true)
    (h : wpQuiet P l.toArray (fun w' => ∃ n : EW w, w' = n.1) (fun a' => ∀ w', (∃ n : EW w, w' = n.1) → Q .normal a' w') l a) : (Code.region id l.toArray true).wp P Q a w :=
  wp_region_quiet (C := fun w' => ∃ n : EW w, w' = n.1) hm hB ⟨⟨_, Ext.drew w⟩, rfl⟩ (by simpa using h)

theorem wpQuiet_load_mid {C : World → Prop} (hw : Region.wanted o (yielded ops a.tmps) = true) (ty : TypeId) (x : Operand) (ho : o.op = .load ty x)
    (b off : Nat) (hx : a.eval x = .pointer (some ⟨b, off, none⟩)) (cs : List Value) (d : TypeDesc) (hC : ∀ w, C w → w.rangeAt b off cs)
    (hu : P.underlying ty = some d) (hd : d.isRow = true) (hi : (P.info? ty).map (·.size) = some cs.length)
    (h : wpQuiet P ops C Q rest (a.put o.dst (.agg cs.toArray))) : wpQuiet P ops C Q (o :: rest) a := by
  refine wpQuiet_step fun K hK => ?_
  rw [if_pos hw]
  refine ⟨.agg cs.toArray, fun w hCw => ?_, hK _ h⟩
  unfold Oper.quietAt
  have hr : (execOp a.eval o).run P w = .ok (.value (.agg cs.toArray)) w := by
    simp only [execOp, ho, hx]
    simp [run_loadAt_mid w b off ty cs d (hC w hCw) hu hd hi]
  rw [hr]
  exact ⟨rfl, rfl⟩
end

/-- at a call in such a walk -/
theorem Calls.quiet_ext {f : FuncId} {args : Array Value} {w : World} {v : Value} (n : EW w) (h : Calls Tryz.prog f args n.1 fun e w' => e = .returned v ∧ Ext n.1 w') :
    Calls Tryz.prog f args n.1 fun e w'' => e = .returned v ∧ ∃ m : EW w, w'' = m.1 :=
  h.mono fun e w'' ⟨h1, h2⟩ => ⟨h1, ⟨w'', n.2.trans h2⟩, rfl⟩
theorem Calls.quiet_eq {f : FuncId} {args : Array Value} {w : World} {v : Value} (n : EW w) (h : Calls Tryz.prog f args n.1 fun e w' => e = .returned v ∧ n.1 = w') :
    Calls Tryz.prog f args n.1 fun e w'' => e = .returned v ∧ ∃ m : EW w, w'' = m.1 :=
  h.mono fun e w'' ⟨h1, h2⟩ => ⟨h1, n, h2.symm⟩

end Go.Proofs.YtaeleagkpgbmaaaGreatDoor
