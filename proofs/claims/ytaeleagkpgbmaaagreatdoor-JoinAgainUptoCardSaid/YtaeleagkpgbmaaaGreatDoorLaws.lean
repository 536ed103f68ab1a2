/- Laws at an operation: a new variable, a whole struct stored into it; the data of files and ids. -/
import Derived.Test.YtaeleagkpgbmaaaGreatDoorMem
import Derived.Deep.MidRow
namespace Go.Proofs.YtaeleagkpgbmaaaGreatDoor
open Go.RowKit
set_option linter.unusedSimpArgs false
set_option linter.unusedVariables false

/-- the zero value's cells of a type -/
noncomputable def Z (T : TypeId) : Array Value := (((Tryz.prog.info? T).bind (·.zero)).getD (.tuple #[])).cells
attribute [irreducible] Z

section
variable {ops : Array Oper} {rest : List Oper} {op : Oper} {a : Act} {w : World} {Q : Exit → Act → World → Prop}

theorem wpList_alloc_z (hgd : op.guard = none) (T : TypeId) (ho : op.op = .alloc T) (hz : ((Tryz.prog.info? T).bind (·.zero)).isSome = true)
    (h : wpList Tryz.prog ops Q rest (a.put op.dst (.pointer (some ⟨w.heap.size, 0, none⟩))) (w.alloc (.cells (Z T) T))) : wpList Tryz.prog ops Q (op :: rest) a w := by
  refine wpList_plain hgd fun K hK => ?_
  have hi : ∃ i z, Tryz.prog.info? T = some i ∧ i.zero = some z := by
    cases hi : Tryz.prog.info? T with
    | none => simp [hi] at hz
    | some i => cases hz' : i.zero with
      | none => simp [hi, hz'] at hz
      | some z => exact ⟨i, z, rfl, hz'⟩
  obtain ⟨i, z, hi, hzz⟩ := hi
  have hZ : Z T = z.cells := by unfold Z; simp [hi, hzz]
  rw [hZ] at h
  have hr : (execOp a.eval op).run Tryz.prog w = .ok (.value (.pointer (some ⟨w.heap.size, 0, none⟩))) (w.alloc (.cells z.cells T)) := by
    simp only [execOp, ho]
    simp [Instr.alloc, zeroValue, typeInfo, program, newVar, newRow, newObj, Sem.run, Result.andThen, hi, hzz, go_sem]
  unfold Oper.wp
  rw [hr]
  exact hK _ _ h

/-- an array with a list written over it from a place on -/
def over (zs : Array Value) (o : Nat) : List Value → Array Value
  | [] => zs
  | v :: vs => over (zs.setIfInBounds o v) (o + 1) vs
theorem over_size (vs : List Value) : ∀ (zs : Array Value) (o : Nat), (over zs o vs).size = zs.size := by
  induction vs with
  | nil => intro zs o; rfl
  | cons v vs ih => intro zs o; rw [over, ih]; simp
theorem over_get (vs : List Value) : ∀ (zs : Array Value) (o i : Nat), (over zs o vs)[i]? = if i < o then zs[i]? else if i < o + vs.length then (if i < zs.size then vs[i - o]? else none) else zs[i]? := by
  induction vs with
  | nil => intro zs o i; simp only [over, List.length_nil, Nat.add_zero]; split <;> rfl
  | cons v vs ih =>
    intro zs o i
    rw [over, ih]
    simp only [Array.getElem?_setIfInBounds, Array.size_setIfInBounds, List.length_cons]
    by_cases h1 : i < o
    · have e1 : i < o + 1 := by omega
      have e2 : ¬ o = i := by omega
      simp only [h1, e1, e2, if_true, if_false]
    · by_cases h2 : o = i
      · subst h2
        simp
      · have e1 : ¬ i < o + 1 := by omega
        simp only [h1, e1, h2, if_false]
        have e3 : (i < o + 1 + vs.length) = (i < o + (vs.length + 1)) := by apply propext; omega
        simp only [e3]
        split
        · have : i - o = (i - (o + 1)) + 1 := by omega
          rw [this, List.getElem?_cons_succ]
        · rfl
theorem over_all {zs : Array Value} {vs : List Value} (h : zs.size = vs.length) : over zs 0 vs = vs.toArray := by
  apply Array.ext_getElem?
  intro i
  rw [over_get]
  simp only [Nat.not_lt_zero, if_false, Nat.zero_add, Nat.sub_zero, h]
  by_cases hi : i < vs.length
  · simp [hi]
  · simp [hi, h]
theorem setCells_alloc (w : World) (T : TypeId) : ∀ (vs : List Value) (zs : Array Value) (o : Nat),
    (w.alloc (.cells zs T)).setCells w.heap.size o vs = w.alloc (.cells (over zs o vs) T)
  | [], zs, o => rfl
  | v :: vs, zs, o => by
    rw [World.setCells, World.setCell_alloc_at _ _ _ _ _ rfl, setCells_alloc w T vs, over]

/-- a whole struct stored into the block that has just been laid -/
theorem wpList_store_new (hgd : op.guard = none) (T : TypeId) (x y : Operand) (ho : op.op = .store T x y) (zs : Array Value) (cs : List Value)
    (hx : a.eval x = .pointer (some ⟨w.heap.size, 0, none⟩)) (hy : a.eval y = .agg cs.toArray) (hs : zs.size = cs.length)
    (hi : (Tryz.prog.info? T).map (·.size) = some cs.length) (h1 : ∀ v ∈ cs, v.oneCell' = true)
    (h : wpList Tryz.prog ops Q rest (a.put op.dst undef) (w.alloc (.cells cs.toArray T))) : wpList Tryz.prog ops Q (op :: rest) a (w.alloc (.cells zs T)) := by
  refine wpList_store_mid hgd T x y ho w.heap.size 0 cs.toArray hx hy (fun j hj => ?_) (by simpa using hi) (all_oneCell_toArray h1) ?_
  · simp at hj
    refine ⟨?_, ?_⟩
    · rw [World.cell?_alloc_at _ _ _ _ rfl]
      simp; omega
    · exact World.frozen?_alloc_at _ _ _ _ rfl
  · rw [setCells_alloc, over_all (by simpa using hs)]
    exact h
end

/-! ### data -/
/-- 32 bytes -/
def ID : Type := { l : List UInt8 // l.length = 32 }
instance : DecidableEq ID := inferInstanceAs (DecidableEq { l : List UInt8 // l.length = 32 })
def encId (i : ID) : List Value := i.1.map fun b => .int .u8 b.toNat
theorem encId_length (i : ID) : (encId i).length = 32 := by simp [encId, i.2]
structure FileD where
  path : ByteArray
  id : ID
  stamp : Nat
def encF (f : FileD) : List Value := .string f.path :: (encId f.id ++ [.float .f64 f.stamp])
theorem encF_length (f : FileD) : (encF f).length = 34 := by simp [encF, encId_length]
theorem encF_0 (f : FileD) : (encF f)[0]? = some (.string f.path) := rfl
theorem encF_id (f : FileD) (j : Nat) (hj : j < 32) : (encF f)[1 + j]? = (encId f.id)[j]? := by
  rw [Nat.add_comm, encF, List.getElem?_cons_succ, List.getElem?_append_left (by rw [encId_length]; exact hj)]
theorem encF_33 (f : FileD) : (encF f)[33]? = some (.float .f64 f.stamp) := by
  rw [encF, List.getElem?_cons_succ, List.getElem?_append_right (by rw [encId_length]; decide)]
  simp [encId_length]
theorem encF_one (f : FileD) : ∀ v ∈ encF f, v.oneCell' = true := by
  intro v hv
  simp only [encF, List.mem_cons, List.mem_append, encId, List.mem_map, List.mem_nil_iff, or_false] at hv
  rcases hv with rfl | ⟨b, _, rfl⟩ | rfl <;> rfl
attribute [irreducible] encF encId

theorem size56 : (Tryz.prog.info? 56).map (·.size) = some 34 := by kernel_rfl
theorem Z56 : (Z 56).size = 34 := by unfold Z; kernel_rfl
theorem zok56 : ((Tryz.prog.info? 56).bind (·.zero)).isSome = true := by kernel_rfl

end Go.Proofs.YtaeleagkpgbmaaaGreatDoor
