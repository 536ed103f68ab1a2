/- The map from a path to its files. -/
import Derived.Test.YtaeleagkpgbmaaaGreatDoorMem
import Derived.Maps.Own
import Derived.Maps.Views
import Derived.StringKeys
namespace Go.Proofs.YtaeleagkpgbmaaaGreatDoor
open Go.RowKit Go.Maps Go.WideMaps
set_option linter.unusedSimpArgs false
set_option linter.unusedVariables false

def mapR : Value → Option (DataW Unit × List MemPlace)
  | .pointer none => some (.lit (.bool false), [])
  | .pointer (some ⟨b, 0, none⟩) => some (.lit (.int .i64 b), [])
  | _ => none
def mapE : Option Nat → DataW Unit
  | none => .lit (.bool false)
  | some b => .lit (.int .i64 b)
def ptrE : Option Nat → Value
  | none => .pointer none
  | some b => .pointer (some ⟨b, 0, none⟩)
theorem mapR_ptr (o : Option Nat) : mapR (ptrE o) = some (mapE o, []) := by cases o <;> rfl
theorem mapR_inv {v : Value} {o : Option Nat} {ps : List MemPlace} (h : mapR v = some (mapE o, ps)) : v = ptrE o := by
  unfold mapR at h
  split at h
  · cases o with
    | none => rfl
    | some b => simp [mapE] at h
  · cases o with
    | none => simp [mapE] at h
    | some b =>
      simp only [mapE, Option.some.injEq, Prod.mk.injEq, DataW.lit.injEq, Lit.int.injEq, true_and] at h
      have := h.1
      simp only [ptrE]
      congr 3
      omega
  · cases h
/-- block b of w is a map of at most n entries: of each string, f -/
def HasMap (w : World) (b n : Nat) (f : ByteArray → Option Nat) : Prop :=
  ∃ D : DataW Unit, w.ownsMap Tryz.prog 9 mapR b n D ∧ IsMap D ∧ ∀ s : ByteArray, s.size ≤ maxLen → D.atKey (.string s.data.toList) (mapE none) = mapE (f s)
theorem HasMap.made (w : World) : HasMap (w.alloc (.map #[] 0)) w.heap.size 0 (fun _ => none) :=
  ⟨_, World.ownsMap_made w _ _ _, isMap_empty, fun _ _ => rfl⟩
theorem HasMap.kept {w w' : World} {b n : Nat} {f : ByteArray → Option Nat} {row : Option Nat} (h : HasMap w b n f) (hg : w.grownBy w' row) (hne : some b ≠ row) : HasMap w' b n f :=
  let ⟨D, h1, h2, h3⟩ := h; ⟨D, h1.kept hg hne, h2, h3⟩
theorem zero104 (w : World) : (zeroValue 104).run Tryz.prog w = .ok (.pointer none) w := by kernel_rfl
theorem HasMap.lookup {w : World} {b n : Nat} {f : ByteArray → Option Nat} (h : HasMap w b n f) (s : ByteArray) (hs : s.size ≤ maxLen) :
    (Instr.lookup 102 (.map (some b)) (.string s) false).run Tryz.prog w = .ok (ptrE (f s)) w := by
  obtain ⟨D, h1, h2, h3⟩ := h
  obtain ⟨v, ps, hr, hv⟩ := h1.lookup (string_keyed Tryz.underlying9) Tryz.underlying102 (zero104 w) (zd := mapE none) (zp := []) rfl (keyOf_string_mk Tryz.underlying9 hs)
  rw [h3 s hs] at hv
  rw [hr, mapR_inv hv]
section
variable {ops : Array Oper} {rest : List Oper} {o : Oper} {a : Act} {w : World} {Q : Exit → Act → World → Prop}
/-- m[s] = pointer to block B -/
theorem wpList_mapSet (hg : o.guard = none) (m x v : Operand) (hop : o.op = Op.mapUpdate 102 m x v) (b n : Nat) (f : ByteArray → Option Nat) (s : ByteArray) (B : Nat)
    (hm : a.eval m = .map (some b)) (hx : a.eval x = .string s) (hv : a.eval v = .pointer (some ⟨B, 0, none⟩)) (hown : HasMap w b n f) (hn : n < maxLen) (hs : s.size ≤ maxLen)
    (hK : ∀ w', HasMap w' b (n + 1) (fun s' => if s' = s then some B else f s') → w.grownBy w' (some b) → wpList Tryz.prog ops Q rest (a.put o.dst undef) w') : wpList Tryz.prog ops Q (o :: rest) a w := by
  obtain ⟨D, h1, h2, h3⟩ := hown
  refine wpList_mapUpdate_own w hg m x v 102 hop 9 104 (string_keyed Tryz.underlying9) Tryz.underlying102 mapR b n D hm h1 hn (.string s) _ (.string s.data.toList) hx hv (keyOf_string_mk Tryz.underlying9 hs) (mapE (some B)) [] rfl ?_
  intro w' h4 h5
  refine hK w' ⟨_, h4, h2.put _ _, fun s' hs' => ?_⟩ h5
  show _ = mapE (if s' = s then some B else f s')
  by_cases e : s' = s
  · subst e
    rw [if_pos rfl, atKey_put_same h2 (k := .string s'.data.toList) trivial]
  · rw [if_neg e, atKey_put_other (fun h => e ?_), h3 s' hs']
    injection h with h
    cases s'; cases s
    simp only at h
    rw [Array.toList_inj] at h
    rw [h]
end
end Go.Proofs.YtaeleagkpgbmaaaGreatDoor
