/- One outcome of a list, cell by cell. -/
import Derived.Test.YtaeleagkpgbmaaaGreatDoorOuts
namespace Go.Proofs.YtaeleagkpgbmaaaGreatDoor
open Go.RowKit
set_option linter.unusedSimpArgs false
set_option linter.unusedVariables false

structure OutAt (w : World) (g i : Nat) (r : OutR) (tv : Value) : Prop where
  all : ∀ j u, (encO ⟨r.path, r.kind, r.id, r.stamp, tv, r.h0, r.h1, r.h2, r.i0, r.i1, r.i2, 0, 0, 0⟩)[j]? = some u → w.cell? ⟨g, i * 135 + j, none⟩ = some u
  text : TSl encB 1 5 w tv r.text
section
variable {w w' : World} {g i : Nat} {r : OutR} {tv : Value}
theorem OutAt.ext (h : OutAt w g i r tv) (he : Ext w w') : OutAt w' g i r tv := ⟨fun j u hj => he.cells (h.all j u hj), h.text.ext he⟩
theorem OutAt.range (h : OutAt w g i r tv) {A M C : List Value} (e : encO ⟨r.path, r.kind, r.id, r.stamp, tv, r.h0, r.h1, r.h2, r.i0, r.i1, r.i2, 0, 0, 0⟩ = A ++ (M ++ C)) {n : Nat} (hn : n = i * 135 + A.length) : w.rangeAt g n M := fun j v hv => by
  subst hn
  rw [Nat.add_assoc]
  refine h.all (A.length + j) v ?_
  rw [e, List.getElem?_append_right (by omega), Nat.add_sub_cancel_left, List.getElem?_append_left (List.getElem?_eq_some_iff.1 hv).1]
  exact hv
theorem OutAt.path (h : OutAt w g i r tv) : w.cell? ⟨g, i * 135, none⟩ = some (.string r.path) := h.all 0 _ rfl
theorem OutAt.kind (h : OutAt w g i r tv) : w.cell? ⟨g, i * 135 + 1, none⟩ = some (.int .i64 r.kind) := h.all 1 _ rfl
theorem OutAt.id (h : OutAt w g i r tv) : w.rangeAt g (i * 135 + 2) (encId r.id) := h.range (A := [.string r.path, .int .i64 r.kind]) rfl rfl
theorem OutAt.stamp (h : OutAt w g i r tv) : w.cell? ⟨g, i * 135 + 34, none⟩ = some (.float .f64 r.stamp) :=
  range_one (h.range (A := .string r.path :: .int .i64 r.kind :: encId r.id) (M := [.float .f64 r.stamp]) (by simp [encO]; rfl) (by simp [encId_length]))
theorem OutAt.textv (h : OutAt w g i r tv) : w.cell? ⟨g, i * 135 + 35, none⟩ = some tv :=
  range_one (h.range (A := .string r.path :: .int .i64 r.kind :: (encId r.id ++ [.float .f64 r.stamp])) (M := [tv]) (by simp [encO]; rfl) (by simp [encId_length]))
theorem OutAt.has (h : OutAt w g i r tv) : w.rangeAt g (i * 135 + 36) [.bool r.h0, .bool r.h1, .bool r.h2] :=
  h.range (A := .string r.path :: .int .i64 r.kind :: (encId r.id ++ [.float .f64 r.stamp, tv])) (by simp [encO]; rfl) (by simp [encId_length])
theorem OutAt.ids (h : OutAt w g i r tv) : w.rangeAt g (i * 135 + 39) (encIds r.i0 r.i1 r.i2) :=
  h.range (A := .string r.path :: .int .i64 r.kind :: (encId r.id ++ [.float .f64 r.stamp, tv, .bool r.h0, .bool r.h1, .bool r.h2])) (C := []) (by simp [encO]) (by simp [encId_length])
end
/-- the i-th outcome of a list of the call's own -/
theorem out_at {w : World} {base n C : Nat} {R : Option Addr} {os : List ThreeD} {rs : List OutR} {i : Nat} {r : OutR} (h : Own encO 135 54 base w (.slice R n C) os) (hok : OutsOk w os rs) (hr : rs[i]? = some r) :
    ∃ g tv, R = some ⟨g, 0, none⟩ ∧ OutAt w g i r tv := by
  have hl := (List.getElem?_eq_some_iff.1 hr).1
  have hol : i < os.length := by rw [hok.1]; exact hl
  obtain ⟨g, rfl, hcell⟩ := h.cells (by omega) (fun o _ => encO_length o)
  have ho : os[i]? = some os[i] := List.getElem?_eq_getElem hol
  have k := hok.2 i _ _ ho hr
  refine ⟨g, os[i].text, rfl, ⟨fun j u hj => hcell i _ ho j u ?_, k.text⟩⟩
  rw [← hj]
  congr 1
  generalize os[i] = o at *
  obtain ⟨p, kd, id, st, tx, a0, a1, a2, b0, b1, b2, c0, c1, c2⟩ := o
  obtain ⟨k1, k2, k3, k4, k5, k6, k7, k8, k9, k10, _⟩ := k
  simp only at k1 k2 k3 k4 k5 k6 k7 k8 k9 k10
  subst k1 k2 k3 k4 k5 k6 k7 k8 k9 k10
  rfl
end Go.Proofs.YtaeleagkpgbmaaaGreatDoor
