/- The files that join.Merge has of a path: by looking the path up in each list. -/
import Derived.Test.YtaeleagkpgbmaaaGreatDoorOuts
namespace Go.Proofs.YtaeleagkpgbmaaaGreatDoor
open Go.RowKit
set_option linter.unusedSimpArgs false
set_option linter.unusedVariables false

/-- the file of a path -/
def fileAt (l : List FileD) (q : ByteArray) : Option FileD := l.find? fun f => decide (f.path = q)
def putO (i : Nat) (o : Option FileD) (t : ThreeD) : ThreeD := match o with
  | none => t
  | some f => putT i f t
theorem fileAt_none {l : List FileD} {q : ByteArray} : fileAt l q = none ↔ q ∉ l.map (·.path) := by
  unfold fileAt
  rw [List.find?_eq_none]
  simp only [List.mem_map, not_exists, not_and, decide_eq_true_eq]
theorem fileAt_some {l : List FileD} {q : ByteArray} {f : FileD} (h : fileAt l q = some f) : f ∈ l ∧ f.path = q := by
  unfold fileAt at h
  exact ⟨List.mem_of_find?_eq_some h, by simpa using List.find?_some h⟩
theorem fileAt_mem {l : List FileD} (hn : (l.map (·.path)).Nodup) {f : FileD} (hf : f ∈ l) : fileAt l f.path = some f := by
  cases h : fileAt l f.path with
  | none => exact absurd (List.mem_map.2 ⟨f, hf, rfl⟩) (fileAt_none.1 h)
  | some g =>
    obtain ⟨hg, hp⟩ := fileAt_some h
    have : g = f := by
      clear h
      induction l with
      | nil => cases hf
      | cons x r ih =>
        rw [List.map_cons, List.nodup_cons] at hn
        rcases List.mem_cons.1 hf with e1 | e1
        · rcases List.mem_cons.1 hg with e2 | e2
          · rw [e1, e2]
          · exact absurd (show x.path ∈ r.map (·.path) from List.mem_map.2 ⟨g, e2, by rw [hp, e1]⟩) hn.1
        · rcases List.mem_cons.1 hg with e2 | e2
          · exact absurd (show x.path ∈ r.map (·.path) from List.mem_map.2 ⟨f, e1, by rw [← hp, e2]⟩) hn.1
          · exact ih hn.2 e1 e2
    rw [this]
/-- of a path that has no place there is nothing -/
def Blank (s : MS) : Prop := ∀ p, p ∉ s.ps → s.m p = blankT p
theorem midS_m {s : MS} (h : Blank s) (p : ByteArray) : (midS s p).m = s.m := by
  unfold midS
  cases hm : memB p s.ps
  · simp only [Bool.false_eq_true, if_false, MS.add]
    funext q
    split
    · rename_i e; subst e; exact (h q (memB_false.1 hm)).symm
    · rfl
  · simp
theorem addS_m {s : MS} (h : Blank s) (i : Nat) (f : FileD) : (addS i s f).m = fun q => if q = f.path then putT i f (s.m q) else s.m q := by
  unfold addS MS.set
  rw [midS_m h]
  funext q
  simp only
  split
  · rename_i e; subst e; rfl
  · rfl
theorem addS_ps (s : MS) (i : Nat) (f : FileD) : (addS i s f).ps = if memB f.path s.ps then s.ps else s.ps ++ [f.path] := by
  unfold addS MS.set midS
  split <;> rfl
theorem addS_blank {s : MS} (h : Blank s) (i : Nat) (f : FileD) : Blank (addS i s f) := by
  intro p hp
  rw [addS_ps] at hp
  rw [addS_m h]
  have h1 : p ∉ s.ps ∧ p ≠ f.path := by
    cases hm : memB f.path s.ps
    · rw [hm] at hp
      simp only [Bool.false_eq_true, if_false, List.mem_append, List.mem_singleton, not_or] at hp
      exact hp
    · rw [hm] at hp
      simp only [if_true] at hp
      exact ⟨hp, fun e => hp (e ▸ memB_true.1 hm)⟩
  simp only
  rw [if_neg h1.2]
  exact h p h1.1
theorem addS_mem {s : MS} {i : Nat} {f : FileD} {q : ByteArray} : q ∈ (addS i s f).ps ↔ q ∈ s.ps ∨ q = f.path := by
  rw [addS_ps]
  cases hm : memB f.path s.ps
  · simp
  · simp only [if_true]
    constructor
    · exact .inl
    · rintro (h | rfl)
      · exact h
      · exact memB_true.1 hm
theorem addLS_all (i : Nat) : ∀ {l : List FileD} {s : MS}, Blank s → (l.map (·.path)).Nodup →
    Blank (addLS i s l) ∧ (∀ q, (addLS i s l).m q = putO i (fileAt l q) (s.m q)) ∧ ∀ q, q ∈ (addLS i s l).ps ↔ q ∈ s.ps ∨ q ∈ l.map (·.path)
  | [], s, h, _ => ⟨h, fun _ => rfl, fun q => by simp [addLS]⟩
  | f :: r, s, h, hn => by
    rw [List.map_cons, List.nodup_cons] at hn
    obtain ⟨h1, h2, h3⟩ := addLS_all i (l := r) (addS_blank h i f) hn.2
    have e : addLS i s (f :: r) = addLS i (addS i s f) r := rfl
    rw [e]
    refine ⟨h1, fun q => ?_, fun q => ?_⟩
    · rw [h2, addS_m h]
      simp only
      by_cases hq : q = f.path
      · subst hq
        rw [if_pos rfl, fileAt_none.2 hn.1]
        have : fileAt (f :: r) f.path = some f := by simp [fileAt]
        rw [this]; rfl
      · rw [if_neg hq]
        have : fileAt (f :: r) q = fileAt r q := by
          unfold fileAt
          rw [List.find?_cons, decide_eq_false (fun e => hq e.symm)]
        rw [this]
    · rw [h3, addS_mem, List.map_cons, List.mem_cons]
      constructor
      · rintro ((h | h) | h)
        · exact .inl h
        · exact .inr (.inl h)
        · exact .inr (.inr h)
      · rintro (h | h | h)
        · exact .inl (.inl h)
        · exact .inl (.inr h)
        · exact .inr h
/-- what there is of a path in three lists -/
def tOf (l0 l1 l2 : List FileD) (q : ByteArray) : ThreeD := putO 2 (fileAt l2 q) (putO 1 (fileAt l1 q) (putO 0 (fileAt l0 q) (blankT q)))
theorem sK_all {l0 l1 l2 : List FileD} (h0 : (l0.map (·.path)).Nodup) (h1 : (l1.map (·.path)).Nodup) (h2 : (l2.map (·.path)).Nodup) :
    (∀ q, (sK l0 l1 l2 3).m q = tOf l0 l1 l2 q) ∧ ∀ q, q ∈ (sK l0 l1 l2 3).ps ↔ q ∈ l0.map (·.path) ∨ q ∈ l1.map (·.path) ∨ q ∈ l2.map (·.path) := by
  have b0 : Blank zeroS := fun _ _ => rfl
  obtain ⟨b1, m1, p1⟩ := addLS_all 0 b0 h0
  obtain ⟨b2, m2, p2⟩ := addLS_all 1 b1 h1
  obtain ⟨b3, m3, p3⟩ := addLS_all 2 b2 h2
  have e : sK l0 l1 l2 3 = addLS 2 (addLS 1 (addLS 0 zeroS l0) l1) l2 := rfl
  rw [e]
  refine ⟨fun q => ?_, fun q => ?_⟩
  · rw [m3, m2, m1]; rfl
  · rw [p3, p2, p1]
    have hz : ¬ q ∈ zeroS.ps := by simp [zeroS]
    constructor
    · rintro (((h | h) | h) | h)
      · exact absurd h hz
      · exact .inl h
      · exact .inr (.inl h)
      · exact .inr (.inr h)
    · rintro (h | h | h)
      · exact .inl (.inl (.inr h))
      · exact .inl (.inr h)
      · exact .inr h

/-! ### the flags of a path -/
theorem blankT_text (q : ByteArray) : (blankT q).text = .slice none 0 0 := rfl
section
variable (l0 l1 l2 : List FileD) (q : ByteArray)
def hasO (o : Option FileD) : Bool := o.isSome
def idO (o : Option FileD) : ID := match o with
  | none => zeroId
  | some f => f.id
def stO (o : Option FileD) : Nat := match o with
  | none => 0
  | some f => f.stamp
theorem tOf_eq : tOf l0 l1 l2 q = ⟨q, 0, zeroId, 0, .slice none 0 0, hasO (fileAt l0 q), hasO (fileAt l1 q), hasO (fileAt l2 q), idO (fileAt l0 q), idO (fileAt l1 q), idO (fileAt l2 q), stO (fileAt l0 q), stO (fileAt l1 q), stO (fileAt l2 q)⟩ := by
  unfold tOf
  cases fileAt l0 q <;> cases fileAt l1 q <;> cases fileAt l2 q <;> rfl
end
end Go.Proofs.YtaeleagkpgbmaaaGreatDoor
