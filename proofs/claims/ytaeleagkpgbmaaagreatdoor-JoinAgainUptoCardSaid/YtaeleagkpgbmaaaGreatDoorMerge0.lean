/- What join.Merge keeps: the paths in the order in which they were first seen, and the files of each. -/
import Derived.Test.YtaeleagkpgbmaaaGreatDoorDecide
import Derived.Test.YtaeleagkpgbmaaaGreatDoorMapP
namespace Go.Proofs.YtaeleagkpgbmaaaGreatDoor
open Go.RowKit
set_option linter.unusedSimpArgs false
set_option linter.unusedVariables false

def zeroId : ID := ⟨List.replicate 32 0, by simp⟩
def blankT (p : ByteArray) : ThreeD := ⟨p, 0, zeroId, 0, .slice none 0 0, false, false, false, zeroId, zeroId, zeroId, 0, 0, 0⟩
def putT (i : Nat) (f : FileD) (t : ThreeD) : ThreeD := match i with
  | 0 => { t with h0 := true, i0 := f.id, s0 := f.stamp }
  | 1 => { t with h1 := true, i1 := f.id, s1 := f.stamp }
  | _ => { t with h2 := true, i2 := f.id, s2 := f.stamp }
theorem putT_path (i : Nat) (f : FileD) (t : ThreeD) : (putT i f t).path = t.path := by unfold putT; split <;> rfl
/-- the paths in their order, the files of each -/
structure MS where
  ps : List ByteArray
  m : ByteArray → ThreeD
def MS.set (s : MS) (p : ByteArray) (t : ThreeD) : MS := ⟨s.ps, fun q => if q = p then t else s.m q⟩
def MS.add (s : MS) (p : ByteArray) (t : ThreeD) : MS := ⟨s.ps ++ [p], fun q => if q = p then t else s.m q⟩
def memB (p : ByteArray) (l : List ByteArray) : Bool := l.any fun q => decide (q = p)
theorem memB_true {p : ByteArray} {l : List ByteArray} : memB p l = true ↔ p ∈ l := by
  unfold memB
  rw [List.any_eq_true]
  constructor
  · rintro ⟨q, hq, e⟩
    rw [of_decide_eq_true e] at hq; exact hq
  · exact fun h => ⟨p, h, decide_eq_true rfl⟩
theorem memB_false {p : ByteArray} {l : List ByteArray} : memB p l = false ↔ p ∉ l := by rw [← memB_true, Bool.not_eq_true]
/-- the same with a place for the path -/
def midS (s : MS) (p : ByteArray) : MS := if memB p s.ps then s else s.add p (blankT p)
def addS (i : Nat) (s : MS) (f : FileD) : MS := (midS s f.path).set f.path (putT i f ((midS s f.path).m f.path))
def addLS (i : Nat) (s : MS) (l : List FileD) : MS := l.foldl (addS i) s
def zeroS : MS := ⟨[], blankT⟩
theorem addLS_next (i : Nat) (s : MS) {l : List FileD} {k : Nat} {f : FileD} (h : l[k]? = some f) : addLS i s (l.take (k + 1)) = addS i (addLS i s (l.take k)) f := foldl_take_snoc _ h _

/-! ### the map's block -/
theorem Ext.grownBy {w w' : World} (h : Ext w w') (row : Option Nat) : w.grownBy w' row := ⟨h.1, h.2, h.3, h.4, fun k hk _ => h.5 k hk⟩
theorem OffL.grownBy {B : Nat} {w w' : World} (h : OffL B w w') : w.grownBy w' (some B) := ⟨h.1, h.2.1, h.2.2.1, h.2.2.2.1, fun k hk hne => h.2.2.2.2 k hk (fun e => hne (by rw [e]))⟩
theorem OffL.of_grown {B : Nat} {w w' : World} (h : w.grownBy w' (some B)) : OffL B w w' := ⟨h.1, h.2, h.3, h.4, fun k hk hne => h.5 k hk (fun e => hne (Option.some.inj e))⟩
theorem HasMap.lt {w : World} {b n : Nat} {f : ByteArray → Option Nat} (h : HasMap w b n f) : b < w.heap.size := let ⟨_, h1, _, _⟩ := h; h1.lt
theorem HasMap.ne {w : World} {b n B : Nat} {f : ByteArray → Option Nat} {T : TypeId} {l : List Value} (h : HasMap w b n f) (hB : Blk w B T l) : b ≠ B := by
  rintro rfl
  obtain ⟨D, ⟨es, clock, h1, _⟩, _⟩ := h
  unfold Blk at hB
  rw [hB] at h1
  injection h1 with h1
  cases h1
theorem HasMap.ext {w w' : World} {b n : Nat} {f : ByteArray → Option Nat} (h : HasMap w b n f) (he : Ext w w') : HasMap w' b n f := h.kept (he.grownBy none) (by simp)
theorem HasMap.offL {w w' : World} {b n B : Nat} {f : ByteArray → Option Nat} (h : HasMap w b n f) (ho : OffL B w w') (hne : b ≠ B) : HasMap w' b n f := h.kept ho.grownBy (fun e => hne (Option.some.inj e))
theorem Own.ne_map {α : Type} {enc : α → List Value} {sz : Nat} {T : TypeId} {base : Nat} {w : World} {v : Value} {xs : List α} (h : Own enc sz T base w v xs) {b n : Nat} {f : ByteArray → Option Nat} (hm : HasMap w b n f) : v.ownBlock ≠ some b := by
  obtain ⟨h1, h2⟩ := h
  rcases h2 with ⟨rfl, h0⟩ | ⟨g, cap, cur, rfl, hg, hh, hc, hm', hs, ht⟩
  · simp [Value.ownBlock]
  · intro e
    have e : g = b := by simpa [Value.ownBlock] using e
    subst e
    obtain ⟨D, ⟨es, clock, h1, _⟩, _⟩ := hm
    rw [hh] at h1
    injection h1 with h1
    cases h1

/-- what the memory holds while files are gathered and decided -/
structure St (w0 w : World) (mb : Nat) (F : ByteArray → Option Nat) (s : MS) : Prop where
  ext : Ext w0 w
  map : HasMap w mb s.ps.length F
  mb0 : w0.heap.size ≤ mb
  inj : ∀ p q B, F p = some B → F q = some B → p = q
  here : ∀ p, p ∈ s.ps → ∃ B, F p = some B ∧ w0.heap.size ≤ B ∧ IsT w B (s.m p) ∧ (s.m p).path = p
  only : ∀ p, p ∉ s.ps → F p = none
section
variable {w0 w w' : World} {mb : Nat} {F : ByteArray → Option Nat} {s : MS}
theorem St.mk0 (w0 : World) : St w0 (w0.alloc (.map #[] 0)) w0.heap.size (fun _ => none) zeroS :=
  ⟨Ext.alloc _ _, HasMap.made w0, Nat.le_refl _, (fun _ _ _ h => by cases h), (fun p hp => by cases hp), fun _ _ => rfl⟩
theorem St.grow (h : St w0 w mb F s) (he : Ext w w') : St w0 w' mb F s :=
  ⟨h.ext.trans he, h.map.ext he, h.mb0, h.inj, fun p hp => let ⟨B, h1, h2, h3, h4⟩ := h.here p hp; ⟨B, h1, h2, h3.ext he, h4⟩, h.only⟩
theorem St.set (h : St w0 w mb F s) {p : ByteArray} {B : Nat} {t : ThreeD} (hp : p ∈ s.ps) (hF : F p = some B) (ho : OffL B w w') (hT : IsT w' B t) (ht : t.path = p) : St w0 w' mb F (s.set p t) := by
  obtain ⟨B', h1, h2, h3, h4⟩ := h.here p hp
  rw [hF] at h1
  injection h1 with h1
  subst h1
  refine ⟨ho.down h.ext h2, h.map.offL ho (h.map.ne h3), h.mb0, h.inj, fun q hq => ?_, h.only⟩
  by_cases e : q = p
  · subst e
    exact ⟨B, hF, h2, by simpa [MS.set] using hT, by simpa [MS.set] using ht⟩
  · obtain ⟨C, k1, k2, k3, k4⟩ := h.here q hq
    refine ⟨C, k1, k2, ?_, ?_⟩
    · simp only [MS.set, if_neg e]
      exact Blk.offL k3 ho (fun e' => e (h.inj q p B (e' ▸ k1) hF))
    · simp only [MS.set, if_neg e]; exact k4
theorem St.add (h : St w0 w mb F s) {p : ByteArray} {X : Nat} {t : ThreeD} (hp : p ∉ s.ps) (hX : w.heap.size ≤ X) (ho : OffL mb w w') (hT : IsT w' X t) (ht : t.path = p)
    (hm : HasMap w' mb (s.ps.length + 1) (fun q => if q = p then some X else F q)) : St w0 w' mb (fun q => if q = p then some X else F q) (s.add p t) := by
  have hlt : ∀ q B, F q = some B → B < w.heap.size := fun q B hq => by
    by_cases e : q ∈ s.ps
    · obtain ⟨C, k1, k2, k3, k4⟩ := h.here q e
      rw [hq] at k1; injection k1 with k1; subst k1
      exact k3.lt
    · rw [h.only q e] at hq; cases hq
  refine ⟨ho.down h.ext h.mb0, by simpa [MS.add] using hm, h.mb0, ?_, fun q hq => ?_, fun q hq => ?_⟩
  · intro q r B hq hr
    by_cases e1 : q = p <;> by_cases e2 : r = p
    · rw [e1, e2]
    · rw [if_pos e1] at hq; rw [if_neg e2] at hr
      injection hq with hq; subst hq
      have := hlt r _ hr; omega
    · rw [if_neg e1] at hq; rw [if_pos e2] at hr
      injection hr with hr; subst hr
      have := hlt q _ hq; omega
    · rw [if_neg e1] at hq; rw [if_neg e2] at hr
      exact h.inj q r B hq hr
  · by_cases e : q = p
    · subst e
      exact ⟨X, by simp, Nat.le_trans h.ext.size hX, by simpa [MS.add] using hT, by simpa [MS.add] using ht⟩
    · have hq' : q ∈ s.ps := by
        simp only [MS.add, List.mem_append, List.mem_singleton] at hq
        exact hq.resolve_right e
      obtain ⟨C, k1, k2, k3, k4⟩ := h.here q hq'
      refine ⟨C, by simpa [e] using k1, k2, ?_, ?_⟩
      · simp only [MS.add, if_neg e]
        exact Blk.offL k3 ho (Ne.symm (h.map.ne k3))
      · simp only [MS.add, if_neg e]; exact k4
  · simp only [MS.add, List.mem_append, List.mem_singleton, not_or] at hq
    exact (if_neg hq.2).trans (h.only q hq.1)
end
end Go.Proofs.YtaeleagkpgbmaaaGreatDoor
