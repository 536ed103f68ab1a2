/- A path's files in memory: what a block of type join.three holds. -/
import Derived.Test.YtaeleagkpgbmaaaGreatDoorEq
import Derived.Test.YtaeleagkpgbmaaaGreatDoorStamp
namespace Go.Proofs.YtaeleagkpgbmaaaGreatDoor
open Go.RowKit
set_option linter.unusedSimpArgs false
set_option linter.unusedVariables false

/-- block B is just these cells, none frozen -/
def Blk (w : World) (B : Nat) (T : TypeId) (l : List Value) : Prop := w.heap[B]? = some (.cells l.toArray T (0, 0))
theorem Blk.lt {w : World} {B : Nat} {T : TypeId} {l : List Value} (h : Blk w B T l) : B < w.heap.size := by
  rcases Nat.lt_or_ge B w.heap.size with hlt | hge
  · exact hlt
  · unfold Blk at h; rw [Array.getElem?_eq_none hge] at h; cases h
theorem Blk.cell {w : World} {B : Nat} {T : TypeId} {l : List Value} (h : Blk w B T l) (i : Nat) : w.cell? ⟨B, i, none⟩ = l[i]? := by
  rw [cell_of_row w B i l.toArray T (0, 0) h]; simp
theorem Blk.frozen {w : World} {B : Nat} {T : TypeId} {l : List Value} (h : Blk w B T l) (i : Nat) : w.frozen? ⟨B, i, none⟩ = false := by
  unfold Blk at h
  simp [World.frozen?, h]
theorem Blk.new (w : World) (T : TypeId) (l : List Value) : Blk (w.alloc (.cells l.toArray T)) w.heap.size T l := heap_alloc_new w _
theorem Blk.ext {w w' : World} {B : Nat} {T : TypeId} {l : List Value} (h : Blk w B T l) (he : Ext w w') : Blk w' B T l := (he.block h.lt).trans h
theorem Blk.drew {w : World} {B : Nat} {T : TypeId} {l : List Value} (h : Blk w B T l) : Blk w.drew B T l := h
theorem Blk.range {w : World} {B : Nat} {T : TypeId} {A M C : List Value} (h : Blk w B T (A ++ (M ++ C))) : w.rangeAt B A.length M := fun j v hv => by
  rw [h.cell, List.getElem?_append_right (by omega), Nat.add_sub_cancel_left, List.getElem?_append_left (List.getElem?_eq_some_iff.1 hv).1]
  exact hv
theorem Blk.there {w : World} {B : Nat} {T : TypeId} {l : List Value} (h : Blk w B T l) (o n : Nat) (hn : o + n ≤ l.length) : w.there B o n := fun j hj => by
  refine ⟨?_, h.frozen _⟩
  rw [h.cell, List.getElem?_eq_getElem (by omega)]
  rfl

theorem Blk.far {w : World} {B : Nat} {T : TypeId} {l : List Value} (h : Blk w B T l) {p : Addr} (hp : B ≠ p.block) (u : Value) : Blk (w.setCell p u) B T l :=
  (Below.heap_setCell w p u B hp).trans h
theorem heap_setCells_other (B k : Nat) (hk : k ≠ B) : ∀ (vs : List Value) (o : Nat) (w : World), (w.setCells B o vs).heap[k]? = w.heap[k]?
  | [], _, _ => rfl
  | v :: r, o, w => by rw [World.setCells, heap_setCells_other B k hk r, Below.heap_setCell _ _ _ _ hk]
theorem Blk.farCells {w : World} {B B' : Nat} {T : TypeId} {l : List Value} (h : Blk w B T l) (hp : B ≠ B') (o : Nat) (vs : List Value) : Blk (w.setCells B' o vs) B T l :=
  (heap_setCells_other B' B hp vs o w).trans h
theorem blk_setCells (B : Nat) (T : TypeId) : ∀ (vs : List Value) (o : Nat) (w : World) (l : List Value), Blk w B T l → Blk (World.setCells w B o vs) B T (over l.toArray o vs).toList
  | [], o, w, l, h => by simpa [over, World.setCells] using h
  | v :: r, o, w, l, h => by
    rw [World.setCells, over]
    have h1 : Blk (w.setCell ⟨B, o, none⟩ v) B T (l.toArray.setIfInBounds o v).toList := by
      unfold Blk at h ⊢
      simp [World.setCell, Array.getElem?_modify, h]
    have h2 := blk_setCells B T r (o + 1) _ _ h1
    rwa [Array.toArray_toList] at h2
theorem over_mid (A M M' C : List Value) (hl : M'.length = M.length) : (over (A ++ (M ++ C)).toArray A.length M').toList = A ++ (M' ++ C) := by
  apply List.ext_getElem?
  intro i
  rw [Array.getElem?_toList, over_get]
  simp only [List.getElem?_toArray, List.size_toArray, List.length_append]
  by_cases h1 : i < A.length
  · rw [if_pos h1, List.getElem?_append_left h1, List.getElem?_append_left h1]
  · rw [if_neg h1]
    by_cases h2 : i < A.length + M'.length
    · rw [if_pos h2, if_pos (by omega), List.getElem?_append_right (by omega), List.getElem?_append_left (by omega)]
    · rw [if_neg h2, List.getElem?_append_right (by omega), List.getElem?_append_right (by omega), List.getElem?_append_right (by omega), List.getElem?_append_right (by omega), hl]
theorem Blk.set {w : World} {B : Nat} {T : TypeId} {A M C : List Value} (h : Blk w B T (A ++ (M ++ C))) (M' : List Value) (hl : M'.length = M.length) :
    Blk (w.setCells B A.length M') B T (A ++ (M' ++ C)) := by
  have := blk_setCells B T M' A.length w _ h
  rwa [over_mid A M M' C hl] at this
theorem setCells_one (w : World) (B o : Nat) (v : Value) : w.setCells B o [v] = w.setCell ⟨B, o, none⟩ v := rfl

/-- the files of one path -/
structure ThreeD where
  path : ByteArray
  kind : Int
  id : ID
  stamp : Nat
  text : Value
  h0 : Bool
  h1 : Bool
  h2 : Bool
  i0 : ID
  i1 : ID
  i2 : ID
  s0 : Nat
  s1 : Nat
  s2 : Nat
def encO (t : ThreeD) : List Value := [.string t.path, .int .i64 t.kind] ++ (encId t.id ++ ([.float .f64 t.stamp, t.text, .bool t.h0, .bool t.h1, .bool t.h2] ++ encIds t.i0 t.i1 t.i2))
def encT (t : ThreeD) : List Value := encO t ++ [.float .f64 t.s0, .float .f64 t.s1, .float .f64 t.s2]
theorem encO_length (t : ThreeD) : (encO t).length = 135 := by simp [encO, encId_length, encIds_length]
theorem encT_length (t : ThreeD) : (encT t).length = 138 := by simp [encT, encO_length]

/-- block B holds a three -/
def IsT (w : World) (B : Nat) (t : ThreeD) : Prop := Blk w B 106 (encT t)

theorem spl_path (t : ThreeD) : encT t = [] ++ ([.string t.path] ++ (.int .i64 t.kind :: (encId t.id ++ (.float .f64 t.stamp :: t.text :: .bool t.h0 :: .bool t.h1 :: .bool t.h2 :: (encIds t.i0 t.i1 t.i2 ++ [.float .f64 t.s0, .float .f64 t.s1, .float .f64 t.s2]))))) := by simp [encT, encO]
theorem spl_kind (t : ThreeD) : encT t = [.string t.path] ++ ([.int .i64 t.kind] ++ (encId t.id ++ (.float .f64 t.stamp :: t.text :: .bool t.h0 :: .bool t.h1 :: .bool t.h2 :: (encIds t.i0 t.i1 t.i2 ++ [.float .f64 t.s0, .float .f64 t.s1, .float .f64 t.s2])))) := by simp [encT, encO]
theorem spl_id (t : ThreeD) : encT t = [.string t.path, .int .i64 t.kind] ++ (encId t.id ++ (.float .f64 t.stamp :: t.text :: .bool t.h0 :: .bool t.h1 :: .bool t.h2 :: (encIds t.i0 t.i1 t.i2 ++ [.float .f64 t.s0, .float .f64 t.s1, .float .f64 t.s2]))) := by simp [encT, encO]
def preS (t : ThreeD) : List Value := .string t.path :: .int .i64 t.kind :: encId t.id
theorem preS_length (t : ThreeD) : (preS t).length = 34 := by simp [preS, encId_length]
def postI (t : ThreeD) : List Value := encIds t.i0 t.i1 t.i2 ++ [.float .f64 t.s0, .float .f64 t.s1, .float .f64 t.s2]
theorem spl_stamp (t : ThreeD) : encT t = preS t ++ ([.float .f64 t.stamp] ++ (t.text :: .bool t.h0 :: .bool t.h1 :: .bool t.h2 :: postI t)) := by simp [encT, encO, preS, postI]
theorem spl_text (t : ThreeD) : encT t = (preS t ++ [.float .f64 t.stamp]) ++ ([t.text] ++ (.bool t.h0 :: .bool t.h1 :: .bool t.h2 :: postI t)) := by simp [encT, encO, preS, postI]
theorem spl_h0 (t : ThreeD) : encT t = (preS t ++ [.float .f64 t.stamp, t.text]) ++ ([.bool t.h0] ++ (.bool t.h1 :: .bool t.h2 :: postI t)) := by simp [encT, encO, preS, postI]
theorem spl_h1 (t : ThreeD) : encT t = (preS t ++ [.float .f64 t.stamp, t.text, .bool t.h0]) ++ ([.bool t.h1] ++ (.bool t.h2 :: postI t)) := by simp [encT, encO, preS, postI]
theorem spl_h2 (t : ThreeD) : encT t = (preS t ++ [.float .f64 t.stamp, t.text, .bool t.h0, .bool t.h1]) ++ ([.bool t.h2] ++ postI t) := by simp [encT, encO, preS, postI]
def preI (t : ThreeD) : List Value := preS t ++ [.float .f64 t.stamp, t.text, .bool t.h0, .bool t.h1, .bool t.h2]
theorem preI_length (t : ThreeD) : (preI t).length = 39 := by simp [preI, preS_length]
theorem spl_has (t : ThreeD) : encT t = (preS t ++ [.float .f64 t.stamp, t.text]) ++ ([.bool t.h0, .bool t.h1, .bool t.h2] ++ postI t) := by simp [encT, encO, preS, postI]
theorem spl_i0 (t : ThreeD) : encT t = preI t ++ (encId t.i0 ++ (encId t.i1 ++ (encId t.i2 ++ [.float .f64 t.s0, .float .f64 t.s1, .float .f64 t.s2]))) := by simp [encT, encO, preI, preS, encIds]
theorem spl_i1 (t : ThreeD) : encT t = (preI t ++ encId t.i0) ++ (encId t.i1 ++ (encId t.i2 ++ [.float .f64 t.s0, .float .f64 t.s1, .float .f64 t.s2])) := by simp [encT, encO, preI, preS, encIds]
theorem spl_i2 (t : ThreeD) : encT t = (preI t ++ (encId t.i0 ++ encId t.i1)) ++ (encId t.i2 ++ [.float .f64 t.s0, .float .f64 t.s1, .float .f64 t.s2]) := by simp [encT, encO, preI, preS, encIds]
theorem spl_out (t : ThreeD) : encT t = [] ++ (encO t ++ [.float .f64 t.s0, .float .f64 t.s1, .float .f64 t.s2]) := by simp [encT]
theorem spl_s0 (t : ThreeD) : encT t = encO t ++ ([.float .f64 t.s0] ++ [.float .f64 t.s1, .float .f64 t.s2]) := by simp [encT]
theorem spl_s1 (t : ThreeD) : encT t = (encO t ++ [.float .f64 t.s0]) ++ ([.float .f64 t.s1] ++ [.float .f64 t.s2]) := by simp [encT]
theorem spl_s2 (t : ThreeD) : encT t = (encO t ++ [.float .f64 t.s0, .float .f64 t.s1]) ++ ([.float .f64 t.s2] ++ []) := by simp [encT]

section
variable {w : World} {B : Nat} {t : ThreeD}
theorem IsT.lt (h : IsT w B t) : B < w.heap.size := Blk.lt h
theorem IsT.ext {w' : World} (h : IsT w B t) (he : Ext w w') : IsT w' B t := Blk.ext h he
theorem IsT.frozen (h : IsT w B t) (i : Nat) : w.frozen? ⟨B, i, none⟩ = false := Blk.frozen h i
theorem range_one {w : World} {B o : Nat} {v : Value} (h : w.rangeAt B o [v]) : w.cell? ⟨B, o, none⟩ = some v := by simpa using h 0 v rfl
theorem IsT.path_ (h : IsT w B t) : w.cell? ⟨B, 0, none⟩ = some (.string t.path) := by
  unfold IsT at h; rw [spl_path] at h; exact range_one h.range
theorem IsT.kind_ (h : IsT w B t) : w.cell? ⟨B, 1, none⟩ = some (.int .i64 t.kind) := by
  unfold IsT at h; rw [spl_kind] at h; exact range_one h.range
theorem IsT.h0_ (h : IsT w B t) : w.cell? ⟨B, 36, none⟩ = some (.bool t.h0) := by
  unfold IsT at h; rw [spl_h0] at h; have := range_one h.range; simpa [preS_length] using this
theorem IsT.h1_ (h : IsT w B t) : w.cell? ⟨B, 37, none⟩ = some (.bool t.h1) := by
  unfold IsT at h; rw [spl_h1] at h; have := range_one h.range; simpa [preS_length] using this
theorem IsT.h2_ (h : IsT w B t) : w.cell? ⟨B, 38, none⟩ = some (.bool t.h2) := by
  unfold IsT at h; rw [spl_h2] at h; have := range_one h.range; simpa [preS_length] using this
theorem IsT.i0_ (h : IsT w B t) : w.rangeAt B 39 (encId t.i0) := by
  unfold IsT at h; rw [spl_i0] at h; have := h.range; rwa [preI_length] at this
theorem IsT.i1_ (h : IsT w B t) : w.rangeAt B 71 (encId t.i1) := by
  unfold IsT at h; rw [spl_i1] at h; have := h.range; simpa [preI_length, encId_length] using this
theorem IsT.i2_ (h : IsT w B t) : w.rangeAt B 103 (encId t.i2) := by
  unfold IsT at h; rw [spl_i2] at h; have := h.range; simpa [preI_length, encId_length] using this
theorem IsT.s0_ (h : IsT w B t) : w.cell? ⟨B, 135, none⟩ = some (.float .f64 t.s0) := by
  unfold IsT at h; rw [spl_s0] at h; have := range_one h.range; simpa [encO_length] using this
theorem IsT.s1_ (h : IsT w B t) : w.cell? ⟨B, 136, none⟩ = some (.float .f64 t.s1) := by
  unfold IsT at h; rw [spl_s1] at h; have := range_one h.range; simpa [encO_length] using this
theorem IsT.s2_ (h : IsT w B t) : w.cell? ⟨B, 137, none⟩ = some (.float .f64 t.s2) := by
  unfold IsT at h; rw [spl_s2] at h; have := range_one h.range; simpa [encO_length] using this
theorem IsT.out_ (h : IsT w B t) : w.rangeAt B 0 (encO t) := by
  unfold IsT at h; rw [spl_out] at h; exact h.range

theorem IsT.setKind (h : IsT w B t) (k : Int) : IsT (w.setCell ⟨B, 1, none⟩ (.int .i64 k)) B { t with kind := k } := by
  unfold IsT at h ⊢; rw [spl_kind] at h; rw [spl_kind]; exact h.set [.int .i64 k] rfl
theorem IsT.setPath (h : IsT w B t) (p : ByteArray) : IsT (w.setCell ⟨B, 0, none⟩ (.string p)) B { t with path := p } := by
  unfold IsT at h ⊢; rw [spl_path] at h; rw [spl_path]; exact h.set [.string p] rfl
theorem IsT.setId (h : IsT w B t) (x : ID) : IsT (w.setCells B 2 (encId x)) B { t with id := x } := by
  unfold IsT at h ⊢; rw [spl_id] at h; rw [spl_id]; exact h.set (encId x) (by rw [encId_length, encId_length])
theorem IsT.setStamp (h : IsT w B t) (n : Nat) : IsT (w.setCell ⟨B, 34, none⟩ (.float .f64 n)) B { t with stamp := n } := by
  unfold IsT at h ⊢; rw [spl_stamp] at h; rw [spl_stamp]; have := h.set [.float .f64 n] rfl; rwa [preS_length] at this
theorem IsT.setText (h : IsT w B t) (v : Value) : IsT (w.setCell ⟨B, 35, none⟩ v) B { t with text := v } := by
  unfold IsT at h ⊢; rw [spl_text] at h; rw [spl_text]; have := h.set [v] rfl; (simp only [List.length_append, List.length_cons, List.length_nil, preS_length, preI_length, encId_length, encO_length, setCells_one, Nat.reduceAdd] at this; exact this)
theorem IsT.setH0 (h : IsT w B t) (b : Bool) : IsT (w.setCell ⟨B, 36, none⟩ (.bool b)) B { t with h0 := b } := by
  unfold IsT at h ⊢; rw [spl_h0] at h; rw [spl_h0]; have := h.set [.bool b] rfl; (simp only [List.length_append, List.length_cons, List.length_nil, preS_length, preI_length, encId_length, encO_length, setCells_one, Nat.reduceAdd] at this; exact this)
theorem IsT.setH1 (h : IsT w B t) (b : Bool) : IsT (w.setCell ⟨B, 37, none⟩ (.bool b)) B { t with h1 := b } := by
  unfold IsT at h ⊢; rw [spl_h1] at h; rw [spl_h1]; have := h.set [.bool b] rfl; (simp only [List.length_append, List.length_cons, List.length_nil, preS_length, preI_length, encId_length, encO_length, setCells_one, Nat.reduceAdd] at this; exact this)
theorem IsT.setH2 (h : IsT w B t) (b : Bool) : IsT (w.setCell ⟨B, 38, none⟩ (.bool b)) B { t with h2 := b } := by
  unfold IsT at h ⊢; rw [spl_h2] at h; rw [spl_h2]; have := h.set [.bool b] rfl; (simp only [List.length_append, List.length_cons, List.length_nil, preS_length, preI_length, encId_length, encO_length, setCells_one, Nat.reduceAdd] at this; exact this)
theorem IsT.setI0 (h : IsT w B t) (x : ID) : IsT (w.setCells B 39 (encId x)) B { t with i0 := x } := by
  unfold IsT at h ⊢; rw [spl_i0] at h; rw [spl_i0]; have := h.set (encId x) (by rw [encId_length, encId_length]); rwa [preI_length] at this
theorem IsT.setI1 (h : IsT w B t) (x : ID) : IsT (w.setCells B 71 (encId x)) B { t with i1 := x } := by
  unfold IsT at h ⊢; rw [spl_i1] at h; rw [spl_i1]; have := h.set (encId x) (by rw [encId_length, encId_length]); (simp only [List.length_append, List.length_cons, List.length_nil, preS_length, preI_length, encId_length, encO_length, setCells_one, Nat.reduceAdd] at this; exact this)
theorem IsT.setI2 (h : IsT w B t) (x : ID) : IsT (w.setCells B 103 (encId x)) B { t with i2 := x } := by
  unfold IsT at h ⊢; rw [spl_i2] at h; rw [spl_i2]; have := h.set (encId x) (by rw [encId_length, encId_length]); (simp only [List.length_append, List.length_cons, List.length_nil, preS_length, preI_length, encId_length, encO_length, setCells_one, Nat.reduceAdd] at this; exact this)
theorem IsT.setS0 (h : IsT w B t) (n : Nat) : IsT (w.setCell ⟨B, 135, none⟩ (.float .f64 n)) B { t with s0 := n } := by
  unfold IsT at h ⊢; rw [spl_s0] at h; rw [spl_s0]; have := h.set [.float .f64 n] rfl; rw [encO_length] at this; exact this
theorem IsT.setS1 (h : IsT w B t) (n : Nat) : IsT (w.setCell ⟨B, 136, none⟩ (.float .f64 n)) B { t with s1 := n } := by
  unfold IsT at h ⊢; rw [spl_s1] at h; rw [spl_s1]; have := h.set [.float .f64 n] rfl; (simp only [List.length_append, List.length_cons, List.length_nil, preS_length, preI_length, encId_length, encO_length, setCells_one, Nat.reduceAdd] at this; exact this)
theorem IsT.setS2 (h : IsT w B t) (n : Nat) : IsT (w.setCell ⟨B, 137, none⟩ (.float .f64 n)) B { t with s2 := n } := by
  unfold IsT at h ⊢; rw [spl_s2] at h; rw [spl_s2]; have := h.set [.float .f64 n] rfl; (simp only [List.length_append, List.length_cons, List.length_nil, preS_length, preI_length, encId_length, encO_length, setCells_one, Nat.reduceAdd] at this; exact this)
end

end Go.Proofs.YtaeleagkpgbmaaaGreatDoor
