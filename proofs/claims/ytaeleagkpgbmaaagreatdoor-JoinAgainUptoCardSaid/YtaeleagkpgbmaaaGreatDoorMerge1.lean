/- join.Merge: the words and laws of its walk. -/
import Derived.Test.YtaeleagkpgbmaaaGreatDoorMerge0
import Derived.Test.YtaeleagkpgbmaaaGreatDoorTree
import Derived.Test.YtaeleagkpgbmaaaGreatDoorClean
import Derived.Test.YtaeleagkpgbmaaaGreatDoorSortP
import Derived.StillTailTactics
import Derived.Carry
namespace Go.Proofs.YtaeleagkpgbmaaaGreatDoor
open Go.RowKit
set_option linter.unusedSimpArgs false
set_option linter.unusedVariables false

theorem St.mk1 {w0 w1 : World} (he : Ext w0 w1) : St w0 (w1.alloc (.map #[] 0)) w1.heap.size (fun _ => none) zeroS :=
  ⟨he.trans (Ext.alloc _ _), HasMap.made w1, he.size, (fun _ _ _ h => by cases h), (fun p hp => by cases hp), fun _ _ => rfl⟩
theorem run_size22 (w : World) : (sizeOf 22).run Tryz.prog w = .ok 1 w := by
  obtain ⟨i, hi, hz⟩ := Option.map_eq_some_iff.1 (show (Tryz.prog.info? 22).map (fun i => (i.zero.map fun z => z.cells.size, i.size)) = some (some 1, 1) by kernel_rfl)
  simp only [Prod.mk.injEq] at hz
  rw [run_sizeOf w hi]; unfold Program.cellsOf; simp [hi, hz.2]
def lK (l0 l1 l2 : List FileD) : Nat → List FileD
  | 0 => l0
  | 1 => l1
  | _ => l2
def sK (l0 l1 l2 : List FileD) : Nat → MS
  | 0 => zeroS
  | k + 1 => addLS k (sK l0 l1 l2 k) (lK l0 l1 l2 k)
/-- the k-th of three lists of files, off the array -/
theorem list_at {w : World} {v0 v1 v2 : Value} {l0 l1 l2 : List FileD} (h0 : Files w v0 l0) (h1 : Files w v1 l1) (h2 : Files w v2 l2) (k : Nat) (hk : k < 3) :
    ∃ A n, Files w (.slice A (lK l0 l1 l2 k).length n) (lK l0 l1 l2 k) ∧ ∀ wx, (Instr.index 23 (.agg #[v0, v1, v2]) (.int .i64 (k : Int))).run Tryz.prog wx = .ok (.slice A (lK l0 l1 l2 k).length n) wx := by
  obtain rfl | rfl | rfl : k = 0 ∨ k = 1 ∨ k = 2 := by omega
  · have h := h0
    obtain ⟨A, n, rfl, -⟩ := h0.open_
    exact ⟨A, n, h, fun wx => by simp [Instr.index, asIntOf, run_underlying Tryz.underlying23, run_size22, part, Tryz.isAgg22, lK]⟩
  · have h := h1
    obtain ⟨A, n, rfl, -⟩ := h1.open_
    exact ⟨A, n, h, fun wx => by simp [Instr.index, asIntOf, run_underlying Tryz.underlying23, run_size22, part, Tryz.isAgg22, lK]⟩
  · have h := h2
    obtain ⟨A, n, rfl, -⟩ := h2.open_
    exact ⟨A, n, h, fun wx => by simp [Instr.index, asIntOf, run_underlying Tryz.underlying23, run_size22, part, Tryz.isAgg22, lK]⟩

theorem Files.at {w : World} {A : Option Addr} {n c : Nat} {l : List FileD} (h : Files w (.slice A n c) l) {i : Nat} {f : FileD} (hf : l[i]? = some f) :
    ∃ b off, A = some ⟨b, off, none⟩ ∧ b < w.heap.size ∧ w.rangeAt b (off + i * 34) (encF f) := by
  obtain ⟨A', c', hv, _, _, hx⟩ := h.open_
  injection hv with e1 e2 e3
  subst e1
  have hi := (List.getElem?_eq_some_iff.1 hf).1
  obtain ⟨b, off, ha, hb, hcells⟩ := hx (by omega)
  exact ⟨b, off, ha, hb, hcells i f hf⟩
theorem spl_F (f : FileD) : encF f = [.string f.path] ++ (encId f.id ++ [.float .f64 f.stamp]) := by unfold encF; rfl
theorem box_id {w : World} {X : Nat} {f : FileD} (h : Blk w X 56 (encF f)) : w.rangeAt X 1 (encId f.id) := by
  rw [spl_F] at h; exact h.range
theorem box_stamp {w : World} {X : Nat} {f : FileD} (h : Blk w X 56 (encF f)) : w.cell? ⟨X, 33, none⟩ = some (.float .f64 f.stamp) := by
  rw [h.cell]; exact encF_33 f
section
variable {w : World} {B k : Nat} {t : ThreeD}
theorem IsT.hK (h : IsT w B t) (hk : k < 3) : ∃ b, w.cell? ⟨B, 36 + k, none⟩ = some (.bool b) := by
  obtain rfl | rfl | rfl : k = 0 ∨ k = 1 ∨ k = 2 := by omega
  · exact ⟨_, h.h0_⟩
  · exact ⟨_, h.h1_⟩
  · exact ⟨_, h.h2_⟩
theorem IsT.sK (h : IsT w B t) (hk : k < 3) : ∃ n, w.cell? ⟨B, 135 + k, none⟩ = some (.float .f64 n) := by
  obtain rfl | rfl | rfl : k = 0 ∨ k = 1 ∨ k = 2 := by omega
  · exact ⟨_, h.s0_⟩
  · exact ⟨_, h.s1_⟩
  · exact ⟨_, h.s2_⟩
theorem IsT.setHK (h : IsT w B t) (hk : k < 3) : ∃ t', IsT (w.setCell ⟨B, 36 + k, none⟩ (.bool true)) B t' := by
  obtain rfl | rfl | rfl : k = 0 ∨ k = 1 ∨ k = 2 := by omega
  · exact ⟨_, h.setH0 true⟩
  · exact ⟨_, h.setH1 true⟩
  · exact ⟨_, h.setH2 true⟩
theorem IsT.setIK (h : IsT w B t) (hk : k < 3) (x : ID) : ∃ t', IsT (w.setCells B (39 + k * 32) (encId x)) B t' := by
  obtain rfl | rfl | rfl : k = 0 ∨ k = 1 ∨ k = 2 := by omega
  · exact ⟨_, h.setI0 x⟩
  · exact ⟨_, h.setI1 x⟩
  · exact ⟨_, h.setI2 x⟩
theorem IsT.put (h : IsT w B t) (hk : k < 3) (f : FileD) :
    IsT (((w.setCell ⟨B, 36 + k, none⟩ (.bool true)).setCells B (39 + k * 32) (encId f.id)).setCell ⟨B, 135 + k, none⟩ (.float .f64 f.stamp)) B (putT k f t) := by
  obtain rfl | rfl | rfl : k = 0 ∨ k = 1 ∨ k = 2 := by omega
  · exact ((h.setH0 true).setI0 f.id).setS0 f.stamp
  · exact ((h.setH1 true).setI1 f.id).setS1 f.stamp
  · exact ((h.setH2 true).setI2 f.id).setS2 f.stamp
theorem IsT.thereI (h : IsT w B t) (hk : k < 3) : w.there B (39 + k * 32) 32 := Blk.there h _ _ (by rw [encT_length]; omega)
end

/-- the box of the file, the place of the id -/
def RS (X B k : Nat) (f : FileD) (w : World) : Prop := w.rangeAt X 1 (encId f.id) ∧ w.cell? ⟨X, 33, none⟩ = some (.float .f64 f.stamp) ∧ w.there B (39 + k * 32) 32
theorem RS.mk {X B k : Nat} {f : FileD} {w : World} {t : ThreeD} (hX : Blk w X 56 (encF f)) (hB : IsT w B t) (hk : k < 3) : RS X B k f w := ⟨box_id hX, box_stamp hX, hB.thereI hk⟩

/-- what is there at the head of a round of the gathering -/
def GRel (w0 : World) (mb : Nat) (s : MS) (pv : Value) (w : World) : Prop := ∃ F, St w0 w mb F s ∧ Own encS 1 9 w0.heap.size w pv s.ps
/-- what is there once the path has its place -/
def GMid (w0 : World) (mb : Nat) (s : MS) (f : FileD) (pv bx tv : Value) (w : World) : Prop :=
  ∃ X B F, bx = .pointer (some ⟨X, 0, none⟩) ∧ tv = .pointer (some ⟨B, 0, none⟩) ∧ St w0 w mb F (midS s f.path) ∧ F f.path = some B ∧ f.path ∈ (midS s f.path).ps ∧ Own encS 1 9 w0.heap.size w pv (midS s f.path).ps ∧ Blk w X 56 (encF f)

theorem addLS_len (i : Nat) (l : List FileD) : ∀ s : MS, (addLS i s l).ps.length ≤ s.ps.length + l.length := by
  induction l with
  | nil => intro s; simp [addLS]
  | cons f r ih =>
    intro s
    have h := ih (addS i s f)
    have h1 : (addS i s f).ps.length ≤ s.ps.length + 1 := by
      unfold addS midS MS.set MS.add
      split <;> simp
    rw [show addLS i s (f :: r) = addLS i (addS i s f) r from rfl, List.length_cons]
    omega
theorem sK_len {l0 l1 l2 : List FileD} (h : ∀ k, k < 3 → (lK l0 l1 l2 k).length < 4294967296) : ∀ k, k ≤ 3 → (sK l0 l1 l2 k).ps.length ≤ k * 4294967296
  | 0, _ => by simp [sK, zeroS]
  | k + 1, hk => by
    have h1 := sK_len h k (by omega)
    have h2 := addLS_len k (lK l0 l1 l2 k) (sK l0 l1 l2 k)
    have h3 := h k (by omega)
    rw [sK]
    omega
theorem Files.lt {w : World} {v : Value} {l : List FileD} (h : Files w v l) : l.length < 4294967296 := h.1
theorem lK_lt {w : World} {v0 v1 v2 : Value} {l0 l1 l2 : List FileD} (h0 : Files w v0 l0) (h1 : Files w v1 l1) (h2 : Files w v2 l2) (k : Nat) (hk : k < 3) : (lK l0 l1 l2 k).length < 4294967296 := by
  obtain rfl | rfl | rfl : k = 0 ∨ k = 1 ∨ k = 2 := by omega
  · exact h0.lt
  · exact h1.lt
  · exact h2.lt

section
variable {w0 w w' : World} {mb : Nat} {F : ByteArray → Option Nat} {s : MS}
theorem St.isT (h : St w0 w mb F s) {p : ByteArray} {B : Nat} (hF : F p = some B) : p ∈ s.ps ∧ w0.heap.size ≤ B ∧ IsT w B (s.m p) := by
  by_cases hp : p ∈ s.ps
  · obtain ⟨B', h1, h2, h3, _⟩ := h.here p hp
    rw [hF] at h1; injection h1 with h1; subst h1
    exact ⟨hp, h2, h3⟩
  · rw [h.only p hp] at hF; cases hF
theorem St.off (h : St w0 w mb F s) {g : Nat} (ho : OffL g w w') (h0 : w0.heap.size ≤ g) (hm : mb ≠ g) (hF : ∀ p B, F p = some B → B ≠ g) : St w0 w' mb F s :=
  ⟨ho.down h.ext h0, h.map.offL ho hm, h.mb0, h.inj, fun p hp => let ⟨B, h1, h2, h3, h4⟩ := h.here p hp; ⟨B, h1, h2, Blk.offL h3 ho (hF p B h1), h4⟩, h.only⟩
/-- an append to a slice of the call's own, of another type -/
theorem St.grown {α : Type} {enc : α → List Value} {sz : Nat} {T : TypeId} {pv : Value} {xs : List α} {o : Obj} (h : St w0 w mb F s) (hpv : Own enc sz T w0.heap.size w pv xs) (hT : T ≠ 106) (hg : (w.alloc o).grownBy w' pv.ownBlock) : St w0 w' mb F s := by
  cases hb : pv.ownBlock with
  | none =>
    rw [hb] at hg
    have he : Ext (w.alloc o) w' := ⟨hg.1, hg.2, hg.3, hg.4, fun k hk => hg.5 k hk (by simp)⟩
    exact (h.grow (Ext.alloc w o)).grow he
  | some g =>
    rw [hb] at hg
    refine (h.grow (Ext.alloc w o)).off (OffL.of_grown hg) (hpv.block g hb).1 (fun e => hpv.ne_map h.map (by rw [hb, e])) (fun p B hp e => ?_)
    exact hpv.typ (h.isT hp).2.2 hT (by rw [hb, e])
theorem Blk.grownOwn {α : Type} {enc : α → List Value} {sz : Nat} {T U : TypeId} {pv : Value} {xs : List α} {o : Obj} {X base : Nat} {l : List Value} (h : Blk w X U l) (hpv : Own enc sz T base w pv xs) (hT : T ≠ U) (hg : (w.alloc o).grownBy w' pv.ownBlock) : Blk w' X U l :=
  (hg.block X (by have := h.lt; simp; omega) (fun e => hpv.typ h hT e.symm)).trans (h.ext (Ext.alloc w o))
end
theorem zero106 (p : ByteArray) : Tryz.zeroCells106.setIfInBounds 0 (.string p) = (encT (blankT p)).toArray := by kernel_rfl
section
variable {w0 wr w3 : World} {mb : Nat} {F : ByteArray → Option Nat} {s : MS} {f : FileD} {pv : Value} {o : Obj}
theorem map_box (hst : St w0 wr mb F s) (hg3 : ((wr.alloc (.cells (encF f).toArray 56)).alloc o).grownBy w3 (some mb)) : w3.cell? ⟨wr.heap.size, 0, none⟩ = some (.string f.path) := by
  have hlt := hst.map.lt
  have hx : Blk w3 wr.heap.size 56 (encF f) := ((Blk.new wr 56 (encF f)).ext (Ext.alloc _ _)).offL (OffL.of_grown hg3) (by omega)
  rw [hx.cell]; exact encF_0 f
theorem map_own (hst : St w0 wr mb F s) (hpv : Own encS 1 9 w0.heap.size wr pv s.ps) (hg3 : ((wr.alloc (.cells (encF f).toArray 56)).alloc o).grownBy w3 (some mb)) : Own encS 1 9 w0.heap.size w3 pv s.ps :=
  hpv.offL ((OffL.ext ((Ext.alloc wr (.cells (encF f).toArray 56)).trans (Ext.alloc _ o))).trans (OffL.of_grown hg3)) (hpv.ne_map hst.map)
theorem map_size (hst : St w0 wr mb F s) (hg3 : ((wr.alloc (.cells (encF f).toArray 56)).alloc o).grownBy w3 (some mb)) : w0.heap.size ≤ w3.heap.size := by
  have h1 := hst.ext.size
  have h2 := hg3.size
  simp at h2
  omega
end
theorem gmid_new {w0 wr w3 w4 : World} {mb : Nat} {F : ByteArray → Option Nat} {s : MS} {f : FileD} {pv pv4 : Value} {o : Obj} (hst : St w0 wr mb F s) (hpv : Own encS 1 9 w0.heap.size wr pv s.ps) (hm : memB f.path s.ps = false)
    (hm3 : HasMap w3 mb (s.ps.length + 1) (fun s' => if s' = f.path then some (wr.heap.size + 1) else F s'))
    (hg3 : ((wr.alloc (.cells (encF f).toArray 56)).alloc (.cells (Tryz.zeroCells106.setIfInBounds 0 (.string f.path)) 106)).grownBy w3 (some mb))
    (hown4 : Own encS 1 9 w0.heap.size w4 pv4 (s.ps ++ [f.path])) (hg4 : (w3.alloc o).grownBy w4 pv.ownBlock) :
    GMid w0 mb s f pv4 (.pointer (some ⟨wr.heap.size, 0, none⟩)) (.pointer (some ⟨wr.heap.size + 1, 0, none⟩)) w4 := by
  rw [zero106] at hg3
  have hlt := hst.map.lt
  have ho3 : OffL mb wr w3 := (OffL.ext ((Ext.alloc wr (.cells (encF f).toArray 56)).trans (Ext.alloc _ (.cells (encT (blankT f.path)).toArray 106)))).trans (OffL.of_grown hg3)
  have hx : Blk w3 wr.heap.size 56 (encF f) := ((Blk.new wr 56 (encF f)).ext (Ext.alloc _ _)).offL (OffL.of_grown hg3) (by omega)
  have ht : IsT w3 (wr.heap.size + 1) (blankT f.path) := by
    have := Blk.new (wr.alloc (.cells (encF f).toArray 56)) 106 (encT (blankT f.path))
    rw [show (wr.alloc (.cells (encF f).toArray 56)).heap.size = wr.heap.size + 1 by simp] at this
    exact Blk.offL this (OffL.of_grown hg3) (by omega)
  have hpv3 : Own encS 1 9 w0.heap.size w3 pv s.ps := hpv.offL ho3 (hpv.ne_map hst.map)
  have hst3 := hst.add (memB_false.1 hm) (Nat.le_succ _) ho3 ht rfl hm3
  have hst4 := hst3.grown hpv3 (by decide) hg4
  have e : midS s f.path = s.add f.path (blankT f.path) := by unfold midS; rw [hm]; rfl
  refine ⟨_, _, _, rfl, rfl, by rw [e]; exact hst4, if_pos rfl, by rw [e]; simp [MS.add], by rw [e]; exact hown4, hx.grownOwn hpv3 (by decide) hg4⟩
theorem gmid_old {w0 wr : World} {mb B : Nat} {F : ByteArray → Option Nat} {s : MS} {f : FileD} {pv : Value} (hst : St w0 wr mb F s) (hpv : Own encS 1 9 w0.heap.size wr pv s.ps) (hm : memB f.path s.ps = true) (hF : F f.path = some B) :
    GMid w0 mb s f pv (.pointer (some ⟨wr.heap.size, 0, none⟩)) (.pointer (some ⟨B, 0, none⟩)) (wr.alloc (.cells (encF f).toArray 56)) := by
  have e : midS s f.path = s := by unfold midS; rw [hm]; rfl
  exact ⟨_, _, F, rfl, rfl, by rw [e]; exact hst.grow (Ext.alloc _ _), hF, by rw [e]; exact memB_true.1 hm, by rw [e]; exact hpv.ext (Ext.alloc _ _), Blk.new wr 56 (encF f)⟩
theorem grel_put {w0 wc : World} {mb B k : Nat} {F : ByteArray → Option Nat} {s : MS} {f : FileD} {pv : Value} (hst : St w0 wc mb F (midS s f.path)) (hF : F f.path = some B) (hp : f.path ∈ (midS s f.path).ps) (hown : Own encS 1 9 w0.heap.size wc pv (midS s f.path).ps)
    (hT : IsT (((wc.drew.setCell ⟨B, 36 + k, none⟩ (.bool true)).setCells B (39 + k * 32) (encId f.id)).setCell ⟨B, 135 + k, none⟩ (.float .f64 f.stamp)) B (putT k f ((midS s f.path).m f.path))) :
    GRel w0 mb (addS k s f) pv (((wc.drew.setCell ⟨B, 36 + k, none⟩ (.bool true)).setCells B (39 + k * 32) (encId f.id)).setCell ⟨B, 135 + k, none⟩ (.float .f64 f.stamp)) := by
  have ho : OffL B wc (((wc.drew.setCell ⟨B, 36 + k, none⟩ (.bool true)).setCells B (39 + k * 32) (encId f.id)).setCell ⟨B, 135 + k, none⟩ (.float .f64 f.stamp)) :=
    (((OffL.ext (Ext.drew wc)).trans (OffL.set wc.drew (36 + k) (.bool true))).trans (offL_cells B (encId f.id) (39 + k * 32) _)).trans (OffL.set _ (135 + k) _)
  obtain ⟨_, _, hT0⟩ := hst.isT hF
  refine ⟨F, hst.set hp hF ho hT ?_, hown.offL ho (hown.typ hT0 (by decide))⟩
  obtain ⟨_, _, _, _, h⟩ := hst.here _ hp
  rw [putT_path]; exact h
end Go.Proofs.YtaeleagkpgbmaaaGreatDoor
