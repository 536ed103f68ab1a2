/- slices.SortFunc(paths, path.Compare). -/
import Derived.Test.YtaeleagkpgbmaaaGreatDoorNames
import Derived.Test.YtaeleagkpgbmaaaGreatDoorText
namespace Go.Proofs.YtaeleagkpgbmaaaGreatDoor
open Go.RowKit Go.Sort
set_option linter.unusedSimpArgs false
set_option linter.unusedVariables false

def encQ (s : PStr) : Value := .string s.1
theorem e39 : ∀ args w, (callFunc 39 args).run Tryz.prog w = .ok (.enter 39 args) w := enters_of Tryz.func39 (by kernel_rfl) rfl
theorem c38 (blk off cap : Nat) (d : Array PStr) (w : World) (hG : GMax w) (hH : Holds encQ w blk off d) (hblk : blk < w.heap.size) (hb1 : blk ≠ 1) (hsz : d.size < 4611686018427387904) :
    Calls Tryz.prog 38 #[.slice (some ⟨blk, off, none⟩) d.size cap, .func (.func 39) #[] #[]] w fun e w' =>
      e = .returned (.tuple #[]) ∧ ∃ n os, w' = sortWorld encQ w blk off n (d.toList.mergeSort fun x y => !(ltOf cmpQ) y x).toArray os := by
  refine Tryz.slices_SortFunc_total encQ ?_ cmpQ swoQ 39 #[] blk off cap d w e39 ?_ hH hblk hsz (fun x y h1 h2 => cmpQ_zero h1 h2)
  · exact fun _ => rfl
  · intro m os dk hs x y
    have hG' : GMax (sortWorld encQ w blk off m dk os) := by
      obtain ⟨g, hg⟩ := hG
      refine ⟨g, ?_⟩
      have hlt := World.block_lt_of_cell? _ _ hg
      unfold sortWorld
      rw [cell?_grow _ _ _ (by simpa using hlt), cell?_putRow_other _ _ _ _ _ _ (Or.inl (Ne.symm hb1))]
      exact hg
    exact (c39g x.1 y.1 _ hG' x.2 y.2).mono fun e w' ⟨h1, h2⟩ => ⟨h1, h2⟩

/-- the paths in their order -/
def sortP (ps : List ByteArray) : List ByteArray := ps.mergeSort fun x y => !decide (cmpP y x < 0)
theorem sortP_perm (ps : List ByteArray) : (sortP ps).Perm ps := List.mergeSort_perm _ _
theorem sortP_len (ps : List ByteArray) : (sortP ps).length = ps.length := (sortP_perm ps).length_eq
/-- behind the sort: its row alone is another one -/
def Srt (w w' : World) (pv : Value) : Prop := (pv.ownBlock = none ∧ Ext w w') ∨ ∃ g, pv.ownBlock = some g ∧ OffL g w w'
def valQ (q : PStr) : ByteArray := q.1
def mkQ (p : ByteArray) (h : p.size < 4294967280) : PStr := ⟨p, h⟩
theorem pstrs : ∀ (ps : List ByteArray), (∀ p ∈ ps, p.size < 4294967280) → ∃ qs : List PStr, qs.map valQ = ps
  | [], _ => ⟨[], rfl⟩
  | p :: r, h => by
    obtain ⟨qs, e⟩ := pstrs r (fun q hq => h q (List.mem_cons_of_mem _ hq))
    exact ⟨mkQ p (h p List.mem_cons_self) :: qs, by rw [List.map_cons, e]; rfl⟩
theorem sortP_nil : sortP [] = [] := by unfold sortP; rw [List.mergeSort_nil]
theorem c38w (base : Nat) (pv : Value) (ps : List ByteArray) (w : World) (hown : Own encS 1 9 base w pv ps) (hG : GMax w) (hb : 1 < base) (hs : ∀ p ∈ ps, p.size < 4294967280) (hlen : ps.length < 4294967296) :
    Calls Tryz.prog 38 #[pv, .func (.func 39) #[] #[]] w fun e w' => e = .returned (.tuple #[]) ∧ TSl encS 1 9 w' pv (sortP ps) ∧ Srt w w' pv := by
  have hsl := hown.sl (fun _ _ => rfl) hlen
  obtain ⟨h1, h2⟩ := hown
  rcases h2 with ⟨rfl, h0⟩ | ⟨g, cap, cur, rfl, hg, hh, hc, hm, hs', ht⟩
  · have : ps = [] := List.length_eq_zero_iff.1 h0
    subst this
    refine (Tryz.slices_SortFunc_none (α := PStr) none 0 _ w).mono ?_
    rintro e w' ⟨rfl, rfl⟩
    exact ⟨rfl, by rw [sortP_nil]; exact TSl.nil _ _ _ _, .inl ⟨rfl, Ext.refl _⟩⟩
  · obtain ⟨A, c, hv, hc', _, hx⟩ := Strs.open_ hsl
    injection hv with e1 e2 e3
    subst e1 e3
    have hlt : g < w.heap.size := by
      rcases Nat.lt_or_ge g w.heap.size with hlt | hge
      · exact hlt
      · rw [Array.getElem?_eq_none hge] at hh; cases hh
    obtain ⟨qs, hpm⟩ := pstrs ps hs
    have hql : qs.length = ps.length := by rw [← hpm, List.length_map]
    have hH : Holds encQ w g 0 qs.toArray := by
      intro j hj
      have hj : j < qs.length := by simpa using hj
      obtain ⟨b, off, hA, _, hcell⟩ := hx (by omega)
      injection hA with hA
      injection hA with hA1 hA2
      subst hA1; subst hA2
      have hq : ps[j]? = some (valQ qs[j]) := by rw [← hpm, List.getElem?_map, List.getElem?_eq_getElem hj]; rfl
      refine ⟨?_, ?_⟩
      · rw [hcell j _ hq]
        simp [encQ, hj]
        rfl
      · simp [World.frozen?, hh]
    have H := c38 g 0 cap qs.toArray w hG hH hlt (by omega) (by simp; omega)
    rw [show qs.toArray.size = ps.length by simpa using hql] at H
    refine H.mono ?_
    rintro e w' ⟨rfl, n, os, rfl⟩
    have hsort : (qs.mergeSort fun x y => !(ltOf cmpQ) y x).map valQ = sortP ps := by
      unfold sortP
      rw [← hpm]
      exact List.map_mergeSort (fun a _ b _ => rfl)
    simp only [List.toList_toArray]
    generalize hds : (qs.mergeSort fun x y => !(ltOf cmpQ) y x) = ds at hsort
    have hdl : ds.length = ps.length := by rw [← hds, List.length_mergeSort]; exact hql
    have hgr : ∀ k, k < w.heap.size → (sortWorld encQ w g 0 n ds.toArray os).heap[k]? = (putRow encQ (Sort.ahead w n) g 0 ds.toArray).heap[k]? := fun k hk => by
      unfold sortWorld
      exact heap_grow_old _ _ (by simpa [putRow, mapBlock] using hk)
    have hoff : OffL g w (sortWorld encQ w g 0 n ds.toArray os) := by
      refine ⟨rfl, rfl, rfl, ?_, fun k hk hne => ?_⟩
      · unfold sortWorld; rw [size_grow]; simp [putRow, mapBlock, Sort.ahead]
      · rw [hgr k hk]
        simp [putRow, mapBlock, Sort.ahead, Array.getElem?_modify, Ne.symm hne]
    refine ⟨trivial, ⟨?_, ?_⟩, .inr ⟨g, rfl, hoff⟩⟩
    · have hh' : Holds encQ (sortWorld encQ w g 0 n ds.toArray os) g 0 ds.toArray := by
        unfold sortWorld
        exact holds_grow _ _ _ _ _ _ (by simpa [putRow, mapBlock, Sort.ahead] using hlt) (holds_putRow encQ (Sort.ahead w n) g 0 qs.toArray ds.toArray hH (by simp [hdl, hql]))
      have hl2 : (sortP ps).length = ps.length := sortP_len ps
      rw [← hl2]
      refine Strs.mk_cells (by omega) (by omega) (Nat.lt_of_lt_of_le hlt hoff.2.2.2.1) fun i x hi => ?_
      have hil := (List.getElem?_eq_some_iff.1 hi).1
      rw [(hh' i (by simp; omega)).1]
      rw [← hsort, List.getElem?_map] at hi
      obtain ⟨q, hq, rfl⟩ := Option.map_eq_some_iff.1 hi
      have hid := (List.getElem?_eq_some_iff.1 hq)
      obtain ⟨hid, rfl⟩ := hid
      simp [encQ, hid]
      rfl
    · intro g' hg'
      have e : g = g' := by simpa [Value.ownBlock] using hg'
      subst e
      rw [hgr g hlt]
      have e : (putRow encQ (Sort.ahead w n) g 0 ds.toArray).heap[g]? = some (.cells (putCells encQ 0 ds.toArray cur) 9 (0, 0)) := by
        simp only [putRow, mapBlock, Sort.ahead, Array.getElem?_modify, if_true]
        rw [hh]
        rfl
      exact ⟨_, _, e⟩
end Go.Proofs.YtaeleagkpgbmaaaGreatDoor
