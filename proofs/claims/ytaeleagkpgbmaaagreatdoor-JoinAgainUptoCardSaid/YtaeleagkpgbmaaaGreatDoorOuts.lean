/- Outcomes: what join.Merge hands back, in memory and by itself. -/
import Derived.Test.YtaeleagkpgbmaaaGreatDoorMerge1
import Derived.Test.YtaeleagkpgbmaaaGreatDoorRowOne
namespace Go.Proofs.YtaeleagkpgbmaaaGreatDoor
open Go.RowKit
set_option linter.unusedSimpArgs false
set_option linter.unusedVariables false

structure OutR where
  path : ByteArray
  kind : Int
  id : ID
  stamp : Nat
  text : List UInt8
  h0 : Bool
  h1 : Bool
  h2 : Bool
  i0 : ID
  i1 : ID
  i2 : ID
def outR (t : ThreeD) (d : DecR) : OutR := ⟨t.path, d.kind, d.id, whenF t.h0 t.h1 t.h2 t.s0 t.s1 t.s2, d.text.getD [], t.h0, t.h1, t.h2, t.i0, t.i1, t.i2⟩
/-- what memory has as an outcome -/
structure OutOk (w : World) (o : ThreeD) (r : OutR) : Prop where
  path : o.path = r.path
  kind : o.kind = r.kind
  id : o.id = r.id
  stamp : o.stamp = r.stamp
  h0 : o.h0 = r.h0
  h1 : o.h1 = r.h1
  h2 : o.h2 = r.h2
  i0 : o.i0 = r.i0
  i1 : o.i1 = r.i1
  i2 : o.i2 = r.i2
  text : TSl encB 1 5 w o.text r.text
def OutsOk (w : World) (os : List ThreeD) (rs : List OutR) : Prop := os.length = rs.length ∧ ∀ (i : Nat) (o : ThreeD) (r : OutR), os[i]? = some o → rs[i]? = some r → OutOk w o r

theorem Own.notTy {α : Type} {enc : α → List Value} {sz : Nat} {T U : TypeId} {base : Nat} {w : World} {v : Value} {xs : List α} {g : Nat} (h : Own enc sz U base w v xs) (hg : v.ownBlock = some g) (hT : T ≠ U) : NotTy w g T := by
  obtain ⟨h1, h2⟩ := h
  rcases h2 with ⟨rfl, _⟩ | ⟨g', cap, cur, rfl, hg', hh, _⟩
  · cases hg
  · have e : g' = g := by simpa [Value.ownBlock] using hg
    subst e
    intro cs m e
    rw [hh] at e
    injection e with e
    injection e with e1 e2 e3
    exact hT e2.symm
theorem NotTy.ext {w w' : World} {g : Nat} {T : TypeId} (h : NotTy w g T) (he : Ext w w') (hg : g < w.heap.size) : NotTy w' g T := fun cs m e => h cs m (by rw [← he.block hg]; exact e)
theorem TSl.grown {α β : Type} {enc : α → List Value} {sz : Nat} {T : TypeId} {v : Value} {xs : List α} {enc' : β → List Value} {sz' : Nat} {U : TypeId} {base : Nat} {out : Value} {ys : List β} {w w' : World} {o : Obj}
    (h : TSl enc sz T w v xs) (hown : Own enc' sz' U base w out ys) (hT : T ≠ U) (hg : (w.alloc o).grownBy w' out.ownBlock) : TSl enc sz T w' v xs := by
  cases hb : out.ownBlock with
  | none =>
    rw [hb] at hg
    exact (h.ext (Ext.alloc w o)).ext ⟨hg.1, hg.2, hg.3, hg.4, fun k hk => hg.5 k hk (by simp)⟩
  | some g =>
    rw [hb] at hg
    exact (h.ext (Ext.alloc w o)).off (OffL.of_grown hg) ((hown.notTy hb hT).ext (Ext.alloc w o) (hown.block g hb).2)
section
variable {w w' : World} {os : List ThreeD} {rs : List OutR}
theorem OutsOk.turn (h : OutsOk w os rs) (ht : ∀ v xs, TSl encB 1 5 w v xs → TSl encB 1 5 w' v xs) : OutsOk w' os rs :=
  ⟨h.1, fun i o r ho hr => { (h.2 i o r ho hr) with text := ht _ _ (h.2 i o r ho hr).text }⟩
theorem OutsOk.off (h : OutsOk w os rs) {L : Nat} (ho : OffL L w w') (hn : NotTy w L 5) : OutsOk w' os rs := h.turn fun _ _ ht => ht.off ho hn
theorem OutsOk.ext (h : OutsOk w os rs) (he : Ext w w') : OutsOk w' os rs := h.turn fun _ _ ht => ht.ext he
theorem OutsOk.nil (w : World) : OutsOk w [] [] := ⟨rfl, fun i o r h => by cases h⟩
theorem OutsOk.snoc (h : OutsOk w os rs) {o : ThreeD} {r : OutR} (ho : OutOk w o r) : OutsOk w (os ++ [o]) (rs ++ [r]) := by
  refine ⟨by rw [List.length_append, List.length_append, h.1]; rfl, fun i o' r' h1 h2 => ?_⟩
  rcases Nat.lt_or_ge i os.length with hi | hi
  · rw [List.getElem?_append_left hi] at h1
    rw [List.getElem?_append_left (by rw [← h.1]; exact hi)] at h2
    exact h.2 i o' r' h1 h2
  · rw [List.getElem?_append_right hi] at h1
    rw [List.getElem?_append_right (by rw [← h.1]; exact hi), ← h.1] at h2
    cases e : i - os.length with
    | zero => rw [e] at h1 h2; cases h1; cases h2; exact ho
    | succ n => rw [e] at h1; cases h1
theorem OutsOk.set (h : OutsOk w os rs) {i : Nat} {o : ThreeD} {r : OutR} (ho : OutOk w o r) : OutsOk w (os.set i o) (rs.set i r) := by
  refine ⟨by rw [List.length_set, List.length_set, h.1], fun k o' r' h1 h2 => ?_⟩
  rw [List.getElem?_set] at h1 h2
  by_cases e : i = k
  · rw [if_pos e] at h1 h2
    split at h1
    · split at h2
      · cases h1; cases h2; exact ho
      · cases h2
    · cases h1
  · rw [if_neg e] at h1 h2
    exact h.2 k o' r' h1 h2
end

/-! ### all decisions -/
/-- the outcomes of the paths, those that are there -/
def keepD (dec : ThreeD → DecR) (s : MS) (ps : List ByteArray) : List OutR := ps.flatMap fun p => if (dec (s.m p)).there then [outR (s.m p) (dec (s.m p))] else []
/-- the first error of them -/
def errD (dec : ThreeD → DecR) (s : MS) : List ByteArray → Int
  | [] => 0
  | p :: r => if (dec (s.m p)).err ≠ 0 then (dec (s.m p)).err else errD dec s r
theorem errD_at {dec : ThreeD → DecR} {s : MS} : ∀ {ps : List ByteArray} {k : Nat} {p : ByteArray}, ps[k]? = some p → (∀ q ∈ ps.take k, (dec (s.m q)).err = 0) → (dec (s.m p)).err ≠ 0 → errD dec s ps = (dec (s.m p)).err
  | [], k, p, h, _, _ => by cases h
  | q :: r, 0, p, h, _, hp => by cases h; rw [errD, if_pos hp]
  | q :: r, k + 1, p, h, hz, hp => by
    rw [errD, if_neg (by simpa using hz q (by simp))]
    exact errD_at (ps := r) (k := k) (by simpa using h) (fun x hx => hz x (by simp [hx])) hp
theorem errD_zero {dec : ThreeD → DecR} {s : MS} : ∀ {ps : List ByteArray}, (∀ q ∈ ps, (dec (s.m q)).err = 0) → errD dec s ps = 0
  | [], _ => rfl
  | q :: r, h => by
    rw [errD, if_neg (by simpa using h q (by simp))]
    exact errD_zero (fun x hx => h x (List.mem_cons_of_mem _ hx))
/-- the first error of three checks -/
def chk3 (l0 l1 l2 : List FileD) : Int := if checkT l0 ≠ 0 then checkT l0 else if checkT l1 ≠ 0 then checkT l1 else checkT l2
theorem chk3_at {l0 l1 l2 : List FileD} {k : Nat} (hk : k < 3) (hz : ∀ j, j < k → checkT (lK l0 l1 l2 j) = 0) (h : checkT (lK l0 l1 l2 k) ≠ 0) : chk3 l0 l1 l2 = checkT (lK l0 l1 l2 k) := by
  unfold chk3
  obtain rfl | rfl | rfl : k = 0 ∨ k = 1 ∨ k = 2 := by omega
  · simp only [lK] at h ⊢
    rw [if_pos h]
  · have := hz 0 (by omega)
    simp only [lK] at this h ⊢
    rw [if_neg (by simpa using this), if_pos h]
  · have h0 := hz 0 (by omega)
    have h1 := hz 1 (by omega)
    simp only [lK] at h0 h1 h ⊢
    rw [if_neg (by simpa using h0), if_neg (by simpa using h1)]
theorem chk3_zero {l0 l1 l2 : List FileD} (hz : ∀ j, j < 3 → checkT (lK l0 l1 l2 j) = 0) : chk3 l0 l1 l2 = 0 := by
  have h0 := hz 0 (by omega)
  have h1 := hz 1 (by omega)
  have h2 := hz 2 (by omega)
  simp only [lK] at h0 h1 h2
  unfold chk3
  rw [h0, h1, h2]; rfl

/-! ### what lies under another one -/
def blkR (prev : List OutR) (o : OutR) : OutR := if prev.any (fun q => underB o.path q.path) then { o with kind := 4 } else o
/-- the first i of them looked at -/
def bk (rs : List OutR) (i : Nat) : List OutR := rs.mapIdx fun j o => if j < i then blkR (rs.take j) o else o
def blockF (rs : List OutR) : List OutR := bk rs rs.length
theorem bk_zero (rs : List OutR) : bk rs 0 = rs := by
  apply List.ext_getElem?
  intro i
  rw [bk, List.getElem?_mapIdx]
  cases rs[i]? <;> rfl
theorem bk_len (rs : List OutR) (i : Nat) : (bk rs i).length = rs.length := by simp [bk]
theorem bk_at {rs : List OutR} {i : Nat} {r : OutR} (h : rs[i]? = some r) : (bk rs i)[i]? = some r := by
  rw [bk, List.getElem?_mapIdx, h]
  simp
theorem blkR_path (prev : List OutR) (o : OutR) : (blkR prev o).path = o.path := by unfold blkR; split <;> rfl
theorem bk_path {rs : List OutR} {i k : Nat} {r : OutR} (h : rs[k]? = some r) : ∃ q, (bk rs i)[k]? = some q ∧ q.path = r.path := by
  refine ⟨_, by rw [bk, List.getElem?_mapIdx, h]; rfl, ?_⟩
  split
  · exact blkR_path _ _
  · rfl
theorem bk_hit {rs : List OutR} {i : Nat} {r : OutR} (h : rs[i]? = some r) (hit : (rs.take i).any (fun q => underB r.path q.path) = true) : bk rs (i + 1) = (bk rs i).set i { r with kind := 4 } := by
  apply List.ext_getElem?
  intro k
  rw [List.getElem?_set, bk, List.getElem?_mapIdx, bk_len]
  by_cases e : i = k
  · subst e
    have hl := (List.getElem?_eq_some_iff.1 h).1
    rw [if_pos rfl, if_pos hl, h]
    simp only [Option.map_some, Nat.lt_succ_self, if_true]
    unfold blkR
    rw [if_pos hit]
  · rw [if_neg e, bk, List.getElem?_mapIdx]
    have e2 : (k < i + 1) = (k < i) := by apply propext; omega
    simp only [e2]
theorem bk_miss {rs : List OutR} {i : Nat} {r : OutR} (h : rs[i]? = some r) (hit : (rs.take i).any (fun q => underB r.path q.path) = false) : bk rs (i + 1) = bk rs i := by
  apply List.ext_getElem?
  intro k
  rw [bk, List.getElem?_mapIdx, bk, List.getElem?_mapIdx]
  by_cases e : k = i
  · subst e
    rw [h]
    simp only [Option.map_some, Nat.lt_succ_self, Nat.lt_irrefl, if_true, if_false]
    unfold blkR
    rw [if_neg (by rw [hit]; simp)]
  · have e2 : (k < i + 1) = (k < i) := by apply propext; omega
    simp only [e2]
/-- join.Merge by itself -/
def mergeF (dec : ThreeD → DecR) (l0 l1 l2 : List FileD) : List OutR × Int :=
  if chk3 l0 l1 l2 ≠ 0 then ([], chk3 l0 l1 l2)
  else if errD dec (sK l0 l1 l2 3) (sortP (sK l0 l1 l2 3).ps) ≠ 0 then ([], errD dec (sK l0 l1 l2 3) (sortP (sK l0 l1 l2 3).ps))
  else (blockF (keepD dec (sK l0 l1 l2 3) (sortP (sK l0 l1 l2 3).ps)), 0)

/-! ### a cell of a row of the call's own -/
theorem flatMap_set {α : Type} (enc : α → List Value) (sz : Nat) : ∀ (xs : List α), (∀ x ∈ xs, (enc x).length = sz) → ∀ (i j : Nat) (x x' : α) (u : Value), xs[i]? = some x → j < sz → enc x' = (enc x).set j u →
    (xs.set i x').flatMap enc = (xs.flatMap enc).set (i * sz + j) u
  | [], _, i, j, x, x', u, h, _, _ => by cases h
  | y :: ys, hz, 0, j, x, x', u, h, hj, he => by
    simp only [List.getElem?_cons_zero, Option.some.injEq] at h
    subst h
    have hl := hz y List.mem_cons_self
    rw [List.set_cons_zero, List.flatMap_cons, List.flatMap_cons, he, Nat.zero_mul, Nat.zero_add, List.set_append_left _ _ (by omega)]
  | y :: ys, hz, i + 1, j, x, x', u, h, hj, he => by
    have hl := hz y List.mem_cons_self
    rw [List.set_cons_succ, List.flatMap_cons, List.flatMap_cons, flatMap_set enc sz ys (fun z hz' => hz z (List.mem_cons_of_mem _ hz')) i j x x' u (by simpa using h) hj he,
      List.set_append_right _ _ (by rw [hl, Nat.add_mul]; omega), hl]
    congr 2
    rw [Nat.add_mul]; omega
theorem Own.set {α : Type} {enc : α → List Value} {sz : Nat} {T : TypeId} {base g n c : Nat} {w : World} {xs : List α} (h : Own enc sz T base w (.slice (some ⟨g, 0, none⟩) n c) xs) (hz : ∀ x ∈ xs, (enc x).length = sz)
    {i j : Nat} {x x' : α} {u : Value} (hx : xs[i]? = some x) (hj : j < sz) (he : enc x' = (enc x).set j u) :
    Own enc sz T base (w.setCell ⟨g, i * sz + j, none⟩ u) (.slice (some ⟨g, 0, none⟩) n c) (xs.set i x') := by
  obtain ⟨h1, h2⟩ := h
  rcases h2 with ⟨h2, _⟩ | ⟨g', cap, cur, hv, hg, hh, hc, hm, hs, ht⟩
  · cases h2
  · injection hv with e1 e2 e3
    injection e1 with e1; injection e1 with e1
    subst e1; subst e3
    have hfs := flatMap_set enc sz xs hz i j x x' u hx hj he
    have hlen := (List.getElem?_eq_some_iff.1 hx).1
    refine ⟨by rw [hfs, List.length_set, List.length_set]; exact h1, .inr ⟨g, c, cur.setIfInBounds (i * sz + j) u, ?_, hg, ?_, ?_, hm, ?_, ?_⟩⟩
    · rw [List.length_set]; rw [e2]
    · simp [World.setCell, Array.getElem?_modify, hh]
    · rw [List.length_set]; exact hc
    · simpa using hs
    · rw [List.length_set, hfs, ← ht]
      rw [Array.toList_setIfInBounds, List.take_set]
theorem encO_kind (o : ThreeD) (k : Int) : encO { o with kind := k } = (encO o).set 1 (.int .i64 k) := rfl
theorem encO_one {o : ThreeD} (h : o.text.oneCell' = true) : ∀ u ∈ encO o, u.oneCell' = true := by
  intro u hu
  simp only [encO, encIds, encId, List.mem_append, List.mem_cons, List.mem_map, List.mem_nil_iff, or_false] at hu
  rcases hu with (rfl | rfl) | ⟨b, _, rfl⟩ | (rfl | rfl | rfl | rfl | rfl) | ⟨b, _, rfl⟩ | ⟨b, _, rfl⟩ | ⟨b, _, rfl⟩ <;> first | rfl | exact h
/-- a three that has not been decided -/
def RawT (t : ThreeD) : Prop := t.text = .slice none 0 0 ∧ okStamp t.s0 ∧ okStamp t.s1 ∧ okStamp t.s2
theorem RawT.blank (p : ByteArray) : RawT (blankT p) := by
  have h : okStamp 0 := by unfold okStamp; omega
  exact ⟨rfl, h, h, h⟩
theorem RawT.put {t : ThreeD} (h : RawT t) {f : FileD} (hf : okStamp f.stamp) (k : Nat) : RawT (putT k f t) := by
  obtain ⟨h1, h2, h3, h4⟩ := h
  unfold putT
  split
  · exact ⟨h1, hf, h3, h4⟩
  · exact ⟨h1, h2, hf, h4⟩
  · exact ⟨h1, h2, h3, hf⟩
theorem addS_raw {k : Nat} {s : MS} {f : FileD} (h : ∀ p, RawT (s.m p)) (hf : okStamp f.stamp) : ∀ p, RawT ((addS k s f).m p) := by
  have hm : ∀ p, RawT ((midS s f.path).m p) := by
    intro p
    unfold midS
    split
    · exact h p
    · simp only [MS.add]
      split
      · exact RawT.blank _
      · exact h p
  intro p
  simp only [addS, MS.set]
  split
  · exact (hm _).put hf k
  · exact hm p
theorem addLS_raw {k : Nat} : ∀ {l : List FileD} {s : MS}, (∀ p, RawT (s.m p)) → (∀ f ∈ l, okStamp f.stamp) → ∀ p, RawT ((addLS k s l).m p)
  | [], s, h, _ => h
  | f :: r, s, h, hl => addLS_raw (l := r) (addS_raw h (hl f List.mem_cons_self)) (fun g hg => hl g (List.mem_cons_of_mem _ hg))
theorem sK_raw {l0 l1 l2 : List FileD} (h : ∀ k, k < 3 → ∀ f ∈ lK l0 l1 l2 k, f.path.size < 4294967280 ∧ okStamp f.stamp) : ∀ k, k ≤ 3 → ∀ p, RawT ((sK l0 l1 l2 k).m p)
  | 0, _ => fun p => RawT.blank p
  | k + 1, hk => addLS_raw (sK_raw h k (by omega)) (fun f hf => (h k (by omega) f hf).2)
theorem addLS_sizes {k : Nat} : ∀ {l : List FileD} {s : MS}, (∀ p ∈ s.ps, p.size < 4294967280) → (∀ f ∈ l, f.path.size < 4294967280) → ∀ p ∈ (addLS k s l).ps, p.size < 4294967280
  | [], s, h, _ => h
  | f :: r, s, h, hl => addLS_sizes (l := r) (s := addS k s f) (by
      intro p hp
      simp only [addS, MS.set, midS] at hp
      split at hp
      · exact h p hp
      · simp only [MS.add, List.mem_append, List.mem_singleton] at hp
        rcases hp with hp | rfl
        · exact h p hp
        · exact hl f List.mem_cons_self) (fun g hg => hl g (List.mem_cons_of_mem _ hg))
theorem sK_sizes {l0 l1 l2 : List FileD} (h : ∀ k, k < 3 → ∀ f ∈ lK l0 l1 l2 k, f.path.size < 4294967280 ∧ okStamp f.stamp) : ∀ k, k ≤ 3 → ∀ p ∈ (sK l0 l1 l2 k).ps, p.size < 4294967280
  | 0, _ => fun p hp => by cases hp
  | k + 1, hk => addLS_sizes (sK_sizes h k (by omega)) (fun f hf => (h k (by omega) f hf).1)

theorem addS_nodup {k : Nat} {s : MS} {f : FileD} (h : s.ps.Nodup) : (addS k s f).ps.Nodup := by
  simp only [addS, MS.set, midS]
  cases hm : memB f.path s.ps
  · simp only [Bool.false_eq_true, if_false, MS.add]
    rw [List.nodup_append]
    refine ⟨h, by simp, fun a ha b hb => ?_⟩
    rw [List.mem_singleton] at hb
    subst hb
    exact fun e => memB_false.1 hm (e ▸ ha)
  · simpa using h
theorem addLS_nodup {k : Nat} : ∀ {l : List FileD} {s : MS}, s.ps.Nodup → (addLS k s l).ps.Nodup
  | [], s, h => h
  | f :: r, s, h => addLS_nodup (l := r) (addS_nodup (k := k) (f := f) h)
theorem sK_nodup (l0 l1 l2 : List FileD) : ∀ k, (sK l0 l1 l2 k).ps.Nodup
  | 0 => List.nodup_nil
  | k + 1 => addLS_nodup (sK_nodup l0 l1 l2 k)

theorem checkT_len {l : List FileD} (h : checkT l = 0) : l.length ≤ 256 := by
  unfold checkT at h
  split at h
  · cases h
  · omega
theorem sK_small {l0 l1 l2 : List FileD} (h : ∀ j, j < 3 → checkT (lK l0 l1 l2 j) = 0) : (sK l0 l1 l2 3).ps.length ≤ 768 := by
  have h0 := checkT_len (h 0 (by omega))
  have h1 := checkT_len (h 1 (by omega))
  have h2 := checkT_len (h 2 (by omega))
  have g0 := addLS_len 0 (lK l0 l1 l2 0) (sK l0 l1 l2 0)
  have g1 := addLS_len 1 (lK l0 l1 l2 1) (sK l0 l1 l2 1)
  have g2 := addLS_len 2 (lK l0 l1 l2 2) (sK l0 l1 l2 2)
  have e1 : sK l0 l1 l2 1 = addLS 0 (sK l0 l1 l2 0) (lK l0 l1 l2 0) := rfl
  have e2 : sK l0 l1 l2 2 = addLS 1 (sK l0 l1 l2 1) (lK l0 l1 l2 1) := rfl
  have e3 : sK l0 l1 l2 3 = addLS 2 (sK l0 l1 l2 2) (lK l0 l1 l2 2) := rfl
  have e0 : (sK l0 l1 l2 0).ps.length = 0 := rfl
  rw [← e1] at g0
  rw [← e2] at g1
  rw [← e3] at g2
  omega

/-! ### the loop of decisions -/
/-- behind the decisions on the first k paths -/
def CRel (w0 : World) (mb : Nat) (F : ByteArray → Option Nat) (S : MS) (pv : Value) (dec : ThreeD → DecR) (k : Nat) (out : Value) (w : World) : Prop :=
  ∃ s, St w0 w mb F s ∧ s.ps = S.ps ∧ (∀ p ∈ (sortP S.ps).drop k, s.m p = S.m p) ∧ TSl encS 1 9 w pv (sortP S.ps) ∧
    (∀ q ∈ (sortP S.ps).take k, (dec (S.m q)).err = 0) ∧
    ∃ os, Own encO 135 54 w0.heap.size w out os ∧ OutsOk w os (keepD dec S ((sortP S.ps).take k))
theorem row29 : Row 29 54 (.agg Tryz.zeroCells54) 135 192 := ⟨Tryz.underlying29, by kernel_rfl, by kernel_rfl, by decide⟩
section
variable {w0 w w' : World} {mb B k : Nat} {F : ByteArray → Option Nat} {S s : MS} {pv out : Value} {dec : ThreeD → DecR} {p : ByteArray} {o : ThreeD}
theorem text_form {w : World} {v : Value} {xs : List UInt8} (h : TSl encB 1 5 w v xs) : v.oneCell' = true := by
  obtain ⟨⟨_, A, c, rfl, _⟩, _⟩ := h
  rfl
/-- a decision made on the path, the world otherwise as it was -/
theorem crel_turn (hk : (sortP S.ps)[k]? = some p) (hst : St w0 w mb F s) (hps : s.ps = S.ps) (hrest : ∀ p ∈ (sortP S.ps).drop k, s.m p = S.m p) (hpv : TSl encS 1 9 w pv (sortP S.ps)) {os : List ThreeD}
    (hown : Own encO 135 54 w0.heap.size w out os) (hos : OutsOk w os (keepD dec S ((sortP S.ps).take k))) (hF : F p = some B) (hT : IsT w B (s.m p)) (ho : OffL B w w') (hT' : IsT w' B o) (hpath : o.path = p) (hnd : (sortP S.ps).Nodup) :
    St w0 w' mb F (s.set p o) ∧ (s.set p o).ps = S.ps ∧ (∀ q ∈ (sortP S.ps).drop (k + 1), (s.set p o).m q = S.m q) ∧ TSl encS 1 9 w' pv (sortP S.ps) ∧ Own encO 135 54 w0.heap.size w' out os ∧ OutsOk w' os (keepD dec S ((sortP S.ps).take k)) := by
  obtain ⟨hkl, hkp⟩ := List.getElem?_eq_some_iff.1 hk
  refine ⟨hst.set (hst.isT hF).1 hF ho hT' hpath, hps, fun q hq => ?_, hpv.off ho (Blk.notTy hT (by decide)), hown.offL ho (hown.typ hT (by decide)), hos.off ho (Blk.notTy hT (by decide))⟩
  have hne : q ≠ p := by
    rintro rfl
    have h1 : (sortP S.ps).drop k = q :: (sortP S.ps).drop (k + 1) := by rw [List.drop_eq_getElem_cons hkl, hkp]
    have h2 := (List.drop_sublist k (sortP S.ps)).nodup hnd
    rw [h1, List.nodup_cons] at h2
    exact h2.1 hq
  simp only [MS.set, if_neg hne]
  exact hrest q (by
    rw [List.drop_eq_getElem_cons hkl]
    exact List.mem_cons_of_mem _ hq)
end
section
variable {w0 w w' : World} {mb k : Nat} {F : ByteArray → Option Nat} {S s : MS} {pv out out' : Value} {dec : ThreeD → DecR} {p : ByteArray} {o : ThreeD} {os : List ThreeD}
theorem keepD_next {dec : ThreeD → DecR} {S : MS} {k : Nat} {p : ByteArray} {l : List ByteArray} (h : l[k]? = some p) :
    keepD dec S (l.take (k + 1)) = keepD dec S (l.take k) ++ (if (dec (S.m p)).there then [outR (S.m p) (dec (S.m p))] else []) := by
  unfold keepD
  rw [flat_next _ _ _ _ h]
theorem err_next (hk : (sortP S.ps)[k]? = some p) (h : ∀ q ∈ (sortP S.ps).take k, (dec (S.m q)).err = 0) (hp : (dec (S.m p)).err = 0) : ∀ q ∈ (sortP S.ps).take (k + 1), (dec (S.m q)).err = 0 := by
  intro q hq
  rw [take_snoc' hk, List.mem_append, List.mem_singleton] at hq
  rcases hq with hq | rfl
  · exact h q hq
  · exact hp
theorem crel_app {o' : Obj} (hst : St w0 w mb F s) (hps : s.ps = S.ps) (hrest : ∀ q ∈ (sortP S.ps).drop (k + 1), s.m q = S.m q) (hpv : TSl encS 1 9 w pv (sortP S.ps)) (herr : ∀ q ∈ (sortP S.ps).take (k + 1), (dec (S.m q)).err = 0)
    (hown : Own encO 135 54 w0.heap.size w out os) (hos : OutsOk w os (keepD dec S ((sortP S.ps).take k))) (hok : OutOk w o (outR (S.m p) (dec (S.m p)))) (hk : (sortP S.ps)[k]? = some p) (hth : (dec (S.m p)).there = true)
    (hown' : Own encO 135 54 w0.heap.size w' out' (os ++ [o])) (hg : (w.alloc o').grownBy w' out.ownBlock) : CRel w0 mb F S pv dec (k + 1) out' w' :=
  ⟨s, hst.grown hown (by decide) hg, hps, hrest, hpv.grown hown (by decide) hg, herr, os ++ [o], hown', by
    rw [keepD_next hk, if_pos hth]
    exact (hos.turn fun _ _ ht => ht.grown hown (by decide) hg).snoc { hok with text := hok.text.grown hown (by decide) hg }⟩
end
/-- what the call hands back -/
def MergeIs (w0 : World) (r : List OutR × Int) (e : Ending) (w' : World) : Prop :=
  ∃ v' os, e = .returned (.tuple #[v', .int .i64 r.2]) ∧ Own encO 135 54 w0.heap.size w' v' os ∧ OutsOk w' os r.1 ∧ Ext w0 w'
theorem MergeIs.err {w0 w' : World} {c : Int} (h : Ext w0 w') : MergeIs w0 ([], c) (.returned (.tuple #[.slice none 0 0, .int .i64 c])) w' := ⟨_, [], rfl, Own.nil, OutsOk.nil _, h⟩
theorem St.srt {w0 w w' : World} {mb : Nat} {F : ByteArray → Option Nat} {s : MS} {pv : Value} {xs : List ByteArray} (h : St w0 w mb F s) (hpv : Own encS 1 9 w0.heap.size w pv xs) (hs : Srt w w' pv) : St w0 w' mb F s := by
  rcases hs with ⟨_, he⟩ | ⟨g, hb, ho⟩
  · exact h.grow he
  · exact h.off ho (hpv.block g hb).1 (fun e => hpv.ne_map h.map (by rw [hb, e])) (fun p B hp e => hpv.typ (h.isT hp).2.2 (by decide) (by rw [hb, e]))
theorem crel_start {w0 w : World} {mb : Nat} {F : ByteArray → Option Nat} {S : MS} {pv : Value} {dec : ThreeD → DecR} (h : St w0 w mb F S) (hp : TSl encS 1 9 w pv (sortP S.ps)) : CRel w0 mb F S pv dec 0 (.slice none 0 0) w :=
  ⟨S, h, rfl, fun _ _ => rfl, hp, fun q hq => by simp at hq, [], Own.nil, by simpa [keepD] using OutsOk.nil w⟩
theorem keepD_le (dec : ThreeD → DecR) (S : MS) : ∀ (l : List ByteArray), (keepD dec S l).length ≤ l.length
  | [] => by simp [keepD]
  | p :: r => by
    have := keepD_le dec S r
    unfold keepD at this ⊢
    rw [List.flatMap_cons, List.length_append, List.length_cons]
    split <;> simp only [List.length_cons, List.length_nil] <;> omega
theorem keepD_kind {dec : ThreeD → DecR} {S : MS} {l : List ByteArray} (h : ∀ p ∈ l, (dec (S.m p)).kind ≠ 4) : ∀ r ∈ keepD dec S l, r.kind ≠ 4 := by
  intro r hr
  unfold keepD at hr
  obtain ⟨p, hp, hr⟩ := List.mem_flatMap.1 hr
  split at hr
  · rw [List.mem_singleton] at hr
    subst hr
    exact h p hp
  · cases hr
/-! ### what lies under another one: memory -/
def BRel (w0 : World) (out : Value) (rs : List OutR) (w : World) : Prop := ∃ os, Own encO 135 54 w0.heap.size w out os ∧ OutsOk w os rs ∧ Ext w0 w
/-- the places ahead of i, from j on, have been looked at -/
def KRel (w0 : World) (out : Value) (rs : List OutR) (i : Nat) (r : OutR) (j : Nat) (b : Bool) (w : World) : Prop :=
  BRel w0 out (if b then (bk rs i).set i { r with kind := 4 } else bk rs i) w ∧
    if b then ∃ m q, m < i ∧ rs[m]? = some q ∧ underB r.path q.path = true else ∀ m q, j ≤ m → m < i → rs[m]? = some q → underB r.path q.path = false
theorem krel_start {w0 w : World} {out : Value} {rs : List OutR} {i : Nat} {r : OutR} (h : BRel w0 out (bk rs i) w) : KRel w0 out rs i r i false w := ⟨h, fun m q h1 h2 => by omega⟩
theorem krel_end {w0 w : World} {out : Value} {rs : List OutR} {i j : Nat} {r : OutR} {b : Bool} (hr : rs[i]? = some r) (h : KRel w0 out rs i r j b w) (hj : b = false → j = 0) : BRel w0 out (bk rs (i + 1)) w := by
  obtain ⟨h1, h2⟩ := h
  have hil := (List.getElem?_eq_some_iff.1 hr).1
  cases b with
  | true =>
    obtain ⟨m, q, hm, hq, hu⟩ := h2
    rw [bk_hit hr (List.any_eq_true.2 ⟨q, List.mem_of_getElem? (by rw [List.getElem?_take, if_pos hm]; exact hq : (rs.take i)[m]? = some q), hu⟩)]
    exact h1
  | false =>
    have hj := hj rfl
    subst hj
    rw [bk_miss hr (by
      rw [Bool.eq_false_iff]
      intro ha
      obtain ⟨q, hq, hu⟩ := List.any_eq_true.1 ha
      obtain ⟨m, hm⟩ := List.getElem?_of_mem hq
      rw [List.getElem?_take] at hm
      split at hm
      · rename_i hmi
        have := h2 m q (Nat.zero_le _) hmi hm
        rw [this] at hu; cases hu
      · cases hm)]
    exact h1
theorem krel_miss {w0 w : World} {out : Value} {rs : List OutR} {i j : Nat} {r q : OutR} (h : KRel w0 out rs i r (j + 1) false w) (hq : rs[j]? = some q) (hu : underB r.path q.path = false) : KRel w0 out rs i r j false w := by
  obtain ⟨h1, h2⟩ := h
  refine ⟨h1, fun m q' hm hmi hq' => ?_⟩
  rcases Nat.lt_or_ge j m with hlt | hge
  · exact h2 m q' hlt hmi hq'
  · obtain rfl : m = j := by omega
    rw [hq] at hq'; cases hq'; exact hu
theorem Own.frozen_ {α : Type} {enc : α → List Value} {sz : Nat} {T : TypeId} {base g n c i : Nat} {w : World} {xs : List α} (h : Own enc sz T base w (.slice (some ⟨g, 0, none⟩) n c) xs) : w.frozen? ⟨g, i, none⟩ = false := by
  obtain ⟨h1, h2⟩ := h
  rcases h2 with ⟨h2, _⟩ | ⟨g', cap, cur, hv, hg, hh, _⟩
  · cases h2
  · injection hv with e1 e2 e3
    injection e1 with e1; injection e1 with e1
    subst e1
    simp [World.frozen?, hh]
theorem krel_hit {w0 w : World} {g n c : Nat} {rs : List OutR} {i j : Nat} {r q : OutR} (h : KRel w0 (.slice (some ⟨g, 0, none⟩) n c) rs i r (j + 1) false w) (hr : rs[i]? = some r) (hji : j < i) (hq : rs[j]? = some q) (hu : underB r.path q.path = true) :
    KRel w0 (.slice (some ⟨g, 0, none⟩) n c) rs i r j true (w.setCell ⟨g, i * 135 + 1, none⟩ (.int .i64 4)) := by
  obtain ⟨⟨os, h1, h2, h3⟩, _⟩ := h
  have hil := (List.getElem?_eq_some_iff.1 hr).1
  have hb := bk_at hr
  have hol : i < os.length := by rw [h2.1]; simp only [Bool.false_eq_true, if_false]; rw [bk_len]; exact hil
  have ho : os[i]? = some os[i] := List.getElem?_eq_getElem hol
  have hok := h2.2 i _ _ ho (by simpa using hb)
  obtain ⟨hg0, _⟩ := h1.block g rfl
  have hoff : OffL g w (w.setCell ⟨g, i * 135 + 1, none⟩ (.int .i64 4)) := OffL.set w (i * 135 + 1) (.int .i64 4)
  refine ⟨⟨os.set i { os[i] with kind := 4 }, h1.set (fun o _ => encO_length o) ho (by omega) (encO_kind _ 4), ?_, hoff.down h3 hg0⟩, ⟨j, q, hji, hq, hu⟩⟩
  have h2' := h2.off hoff (h1.notTy rfl (by decide))
  simp only [Bool.false_eq_true, if_false, if_true] at h2' ⊢
  refine h2'.set ?_
  have hok' := h2'.2 i _ _ ho hb
  exact { hok' with kind := rfl }
theorem krel_cells {w0 w : World} {R : Option Addr} {n c : Nat} {rs : List OutR} {i j : Nat} {r q : OutR} {b : Bool} {m : Nat} (h : KRel w0 (.slice R n c) rs i r j b w) (hr : rs[i]? = some r) (hq : rs[m]? = some q) :
    ∃ g, R = some ⟨g, 0, none⟩ ∧ w.cell? ⟨g, i * 135, none⟩ = some (.string r.path) ∧ w.cell? ⟨g, m * 135, none⟩ = some (.string q.path) ∧ w.cell? ⟨g, i * 135 + 1, none⟩ = some (.int .i64 (if b then 4 else r.kind)) ∧ w.frozen? ⟨g, i * 135 + 1, none⟩ = false := by
  obtain ⟨⟨os, h1, h2, h3⟩, _⟩ := h
  have hil := (List.getElem?_eq_some_iff.1 hr).1
  have hml := (List.getElem?_eq_some_iff.1 hq).1
  have hlen : os.length = rs.length := by
    rw [h2.1]; split
    · rw [List.length_set, bk_len]
    · rw [bk_len]
  obtain ⟨g, rfl, hcell⟩ := h1.cells (by omega) (fun o _ => encO_length o)
  have ho : os[i]? = some os[i] := List.getElem?_eq_getElem (by omega)
  have hom : os[m]? = some os[m] := List.getElem?_eq_getElem (by omega)
  have hri : ∃ r', (if b then (bk rs i).set i { r with kind := 4 } else bk rs i)[i]? = some r' ∧ r'.path = r.path ∧ r'.kind = if b then 4 else r.kind := by
    cases b with
    | true => exact ⟨{ r with kind := 4 }, by simp only [if_true]; rw [List.getElem?_set_self (by rw [bk_len]; exact hil)], rfl, rfl⟩
    | false => exact ⟨r, by simpa using bk_at hr, rfl, rfl⟩
  have hrm : ∃ q', (if b then (bk rs i).set i { r with kind := 4 } else bk rs i)[m]? = some q' ∧ q'.path = q.path := by
    obtain ⟨q', hq', hp⟩ := bk_path (i := i) hq
    cases b with
    | true =>
      simp only [if_true]
      rw [List.getElem?_set]
      by_cases e : i = m
      · subst e
        rw [if_pos rfl, if_pos (by rw [bk_len]; exact hil)]
        rw [hr] at hq; cases hq
        exact ⟨_, rfl, rfl⟩
      · rw [if_neg e]; exact ⟨q', hq', hp⟩
    | false => exact ⟨q', by simpa using hq', hp⟩
  obtain ⟨r', hr', hp, hk⟩ := hri
  obtain ⟨q', hq', hpq⟩ := hrm
  have k1 := h2.2 i _ _ ho hr'
  have k2 := h2.2 m _ _ hom hq'
  refine ⟨g, rfl, ?_, ?_, ?_, h1.frozen_⟩
  · rw [← hp, ← k1.path]; exact hcell i _ ho 0 _ rfl
  · rw [← hpq, ← k2.path]; exact hcell m _ hom 0 _ rfl
  · rw [← hk, ← k1.kind]; exact hcell i _ ho 1 _ rfl
theorem keepD_sizes {dec : ThreeD → DecR} {S : MS} {l : List ByteArray} (h : ∀ p ∈ l, (S.m p).path.size < 4294967280) : ∀ r ∈ keepD dec S l, r.path.size < 4294967280 := by
  intro r hr
  unfold keepD at hr
  obtain ⟨p, hp, hr⟩ := List.mem_flatMap.1 hr
  split at hr
  · rw [List.mem_singleton] at hr
    subst hr
    exact h p hp
  · cases hr
theorem KRel.ext {w0 w w' : World} {out : Value} {rs : List OutR} {i j : Nat} {r : OutR} {b : Bool} (h : KRel w0 out rs i r j b w) (he : Ext w w') : KRel w0 out rs i r j b w' := by
  obtain ⟨⟨os, h1, h2, h3⟩, h4⟩ := h
  exact ⟨⟨os, h1.ext he, h2.ext he, h3.trans he⟩, h4⟩
theorem decIs_ok {w : World} {B : Nat} {t : ThreeD} {d : DecR} (h : DecIs w B t d) (ht : t.text = .slice none 0 0) : ∃ o, IsT w B o ∧ o.path = t.path ∧ OutOk w o (outR t d) := by
  obtain ⟨v, h1, h2⟩ := h
  refine ⟨_, h1, rfl, ⟨rfl, rfl, rfl, rfl, rfl, rfl, rfl, rfl, rfl, rfl, ?_⟩⟩
  show TSl encB 1 5 w v (d.text.getD [])
  cases hd : d.text with
  | none => rw [hd] at h2; rw [h2, ht]; exact TSl.nil _ _ _ _
  | some s => rw [hd] at h2; exact h2
end Go.Proofs.YtaeleagkpgbmaaaGreatDoor
