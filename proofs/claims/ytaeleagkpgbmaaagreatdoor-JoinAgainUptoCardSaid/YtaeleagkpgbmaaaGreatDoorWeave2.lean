/- Package weave: the loom. -/
import Derived.Test.YtaeleagkpgbmaaaGreatDoorWeave1
import Derived.Deep.RegionHeld3
import Derived.Deep.DeepCutAuto
import Derived.Deep.AppendLies
namespace Go.Proofs.YtaeleagkpgbmaaaGreatDoor
open Go.RowKit
set_option linter.unusedSimpArgs false
set_option linter.unusedVariables false

/-- all that was there is as it was, but for block L -/
def OffL (L : Nat) (w w' : World) : Prop := w'.os = w.os ∧ w'.tape = w.tape ∧ w'.output = w.output ∧ w.heap.size ≤ w'.heap.size ∧ ∀ k, k < w.heap.size → k ≠ L → w'.heap[k]? = w.heap[k]?
theorem OffL.refl (L : Nat) (w : World) : OffL L w w := ⟨rfl, rfl, rfl, Nat.le_refl _, fun _ _ _ => rfl⟩
theorem OffL.trans {L : Nat} {a b c : World} (h : OffL L a b) (k : OffL L b c) : OffL L a c :=
  ⟨k.1.trans h.1, k.2.1.trans h.2.1, k.2.2.1.trans h.2.2.1, Nat.le_trans h.2.2.2.1 k.2.2.2.1, fun i hi hn => (k.2.2.2.2 i (Nat.lt_of_lt_of_le hi h.2.2.2.1) hn).trans (h.2.2.2.2 i hi hn)⟩
theorem OffL.ext {L : Nat} {w w' : World} (h : Ext w w') : OffL L w w' := by
  obtain ⟨h1, h2, h3, h4, h5⟩ := h
  exact ⟨h1, h2, h3, h4, fun k hk _ => h5 k hk⟩
theorem OffL.set {L : Nat} (w : World) (j : Nat) (v : Value) : OffL L w (w.setCell ⟨L, j, none⟩ v) :=
  ⟨rfl, rfl, rfl, by simp [World.setCell], fun k hk hn => Below.heap_setCell w _ _ k hn⟩
theorem OffL.down {L : Nat} {w0 w w' : World} (h : OffL L w w') (he : Ext w0 w) (hL : w0.heap.size ≤ L) : Ext w0 w' := by
  obtain ⟨h1, h2, h3, h4, h5⟩ := h
  obtain ⟨e1, e2, e3, e4, e5⟩ := he
  exact ⟨h1.trans e1, h2.trans e2, h3.trans e3, Nat.le_trans e4 h4, fun k hk => (h5 k (Nat.lt_of_lt_of_le hk e4) (by omega)).trans (e5 k hk)⟩
section
variable {α : Type} {enc : α → List Value} {sz : Nat} {T : TypeId} {base : Nat} {w w' : World} {v : Value} {xs : List α}
theorem Own.typ (h : Own enc sz T base w v xs) {L U : Nat} {l : List Value} (hB : Blk w L U l) (hTU : T ≠ U) : v.ownBlock ≠ some L := by
  obtain ⟨h1, h2⟩ := h
  rcases h2 with ⟨rfl, _⟩ | ⟨g, cap, cur, rfl, hg, hh, _⟩
  · simp [Value.ownBlock]
  · intro hL
    simp [Value.ownBlock] at hL
    subst hL
    unfold Blk at hB
    rw [hB] at hh
    injection hh with hh
    injection hh with _ hh _
    exact hTU hh.symm
theorem Own.typs {β : Type} {enc' : β → List Value} {sz' : Nat} {T' : TypeId} {base' : Nat} {v' : Value} {ys : List β} (h : Own enc sz T base w v xs) (h' : Own enc' sz' T' base' w v' ys) (hT : T ≠ T') : v.ownBlock = none ∨ v.ownBlock ≠ v'.ownBlock := by
  obtain ⟨h1, h2⟩ := h
  obtain ⟨h1', h2'⟩ := h'
  rcases h2 with ⟨rfl, _⟩ | ⟨g, cap, cur, rfl, hg, hh, _⟩
  · exact .inl rfl
  · rcases h2' with ⟨rfl, _⟩ | ⟨g', cap', cur', rfl, hg', hh', _⟩
    · exact .inr (by simp [Value.ownBlock])
    · refine .inr (fun hL => ?_)
      simp [Value.ownBlock] at hL
      subst hL
      rw [hh] at hh'
      injection hh' with hh'
      injection hh' with _ hh' _
      exact hT hh'
theorem Own.form (h : Own enc sz T base w v xs) : ∃ R C, v = .slice R xs.length C := by
  obtain ⟨h1, h2⟩ := h
  rcases h2 with ⟨rfl, h0⟩ | ⟨g, cap, cur, rfl, _⟩
  · exact ⟨none, 0, by rw [h0]⟩
  · exact ⟨_, _, rfl⟩
theorem Own.offL {L : Nat} (h : Own enc sz T base w v xs) (ho : OffL L w w') (hL : v.ownBlock ≠ some L) : Own enc sz T base w' v xs := by
  obtain ⟨h1, h2⟩ := h
  refine ⟨h1, ?_⟩
  rcases h2 with h2 | ⟨g, cap, cur, hv, hg, hh, r⟩
  · exact .inl h2
  · refine .inr ⟨g, cap, cur, hv, hg, ?_, r⟩
    have hlt : g < w.heap.size := by
      rcases Nat.lt_or_ge g w.heap.size with hlt | hge
      · exact hlt
      · rw [Array.getElem?_eq_none hge] at hh; cases hh
    rw [ho.2.2.2.2 g hlt (by subst hv; simpa [Value.ownBlock] using hL)]; exact hh
theorem Own.lower {b' : Nat} (h : Own enc sz T base w v xs) (hb : b' ≤ base) : Own enc sz T b' w v xs := by
  obtain ⟨h1, h2⟩ := h
  refine ⟨h1, ?_⟩
  rcases h2 with h2 | ⟨g, cap, cur, hv, hg, r⟩
  · exact .inl h2
  · exact .inr ⟨g, cap, cur, hv, Nat.le_trans hb hg, r⟩
theorem Own.kept {row : Option Nat} (h : Own enc sz T base w v xs) (hg : w.grownBy w' row) (hne : v.ownBlock = none ∨ v.ownBlock ≠ row) : Own enc sz T base w' v xs := World.ownsRow.kept h hg hne
end

theorem Blk.offL {L X : Nat} {w w' : World} {T : TypeId} {l : List Value} (h : Blk w X T l) (ho : OffL L w w') (hne : X ≠ L) : Blk w' X T l := (ho.2.2.2.2 X h.lt hne).trans h
theorem Blk.ne_typ {X L : Nat} {w : World} {T U : TypeId} {l l' : List Value} (h : Blk w X T l) (h' : Blk w L U l') (hT : T ≠ U) : X ≠ L := fun e => by
  subst e
  unfold Blk at h h'
  rw [h] at h'
  injection h' with h'
  injection h' with _ h' _
  exact hT h'
theorem Blk.kept {X : Nat} {w w' : World} {T : TypeId} {l : List Value} {row : Option Nat} (h : Blk w X T l) (hg : w.grownBy w' row) (hne : row ≠ some X) : Blk w' X T l := (hg.block X h.lt (fun e => hne e.symm)).trans h
theorem offNew {L U : Nat} {X w1 : World} {T : TypeId} {l l' : List Value} (h : OffL L (X.alloc (.cells l.toArray T)) w1) (hB : Blk X L U l') : Blk w1 X.heap.size T l ∧ L ≠ X.heap.size := by
  have hlt := hB.lt
  refine ⟨?_, by omega⟩
  have := Blk.new X T l
  unfold Blk at this ⊢
  rw [h.2.2.2.2 X.heap.size (by simp) (by omega)]
  exact this
theorem offOld {L P : Nat} {cur w1 : World} {T : TypeId} {l : List Value} (h : OffL L cur w1) (p : Blk cur P T l ∧ L ≠ P) : Blk w1 P T l ∧ L ≠ P := by
  refine ⟨?_, p.2⟩
  have hlt := p.1.lt
  have := p.1
  unfold Blk at this ⊢
  rw [h.2.2.2.2 P hlt (by have := p.2; omega)]
  exact this
theorem cells4 {w : World} {P L : Nat} {T : TypeId} {a b c d : Value} (h : Blk w P T [a, b, c, d] ∧ L ≠ P) :
    w.cell? ⟨P, 0, none⟩ = some a ∧ w.cell? ⟨P, 1, none⟩ = some b ∧ w.cell? ⟨P, 2, none⟩ = some c ∧ w.cell? ⟨P, 3, none⟩ = some d ∧
    w.frozen? ⟨P, 0, none⟩ = false ∧ w.frozen? ⟨P, 1, none⟩ = false ∧ w.frozen? ⟨P, 2, none⟩ = false ∧ w.frozen? ⟨P, 3, none⟩ = false :=
  ⟨h.1.cell 0, h.1.cell 1, h.1.cell 2, h.1.cell 3, h.1.frozen 0, h.1.frozen 1, h.1.frozen 2, h.1.frozen 3⟩
theorem c195' (L j n : Nat) (l : List Value) (x : Value) (xs : List ByteArray) (w0 w : World) (hB : Blk w L 275 l) (hj : l[j]? = some x) (h : Strs w0 x xs) (he : Ext w0 w) (hL : w0.heap.size ≤ L) (hn : n ≤ xs.length) (N : Int) (hN : N = n) :
    Calls Tryz.prog 195 #[.pointer (some ⟨L, j, none⟩), .int .i64 N] w fun e w' => ∃ R C x', e = .returned (.slice R n C) ∧ OffL L w w' ∧ Blk w' L 275 (l.set j x') ∧ Strs w0 x' (xs.drop n) ∧ Own encS 1 9 w0.heap.size w' (.slice R n C) (xs.take n) := by
  obtain ⟨A, c, rfl, hc, hl, _⟩ := h.open_
  refine (c195 L j n l A c xs w hB hj (h.ext he) hn N hN).mono ?_
  rintro e w' ⟨r, w1, A', c', rfl, hown, he1, rfl, hr⟩
  have hB1 := hB.ext he1
  obtain ⟨R, C, rfl⟩ := hown.form
  have hln : (xs.take n).length = n := by rw [List.length_take]; omega
  rw [hln] at hown ⊢
  refine ⟨R, C, _, rfl, (OffL.ext he1).trans (OffL.set _ _ _), hB1.put _ _, hr w0 h, ?_⟩
  exact Own.lower (Own.offL hown (OffL.set _ _ _) (Own.typ hown hB1 (by decide))) he.size

theorem Own.cells {α : Type} {enc : α → List Value} {sz : Nat} {T : TypeId} {base : Nat} {w : World} {A : Option Addr} {n c : Nat} {xs : List α} (h : Own enc sz T base w (.slice A n c) xs) (hp : 0 < xs.length) (hz : ∀ x ∈ xs, (enc x).length = sz) :
    ∃ g, A = some ⟨g, 0, none⟩ ∧ ∀ (i : Nat) (x : α), xs[i]? = some x → ∀ (j : Nat) (u : Value), (enc x)[j]? = some u → w.cell? ⟨g, i * sz + j, none⟩ = some u := by
  obtain ⟨h1, h2⟩ := h
  rcases h2 with ⟨_, h0⟩ | ⟨g, cap, cur, hv, hg, hh, hc, hm, hs, ht⟩
  · omega
  · injection hv with hA _ _
    refine ⟨g, hA, fun i x hi j u hj => ?_⟩
    have hjs : j < sz := by rw [← hz x (List.mem_of_getElem? hi)]; exact (List.getElem?_eq_some_iff.1 hj).1
    have := flatMap_get enc sz xs hz i x hi j hjs
    rw [← ht, hj, List.getElem?_take] at this
    rw [cell_of_row w g _ cur T (0, 0) hh]
    split at this
    · simpa using this
    · cases this
theorem Blk.grown {w w' : World} {L : Nat} {T : TypeId} {l : List Value} {row : Option Nat} (h : Blk w L T l) (hg : w.grownBy w' row) (hne : some L ≠ row) : Blk w' L T l := (hg.block L h.lt hne).trans h
/-- append of one element, laid in block Bk, at a step of a region that draws -/
theorem step_one {α : Type} {enc : α → List Value} {sz bytes base : Nat} {ST T : TypeId} {z : Value} {ops : Array Oper} {o : Oper} {a : Act} {w : World} {K : Act → World → Prop} {Q : Exit → Act → World → Prop} {E : Prop}
    (R : Row ST T z sz bytes) (hgd : o.guard = none) (s x : Operand) (ho : o.op = .call { callee := .builtin .append, args := #[s, x], argTypes := #[ST, ST] })
    (v : Value) (xs : List α) (y : α) (Bk : Nat) (hs : a.eval s = v) (hx : a.eval x = .slice (some ⟨Bk, 0, none⟩) 1 1) (hown : Own enc sz T base w v xs) (hB : Blk w Bk T (enc y))
    (hl : (enc y).length = sz) (h1 : ∀ u ∈ enc y, u.oneCell' = true) (hn : xs.length < 274877906944) (hb : bytes ≤ 256) (hbase : base ≤ w.heap.size)
    (h : ∀ g cap w', Own enc sz T base w' (.slice (some ⟨g, 0, none⟩) (xs.length + 1) cap) (xs ++ [y]) → w.grownBy w' v.ownBlock → (v.ownBlock = some g ∨ g = w.heap.size) → K (a.put o.dst (.slice (some ⟨g, 0, none⟩) (xs.length + 1) cap)) w') :
    if Region.wanted o (yielded ops a.tmps) = true then Oper.wp Tryz.prog o a w K Q else E := by
  obtain ⟨i0, hi, hz0, hz1, hz2⟩ := info_parts R.info
  refine step_append_lies w hgd s x ST ho base T i0 z sz bytes R.under hi hz0 hz1 hz2 R.cells R.pos v xs.length (xs.flatMap enc) hs hown ⟨Bk, 0, none⟩ 1 1 (enc y) hx (by simpa using hl) (fun j u hj => ?_) h1 (by omega) ?_ ?_ hbase _ rfl ?_
  · rw [Addr.add_mid, hB.cell]
    simpa using hj
  · unfold maxLen; omega
  · have : (xs.length + 1) * bytes ≤ (xs.length + 1) * 256 := Nat.mul_le_mul_left _ hb
    omega
  · intro g cap w' ho' hg hat _
    refine h g cap w' ?_ hg hat
    unfold Own
    rw [List.length_append, List.flatMap_append]
    simpa using ho'

/-- a part: its kind and the three lists -/
structure PartD where
  kind : Nat
  base : List ByteArray
  ours : List ByteArray
  theirs : List ByteArray
deriving DecidableEq
structure PartV where
  kind : Nat
  v1 : Value
  v2 : Value
  v3 : Value
def encV (p : PartV) : List Value := [.int .i64 p.kind, p.v1, p.v2, p.v3]
theorem row220 : Row 220 278 (.agg #[.int .i64 0, .slice none 0 0, .slice none 0 0, .slice none 0 0]) 4 80 := ⟨Tryz.underlying220, by kernel_rfl, rfl, by decide⟩
theorem encV_one {k n1 c1 n2 c2 n3 c3 : Nat} {a1 a2 a3 : Option Addr} : ∀ u ∈ encV ⟨k, .slice a1 n1 c1, .slice a2 n2 c2, .slice a3 n3 c3⟩, u.oneCell' = true := by
  intro u hu
  simp only [encV, List.mem_cons, List.mem_nil_iff, or_false] at hu
  rcases hu with rfl | rfl | rfl | rfl <;> rfl
def PartOk (B : Nat) (w : World) (q : PartV) (p : PartD) : Prop := q.kind = p.kind ∧ Own encS 1 9 B w q.v1 p.base ∧ Own encS 1 9 B w q.v2 p.ours ∧ Own encS 1 9 B w q.v3 p.theirs
def PartsOk (B : Nat) (w : World) (vs : List PartV) (ps : List PartD) : Prop := vs.length = ps.length ∧ ∀ (i : Nat) (q : PartV) (p : PartD), vs[i]? = some q → ps[i]? = some p → PartOk B w q p
/-- what a loom's block and its parts hold -/
structure LoomI (w0 w : World) (L : Nat) (b o t : List ByteArray) (ps : List PartD) : Prop where
  ext : Ext w0 w
  base : w0.heap.size ≤ L
  ex : ∃ x0 x1 x2 pv vs, Blk w L 275 [x0, x1, x2, pv] ∧ Strs w0 x0 b ∧ Strs w0 x1 o ∧ Strs w0 x2 t ∧ Own encV 4 278 w0.heap.size w pv vs ∧ PartsOk w0.heap.size w vs ps

def lastSame (ps : List PartD) : Bool := match ps.getLast? with | some p => p.kind == 0 | none => false
/-- one step of the loom (none: two parts without a change, one behind the other) -/
def addO (b o t : List ByteArray) (ps : List PartD) (i j k : Nat) : Option (List PartD) :=
  if i + j + k = 0 then some ps else
    let p : PartD := ⟨kindF (b.take i) (o.take j) (t.take k), b.take i, o.take j, t.take k⟩
    if p.kind = 0 ∧ lastSame ps = true then none else some (ps ++ [p])

/-- the state behind the three cuts: block P is the new part -/
structure CutSt (w0 w wx : World) (L P : Nat) (b o t : List ByteArray) (i j k : Nat) (A0 : Option Addr) (C0 : Nat) (A1 : Option Addr) (C1 : Nat) (A2 : Option Addr) (C2 : Nat) (x0 x1 x2 pv : Value) : Prop where
  part : Blk wx P 278 [.int .i64 0, .slice A0 i C0, .slice A1 j C1, .slice A2 k C2]
  ne : L ≠ P
  new : w.heap.size ≤ P
  loom : Blk wx L 275 [x0, x1, x2, pv]
  s0 : Strs w0 x0 (b.drop i)
  s1 : Strs w0 x1 (o.drop j)
  s2 : Strs w0 x2 (t.drop k)
  o0 : Own encS 1 9 w0.heap.size wx (.slice A0 i C0) (b.take i)
  o1 : Own encS 1 9 w0.heap.size wx (.slice A1 j C1) (o.take j)
  o2 : Own encS 1 9 w0.heap.size wx (.slice A2 k C2) (t.take k)
  off : OffL L w wx
theorem addO_eq {b o t : List ByteArray} {ps ps' : List PartD} {i j k : Nat} (h : addO b o t ps i j k = some ps') (h0 : ¬ i + j + k = 0) : ps' = ps ++ [⟨kindF (b.take i) (o.take j) (t.take k), b.take i, o.take j, t.take k⟩] := by
  unfold addO at h
  rw [if_neg h0] at h
  simp only at h
  split at h
  · cases h
  · injection h with h
    exact h.symm
theorem addO_same {b o t : List ByteArray} {ps ps' : List PartD} {i j k : Nat} (h : addO b o t ps i j k = some ps') (h0 : ¬ i + j + k = 0) (hK : kindF (b.take i) (o.take j) (t.take k) = 0) : lastSame ps = false := by
  unfold addO at h
  rw [if_neg h0] at h
  simp only [hK, true_and] at h
  split at h
  · cases h
  · rename_i hh
    simpa using hh
section
variable {w0 w w3 : World} {L P : Nat} {b o t : List ByteArray} {i j k : Nat} {A0 : Option Addr} {C0 : Nat} {A1 : Option Addr} {C1 : Nat} {A2 : Option Addr} {C2 : Nat} {x0 x1 x2 pv : Value}
theorem cut_new (b3 : Blk w3 L 275 [x0, x1, x2, pv]) (hs1 : Strs w0 x0 (b.drop i)) (hs2 : Strs w0 x1 (o.drop j)) (hs3 : Strs w0 x2 (t.drop k))
    (q1 : Own encS 1 9 w0.heap.size w3 (.slice A0 i C0) (b.take i)) (q2 : Own encS 1 9 w0.heap.size w3 (.slice A1 j C1) (o.take j)) (q3 : Own encS 1 9 w0.heap.size w3 (.slice A2 k C2) (t.take k)) (kk : OffL L w w3) :
    CutSt w0 w (w3.alloc (Obj.cells #[Value.int IntKind.i64 0, Value.slice A0 i C0, Value.slice A1 j C1, Value.slice A2 k C2] 278)) L w3.heap.size b o t i j k A0 C0 A1 C1 A2 C2 x0 x1 x2 pv :=
  ⟨Blk.new w3 278 _, by have := b3.lt; omega, kk.2.2.2.1, b3.ext (Ext.alloc _ _), hs1, hs2, hs3, q1.alloc _, q2.alloc _, q3.alloc _, kk.trans (OffL.ext (Ext.alloc _ _))⟩
theorem cut_old (b3 : Blk w3 L 275 [x0, x1, x2, pv]) (hs1 : Strs w0 x0 (b.drop i)) (hs2 : Strs w0 x1 (o.drop j)) (hs3 : Strs w0 x2 (t.drop k))
    (q1 : Own encS 1 9 w0.heap.size w3 (.slice A0 i C0) (b.take i)) (q2 : Own encS 1 9 w0.heap.size w3 (.slice A1 j C1) (o.take j)) (q3 : Own encS 1 9 w0.heap.size w3 (.slice A2 k C2) (t.take k)) (kk : OffL L w w3)
    {y0 y1 y2 y3 : Value} (p3 : Blk w3 P 278 [y0, y1, y2, y3] ∧ L ≠ P) (hP : w.heap.size ≤ P) :
    CutSt w0 w ((((w3.setCell { block := P, off := 0 } (Value.int IntKind.i64 0)).setCell { block := P, off := 1 } (Value.slice A0 i C0)).setCell { block := P, off := 2 } (Value.slice A1 j C1)).setCell { block := P, off := 3 } (Value.slice A2 k C2)) L P b o t i j k A0 C0 A1 C1 A2 C2 x0 x1 x2 pv := by
  have f0 := (((p3.1.put 0 (Value.int IntKind.i64 0)).put 1 (Value.slice A0 i C0)).put 2 (Value.slice A1 j C1)).put 3 (Value.slice A2 k C2)
  have o1 : OffL P w3 ((((w3.setCell { block := P, off := 0 } (Value.int IntKind.i64 0)).setCell { block := P, off := 1 } (Value.slice A0 i C0)).setCell { block := P, off := 2 } (Value.slice A1 j C1)).setCell { block := P, off := 3 } (Value.slice A2 k C2)) :=
    (((OffL.set w3 0 _).trans (OffL.set _ 1 _)).trans (OffL.set _ 2 _)).trans (OffL.set _ 3 _)
  refine ⟨f0, p3.2, hP, ?_, hs1, hs2, hs3, q1.offL o1 (q1.typ p3.1 (by decide)), q2.offL o1 (q2.typ p3.1 (by decide)), q3.offL o1 (q3.typ p3.1 (by decide)), ?_⟩
  · exact (((b3.far p3.2 _).far p3.2 _).far p3.2 _).far p3.2 _
  · obtain ⟨g1, g2, g3, g4, g5⟩ := o1
    obtain ⟨h1, h2, h3, h4, h5⟩ := kk
    exact ⟨g1.trans h1, g2.trans h2, g3.trans h3, Nat.le_trans h4 g4, fun m hm hne => (g5 m (Nat.lt_of_lt_of_le hm h4) (by omega)).trans (h5 m hm hne)⟩
theorem PartsOk.off {B M : Nat} {w w' : World} {vs : List PartV} {ps : List PartD} {T : TypeId} {l : List Value} (h : PartsOk B w vs ps) (hB : Blk w M T l) (hT : 9 ≠ T) (ho : OffL M w w') : PartsOk B w' vs ps :=
  ⟨h.1, fun i q p hq hp => by
    obtain ⟨h1, h2, h3, h4⟩ := h.2 i q p hq hp
    exact ⟨h1, h2.offL ho (h2.typ hB hT), h3.offL ho (h3.typ hB hT), h4.offL ho (h4.typ hB hT)⟩⟩
theorem after_kind {wx : World} {vs : List PartV} {ps : List PartD} {y0 y1 y2 : Value} (h : CutSt w0 w wx L P b o t i j k A0 C0 A1 C1 A2 C2 x0 x1 x2 pv) (hB : Blk w L 275 [y0, y1, y2, pv]) (hpv : Own encV 4 278 w0.heap.size w pv vs) (hok : PartsOk w0.heap.size w vs ps) (he : Ext w0 w) (hLb : w0.heap.size ≤ L) (q K : Nat) :
    Blk ((wx.drewN q).setCell ⟨P, 0, none⟩ (.int .i64 K)) P 278 [.int .i64 K, .slice A0 i C0, .slice A1 j C1, .slice A2 k C2] ∧
    Blk ((wx.drewN q).setCell ⟨P, 0, none⟩ (.int .i64 K)) L 275 [x0, x1, x2, pv] ∧ Own encV 4 278 w0.heap.size ((wx.drewN q).setCell ⟨P, 0, none⟩ (.int .i64 K)) pv vs ∧
    PartsOk w0.heap.size ((wx.drewN q).setCell ⟨P, 0, none⟩ (.int .i64 K)) vs ps ∧
    Own encS 1 9 w0.heap.size ((wx.drewN q).setCell ⟨P, 0, none⟩ (.int .i64 K)) (.slice A0 i C0) (b.take i) ∧ Own encS 1 9 w0.heap.size ((wx.drewN q).setCell ⟨P, 0, none⟩ (.int .i64 K)) (.slice A1 j C1) (o.take j) ∧
    Own encS 1 9 w0.heap.size ((wx.drewN q).setCell ⟨P, 0, none⟩ (.int .i64 K)) (.slice A2 k C2) (t.take k) ∧ Ext w0 ((wx.drewN q).setCell ⟨P, 0, none⟩ (.int .i64 K)) ∧ ∀ X l, Blk w X 276 l → Blk ((wx.drewN q).setCell ⟨P, 0, none⟩ (.int .i64 K)) X 276 l := by
  have hP : Blk (wx.drewN q) P 278 _ := h.part
  have hL : Blk (wx.drewN q) L 275 _ := h.loom
  have o1 : OffL L w (wx.drewN q) := h.off.trans (OffL.ext (Ext.drewN wx q))
  have o2 : OffL P (wx.drewN q) ((wx.drewN q).setCell ⟨P, 0, none⟩ (.int .i64 K)) := OffL.set _ _ _
  have hq := hpv.offL o1 (hpv.typ hB (by decide))
  refine ⟨hP.put 0 _, hL.far h.ne _, hq.offL o2 (fun hh => ?_), (hok.off hB (by decide) o1).off hP (by decide) o2, Own.offL (w := wx.drewN q) h.o0 o2 (Own.typ (w := wx.drewN q) h.o0 hP (by decide)), Own.offL (w := wx.drewN q) h.o1 o2 (Own.typ (w := wx.drewN q) h.o1 hP (by decide)), Own.offL (w := wx.drewN q) h.o2 o2 (Own.typ (w := wx.drewN q) h.o2 hP (by decide)), o2.down (o1.down he hLb) (by have := h.new; have := he.size; omega), fun X l hX => (hX.offL o1 (hX.ne_typ hB (by decide))).offL o2 (by have := hX.lt; have := h.new; omega)⟩
  have := (hpv.block P hh).2
  have := h.new
  omega
theorem add_same {wc : World} {vs : List PartV} {ps : List PartD} {A : Option Addr} {n C : Nat} (hpv : Own encV 4 278 w0.heap.size wc (.slice A n C) vs) (hok : PartsOk w0.heap.size wc vs ps) (hn : 0 < ps.length) (hl : lastSame ps = false) :
    ∃ g K, A = some ⟨g, 0, none⟩ ∧ wc.cell? ⟨g, (ps.length - 1) * 4, none⟩ = some (.int .i64 K) ∧ ((K == 0) = false) := by
  have hvl := hok.1
  obtain ⟨g, rfl, hc⟩ := hpv.cells (by omega) (fun _ _ => rfl)
  have h1 : vs[ps.length - 1]? = some vs[ps.length - 1] := List.getElem?_eq_getElem (by omega)
  have h2 : ps[ps.length - 1]? = some ps[ps.length - 1] := List.getElem?_eq_getElem (by omega)
  have h3 := (hok.2 _ _ _ h1 h2).1
  have h4 := hc _ _ h1 0 _ rfl
  refine ⟨g, _, rfl, h4, ?_⟩
  unfold lastSame at hl
  rw [List.getLast?_eq_getElem?, h2] at hl
  simp only at hl
  rw [h3]
  rw [beq_eq_false_iff_ne] at hl ⊢
  omega
theorem add_end {wc w5 : World} {vs : List PartV} {ps : List PartD} {K : Nat} {y : Value} (hL4 : Blk wc L 275 [x0, x1, x2, y]) (hpv4 : Own encV 4 278 w0.heap.size wc y vs) (hok4 : PartsOk w0.heap.size wc vs ps) (hLb : w0.heap.size ≤ L)
    (q1 : Own encS 1 9 w0.heap.size wc (.slice A0 i C0) (b.take i)) (q2 : Own encS 1 9 w0.heap.size wc (.slice A1 j C1) (o.take j)) (q3 : Own encS 1 9 w0.heap.size wc (.slice A2 k C2) (t.take k))
    (hs0 : Strs w0 x0 (b.drop i)) (hs1 : Strs w0 x1 (o.drop j)) (hs2 : Strs w0 x2 (t.drop k)) (he4 : Ext w0 wc) (ob : Obj) (hg : (wc.drew.alloc ob).grownBy w5 y.ownBlock) (v : Value)
    (hown : Own encV 4 278 w0.heap.size w5 v (vs ++ [⟨K, .slice A0 i C0, .slice A1 j C1, .slice A2 k C2⟩])) :
    LoomI w0 (w5.setCell ⟨L, 3, none⟩ v) L (b.drop i) (o.drop j) (t.drop k) (ps ++ [⟨K, b.take i, o.take j, t.take k⟩]) ∧ ∀ X l, Blk wc X 276 l → Blk (w5.setCell ⟨L, 3, none⟩ v) X 276 l := by
  have ea : Ext wc (wc.drew.alloc ob) := (Ext.drew wc).trans (Ext.alloc _ _)
  have hLa := hL4.ext ea
  have hpa := hpv4.ext ea
  have hL5 : Blk w5 L 275 [x0, x1, x2, y] := hLa.grown hg (fun h => hpv4.typ hL4 (by decide) h.symm)
  have oL : OffL L w5 (w5.setCell ⟨L, 3, none⟩ v) := OffL.set _ _ _
  have keep : ∀ {v' : Value} {xs : List ByteArray}, Own encS 1 9 w0.heap.size wc v' xs → Own encS 1 9 w0.heap.size (w5.setCell ⟨L, 3, none⟩ v) v' xs := fun h => by
    have h5 := (h.ext ea).kept hg ((h.ext ea).typs hpa (by decide))
    exact h5.offL oL (h5.typ hL5 (by decide))
  have e5 : Ext w0 w5 := (he4.trans ea).grown hg (fun m hm => (hpv4.block m hm).1)
  refine ⟨⟨oL.down e5 hLb, hLb, x0, x1, x2, v, _, hL5.put 3 v, hs0, hs1, hs2, hown.offL oL (hown.typ hL5 (by decide)), ?_, ?_⟩, fun X l hX => ?_⟩
  rotate_left 2
  · have hXa := hX.ext ea
    have hX5 := hXa.kept hg (hpa.typ hXa (by decide))
    exact hX5.offL oL (hX5.ne_typ hL5 (by decide))
  · simp [hok4.1]
  · intro m q p hq hp
    rcases Nat.lt_or_ge m vs.length with hm | hm
    · rw [List.getElem?_append_left hm] at hq
      rw [List.getElem?_append_left (by rw [← hok4.1]; exact hm)] at hp
      obtain ⟨h1, h2, h3, h4⟩ := hok4.2 m q p hq hp
      exact ⟨h1, keep h2, keep h3, keep h4⟩
    · rw [List.getElem?_append_right hm] at hq
      rw [List.getElem?_append_right (by rw [← hok4.1]; exact hm)] at hp
      rw [← hok4.1] at hp
      have hz : m - vs.length = 0 := by
        have := (List.getElem?_eq_some_iff.1 hq).1
        simp at this; omega
      rw [hz] at hq hp
      simp at hq hp
      subst hq; subst hp
      exact ⟨rfl, keep q1, keep q2, keep q3⟩
end
set_option maxRecDepth 10000 in
set_option maxHeartbeats 1000000 in
theorem c173 (w0 w : World) (L : Nat) (b o t : List ByteArray) (ps ps' : List PartD) (i j k : Nat) (h : LoomI w0 w L b o t ps) (hi : i ≤ b.length) (hj : j ≤ o.length) (hk : k ≤ t.length)
    (hb : b.length ≤ 600) (ho : o.length ≤ 600) (ht : t.length ≤ 600) (hps : ps.length ≤ 2000) (hadd : addO b o t ps i j k = some ps') :
    Calls Tryz.prog 173 #[.pointer (some ⟨L, 0, none⟩), .int .i64 i, .int .i64 j, .int .i64 k] w fun e w' => e = .returned (.tuple #[]) ∧ LoomI w0 w' L (b.drop i) (o.drop j) (t.drop k) ps' ∧ ∀ X l, Blk w X 276 l → Blk w' X 276 l := by
  have Hh := Lib.hid h
  have Hadd := Lib.hid hadd
  go_enter Tryz.func173, Tryz.ntmps173
  by_cases h0 : i + j + k = 0
  · obtain ⟨rfl, rfl, rfl⟩ : i = 0 ∧ j = 0 ∧ k = 0 := ⟨by omega, by omega, by omega⟩
    clear h hadd
    go_wp2_with fail
    refine bodyPost_ret (results_none rfl _ _ _) rfl ?_
    have := Hadd.out
    simp [addO] at this
    subst this
    exact ⟨rfl, Hh.out, fun _ _ h => h⟩
  · obtain ⟨he, hL, x0, x1, x2, pv, vs, hB, hs0, hs1, hs2, hpv, hok⟩ := h
    obtain ⟨Rp, Cp, rfl⟩ := hpv.form
    have hvl : vs.length = ps.length := hok.1
    have H0 := fun w' hB he => c195' L 0 i [x0, x1, x2, .slice Rp vs.length Cp] x0 b w0 w' hB rfl hs0 he hL hi (i : Int) rfl
    have H1 := fun x0' w' hB he => c195' L 1 j [x0', x1, x2, .slice Rp vs.length Cp] x1 o w0 w' hB rfl hs1 he hL hj (j : Int) rfl
    have H2 := fun x0' x1' w' hB he => c195' L 2 k [x0', x1', x2, .slice Rp vs.length Cp] x2 t w0 w' hB rfl hs2 he hL hk (k : Int) rfl
    have H0 := Lib.hid H0
    have H1 := Lib.hid H1
    have H2 := Lib.hid H2
    have Hok := Lib.hid hok
    have Hpv := Lib.hid hpv
    have He := Lib.hid he
    have HB := Lib.hid hB
    clear hadd hok hpv hs0 hs1 hs2
    have hz : ((i : Int) + (j : Int) + (k : Int) == 0) = false := by rw [beq_eq_false_iff_ne]; omega
    go_upto_region 1 with fail
    go_cut [8] (fun s8 wx => ∃ P A0 C0 A1 C1 A2 C2 x0' x1' x2', s8 = .pointer (some ⟨P, 0, none⟩) ∧ CutSt w0 w wx L P b o t i j k A0 C0 A1 C1 A2 C2 x0' x1' x2' (.slice Rp vs.length Cp))
    case first =>
      have e0 : Ext w0 w.drew := He.out.trans (Ext.drew w)
      have b0 : Blk w.drew L 275 [x0, x1, x2, .slice Rp vs.length Cp] := HB.out
      go_region_held3 (fun _ => True) (exact True.intro) (first | (go_at_call 195; (first
        | ((with_reducible refine (H0.out _ (by first | assumption | exact Blk.ext (by assumption) (Ext.alloc _ _)) (by first | assumption | exact Ext.trans (by assumption) (Ext.alloc _ _))).mono ?_); rintro e w1 ⟨R0, C0, x0', rfl, ho1, hb1, hs1, hown1⟩; have e1 : Ext w0 w1 := OffL.down ho1 (by first | assumption | exact Ext.trans (by assumption) (Ext.alloc _ _)) hL; have b1 : Blk w1 L 275 [x0', x1, x2, .slice Rp vs.length Cp] := hb1; (try have p1 : Blk w1 w.heap.size 278 _ ∧ L ≠ w.heap.size := offNew ho1 b0))
        | ((with_reducible refine (H1.out _ _ (by first | assumption | exact Blk.ext (by assumption) (Ext.alloc _ _)) (by first | assumption | exact Ext.trans (by assumption) (Ext.alloc _ _))).mono ?_); rintro e w2 ⟨R1, C1, x1', rfl, ho2, hb2, hs2, hown2⟩; have e2 : Ext w0 w2 := OffL.down ho2 (by first | assumption | exact Ext.trans (by assumption) (Ext.alloc _ _)) hL; have b2 : Blk w2 L 275 [x0', x1', x2, .slice Rp vs.length Cp] := hb2; (try have p2 := offNew ho2 (by assumption)); (try have p2 := offOld ho2 p1))
        | ((with_reducible refine (H2.out _ _ _ (by first | assumption | exact Blk.ext (by assumption) (Ext.alloc _ _)) (by first | assumption | exact Ext.trans (by assumption) (Ext.alloc _ _))).mono ?_); rintro e w3 ⟨R2, C2, x2', rfl, ho3, hb3, hs3, hown3⟩; have e3 : Ext w0 w3 := OffL.down ho3 (by first | assumption | exact Ext.trans (by assumption) (Ext.alloc _ _)) hL; have b3 : Blk w3 L 275 [x0', x1', x2', .slice Rp vs.length Cp] := hb3; (try have p3 := offNew ho3 (by assumption)); (try have p3 := offOld ho3 p2); (try (have p4 := cells4 p3; obtain ⟨pc0, pc1, pc2, pc3, pf0, pf1, pf2, pf3⟩ := p4))))))

      all_goals (go_wp2_with fail; go_meet)
      all_goals clear H0 H1 H2 hb1 hb2 hb3
      all_goals refine ⟨_, R0, C0, R1, C1, R2, C2, x0', x1', x2', rfl, ?_⟩
      all_goals have k1 : OffL L w w1 := (by first | exact (OffL.ext (Ext.drew w)).trans ho1 | exact (OffL.ext ((Ext.drew w).trans (Ext.alloc _ _))).trans ho1 | exact (OffL.ext ((Ext.alloc w _).trans (Ext.drew _))).trans ho1)
      all_goals have k2 : OffL L w1 w2 := (by first | exact ho2 | exact (OffL.ext (Ext.alloc _ _)).trans ho2)
      all_goals have k3 : OffL L w2 w3 := (by first | exact ho3 | exact (OffL.ext (Ext.alloc _ _)).trans ho3)
      all_goals have hq1 := Own.offL (Own.offL hown1 k2 (Own.typ hown1 b1 (by decide))) k3 (Own.typ hown1 b1 (by decide))
      all_goals have hq2 := Own.offL hown2 k3 (Own.typ hown2 b2 (by decide))
      all_goals have kk := (k1.trans k2).trans k3
      · exact cut_new b3 hs1 hs2 hs3 hq1 hq2 hown3 kk
      · exact cut_old b3 hs1 hs2 hs3 hq1 hq2 hown3 kk p3 (k1.trans k2).2.2.2.1
      · exact cut_old b3 hs1 hs2 hs3 hq1 hq2 hown3 kk p3 k1.2.2.2.1
      · exact cut_old b3 hs1 hs2 hs3 hq1 hq2 hown3 kk p3 (Nat.le_refl _)
    case rest =>
      obtain ⟨P, A0, C0, A1, C1, A2, C2, x0', x1', x2', rfl, hst⟩ := hcut
      rename World => wx
      clear H0 H1 H2
      have hpc0 := hst.part.cell 0
      have hpc1 := hst.part.cell 1
      have hpc2 := hst.part.cell 2
      have hpc3 := hst.part.cell 3
      have hpf0 := hst.part.frozen 0
      have H196 := Lib.hid (c196 (.slice A0 i C0) (.slice A1 j C1) (.slice A2 k C2) (b.take i) (o.take j) (t.take k) wx (Own.sl hst.o0 (fun _ _ => rfl) (by rw [List.length_take]; omega)) (Own.sl hst.o1 (fun _ _ => rfl) (by rw [List.length_take]; omega)) (Own.sl hst.o2 (fun _ _ => rfl) (by rw [List.length_take]; omega)))
      have Hst := Lib.hid hst
      clear hst
      go_upto_region 2 with fail
      go_cut [8] (fun s8 w4 => s8 = .pointer (some ⟨P, 0, none⟩) ∧ Blk w4 P 278 [.int .i64 (kindF (b.take i) (o.take j) (t.take k)), .slice A0 i C0, .slice A1 j C1, .slice A2 k C2] ∧
        Blk w4 L 275 [x0', x1', x2', .slice Rp vs.length Cp] ∧ Own encV 4 278 w0.heap.size w4 (.slice Rp vs.length Cp) vs ∧ PartsOk w0.heap.size w4 vs ps ∧
        Own encS 1 9 w0.heap.size w4 (.slice A0 i C0) (b.take i) ∧ Own encS 1 9 w0.heap.size w4 (.slice A1 j C1) (o.take j) ∧ Own encS 1 9 w0.heap.size w4 (.slice A2 k C2) (t.take k) ∧ Ext w0 w4 ∧ ∀ X l, Blk w X 276 l → Blk w4 X 276 l)
      case first =>
        go_wp2_with fail
        refine H196.out.mono ?_
        rintro e w' ⟨rfl, q, rfl⟩
        go_wp2_with fail
        go_meet
        exact ⟨rfl, after_kind Hst.out HB.out Hpv.out Hok.out He.out hL q _⟩
      case rest =>
        obtain ⟨rfl, hP4, hL4, hpv4, hok4, ho0, ho1, ho2, he4, hX4⟩ := hcut
        rename World => w4
        have hc4 := hL4.cell 3
        have hp4 := hP4.cell 0
        have hp41 := hP4.cell 1
        have hp42 := hP4.cell 2
        have hp43 := hP4.cell 3
        have hsame : kindF (b.take i) (o.take j) (t.take k) = 0 → 0 < ps.length → ∃ g K, Rp = some ⟨g, 0, none⟩ ∧ w4.cell? ⟨g, (ps.length - 1) * 4, none⟩ = some (.int .i64 K) ∧ ((K == 0) = false) := fun hK hn => add_same hpv4 hok4 hn (addO_same Hadd.out h0 hK)
        have hps' := addO_eq Hadd.out h0
        clear hpc0 hpc1 hpc2 hpc3 hpf0 H196
        generalize kindF (b.take i) (o.take j) (t.take k) = K at *
        have Hvs := Lib.hid (show vs.length ≤ 2000 by omega)
        have Hvl := Lib.hid hvl
        simp only [hvl] at hB hc4 hL4 hpv4 Hpv HB H0 H1 H2
        clear hvl
        go_upto_region 4 with fail
        go_cut [8, 64] (fun s8 s64 wx => s8 = .pointer (some ⟨P, 0, none⟩) ∧ s64 = .bool false ∧ wx = w4)
        case first =>
          by_cases hK : K = 0
          · by_cases hn : 0 < ps.length
            · obtain ⟨g, K', rfl, hck, hkk⟩ := hsame hK hn
              subst hK
              go_wp2_with fail
              go_meet
              exact ⟨rfl, rfl, rfl⟩
            · subst hK
              go_wp2_with fail
              go_meet
              exact ⟨rfl, by simp [hn], rfl⟩
          · have hK' : ((K : Int) == 0) = false := by rw [beq_eq_false_iff_ne]; omega
            go_wp2_with fail
            go_meet
            exact ⟨rfl, rfl, rfl⟩
        case rest =>
          obtain ⟨rfl, rfl, rfl⟩ := hcut
          clear hsame
          have eb : w0.heap.size ≤ wc.heap.size := he4.size
          have hne : some L ≠ (Value.slice Rp ps.length Cp).ownBlock := fun h => hpv4.typ hL4 (by decide) h.symm
          have hcA : ∀ o, (wc.alloc o).cell? ⟨L, 3, none⟩ = some (.slice Rp ps.length Cp) := fun o => (Ext.alloc wc o).cells (hL4.cell 3)
          go_wp2_with fail
          go_region_law (first | (refine step_one row220 rfl _ _ rfl _ vs ⟨K, .slice A0 i C0, .slice A1 j C1, .slice A2 k C2⟩ _ rfl rfl (Own.alloc hpv4 _) (Blk.new wc.drew 278 _) rfl encV_one (by have := Hvs.out; omega) (by omega) (Nat.le_trans eb (by simp)) ?_; intro g cap w5 hown5 hg5 hat5; have hL5 := Blk.grown (hL4.ext ((Ext.drew wc).trans (Ext.alloc _ _))) hg5 hne; have hl5 := hL5.cell 3; have hf5 := hL5.frozen 3))
          all_goals
            refine bodyPost_end (results_none rfl _ _ _) rfl ?_
            rw [hps']
            have hend := add_end hL4 hpv4 hok4 hL ho0 ho1 ho2 Hst.out.s0 Hst.out.s1 Hst.out.s2 he4 _ hg5 _ hown5
            exact ⟨rfl, hend.1, fun X l hX => hend.2 X l (hX4 X l hX)⟩
end Go.Proofs.YtaeleagkpgbmaaaGreatDoor
