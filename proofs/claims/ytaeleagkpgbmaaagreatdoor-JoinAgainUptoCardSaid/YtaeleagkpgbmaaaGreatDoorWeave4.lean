/- weave.Text where there is no conflict; lines.Join. -/
import Derived.Test.YtaeleagkpgbmaaaGreatDoorWeave3
import Derived.Laws.AppendOwnNone
namespace Go.Proofs.YtaeleagkpgbmaaaGreatDoor
open Go.RowKit
set_option linter.unusedSimpArgs false
set_option linter.unusedVariables false

section
variable {ops : Array Oper} {rest : List Oper} {op : Oper} {a : Act} {w : World} {Q : Exit → Act → World → Prop}
/-- out = append(out, x...): a slice that reads as a list, nil or not -/
theorem wpList_append_many {α : Type} {enc : α → List Value} {sz bytes base : Nat} {ST T : TypeId} {z : Value} (R : Row ST T z sz bytes)
    (hgd : op.guard = none) (s x : Operand) (ho : op.op = .call { callee := .builtin .append, args := #[s, x], argTypes := #[ST, ST] })
    (v : Value) (xs ys : List α) (u : Value) (hs : a.eval s = v) (hx : a.eval x = u) (hown : Own enc sz T base w v xs) (hy : Sl enc sz w u ys)
    (h1 : ∀ y ∈ ys, ∀ u ∈ enc y, u.oneCell' = true) (hn : xs.length + ys.length < 274877906944) (hb : bytes ≤ 256) (hbase : base ≤ w.heap.size)
    (h : ∀ v' w', Own enc sz T base w' v' (xs ++ ys) → w.grownBy w' v.ownBlock → wpList Tryz.prog ops Q rest (a.put op.dst v') w') :
    wpList Tryz.prog ops Q (op :: rest) a w := by
  obtain ⟨i0, hi, hz0, hz1, hz2⟩ := info_parts R.info
  obtain ⟨hl, A, c, rfl, hc, hz, hcells⟩ := hy
  cases A with
  | none =>
    obtain rfl := hc.2 rfl
    have h0 : ys = [] := List.length_eq_zero_iff.1 (by have := hc.1; omega)
    subst h0
    refine wpList_append_own_none hgd s x ST ho base T i0 sz R.under hi v xs.length (xs.flatMap enc) hs hown hx ?_
    refine h v w ?_ (World.grownBy.refl _ _)
    rw [List.append_nil]; exact hown
  | some ad =>
    refine wpList_append_own _ hgd s x ST ho base T i0 z sz bytes R.under hi hz0 hz1 hz2 R.cells R.pos v xs.length (xs.flatMap enc) hs hown ad ys.length c (ys.flatMap enc) hx (flatMap_len enc sz ys hz) ?_ ?_ ?_ ?_ hbase ?_
    · intro j u hj
      have hjl := (List.getElem?_eq_some_iff.1 hj).1
      rw [flatMap_len enc sz ys hz] at hjl
      have hp : 0 < ys.length := by
        rcases Nat.eq_zero_or_pos ys.length with h0 | h0
        · rw [h0] at hjl; omega
        · exact h0
      have hsz := R.pos
      obtain ⟨b, off, hA, hb', hcc⟩ := hcells hp
      have hA := Option.some.inj hA
      subst hA
      have hdiv : j / sz < ys.length := by rw [Nat.div_lt_iff_lt_mul hsz]; exact hjl
      have hj' : ys[j / sz]? = some ys[j / sz] := List.getElem?_eq_getElem hdiv
      have hm := Nat.mod_lt j hsz
      have hdm : j / sz * sz + j % sz = j := by rw [Nat.mul_comm]; exact Nat.div_add_mod j sz
      have hg := flatMap_get enc sz ys hz (j / sz) _ hj' (j % sz) hm
      rw [hdm, hj] at hg
      have := hcc (j / sz) _ hj' (j % sz) u hg.symm
      rw [Addr.add_mid, show off + j = off + j / sz * sz + j % sz by omega]
      exact this
    · intro u hu
      obtain ⟨y, hy, hu⟩ := List.mem_flatMap.1 hu
      exact h1 y hy u hu
    · unfold maxLen; omega
    · have : (xs.length + ys.length) * bytes ≤ (xs.length + ys.length) * 256 := Nat.mul_le_mul_left _ hb
      omega
    · intro v' w' ho' hg _
      refine h v' w' ?_ hg
      unfold Own
      rw [List.length_append, List.flatMap_append]
      exact ho'
end

/-- what a part without a conflict adds to the text -/
def partText (p : PartD) : List ByteArray := if p.kind = 2 then p.theirs else p.ours
def textO (ps : List PartD) : Option (List ByteArray) := if ps.all (fun p => decide (p.kind < 4)) = true ∧ (ps.flatMap partText).length < 4000000 then some (ps.flatMap partText) else none
theorem Z278 : (Z 278).size = 4 := by unfold Z; kernel_rfl
theorem size278 : (Tryz.prog.info? 278).map (·.size) = some 4 := by kernel_rfl
theorem zok278 : ((Tryz.prog.info? 278).bind (·.zero)).isSome = true := by kernel_rfl
theorem flat_take {α β : Type} (f : α → List β) (l : List α) (k : Nat) : ((l.take k).flatMap f).length ≤ (l.flatMap f).length := by
  conv => rhs; rw [← List.take_append_drop k l]
  rw [List.flatMap_append, List.length_append]
  omega
theorem flat_next {α β : Type} (f : α → List β) (l : List α) (k : Nat) (x : α) (h : l[k]? = some x) : (l.take (k + 1)).flatMap f = (l.take k).flatMap f ++ f x := by
  rw [List.take_add_one, List.flatMap_append, h]; simp

set_option maxRecDepth 10000 in
set_option maxHeartbeats 1000000 in
theorem c127 (B : Nat) (v : Value) (vs : List PartV) (ps : List PartD) (tx : List ByteArray) (a1 a2 : ByteArray) (w : World) (hB : B ≤ w.heap.size) (h : Own encV 4 278 B w v vs) (hok : PartsOk B w vs ps) (hps : ps.length ≤ 100000) (ht : textO ps = some tx) :
    Calls Tryz.prog 127 #[v, .string a1, .string a2] w fun e w' => ∃ v', e = .returned (.tuple #[v', .bool true]) ∧ Own encS 1 9 w.heap.size w' v' tx ∧ Ext w w' := by
  obtain ⟨A, c, rfl⟩ := h.form
  unfold textO at ht
  split at ht
  · rename_i hc
    injection ht with ht
    obtain ⟨hall, hlen⟩ := hc
    have Hvl := Lib.hid hok.1
    have hvl := hok.1
    have Hok := Lib.hid hok
    have Hcells := Lib.hid (fun hp => h.cells hp (fun _ _ => rfl))
    have Ht := Lib.hid ht
    have Hall := Lib.hid hall
    have HB := Lib.hid hB
    clear hok hB hall ht h
    go_enter Tryz.func127, Tryz.ntmps127
    go_wp2_with fail
    go_loopw [8, 9, 14] (fun out cl i wr => ∃ k : Nat, k ≤ ps.length ∧ i = .int .i64 (k : Int) ∧ cl = .bool true ∧ Own encS 1 9 w.heap.size wr out ((ps.take k).flatMap partText) ∧ Ext w wr) (fun _ _ i _ => vs.length - (intOf i).toNat)
    case atStart => exact ⟨0, Nat.zero_le _, rfl, rfl, Own.nil, Ext.refl _⟩
    case round =>
      obtain ⟨k, hk, rfl, rfl, hout, hew⟩ := hrel
      have Hout := Lib.hid hout
      have Hew := Lib.hid hew
      clear hout hew
      by_cases hkl : k < vs.length
      · obtain ⟨g, rfl, hcell⟩ := Hcells.out (by omega)
        have hq : vs[k]? = some vs[k] := List.getElem?_eq_getElem (by omega)
        have hp : ps[k]? = some ps[k] := List.getElem?_eq_getElem (by omega)
        obtain ⟨e1, e2, e3, e4⟩ := Hok.out.2 k _ _ hq hp
        have Hcell := Lib.hid (fun j u hj => Hew.out.cells (hcell k _ hq j u hj))
        have hkind : ps[k].kind < 4 := by
          have := List.all_eq_true.1 Hall.out _ (List.mem_of_getElem? hp)
          simpa using this
        have Hp := Lib.hid hp
        generalize vs[k] = qv at *
        generalize ps[k] = pd at *
        clear hq hp hcell
        obtain ⟨kd, u1, u2, u3⟩ := qv
        simp only at e1 e2 e3 e4
        subst e1
        have c0 := Hcell.out 0 _ rfl
        rw [Nat.add_zero] at c0
        simp only at c0
        have c1 := Hcell.out 1 _ rfl
        have c2 := Hcell.out 2 _ rfl
        have c3 := Hcell.out 3 _ rfl
        obtain ⟨A1, n1, rfl⟩ := e2.form
        clear e2
        obtain ⟨A2, n2, rfl⟩ := e3.form
        obtain ⟨A3, n3, rfl⟩ := e4.form
        have He3 := Lib.hid e3
        have He4 := Lib.hid e4
        clear e3 e4
        have hnx := flat_next partText ps k pd Hp.out
        have hle := flat_take partText ps (k + 1)
        rw [hnx, List.length_append] at hle
        have Hnx := Lib.hid hnx
        clear hnx
        have hkk : pd.kind = 0 ∨ pd.kind = 1 ∨ pd.kind = 3 ∨ pd.kind = 2 := by omega
        rcases hkk with hkk | hkk | hkk | hkk
        all_goals have Hpt : partText pd = (if pd.kind = 2 then pd.theirs else pd.ours) := rfl
        all_goals rw [hkk] at Hpt
        all_goals simp only [if_true, if_false, Nat.reduceEqDiff] at Hpt
        all_goals rw [Hpt] at Hnx hle
        all_goals generalize pd.kind = kd at *
        all_goals subst hkk
        all_goals clear Hpt hkind
        · have Hs := Lib.hid (fun o => Sl.ext (Own.sl He3.out (fun _ _ => rfl) (by omega)) (Hew.out.trans (Ext.alloc wr o)))
          go_wp2_with (at_builtin; (refine wpList_append_many row103 rfl _ _ rfl _ _ pd.ours _ rfl rfl (Own.alloc Hout.out _) (Hs.out _) (fun _ _ => encS_one) (by omega) (by omega) (Nat.le_trans Hew.out.size (by simp)) ?_); intro o1 w5 hown5 hg5)
          go_roundw
          case rel => exact ⟨o1, .bool true, _, .int .i64 ((k + 1 : Nat) : Int), ⟨k + 1, by omega, rfl, rfl, by rw [Hnx.out]; exact hown5, Hew.out.grown_ hg5 (fun q hq => (Hout.out.block q hq).1)⟩, rfl, rfl, rfl, by simp⟩
          case measure => simp [intOf]; omega
        · have Hs := Lib.hid (fun o => Sl.ext (Own.sl He3.out (fun _ _ => rfl) (by omega)) (Hew.out.trans (Ext.alloc wr o)))
          go_wp2_with (at_builtin; (refine wpList_append_many row103 rfl _ _ rfl _ _ pd.ours _ rfl rfl (Own.alloc Hout.out _) (Hs.out _) (fun _ _ => encS_one) (by omega) (by omega) (Nat.le_trans Hew.out.size (by simp)) ?_); intro o1 w5 hown5 hg5)
          go_roundw
          case rel => exact ⟨o1, .bool true, _, .int .i64 ((k + 1 : Nat) : Int), ⟨k + 1, by omega, rfl, rfl, by rw [Hnx.out]; exact hown5, Hew.out.grown_ hg5 (fun q hq => (Hout.out.block q hq).1)⟩, rfl, rfl, rfl, by simp⟩
          case measure => simp [intOf]; omega
        · have Hs := Lib.hid (fun o => Sl.ext (Own.sl He3.out (fun _ _ => rfl) (by omega)) (Hew.out.trans (Ext.alloc wr o)))
          go_wp2_with (at_builtin; (refine wpList_append_many row103 rfl _ _ rfl _ _ pd.ours _ rfl rfl (Own.alloc Hout.out _) (Hs.out _) (fun _ _ => encS_one) (by omega) (by omega) (Nat.le_trans Hew.out.size (by simp)) ?_); intro o1 w5 hown5 hg5)
          go_roundw
          case rel => exact ⟨o1, .bool true, _, .int .i64 ((k + 1 : Nat) : Int), ⟨k + 1, by omega, rfl, rfl, by rw [Hnx.out]; exact hown5, Hew.out.grown_ hg5 (fun q hq => (Hout.out.block q hq).1)⟩, rfl, rfl, rfl, by simp⟩
          case measure => simp [intOf]; omega
        · have Hs := Lib.hid (fun o => Sl.ext (Own.sl He4.out (fun _ _ => rfl) (by omega)) (Hew.out.trans (Ext.alloc wr o)))
          go_wp2_with (at_builtin; (refine wpList_append_many row103 rfl _ _ rfl _ _ pd.theirs _ rfl rfl (Own.alloc Hout.out _) (Hs.out _) (fun _ _ => encS_one) (by omega) (by omega) (Nat.le_trans Hew.out.size (by simp)) ?_); intro o1 w5 hown5 hg5)
          go_roundw
          case rel => exact ⟨o1, .bool true, _, .int .i64 ((k + 1 : Nat) : Int), ⟨k + 1, by omega, rfl, rfl, by rw [Hnx.out]; exact hown5, Hew.out.grown_ hg5 (fun q hq => (Hout.out.block q hq).1)⟩, rfl, rfl, rfl, by simp⟩
          case measure => simp [intOf]; omega
      · have hkk : k = ps.length := by omega
        subst hkk
        go_wp2_with fail
        go_ret2
        have := Hout.out
        rw [List.take_length, Ht.out] at this
        exact ⟨_, rfl, this, Hew.out⟩
  · cases ht
end Go.Proofs.YtaeleagkpgbmaaaGreatDoor
