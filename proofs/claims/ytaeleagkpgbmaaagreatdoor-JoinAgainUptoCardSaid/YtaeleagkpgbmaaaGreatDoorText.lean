/- Texts: from strings to bytes; lines.Join; a blob's text. -/
import Derived.Test.YtaeleagkpgbmaaaGreatDoorWeave4
import Derived.Lib.ConvBytes
import Derived.Lib.Join
namespace Go.Proofs.YtaeleagkpgbmaaaGreatDoor
open Go.RowKit
set_option linter.unusedSimpArgs false
set_option linter.unusedVariables false

theorem run_toBytes (w : World) (s : ByteArray) (hs : s.size < 4294967296) : ∃ A c w', (convert 9 52 (.string s)).run Tryz.prog w = .ok (.slice A s.size c) w' ∧ Byt w' (.slice A s.size c) s.data.toList ∧ Ext w w' ∧ (Value.slice A s.size c).ownBlock = some w.heap.size ∧ ∃ cs m, w'.heap[w.heap.size]? = some (.cells cs 5 m) := by
  have hu := Lib.run_convert_string_bytes (P := Tryz.prog) w 9 52 5 s Tryz.underlying9 Tryz.underlying52 Tryz.underlying5
  refine ⟨_, _, _, hu, ⟨by simpa using hs, _, _, rfl, ⟨by simpa using grownCap_ge w s.size 0 5, by simp⟩, fun _ _ => rfl, fun _ => ⟨w.heap.size, 0, rfl, ?_, fun i x hi j u hj => ?_⟩⟩, ?_⟩
  · rw [Lib.bytesWorld_size]; omega
  · cases j with
    | zero =>
      have hi' := (List.getElem?_eq_some_iff.1 hi).1
      have := Lib.bytesWorld_cell w 5 s i (by simpa using hi')
      simp [encB] at hj
      subst hj
      rw [show 0 + i * 1 + 0 = i by omega, this]
      rw [List.getD_eq_getElem?_getD, hi]; rfl
    | succ j => simp [encB] at hj
  · exact ⟨⟨rfl, rfl, rfl, by rw [Lib.bytesWorld_size]; omega, fun k hk => Lib.bytesWorld_at_old w 5 s k hk⟩, rfl, _, _, Lib.bytesWorld_at_new w 5 s⟩
section
variable {ops : Array Oper} {rest : List Oper} {op : Oper} {a : Act} {w : World} {Q : Exit → Act → World → Prop}
/-- []byte(s) -/
theorem wpList_toBytes (hgd : op.guard = none) (x : Operand) (ho : op.op = .convert 9 52 x) (s : ByteArray) (hx : a.eval x = .string s) (hs : s.size < 4294967296)
    (h : ∀ A c w', Byt w' (.slice A s.size c) s.data.toList → Ext w w' → (Value.slice A s.size c).ownBlock = some w.heap.size → (∃ cs m, w'.heap[w.heap.size]? = some (.cells cs 5 m)) → wpList Tryz.prog ops Q rest (a.put op.dst (.slice A s.size c)) w') : wpList Tryz.prog ops Q (op :: rest) a w := by
  refine wpList_plain hgd fun K hK => ?_
  obtain ⟨A, c, w', hr, h1, h2, h3, h4⟩ := run_toBytes w s hs
  unfold Oper.wp
  simp [execOp, ho, hx, hr, Result.andThen]
  exact hK _ _ (h A c w' h1 h2 h3 h4)
end
/-- the lines, one behind the other -/
def catF (xs : List ByteArray) : List UInt8 := Lib.join (xs.map (·.data.toList)) []

set_option maxHeartbeats 400000 in
theorem c128 (v : Value) (xs : List ByteArray) (w : World) (h : Strs w v xs) (hl : (catF xs).length < 4294967296) :
    Calls Tryz.prog 128 #[v] w fun e w' => ∃ v', e = .returned v' ∧ TSl encB 1 5 w' v' (catF xs) ∧ Ext w w' := by
  have H : Calls Tryz.prog 175 #[v, .string ⟨#[]⟩] w fun e w' => e = .returned (.string ⟨(catF xs).toArray⟩) ∧ Ext w w' := by
    obtain ⟨A, c, rfl, hc, hlx, hx⟩ := h.open_
    by_cases h0 : 0 < xs.length
    · obtain ⟨b, off, rfl, hb, hcell⟩ := hx h0
      exact Tryz.strings_Join b off c xs ⟨#[]⟩ w hcell hb (by omega) hc (by show (catF xs).length ≤ _; omega)
    · have e : xs = [] := List.length_eq_zero_iff.1 (by omega)
      subst e
      exact (Tryz.strings_Join_none A c ⟨#[]⟩ w).mono fun e w' ⟨h1, h2⟩ => ⟨h1, h2 ▸ Ext.refl _⟩
  have H := Lib.hid H
  generalize hcat : catF xs = t at *
  obtain ⟨A, c, rfl, _⟩ := h.open_
  clear h hcat
  go_enter Tryz.func128, Tryz.ntmps128
  go_wp2_with fail
  refine H.out.mono ?_
  rintro e w1 ⟨rfl, he⟩
  have He := Lib.hid he
  clear he
  go_wp2_with ((refine wpList_toBytes rfl _ rfl ⟨t.toArray⟩ rfl (by simpa [ByteArray.size] using hl) ?_); intro A1 c1 w2 hb1 he1 hg1 ht1)
  go_ret
  have e1 : (ByteArray.mk t.toArray).size = t.length := by simp [ByteArray.size]
  refine ⟨_, rfl, ⟨?_, fun g hg => ?_⟩, He.out.trans he1⟩
  · rw [e1] at hb1
    simpa [e1] using hb1
  · have e : some g = some w1.heap.size := hg.symm.trans hg1
    injection e with e
    rw [e]; exact ht1
theorem Sl.offL {α : Type} {enc : α → List Value} {sz : Nat} {w w' : World} {v : Value} {xs : List α} {L : Nat} (h : Sl enc sz w v xs) (ho : OffL L w w') (hL : v.ownBlock ≠ some L) : Sl enc sz w' v xs := by
  obtain ⟨h0, A, c, rfl, hc, hz, hx⟩ := h
  refine ⟨h0, A, c, rfl, hc, hz, fun hp => ?_⟩
  obtain ⟨b, off, rfl, hb, hcells⟩ := hx hp
  refine ⟨b, off, rfl, Nat.lt_of_lt_of_le hb ho.2.2.2.1, fun i x hi j u hj => ?_⟩
  have hne : b ≠ L := fun e => hL (by rw [← e]; rfl)
  exact (World.cell?_of_block (ho.2.2.2.2 b hb hne)).trans (hcells i x hi j u hj)
theorem Blk.notTy {w : World} {L : Nat} {U : TypeId} {l : List Value} (h : Blk w L U l) {T : TypeId} (hT : T ≠ U) : NotTy w L T := fun cs m e => by
  unfold Blk at h
  rw [h] at e
  injection e with e
  injection e with e1 e2 e3
  exact hT e2.symm
theorem TSl.off {α : Type} {enc : α → List Value} {sz : Nat} {T : TypeId} {w w' : World} {v : Value} {xs : List α} {L : Nat} (h : TSl enc sz T w v xs) (ho : OffL L w w') (hn : NotTy w L T) : TSl enc sz T w' v xs := by
  have hne : v.ownBlock ≠ some L := fun e => by
    obtain ⟨cs, m, hc⟩ := h.2 L e
    exact hn cs m hc
  refine ⟨h.1.offL ho hne, fun g hg => ?_⟩
  obtain ⟨cs, m, hc⟩ := h.2 g hg
  have hlt : g < w.heap.size := (Array.getElem?_eq_some_iff.1 hc).1
  exact ⟨cs, m, (ho.2.2.2.2 g hlt (fun e => hne (by rw [← e]; exact hg))).trans hc⟩
end Go.Proofs.YtaeleagkpgbmaaaGreatDoor
