/- Package weave: kinds and cuts. -/
import Derived.Test.YtaeleagkpgbmaaaGreatDoorTab3
namespace Go.Proofs.YtaeleagkpgbmaaaGreatDoor
open Go.RowKit
set_option linter.unusedSimpArgs false
set_option linter.unusedVariables false

theorem flat_S (xs : List ByteArray) : xs.flatMap encS = xs.map Value.string := by
  induction xs with
  | nil => rfl
  | cons x r ih => rw [List.flatMap_cons, ih]; rfl
theorem getD_str {xs : List ByteArray} {j : Nat} (h : j < xs.length) : xs[j]? = some (xs.getD j ByteArray.empty) := by
  rw [List.getElem?_eq_getElem h, List.getD_eq_getElem?_getD, List.getElem?_eq_getElem h]; rfl

/-- slices.Equal at strings -/
theorem c209 (v1 v2 : Value) (xs ys : List ByteArray) (w : World) (h1 : Strs w v1 xs) (h2 : Strs w v2 ys) :
    Calls Tryz.prog 209 #[v1, v2] w fun e w' => e = .returned (.bool (decide (xs = ys))) ∧ ∃ q, w' = w.drewN q := by
  obtain ⟨A, c, rfl, hc, hl, hx⟩ := h1.open_
  obtain ⟨A', c', rfl, hc', hl', hx'⟩ := h2.open_
  by_cases hn : xs.length = ys.length
  · by_cases h0 : 0 < xs.length
    · obtain ⟨b, o, rfl, _, hcell⟩ := hx h0
      obtain ⟨b', o', rfl, _, hcell'⟩ := hx' (by omega)
      have := Tryz.slices_Equal_string b o xs.length c b' o' ys.length c' xs ys w (Nat.le_refl _) (Nat.le_refl _) (by omega) (by omega) (fun j hj => hcell j _ (getD_str hj)) (fun j hj => hcell' j _ (getD_str hj))
      simpa using this
    · have e1 : xs = [] := List.length_eq_zero_iff.1 (by omega)
      have e2 : ys = [] := List.length_eq_zero_iff.1 (by omega)
      subst e1; subst e2
      exact (Tryz.slices_Equal_string_empty A A' c 0 c' w (by omega)).mono fun e w' ⟨h1, h2⟩ => ⟨h1, 0, h2⟩
  · have hne : xs ≠ ys := fun h => hn (by rw [h])
    rw [decide_eq_false hne]
    exact (Tryz.slices_Equal_string_lens A A' xs.length c ys.length c' w hn).mono fun e w' ⟨h1, h2⟩ => ⟨h1, 0, h2⟩

/-- slices.Clone at strings -/
theorem c197 (v : Value) (xs : List ByteArray) (w : World) (h : Strs w v xs) :
    Calls Tryz.prog 197 #[v] w fun e w' => ∃ v', e = .returned v' ∧ Own encS 1 9 w.heap.size w' v' xs ∧ Ext w w' := by
  obtain ⟨A, c, rfl, hc, hl, hx⟩ := h.open_
  by_cases h0 : 0 < xs.length
  · obtain ⟨b, o, rfl, _, hcell⟩ := hx h0
    refine (Tryz.slices_Clone_string b o xs.length c xs w (Nat.le_refl _) (by omega) (fun j hj => hcell j _ (getD_str hj))).mono ?_
    rintro e w' ⟨v', rfl, hown, _, hb⟩
    refine ⟨v', rfl, ?_, hb⟩
    rw [List.take_length, ← flat_S] at hown
    exact hown
  · have e1 : xs = [] := List.length_eq_zero_iff.1 (by omega)
    subst e1
    cases A with
    | none =>
      exact (Tryz.slices_Clone_string_nil 0 c w).mono fun e w' ⟨h1, h2⟩ => ⟨_, h1, by subst h2; exact Own.nil, by subst h2; exact Ext.refl _⟩
    | some a =>
      exact (Tryz.slices_Clone_string_zero a c w).mono fun e w' ⟨v', h1, h2, _, h3⟩ => ⟨v', h1, h2, h3⟩

/-- weave.kind -/
def kindB (p q r : Bool) : Nat := if p then (if q then 0 else 2) else if q then 1 else if r then 3 else 4
def kindF (b o t : List ByteArray) : Nat := kindB (decide (o = b)) (decide (t = b)) (decide (o = t))

set_option maxHeartbeats 400000 in
theorem c196 (v1 v2 v3 : Value) (b o t : List ByteArray) (w : World) (h1 : Strs w v1 b) (h2 : Strs w v2 o) (h3 : Strs w v3 t) :
    Calls Tryz.prog 196 #[v1, v2, v3] w fun e w' => e = .returned (.int .i64 (kindF b o t)) ∧ ∃ q, w' = w.drewN q := by
  have H1 := fun q => c209 v2 v1 o b (w.drewN q) (h2.ext (Ext.drewN w q)) (h1.ext (Ext.drewN w q))
  have H2 := fun q => c209 v3 v1 t b (w.drewN q) (h3.ext (Ext.drewN w q)) (h1.ext (Ext.drewN w q))
  have H3 := fun q => c209 v2 v3 o t (w.drewN q) (h2.ext (Ext.drewN w q)) (h3.ext (Ext.drewN w q))
  clear h1 h2 h3
  unfold kindF
  generalize decide (o = b) = p at *
  generalize decide (t = b) = q at *
  generalize decide (o = t) = r at *
  have H1 := Lib.hid H1
  have H2 := Lib.hid H2
  have H3 := Lib.hid H3
  go_enter Tryz.func196, Tryz.ntmps196
  cases p
  all_goals cases q
  all_goals
    go_wp2_with fail
    refine (H1.out 0).mono ?_
    rintro e w' ⟨rfl, q1, rfl⟩
    go_wp2_with fail
    refine (H2.out q1).mono ?_
    rintro e w' ⟨rfl, q2, rfl⟩
    go_wp2_with fail
  · refine (H3.out (q1 + q2)).mono ?_
    rintro e w' ⟨rfl, q3, rfl⟩
    cases r
    all_goals
      go_wp2_with fail
      go_ret
      exact ⟨rfl, _, rfl⟩
  all_goals
    go_ret
    exact ⟨rfl, _, rfl⟩

/-- the loom: the three lists that are left, and the parts -/
def Loom (w : World) (L : Nat) (x0 x1 x2 ps : Value) : Prop := Blk w L 275 [x0, x1, x2, ps]

set_option maxHeartbeats 400000 in
theorem c195 (L j n : Nat) (l : List Value) (A : Option Addr) (c : Nat) (xs : List ByteArray) (w : World) (hB : Blk w L 275 l) (hj : l[j]? = some (.slice A xs.length c)) (h : Strs w (.slice A xs.length c) xs) (hn : n ≤ xs.length) (N : Int) (hN : N = n) :
    Calls Tryz.prog 195 #[.pointer (some ⟨L, j, none⟩), .int .i64 N] w fun e w' => ∃ v' w1 A' c', e = .returned v' ∧ Own encS 1 9 w.heap.size w1 v' (xs.take n) ∧ Ext w w1 ∧ w' = w1.setCell ⟨L, j, none⟩ (.slice A' (xs.length - n) c') ∧
      (∀ w2, Strs w2 (.slice A xs.length c) xs → Strs w2 (.slice A' (xs.length - n) c') (xs.drop n)) := by
  subst hN
  have hcl := h.open_
  obtain ⟨_, _, hv, hcl, hl, _⟩ := hcl
  injection hv with hA1 _ hc1
  subst hA1; subst hc1
  have hcj := hB.cell j
  rw [hj] at hcj
  have H := Lib.hid h
  have HB := Lib.hid hB
  clear h
  go_enter Tryz.func195, Tryz.ntmps195
  go_wp2_with (first | (with_reducible refine wpList_cut row103 rfl _ _ _ rfl A xs.length c 0 n rfl (Nat.zero_le _) hn hcl (.inr ⟨rfl, rfl⟩) (.inl rfl) ?_))
  intro A1 c1 hc1 hs1
  have hb1 := hs1 _ encS w xs rfl H.out
  have H197 := Lib.hid (c197 _ _ w hb1)
  clear hs1 hb1
  go_wp2_with fail
  refine H197.out.mono ?_
  rintro e w1 ⟨v', rfl, hown, he⟩
  have Hown := Lib.hid hown
  have He := Lib.hid he
  have hcj1 := he.cells hcj
  have hfr1 := (HB.out.ext he).frozen j
  clear hown he hcj H197
  go_wp2_with (first | (with_reducible refine wpList_cut row103 rfl _ _ _ rfl A xs.length c n xs.length rfl hn (Nat.le_refl _) hcl (.inl rfl) (.inr ⟨rfl, rfl⟩) ?_; intro A2 c2 hc2 hs2; have Hs2 := Lib.hid (fun w2 h2 => hs2 _ encS w2 xs rfl h2); clear hs2))
  go_ret
  refine ⟨v', w1, A2, c2, rfl, Hown.out, He.out, rfl, fun w2 h2 => ?_⟩
  have := Hs2.out w2 h2
  rwa [List.take_of_length_le (by rw [List.length_drop]; omega)] at this
end Go.Proofs.YtaeleagkpgbmaaaGreatDoor
