/- join.Clean. -/
import Derived.Test.YtaeleagkpgbmaaaGreatDoorDecide
namespace Go.Proofs.YtaeleagkpgbmaaaGreatDoor
open Go.RowKit
set_option linter.unusedSimpArgs false
set_option linter.unusedVariables false

theorem encO_1 (t : ThreeD) : (encO t)[1]? = some (.int .i64 t.kind) := rfl
theorem size54 : (Tryz.prog.info? 54).map (·.size) = some 135 := by kernel_rfl
/-- neither kept nor woven -/
def foulB (t : ThreeD) : Bool := t.kind != 1 && t.kind != 2

set_option maxRecDepth 10000 in
set_option maxHeartbeats 1000000 in
theorem c48 (t : ThreeD) (w : World) : Calls Tryz.prog 48 #[.agg (encO t).toArray] w fun e w' => e = .returned (.bool (foulB t)) ∧ Ext w w' := by
  have hB : Blk (w.alloc (.cells (encO t).toArray 54)) w.heap.size 54 (encO t) := Blk.new w 54 _
  have h1 := hB.cell 1
  rw [encO_1] at h1
  have He := Lib.hid (Ext.alloc w (.cells (encO t).toArray 54))
  clear hB
  unfold foulB
  generalize encO t = cs at *
  cases e1 : (t.kind != 1)
  all_goals cases e2 : (t.kind != 2)
  all_goals
    generalize t.kind = k at *
    go_enter Tryz.func48, Tryz.ntmps48
    go_wp2_with fail
    go_ret
    exact ⟨rfl, He.out⟩
/-- where the first foul one stands, or -1 -/
def foulI : List ThreeD → Nat → Int
  | [], _ => -1
  | t :: r, i => if foulB t then (i : Int) else foulI r (i + 1)
theorem foulI_any (l : List ThreeD) (i : Nat) : (decide (0 ≤ foulI l i)) = l.any foulB := by
  induction l generalizing i with
  | nil => rfl
  | cons t r ih =>
    unfold foulI
    rw [List.any_cons]
    cases foulB t
    · simpa using ih (i + 1)
    · simp
theorem foulI_bd (l : List ThreeD) (i : Nat) : -1 ≤ foulI l i ∧ foulI l i < i + l.length + 1 := by
  induction l generalizing i with
  | nil => simp [foulI]; omega
  | cons t r ih =>
    unfold foulI
    have := ih (i + 1)
    rw [List.length_cons]
    split <;> omega
theorem foulI_at {l : List ThreeD} {k : Nat} {t : ThreeD} (h : l[k]? = some t) : foulI (l.drop k) k = if foulB t then (k : Int) else foulI (l.drop (k + 1)) (k + 1) := by
  obtain ⟨hk, rfl⟩ := List.getElem?_eq_some_iff.1 h
  rw [List.drop_eq_getElem_cons hk, foulI]
theorem e48 : ∀ args w, (callFunc 48 args).run Tryz.prog w = .ok (.enter 48 args) w := enters_of Tryz.func48 (by kernel_rfl) rfl

set_option maxRecDepth 10000 in
set_option maxHeartbeats 1000000 in
theorem c89 (v : Value) (l : List ThreeD) (w : World) (h : Sl encO 135 w v l) :
    Calls Tryz.prog 89 #[v, .func (.func 48) #[] #[]] w fun e w' => e = .returned (.int .i64 (foulI l 0)) ∧ Ext w w' := by
  obtain ⟨hl, A, c, rfl, hc, hz, hx⟩ := h
  have H := Lib.hid hx
  clear hx hz
  have He := e48
  have Hd := Lib.hid (show foulI l 0 = foulI (l.drop 0) 0 by simp)
  go_enter Tryz.func89, Tryz.ntmps89
  go_wp2_with fail
  go_loopw [8] (fun i wr => ∃ k : Nat, k ≤ l.length ∧ i = .int .i64 (k : Int) ∧ foulI l 0 = foulI (l.drop k) k ∧ Ext w wr) (fun i _ => l.length - (intOf i).toNat)
  case atStart => exact ⟨0, Nat.zero_le _, rfl, Hd.out, Ext.refl _⟩
  case round =>
    obtain ⟨k, hk, rfl, hr, hew⟩ := hrel
    have Hr := Lib.hid hr
    have Hew := Lib.hid hew
    clear hr Hd hew
    by_cases hlt : k < l.length
    · obtain ⟨t, ht⟩ : ∃ x, l[k]? = some x := ⟨_, List.getElem?_eq_getElem hlt⟩
      obtain ⟨b, off, rfl, hb, hcell⟩ := H.out (by omega)
      have hrg : wr.rangeAt b (off + k * 135) (encO t) := fun j u hj => Hew.out.cells (hcell k t ht j u hj)
      have Hrg := Lib.hid hrg
      have Hs := Lib.hid (foulI_at ht)
      have H48 := Lib.hid (c48 t wr)
      have hln := encO_length t
      clear ht hcell hrg
      generalize foulB t = r at *
      generalize encO t = cs at *
      have hsz : (Tryz.prog.info? 54).map (·.size) = some cs.length := by rw [hln]; exact size54
      clear hln
      cases r
      · go_wp2_with (with_reducible refine wpList_load_mid rfl 54 _ rfl b (off + k * 135) rfl cs _ Hrg.out Tryz.underlying54 rfl hsz ?_)
        refine H48.out.mono ?_
        rintro e w' ⟨rfl, he⟩
        have He2 := Lib.hid he
        clear he
        go_wp2_with fail
        go_roundw
        case rel => exact ⟨k + 1, by omega, by go_num, by rw [Hr.out, Hs.out]; rfl, Hew.out.trans He2.out⟩
        case measure => simp [intOf]; omega
      · go_wp2_with (with_reducible refine wpList_load_mid rfl 54 _ rfl b (off + k * 135) rfl cs _ Hrg.out Tryz.underlying54 rfl hsz ?_)
        refine H48.out.mono ?_
        rintro e w' ⟨rfl, he⟩
        have He2 := Lib.hid he
        clear he
        go_wp2_with fail
        go_ret
        exact ⟨ret_int' (by rw [Hr.out, Hs.out]; rfl), Hew.out.trans He2.out⟩
    · have Hn := Lib.hid (show l.drop k = [] from List.drop_eq_nil_of_le (by omega))
      go_wp2_with fail
      go_ret
      exact ⟨ret_int' (by rw [Hr.out, Hn.out]; rfl), Hew.out⟩

set_option maxHeartbeats 400000 in
theorem c47 (v : Value) (l : List ThreeD) (w : World) (h : Sl encO 135 w v l) :
    Calls Tryz.prog 47 #[v, .func (.func 48) #[] #[]] w fun e w' => e = .returned (.bool (l.any foulB)) ∧ Ext w w' := by
  have H := Lib.hid (c89 v l w h)
  have Ha := Lib.hid (foulI_any l 0)
  generalize foulI l 0 = i at *
  go_enter Tryz.func47, Tryz.ntmps47
  go_wp2_with fail
  refine H.out.mono ?_
  rintro e w' ⟨rfl, he⟩
  go_wp2_with fail
  go_ret
  exact ⟨ret_bool' (Ha.out), he⟩
set_option maxHeartbeats 400000 in
/-- join.Clean -/
theorem c20 (v : Value) (l : List ThreeD) (w : World) (h : Sl encO 135 w v l) :
    Calls Tryz.prog 20 #[v] w fun e w' => e = .returned (.bool (!l.any foulB)) ∧ Ext w w' := by
  have H := Lib.hid (c47 v l w h)
  generalize l.any foulB = r at *
  go_enter Tryz.func20, Tryz.ntmps20
  go_wp2_with fail
  refine H.out.mono ?_
  rintro e w' ⟨rfl, he⟩
  cases r
  all_goals
    go_wp2_with fail
    go_ret
    exact ⟨rfl, he⟩
end Go.Proofs.YtaeleagkpgbmaaaGreatDoor
