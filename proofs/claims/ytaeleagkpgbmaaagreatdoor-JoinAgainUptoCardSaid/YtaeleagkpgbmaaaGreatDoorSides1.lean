/- law13.JoinSides answers true. -/
import Derived.Test.YtaeleagkpgbmaaaGreatDoorSides0
import Derived.Test.YtaeleagkpgbmaaaGreatDoorTimes1
namespace Go.Proofs.YtaeleagkpgbmaaaGreatDoor
open Go.RowKit
set_option linter.unusedSimpArgs false
set_option linter.unusedVariables false

def okFiles (l : List FileD) : Prop := ∀ f ∈ l, f.path.size < 4294967280 ∧ okStamp f.stamp
theorem okFiles.all {l : List FileD} (h : okFiles l) : okAll l := fun f hf => (h f hf).2
theorem lK_ok {l0 l1 l2 : List FileD} (h0 : okFiles l0) (h1 : okFiles l1) (h2 : okFiles l2) : ∀ k, k < 3 → ∀ f ∈ lK l0 l1 l2 k, f.path.size < 4294967280 ∧ okStamp f.stamp := by
  intro k hk f hf
  obtain rfl | rfl | rfl : k = 0 ∨ k = 1 ∨ k = 2 := by omega
  · exact h0 f hf
  · exact h1 f hf
  · exact h2 f hf
/-- the k-th of three merges -/
def selV (a b : Value) : Nat → List Value
  | 0 => [a, b, a]
  | 1 => [a, a, b]
  | _ => [a, b, b]
theorem side_call {b o : List FileD} {v0 v1 : Value} {w : World} (k : Nat) (hk : k < 3) (hb : Files w v0 b) (ho : Files w v1 o) (hG : GMax w) (kb : okFiles b) (ko : okFiles o) (cb : checkT b = 0) (co : checkT o = 0) :
    ∃ rs, Calls Tryz.prog 15 #[.agg (selV v0 v1 k).toArray, .iface 34 (.agg #[.slice none 0 0])] w (MergeIs w (rs, 0)) ∧ KeepAll rs o := by
  obtain rfl | rfl | rfl : k = 0 ∨ k = 1 ∨ k = 2 := by omega
  · obtain ⟨⟨rs, he, hka⟩, hd⟩ := sides_gen (bl := []) (l0 := b) (l1 := o) (l2 := b) (K := o) cb co cb co (fun f hf => .inr (.inl (List.mem_map.2 ⟨f, hf, rfl⟩))) (side_010 kb.all ko.all [])
    refine ⟨rs, ?_, hka⟩
    have := c15 v0 v1 v0 (.slice none 0 0) b o b [] w hb ho hb (Sl.nil _ _ _) hG (lK_ok kb ko kb) (by simp) (decT []) hd
    rwa [he] at this
  · obtain ⟨⟨rs, he, hka⟩, hd⟩ := sides_gen (bl := []) (l0 := b) (l1 := b) (l2 := o) (K := o) cb cb co co (fun f hf => .inr (.inr (List.mem_map.2 ⟨f, hf, rfl⟩))) (side_001 kb.all ko.all [])
    refine ⟨rs, ?_, hka⟩
    have := c15 v0 v0 v1 (.slice none 0 0) b b o [] w hb hb ho (Sl.nil _ _ _) hG (lK_ok kb kb ko) (by simp) (decT []) hd
    rwa [he] at this
  · obtain ⟨⟨rs, he, hka⟩, hd⟩ := sides_gen (bl := []) (l0 := b) (l1 := o) (l2 := o) (K := o) cb co co co (fun f hf => .inr (.inl (List.mem_map.2 ⟨f, hf, rfl⟩))) (side_011 kb.all ko.all [])
    refine ⟨rs, ?_, hka⟩
    have := c15 v0 v1 v1 (.slice none 0 0) b o o [] w hb ho ho (Sl.nil _ _ _) hG (lK_ok kb ko ko) (by simp) (decT []) hd
    rwa [he] at this
theorem KeepAll.clean {rs : List OutR} {K : List FileD} (h : KeepAll rs K) : (rs.any fun r => r.kind != 1 && r.kind != 2) = false := by
  rw [Bool.eq_false_iff]
  intro ha
  obtain ⟨r, hr, hu⟩ := List.any_eq_true.1 ha
  obtain ⟨i, hi⟩ := List.getElem?_of_mem hr
  have hl := (List.getElem?_eq_some_iff.1 hi).1
  have hf : K[i]? = some (K[i]'(by have := h.1; omega)) := List.getElem?_eq_getElem _
  have := (h.2 i r _ hi hf).1
  rw [this] at hu
  simp at hu

theorem c22e {n m : Nat} (h : bitsF n = bitsF m) (w : World) : Calls Tryz.prog 22 #[.float .f64 n] w fun e w' => e = .returned (.int .u64 (bitsF m)) ∧ w' = w := by rw [← h]; exact c22s n w
theorem zok54 : ((Tryz.prog.info? 54).bind (·.zero)).isSome = true := by kernel_rfl
theorem Z54 : (Z 54).size = 135 := by unfold Z; kernel_rfl
/-- an outcome as a three -/
def oOf (r : OutR) (tv : Value) : ThreeD := ⟨r.path, r.kind, r.id, r.stamp, tv, r.h0, r.h1, r.h2, r.i0, r.i1, r.i2, 0, 0, 0⟩
theorem OutAt.whole {w : World} {g i : Nat} {r : OutR} {tv : Value} (h : OutAt w g i r tv) : w.rangeAt g (i * 135) (encO (oOf r tv)) := fun j v hj => h.all j v hj
theorem OutAt.box {w : World} {r : OutR} {tv : Value} (h : TSl encB 1 5 w tv r.text) : OutAt (w.alloc (.cells (encO (oOf r tv)).toArray 54)) w.heap.size 0 r tv :=
  ⟨fun j u hj => by rw [Nat.zero_mul, Nat.zero_add, (Blk.new w 54 (encO (oOf r tv))).cell]; exact hj, h.ext (Ext.alloc _ _)⟩
/-- a file of a list, cell by cell -/
theorem file_cells {w : World} {b off i : Nat} {f : FileD} (h : w.rangeAt b (off + i * 34) (encF f)) :
    w.cell? ⟨b, off + i * 34, none⟩ = some (.string f.path) ∧ w.rangeAt b (off + i * 34 + 1) (encId f.id) ∧ w.cell? ⟨b, off + i * 34 + 33, none⟩ = some (.float .f64 f.stamp) := by
  refine ⟨by simpa using h 0 _ (encF_0 f), fun j v hj => ?_, h 33 _ (encF_33 f)⟩
  have hjl : j < 32 := by have := (List.getElem?_eq_some_iff.1 hj).1; rwa [encId_length] at this
  rw [Nat.add_assoc]
  exact h (1 + j) v (by rw [encF_id f j hjl]; exact hj)
theorem size23 : (Tryz.prog.info? 23).map (·.size) = some 3 := by kernel_rfl
theorem Z23 : (Z 23).size = 3 := by unfold Z; kernel_rfl
theorem zok23 : ((Tryz.prog.info? 23).bind (·.zero)).isSome = true := by kernel_rfl
theorem selV_len (a b : Value) (k : Nat) : (selV a b k).length = 3 := by unfold selV; split <;> rfl
theorem selV_one {a b : Value} (ha : a.oneCell' = true) (hb : b.oneCell' = true) (k : Nat) : ∀ v ∈ selV a b k, v.oneCell' = true := by
  intro v hv
  unfold selV at hv
  split at hv <;> simp at hv <;> rcases hv with rfl | rfl | rfl <;> assumption
theorem selV_range {w : World} {B k : Nat} {a b : Value} (h : Blk w B 23 [a, b, a, a, a, b, a, b, b]) (hk : k < 3) : w.rangeAt B (k * 3) (selV a b k) := by
  intro j v hj
  rw [h.cell]
  obtain rfl | rfl | rfl : k = 0 ∨ k = 1 ∨ k = 2 := by omega
  all_goals
    simp only [selV] at hj
    match j, hj with
    | 0, hj => simpa using hj
    | 1, hj => simpa using hj
    | 2, hj => simpa using hj

set_option maxRecDepth 100000 in
set_option maxHeartbeats 4000000 in
theorem c4 (v0 v1 : Value) (b o : List FileD) (w : World) (hb : Files w v0 b) (ho : Files w v1 o) (hG : GMax w) (kb : okFiles b) (ko : okFiles o) :
    Calls Tryz.prog 4 #[v0, v1] w fun e w' => e = .returned (.bool true) ∧ Ext w w' := by
  have Hb := Lib.hid hb
  have Ho := Lib.hid ho
  have HG := Lib.hid hG
  have Kb := Lib.hid kb
  have Ko := Lib.hid ko
  obtain ⟨A0, n0, rfl, -⟩ := hb.open_
  obtain ⟨A1, n1, rfl, -⟩ := ho.open_
  have hol := ho.lt
  clear hb ho hG kb ko
  go_enter Tryz.func4, Tryz.ntmps4
  go_wp2_with fail
  refine (c12 _ HG.out).mono ?_
  rintro e w1 ⟨rfl, he1⟩
  have He1 := Lib.hid he1
  have H21 := Lib.hid (c21 _ b w1 (Hb.out.ext he1) (HG.out.ext he1) (fun f hf => (Kb.out f hf).1))
  clear he1
  generalize hcb : checkT b = cb at *
  have HCb := Lib.hid hcb
  clear hcb
  go_wp2_with fail
  refine H21.out.mono ?_
  rintro e w2 ⟨rfl, he2⟩
  have He2 := Lib.hid (He1.out.trans he2)
  clear he2
  by_cases h0 : cb = 0
  · subst h0
    have H21o := Lib.hid (c21 _ o w2 (Ho.out.ext He2.out) (HG.out.ext He2.out) (fun f hf => (Ko.out f hf).1))
    generalize hco : checkT o = co at *
    have HCo := Lib.hid hco
    clear hco
    go_wp2_with fail
    refine H21o.out.mono ?_
    rintro e w3 ⟨rfl, he3⟩
    have He3 := Lib.hid (He2.out.trans he3)
    clear he3
    by_cases h1 : co = 0
    · subst h1
      go_wp2_with fail
      have HB := Lib.hid (Blk.new w3 23 [.slice A0 b.length n0, .slice A1 o.length n1, .slice A0 b.length n0, .slice A0 b.length n0, .slice A0 b.length n0, .slice A1 o.length n1, .slice A0 b.length n0, .slice A1 o.length n1, .slice A1 o.length n1])
      have HX := Lib.hid (Ext.alloc w3 (.cells #[.slice A0 b.length n0, .slice A1 o.length n1, .slice A0 b.length n0, .slice A0 b.length n0, .slice A0 b.length n0, .slice A1 o.length n1, .slice A0 b.length n0, .slice A1 o.length n1, .slice A1 o.length n1] 23))
      go_loopw [35] (fun i wr => ∃ k : Nat, k ≤ 3 ∧ i = .int .i64 (k : Int) ∧ Ext w3 wr ∧ Blk wr w3.heap.size 23 [.slice A0 b.length n0, .slice A1 o.length n1, .slice A0 b.length n0, .slice A0 b.length n0, .slice A0 b.length n0, .slice A1 o.length n1, .slice A0 b.length n0, .slice A1 o.length n1, .slice A1 o.length n1]) (fun i _ => 3 - (intOf i).toNat)
      case atStart => exact ⟨0, Nat.zero_le _, rfl, HX.out, HB.out⟩
      case round =>
        obtain ⟨k, hk, rfl, hew, hbl⟩ := hrel
        by_cases hlt : k < 3
        · have hrg := selV_range hbl hlt
          have Hw := Lib.hid (He3.out.trans hew)
          have Hew := Lib.hid (And.intro hew hbl)
          have hx2 := Ext.alloc wr (.cells (selV (.slice A0 b.length n0) (.slice A1 o.length n1) k).toArray 23)
          obtain ⟨rs, hc, hka⟩ := side_call k hlt ((Hb.out.ext Hw.out).ext hx2) ((Ho.out.ext Hw.out).ext hx2) ((HG.out.ext Hw.out).ext hx2) Kb.out Ko.out HCb.out HCo.out
          have Hc := Lib.hid hc
          have Hka := Lib.hid hka
          have Hx2 := Lib.hid hx2
          have hln := selV_len (.slice A0 b.length n0) (.slice A1 o.length n1) k
          have hone := selV_one (a := .slice A0 b.length n0) (b := .slice A1 o.length n1) rfl rfl k
          clear hc hka hx2 hew hbl
          generalize selV (.slice A0 b.length n0) (.slice A1 o.length n1) k = cs at *
          have hsz : (Tryz.prog.info? 23).map (·.size) = some cs.length := by rw [hln]; exact size23
          have hz : (Z 23).size = cs.length := by rw [hln]; exact Z23
          have hrg2 : (wr.alloc (.cells cs.toArray 23)).rangeAt wr.heap.size 0 cs := Blk.range (A := []) (M := cs) (C := []) (by simpa using Blk.new wr 23 cs)
          clear hln
          go_wp2_with (first | (with_reducible refine wpList_load_mid rfl 23 _ rfl w3.heap.size (k * 3) rfl cs _ hrg Tryz.underlying23 rfl hsz ?_) | (with_reducible refine wpList_alloc_z rfl 23 rfl zok23 ?_) | (with_reducible refine wpList_store_new rfl 23 _ _ rfl (Z 23) cs rfl rfl hz hsz hone ?_) | (with_reducible refine wpList_load_mid rfl 23 _ rfl wr.heap.size 0 rfl cs _ hrg2 Tryz.underlying23 rfl hsz ?_))
          refine Hc.out.mono ?_
          rintro e w5 ⟨v5, os, rfl, hown, hok, he5⟩
          obtain ⟨R5, C5, rfl⟩ := hown.form
          have hlo : os.length = o.length := hok.1.trans Hka.out.1
          have H20 := Lib.hid (c20 _ os w5 (hown.sl (fun o _ => encO_length o) (by omega)))
          rw [foul_of hok Hka.out.clean] at H20
          have Hout := Lib.hid (And.intro hown hok)
          rw [hlo] at H20 Hout ⊢
          have He5 := Lib.hid he5
          clear hown hok he5 hlo hrg hrg2 hone hsz hz Hc
          go_wp2_with fail
          refine H20.out.mono ?_
          rintro e w6 ⟨rfl, he6⟩
          have He6 := Lib.hid he6
          clear he6 H20
          go_wp2_with fail
          go_loopw [62] (fun i wx => ∃ j : Nat, j ≤ o.length ∧ i = .int .i64 (j : Int) ∧ Ext w5 wx) (fun i _ => o.length - (intOf i).toNat)
          case atStart => exact ⟨0, Nat.zero_le _, rfl, He6.out⟩
          case round =>
            obtain ⟨j, hj, rfl, hx⟩ := hrel
            have Hx := Lib.hid hx
            clear hx
            rename World => wx
            by_cases hlt2 : j < o.length
            · obtain ⟨f, hf⟩ : ∃ x, o[j]? = some x := ⟨_, List.getElem?_eq_getElem hlt2⟩
              obtain ⟨r, hr⟩ : ∃ x, rs[j]? = some x := ⟨_, List.getElem?_eq_getElem (by rw [Hka.out.1]; exact hlt2)⟩
              obtain ⟨ek, ep, ei, es⟩ := Hka.out.2 j r f hr hf
              obtain ⟨g, tv, rfl, hat⟩ := out_at Hout.out.1 Hout.out.2 hr
              have hatx := hat.ext Hx.out
              have hwh := hatx.whole
              have hbx := OutAt.box hatx.text
              have hone := encO_one (o := oOf r tv) (text_form hatx.text)
              have hfx := Ho.out.ext (Hw.out.trans (Hx2.out.trans (He5.out.trans Hx.out)))
              obtain ⟨bb, off, rfl, hbb, hfr⟩ := Files.at hfx hf
              obtain ⟨p1, p2, p3⟩ := file_cells (rangeAt_ext hfr (Ext.alloc wx (.cells (encO (oOf r tv)).toArray 54)))
              have k1 := hbx.kind
              have k2 := hbx.path
              have k3 := hbx.id
              have k4 := hbx.stamp
              rw [ek] at k1
              rw [ep] at k2
              rw [ei] at k3
              simp only [Nat.zero_mul, Nat.zero_add] at k1 k2 k3 k4
              have HE := Lib.hid es
              have hsz54 : (Tryz.prog.info? 54).map (·.size) = some (encO (oOf r tv)).length := by rw [encO_length]; exact size54
              have hz54 : (Z 54).size = (encO (oOf r tv)).length := by rw [encO_length]; exact Z54
              have hu := Tryz.underlying43
              have hsz43 : (Tryz.prog.info? 43).map (·.size) = some (encId f.id).length := by rw [encId_length]; exact size43
              clear hf hr ek ep ei es hat hatx hbx hfx hfr
              generalize encO (oOf r tv) = cs at *
              generalize r.stamp = sr at *
              go_wp2_with (first | (with_reducible refine wpList_load_mid rfl 54 _ rfl g (j * 135) rfl cs _ hwh Tryz.underlying54 rfl hsz54 ?_) | (with_reducible refine wpList_alloc_z rfl 54 rfl zok54 ?_) | (with_reducible refine wpList_store_new rfl 54 _ _ rfl (Z 54) cs rfl rfl hz54 hsz54 hone ?_))
              refine wp_region_still_lit (by kernel_rfl) (by kernel_rfl) ?_
              change wpStill _ _ (wx.alloc (.cells cs.toArray 54)).drew (fun a' => _) _ _
              iterate 15 still_step
              refine wpStill_load (by kernel_rfl) 43 _ rfl wx.heap.size 2 rfl (encId f.id) _ k3 hu rfl hsz43 ?_
              iterate 4 still_step
              refine wpStill_load (by kernel_rfl) 43 _ rfl bb (off + j * 34 + 1) rfl (encId f.id) _ p2 hu rfl hsz43 ?_
              iterate 5 still_step
              still_call (c22e HE.out _)
              iterate 5 still_step
              still_call (c22s f.stamp _)
              iterate 2 still_step
              refine wpStill_nil ?_
              clear p1 p2 p3 k1 k2 k3 k4 hwh hone hsz54 hz54 hu hsz43
              go_wp2_with fail
              refine ⟨⟨j + 1, by omega, by go_num, Hx.out.trans ((Ext.alloc wx (.cells cs.toArray 54)).trans (Ext.drew _))⟩, ?_⟩
              simp [intOf]; omega
            · have Hend := Lib.hid (show Ext wr wx from Hx2.out.trans (He5.out.trans Hx.out))
              go_wp2_with fail
              go_roundw
              case rel => exact ⟨k + 1, by omega, by go_num, Hew.out.1.trans Hend.out, Hew.out.2.ext Hend.out⟩
              case measure => simp [intOf]; omega
        · go_wp2_with fail
          go_ret
          exact ⟨rfl, He3.out.trans hew⟩
    · have h1' : (co != 0) = true := by simpa using h1
      go_wp2_with fail
      go_ret
      exact ⟨rfl, He3.out⟩
  · have h0' : (cb != 0) = true := by simpa using h0
    go_wp2_with fail
    go_ret
    exact ⟨rfl, He2.out⟩
end Go.Proofs.YtaeleagkpgbmaaaGreatDoor
