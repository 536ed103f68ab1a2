/- law13.JoinTimes answers true. -/
import Derived.Test.YtaeleagkpgbmaaaGreatDoorTimes0
import Derived.Test.YtaeleagkpgbmaaaGreatDoorAwake
import Derived.Test.YtaeleagkpgbmaaaGreatDoorBuild
namespace Go.Proofs.YtaeleagkpgbmaaaGreatDoor
open Go.RowKit
set_option linter.unusedSimpArgs false
set_option linter.unusedVariables false

theorem pP_size : pP.size < 4294967280 := by decide
def fT (x : ID) (s : Nat) : List FileD := [⟨pP, x, s⟩]
def twT (x : ID) (s0 s1 s2 : Nat) : ThreeD := ⟨pP, 0, zeroId, 0, .slice none 0 0, true, true, true, x, x, x, s0, s1, s2⟩
def oT (x : ID) (s0 s1 s2 : Nat) : OutR := ⟨pP, 1, x, whenF true true true s0 s1 s2, [], true, true, true, x, x, x⟩
theorem sT (x : ID) (s0 s1 s2 : Nat) : (sK (fT x s0) (fT x s1) (fT x s2) 3).ps = [pP] := by kernel_rfl
theorem mT (x : ID) (s0 s1 s2 : Nat) : (sK (fT x s0) (fT x s1) (fT x s2) 3).m pP = twT x s0 s1 s2 := by kernel_rfl
theorem dT (x : ID) (s0 s1 s2 : Nat) : decideO [] (twT x s0 s1 s2) = some ⟨1, x, none, true, 0⟩ := by
  unfold decideO sm12 twT
  simp
theorem decTT (x : ID) (s0 s1 s2 : Nat) : decT [] (twT x s0 s1 s2) = ⟨1, x, none, true, 0⟩ := by unfold decT; rw [dT]; rfl
theorem chkT (x : ID) (s0 s1 s2 : Nat) : chk3 (fT x s0) (fT x s1) (fT x s2) = 0 := by kernel_rfl
theorem evT (x : ID) (s0 s1 s2 : Nat) : mergeF (decT []) (fT x s0) (fT x s1) (fT x s2) = ([oT x s0 s1 s2], 0) := by
  unfold mergeF
  rw [chkT, sT, sortP_one]
  simp only [ne_eq, not_true_eq_false, if_false, errD, keepD, List.flatMap_cons, List.flatMap_nil, mT, decTT, if_true, List.append_nil]
  kernel_rfl
theorem oksT (x : ID) (s0 s1 s2 : Nat) : ∀ p, p ∈ (sK (fT x s0) (fT x s1) (fT x s2) 3).ps → decideO [] ((sK (fT x s0) (fT x s1) (fT x s2) 3).m p) = some (decT [] ((sK (fT x s0) (fT x s1) (fT x s2) 3).m p)) ∧ (decT [] ((sK (fT x s0) (fT x s1) (fT x s2) 3).m p)).kind ≠ 4 := by
  intro p hp
  rw [sT, List.mem_singleton] at hp
  subst hp
  rw [mT, decTT, dT]
  exact ⟨rfl, fun h => by cases h⟩
theorem rs22 (f : FileD) (w : World) : (Instr.buildSlice 22 1 #[(0, .agg (encF f).toArray)]).run Tryz.prog w = .ok (.slice (some ⟨w.heap.size, 0, none⟩) 1 1) (w.alloc (.cells (encF f).toArray 56)) := run_slice_one row22 (encF f) (encF_length f) (by omega) w

theorem c22s (n : Nat) (w : World) : Calls Tryz.prog 22 #[.float .f64 n] w fun e w' => e = .returned (.int .u64 (bitsF n)) ∧ w' = w := (c22 n w).mono fun _ _ ⟨h1, h2⟩ => ⟨h1, h2.symm⟩
theorem c24s {a b : Nat} (h : beforeF a b = false) (w : World) : Calls Tryz.prog 24 #[.float .f64 a, .float .f64 b] w fun e w' => e = .returned (.bool false) ∧ w' = w := (c24 a b w).mono fun _ _ ⟨h1, h2⟩ => ⟨by rw [h1, h], h2.symm⟩
def sJ (s0 s1 s2 : Nat) : Nat → Nat
  | 0 => s0
  | 1 => s1
  | _ => s2
/-- the first k lists are laid -/
def TRel (w1 : World) (x : ID) (s0 s1 s2 k : Nat) (w : World) : Prop :=
  Ext w1 w ∧ ∃ vs : List Value, vs.length = 3 ∧ Blk w w1.heap.size 23 vs ∧ ∀ j, j < k → ∃ v, vs[j]? = some v ∧ TSl encF 34 56 w v (fT x (sJ s0 s1 s2 j))
theorem blk_set1 {w : World} {B j : Nat} {T : TypeId} {l : List Value} (h : Blk w B T l) (v : Value) : Blk (w.setCell ⟨B, j, none⟩ v) B T (l.set j v) := by
  unfold Blk at h ⊢
  simp [World.setCell, Array.getElem?_modify, h]
theorem trel_next {w1 w : World} {x : ID} {s0 s1 s2 k : Nat} (h : TRel w1 x s0 s1 s2 k w) (hk : k < 3) {w' : World} (hw : w' = ((w.setCell ⟨w1.heap.size, k, none⟩ (.slice (some ⟨w.heap.size, 0, none⟩) 1 1)).alloc (.cells (encF ⟨pP, x, sJ s0 s1 s2 k⟩).toArray 56)).drew) : TRel w1 x s0 s1 s2 (k + 1) w' := by
  subst hw
  obtain ⟨he, vs, hl, hB, hf⟩ := h
  have hlt := hB.lt
  have hlt1 := he.size
  have ho : OffL w1.heap.size w (w.setCell ⟨w1.heap.size, k, none⟩ (.slice (some ⟨w.heap.size, 0, none⟩) 1 1)) := OffL.set _ _ _
  have hx : Ext (w.setCell ⟨w1.heap.size, k, none⟩ (.slice (some ⟨w.heap.size, 0, none⟩) 1 1)) ((w.setCell ⟨w1.heap.size, k, none⟩ (.slice (some ⟨w.heap.size, 0, none⟩) 1 1)).alloc (.cells (encF ⟨pP, x, sJ s0 s1 s2 k⟩).toArray 56)).drew := (Ext.alloc _ _).trans (Ext.drew _)
  have hnt : NotTy w w1.heap.size 56 := Blk.notTy hB (by decide)
  have hsz : (w.setCell ⟨w1.heap.size, k, none⟩ (.slice (some ⟨w.heap.size, 0, none⟩) 1 1)).heap.size = w.heap.size := by simp [World.setCell]
  refine ⟨(ho.down he (Nat.le_refl _)).trans hx, vs.set k (.slice (some ⟨w.heap.size, 0, none⟩) 1 1), by simpa using hl, (blk_set1 hB _).ext hx, fun j hj => ?_⟩
  rcases Nat.lt_or_ge j k with h | h
  · obtain ⟨v, hv, hfv⟩ := hf j h
    exact ⟨v, by rw [List.getElem?_set_ne (by omega)]; exact hv, (hfv.off ho hnt).ext hx⟩
  · obtain rfl : j = k := by omega
    refine ⟨_, List.getElem?_set_self (by omega), TSl.ext ?_ (Ext.drew _)⟩
    have h1 := Sl.new encF 34 56 (w.setCell ⟨w1.heap.size, j, none⟩ (.slice (some ⟨w.heap.size, 0, none⟩) 1 1)) (fT x (sJ s0 s1 s2 j)) (fun b _ => encF_length b) (by simp [fT])
    have h2 := Blk.new (w.setCell ⟨w1.heap.size, j, none⟩ (.slice (some ⟨w.heap.size, 0, none⟩) 1 1)) 56 (encF ⟨pP, x, sJ s0 s1 s2 j⟩)
    have e : (fT x (sJ s0 s1 s2 j)).flatMap encF = encF ⟨pP, x, sJ s0 s1 s2 j⟩ := by simp [fT]
    rw [e, hsz] at h1
    rw [hsz] at h2
    refine ⟨h1, fun g hg => ?_⟩
    have eg : w.heap.size = g := by simpa [Value.ownBlock] using hg
    subst eg
    exact ⟨_, _, h2⟩

set_option maxRecDepth 100000 in
set_option maxHeartbeats 4000000 in
theorem c7 (x : ID) (s0 s1 s2 : Nat) (w : World) (hG : GMax w) (k0 : okStamp s0) (k1 : okStamp s1) (k2 : okStamp s2) :
    Calls Tryz.prog 7 #[.agg (encId x).toArray, .agg #[.float .f64 s0, .float .f64 s1, .float .f64 s2]] w fun e w' => e = .returned (.bool true) ∧ Ext w w' := by
  have HG := Lib.hid hG
  clear hG
  go_enter Tryz.func7, Tryz.ntmps7
  go_wp2_with fail
  have He0 := Lib.hid (show Ext w ((w.alloc (.cells (encId x).toArray 43)).alloc (.cells #[.float .f64 s0, .float .f64 s1, .float .f64 s2] 64)) from (Ext.alloc _ _).trans (Ext.alloc _ _))
  have hB2 := Lib.hid ((Blk.new w 43 (encId x)).ext (Ext.alloc (w.alloc (.cells (encId x).toArray 43)) (.cells #[.float .f64 s0, .float .f64 s1, .float .f64 s2] 64)))
  have hB3 := Lib.hid (Blk.new (w.alloc (.cells (encId x).toArray 43)) 64 [.float .f64 s0, .float .f64 s1, .float .f64 s2])
  refine (c12 _ (HG.out.ext He0.out)).mono ?_
  rintro e w1 ⟨rfl, he1⟩
  have He1 := Lib.hid he1
  have hB2' := hB2.out.ext he1
  have hB3' := hB3.out.ext he1
  rw [show (w.alloc (.cells (encId x).toArray 43)).heap.size = w.heap.size + 1 by simp] at hB3'
  have hn1 : w.heap.size + 1 < w1.heap.size := hB3'.lt
  have Hb := Lib.hid (And.intro hB2' hB3')
  clear he1 hB2 hB3
  go_wp2_with fail
  have hnil := Lib.hid (show TRel w1 x s0 s1 s2 0 (w1.alloc (.cells #[.slice none 0 0, .slice none 0 0, .slice none 0 0] 23)) from ⟨Ext.alloc _ _, [.slice none 0 0, .slice none 0 0, .slice none 0 0], rfl, Blk.new w1 23 _, fun j hj => absurd hj (Nat.not_lt_zero _)⟩)
  go_loopw [15] (fun i wr => ∃ k : Nat, k ≤ 3 ∧ i = .int .i64 (k : Int) ∧ TRel w1 x s0 s1 s2 k wr) (fun i _ => 3 - (intOf i).toNat)
  case atStart => exact ⟨0, Nat.zero_le _, rfl, hnil.out⟩
  case round =>
    obtain ⟨k, hk, rfl, ht⟩ := hrel
    have Ht := Lib.hid ht
    by_cases hlt : k < 3
    · obtain ⟨het, vs, hvl, hBt, -⟩ := ht
      have hb2 := Hb.out.1.ext het
      have hb3 := Hb.out.2.ext het
      have hrg : wr.rangeAt w.heap.size 0 (encId x) := Blk.range (A := []) (M := encId x) (C := []) (by simpa using hb2)
      have hck : wr.cell? ⟨w.heap.size + 1, k, none⟩ = some (.float .f64 (sJ s0 s1 s2 k)) := by
        rw [hb3.cell]
        obtain rfl | rfl | rfl : k = 0 ∨ k = 1 ∨ k = 2 := by omega
        · rfl
        · rfl
        · rfl
      obtain ⟨uk, huk⟩ : ∃ u, vs[k]? = some u := ⟨_, List.getElem?_eq_getElem (by omega)⟩
      have hcs : wr.cell? ⟨w1.heap.size, k, none⟩ = some uk := by rw [hBt.cell]; exact huk
      have hfs := hBt.frozen k
      have hn2 := hBt.lt
      have hln := encId_length x
      have hu := Tryz.underlying43
      have hsz43 : (Tryz.prog.info? 43).map (·.size) = some (encId x).length := by rw [hln]; exact size43
      go_wp2_with fail
      have S0 : wr.drew.rangeAt w.heap.size 0 (encId x) ∧ wr.drew.cell? ⟨w.heap.size + 1, k, none⟩ = some (.float .f64 (sJ s0 s1 s2 k)) := ⟨hrg, hck⟩
      have S1 : (wr.drew.alloc (.cells (encF ⟨⟨#[112]⟩, x, sJ s0 s1 s2 k⟩).toArray 56)).rangeAt w.heap.size 0 (encId x) ∧ (wr.drew.alloc (.cells (encF ⟨⟨#[112]⟩, x, sJ s0 s1 s2 k⟩).toArray 56)).cell? ⟨w.heap.size + 1, k, none⟩ = some (.float .f64 (sJ s0 s1 s2 k)) :=
        ⟨rangeAt_ext S0.1 (Ext.alloc _ _), (Ext.alloc wr.drew _).cells S0.2⟩
      have he2 : Ext (wr.setCell ⟨w1.heap.size, k, none⟩ (.slice (some ⟨wr.heap.size, 0, none⟩) 1 1)) (((wr.setCell ⟨w1.heap.size, k, none⟩ (.slice (some ⟨wr.heap.size, 0, none⟩) 1 1)).alloc (.cells (encF ⟨⟨#[112]⟩, x, sJ s0 s1 s2 k⟩).toArray 56)).drew) := (Ext.alloc _ _).trans (Ext.drew _)
      have hb2' := (hb2.far (p := ⟨w1.heap.size, k, none⟩) (by show w.heap.size ≠ w1.heap.size; omega) (.slice (some ⟨wr.heap.size, 0, none⟩) 1 1)).ext he2
      have hb3' := (hb3.far (p := ⟨w1.heap.size, k, none⟩) (by show w.heap.size + 1 ≠ w1.heap.size; omega) (.slice (some ⟨wr.heap.size, 0, none⟩) 1 1)).ext he2
      have S2 := And.intro (Blk.range (A := []) (M := encId x) (C := []) (by simpa using hb2')) ((hb3'.cell k).trans ((hb3.cell k).symm.trans hck))
      go_region_held3 (fun w' => w'.rangeAt w.heap.size 0 (encId x) ∧ w'.cell? ⟨w.heap.size + 1, k, none⟩ = some (.float .f64 (sJ s0 s1 s2 k))) (first | exact S0 | exact S1 | exact S2) (first | fail)
      clear S0 S1 S2 he2 hb2' hb3' hrg hck hcs hfs hln hu hsz43 hb2 hb3
      go_wp2_with fail
      refine ⟨⟨k + 1, by omega, by go_num, trel_next Ht.out hlt ?_⟩, ?_⟩
      · rfl
      · simp [intOf]; omega
    · obtain rfl : k = 3 := by omega
      obtain ⟨het, vs, hvl, hBt, hfs⟩ := ht
      obtain ⟨v0, e0, f0⟩ := hfs 0 (by omega)
      obtain ⟨v1, e1, f1⟩ := hfs 1 (by omega)
      obtain ⟨v2, e2, f2⟩ := hfs 2 (by omega)
      have hc0 := hBt.cell 0
      have hc1 := hBt.cell 1
      have hc2 := hBt.cell 2
      rw [e0] at hc0
      rw [e1] at hc1
      rw [e2] at hc2
      have Hx := Lib.hid (He0.out.trans (He1.out.trans het))
      have H15 := Lib.hid (show Calls Tryz.prog 15 #[.agg #[v0, v1, v2], .iface 34 (.agg #[.slice none 0 0])] wr (MergeIs wr ([oT x s0 s1 s2], 0)) from by
        have := c15 v0 v1 v2 (.slice none 0 0) (fT x s0) (fT x s1) (fT x s2) [] wr f0.1 f1.1 f2.1 (Sl.nil _ _ _) (HG.out.ext Hx.out) (by
          intro k hk f hf
          obtain rfl | rfl | rfl : k = 0 ∨ k = 1 ∨ k = 2 := by omega
          · simp only [lK, fT, List.mem_singleton] at hf; subst hf; exact ⟨pP_size, k0⟩
          · simp only [lK, fT, List.mem_singleton] at hf; subst hf; exact ⟨pP_size, k1⟩
          · simp only [lK, fT, List.mem_singleton] at hf; subst hf; exact ⟨pP_size, k2⟩) (by simp) (decT []) (oksT x s0 s1 s2)
        rwa [evT] at this)
      have hb2 := Hb.out.1.ext het
      have hb3 := Hb.out.2.ext het
      have Hbb := Lib.hid (And.intro hb2 hb3)
      clear hBt hfs f0 f1 f2 e0 e1 e2 hvl hb2 hb3
      go_wp2_with fail
      refine H15.out.mono ?_
      rintro e w4 ⟨v4, os, rfl, hown, hok, he4⟩
      obtain ⟨R4, C4, rfl⟩ := hown.form
      rw [show os.length = 1 from hok.1]
      obtain ⟨g, tv, rfl, hat⟩ := out_at (i := 0) hown hok rfl
      have hkd := hat.kind
      have hid := hat.id
      have hst := hat.stamp
      simp only [oT, Nat.zero_mul, Nat.zero_add] at hkd hid hst
      have hb2 := Hbb.out.1.ext he4
      have hb3 := Hbb.out.2.ext he4
      have hrg : w4.rangeAt w.heap.size 0 (encId x) := Blk.range (A := []) (M := encId x) (C := []) (by simpa using hb2)
      have t0 := hb3.cell 0
      have t1 := hb3.cell 1
      have t2 := hb3.cell 2
      simp only [List.getElem?_cons_zero, List.getElem?_cons_succ] at t0 t1 t2
      have Hx4 := Lib.hid (Hx.out.trans he4)
      clear hown hok hat hb2 hb3 hc0 hc1 hc2 he4 H15
      have hln := encId_length x
      have hu := Tryz.underlying43
      have hsz43 : (Tryz.prog.info? 43).map (·.size) = some (encId x).length := by rw [hln]; exact size43
      go_wp2_with fail
      refine wp_region_still_lit (by kernel_rfl) (by kernel_rfl) ?_
      change wpStill _ _ w4.drew (fun a' => _) _ _
      iterate 18 still_step
      refine wpStill_load (by kernel_rfl) 43 _ rfl g 2 rfl (encId x) _ hid hu rfl hsz43 ?_
      refine wpStill_load (by kernel_rfl) 43 _ rfl w.heap.size 0 rfl (encId x) _ hrg hu rfl hsz43 ?_
      iterate 2 still_step
      refine wpStill_nil ?_
      clear hid hrg hkd hln hu hsz43
      go_wp2_with fail
      have Hlaw := Lib.hid (when_law k0 k1 k2)
      have Hg := Lib.hid (c22s (whenF true true true s0 s1 s2))
      have Hb1 := Lib.hid (fun w' (h : beforeF (whenF true true true s0 s1 s2) s1 = false) => c24s h w')
      have Hb2 := Lib.hid (fun w' (h : beforeF (whenF true true true s0 s1 s2) s2 = false) => c24s h w')
      generalize whenF true true true s0 s1 s2 = sg at *
      refine wp_region_still_lit (by kernel_rfl) (by kernel_rfl) ?_
      change wpStill _ _ w4.drew.drew (fun a' => _) _ _
      iterate 2 still_step
      still_call (c22s s0 _)
      iterate 2 still_step
      still_call (c22s s1 _)
      iterate 2 still_step
      still_call (c22s s2 _)
      iterate 4 still_step
      still_call (c22s sg _)
      iterate 4 still_step
      refine wpStill_nil ?_
      by_cases hA : bitsF s1 = bitsF s0
      · have hl := Hlaw.out
        rw [if_pos hA] at hl
        have q1 : ((bitsF s1 : Int) == (bitsF s0 : Int)) = true := by rw [hA]; simp
        have q2 : ((bitsF sg : Int) == (bitsF s2 : Int)) = true := by rw [hl]; simp
        clear hA hl
        go_wp2_with fail
        go_ret
        exact ⟨rfl, Hx4.out.trans (Ext.drewN _ 2)⟩
      · by_cases hB : bitsF s2 = bitsF s0
        · have hl := Hlaw.out
          rw [if_neg hA, if_pos hB] at hl
          have q1 : ((bitsF s1 : Int) == (bitsF s0 : Int)) = false := by rw [beq_eq_false_iff_ne]; omega
          have q2 : ((bitsF s2 : Int) == (bitsF s0 : Int)) = true := by rw [hB]; simp
          have q3 : ((bitsF sg : Int) == (bitsF s1 : Int)) = true := by rw [hl]; simp
          clear hA hB hl
          go_wp2_with fail
          go_ret
          exact ⟨rfl, Hx4.out.trans (Ext.drewN _ 2)⟩
        · have hl := Hlaw.out
          rw [if_neg hA, if_neg hB] at hl
          obtain ⟨hl1, hl2, hl3⟩ := hl
          have Hl2 := Lib.hid hl2
          have Hl3 := Lib.hid hl3
          have q1 : ((bitsF s1 : Int) == (bitsF s0 : Int)) = false := by rw [beq_eq_false_iff_ne]; omega
          have q2 : ((bitsF s2 : Int) == (bitsF s0 : Int)) = false := by rw [beq_eq_false_iff_ne]; omega
          clear hA hB hl2 hl3
          cases q3 : ((bitsF sg : Int) == (bitsF s1 : Int))
          · have q4 : ((bitsF sg : Int) == (bitsF s2 : Int)) = true := by
              rcases hl1 with h | h
              · rw [h] at q3; simp at q3
              · rw [h]; simp
            clear hl1
            go_wp2_with fail
            refine wp_region_still_lit (by kernel_rfl) (by kernel_rfl) ?_
            change wpStill _ _ w4.drew.drew.drew (fun a' => _) _ _
            iterate 15 still_step
            still_call (Hb1.out _ Hl2.out)
            iterate 9 still_step
            still_call (Hb2.out _ Hl3.out)
            iterate 3 still_step
            refine wpStill_nil ?_
            go_wp2_with fail
            go_ret
            exact ⟨rfl, Hx4.out.trans (Ext.drewN _ 3)⟩
          · clear hl1
            go_wp2_with fail
            refine wp_region_still_lit (by kernel_rfl) (by kernel_rfl) ?_
            change wpStill _ _ w4.drew.drew.drew (fun a' => _) _ _
            iterate 15 still_step
            still_call (Hb1.out _ Hl2.out)
            iterate 9 still_step
            still_call (Hb2.out _ Hl3.out)
            iterate 3 still_step
            refine wpStill_nil ?_
            go_wp2_with fail
            go_ret
            exact ⟨rfl, Hx4.out.trans (Ext.drewN _ 3)⟩
end Go.Proofs.YtaeleagkpgbmaaaGreatDoor
