/- law13.awake answers true. -/
import Derived.Test.YtaeleagkpgbmaaaGreatDoorEval
import Derived.Test.YtaeleagkpgbmaaaGreatDoorMerge2
import Derived.Test.YtaeleagkpgbmaaaGreatDoorOutAt
namespace Go.Proofs.YtaeleagkpgbmaaaGreatDoor
open Go.RowKit
set_option linter.unusedSimpArgs false
set_option linter.unusedVariables false

theorem Sl.new {α : Type} (enc : α → List Value) (sz : Nat) (T : TypeId) (w : World) (xs : List α) (hz : ∀ x ∈ xs, (enc x).length = sz) (hl : xs.length < 4294967296) :
    Sl enc sz (w.alloc (.cells (xs.flatMap enc).toArray T)) (.slice (some ⟨w.heap.size, 0, none⟩) xs.length xs.length) xs := by
  refine ⟨hl, _, _, rfl, ⟨Nat.le_refl _, by simp⟩, hz, fun _ => ⟨_, 0, rfl, by simp, fun i x hi j u hj => ?_⟩⟩
  rw [World.cell?_alloc_at _ _ _ _ rfl]
  have hjs : j < sz := by rw [← hz x (List.mem_of_getElem? hi)]; exact (List.getElem?_eq_some_iff.1 hj).1
  simp only [Nat.zero_add, List.getElem?_toArray]
  rw [flatMap_get enc sz xs hz i x hi j hjs]; exact hj

theorem calls_at {P : Program} {n : Nat} {args : Array Value} {W W' : World} {Q : Ending → World → Prop} (h : Calls P n args W' Q) (e : W = W') : Calls P n args W Q := e ▸ h

/-- the world ahead of the first merge -/
def wA (w : World) : World := (((w.alloc (.cells (blA.flatMap encBl).toArray 99)).alloc (.cells (fA.flatMap encF).toArray 56)).alloc (.cells (fB.flatMap encF).toArray 56)).alloc (.cells (fC.flatMap encF).toArray 56)
theorem Sl.one {α : Type} {enc : α → List Value} {sz : Nat} {w w' : World} {b n m : Nat} {xs : List α} (T : TypeId) (h : Sl enc sz (w.alloc (.cells (xs.flatMap enc).toArray T)) (.slice (some ⟨w.heap.size, 0, none⟩) n m) xs) (hb : b = w.heap.size) (he : Ext (w.alloc (.cells (xs.flatMap enc).toArray T)) w') :
    Sl enc sz w' (.slice (some ⟨b, 0, none⟩) n m) xs := by subst hb; exact h.ext he
theorem wA_bl (w : World) : Sl encBl 34 (wA w) (.slice (some ⟨w.heap.size, 0, none⟩) 3 3) blA :=
  (Sl.new encBl 34 99 w blA (fun b _ => encBl_length b) (by decide)).ext (((Ext.alloc _ _).trans (Ext.alloc _ _)).trans (Ext.alloc _ _))
theorem wA_0 (w : World) : Files (wA w) (.slice (some ⟨w.heap.size + 1, 0, none⟩) 1 1) fA :=
  Sl.one 56 (Sl.new encF 34 56 (w.alloc (.cells (blA.flatMap encBl).toArray 99)) fA (fun b _ => encF_length b) (by decide)) (by simp) ((Ext.alloc _ _).trans (Ext.alloc _ _))
theorem wA_1 (w : World) : Files (wA w) (.slice (some ⟨w.heap.size + 1 + 1, 0, none⟩) 1 1) fB :=
  Sl.one 56 (Sl.new encF 34 56 ((w.alloc (.cells (blA.flatMap encBl).toArray 99)).alloc (.cells (fA.flatMap encF).toArray 56)) fB (fun b _ => encF_length b) (by decide)) (by simp) (Ext.alloc _ _)
theorem wA_2 (w : World) : Files (wA w) (.slice (some ⟨w.heap.size + 1 + 1 + 1, 0, none⟩) 1 1) fC :=
  Sl.one 56 (Sl.new encF 34 56 (((w.alloc (.cells (blA.flatMap encBl).toArray 99)).alloc (.cells (fA.flatMap encF).toArray 56)).alloc (.cells (fB.flatMap encF).toArray 56)) fC (fun b _ => encF_length b) (by decide)) (by simp) (Ext.refl _)
theorem wA_ext (w : World) : Ext w (wA w) := (((Ext.alloc _ _).trans (Ext.alloc _ _)).trans (Ext.alloc _ _)).trans (Ext.alloc _ _)
theorem blA_size : ∀ b ∈ blA, b.text.size ≤ 600 := by
  intro b hb
  simp only [blA, List.mem_cons, List.mem_nil_iff, or_false] at hb
  rcases hb with rfl | rfl | rfl <;> decide
theorem oks_one {l0 l1 l2 : List FileD} (h : ((l0 ++ l1 ++ l2).all fun f => decide (f.path.size < 4294967280) && decide (f.stamp < 18446744073709551616)) = true) : ∀ k, k < 3 → ∀ f ∈ lK l0 l1 l2 k, f.path.size < 4294967280 ∧ okStamp f.stamp := by
  intro k hk f hf
  have hm : f ∈ l0 ++ l1 ++ l2 := by
    obtain rfl | rfl | rfl : k = 0 ∨ k = 1 ∨ k = 2 := by omega
    · exact List.mem_append_left _ (List.mem_append_left _ hf)
    · exact List.mem_append_left _ (List.mem_append_right _ hf)
    · exact List.mem_append_right _ hf
  have := List.all_eq_true.1 h f hm
  simp only [Bool.and_eq_true, decide_eq_true_eq] at this
  exact this
theorem mergeA (w : World) (hG : GMax w) : Calls Tryz.prog 15 #[.agg #[.slice (some ⟨w.heap.size + 1, 0, none⟩) 1 1, .slice (some ⟨w.heap.size + 1 + 1, 0, none⟩) 1 1, .slice (some ⟨w.heap.size + 1 + 1 + 1, 0, none⟩) 1 1], .iface 34 (.agg #[.slice (some ⟨w.heap.size, 0, none⟩) 3 3])] (wA w) (MergeIs (wA w) ([oA], 0)) := by
  have := c15 _ _ _ _ fA fB fC blA (wA w) (wA_0 w) (wA_1 w) (wA_2 w) (wA_bl w) (hG.ext (wA_ext w)) (oks_one (by kernel_rfl)) blA_size (decT blA) oksA
  rwa [evA] at this
/-- the world ahead of the second merge -/
def wD (w : World) : World := (w.alloc (.cells (fD.flatMap encF).toArray 56)).alloc (.cells (fE.flatMap encF).toArray 56)
theorem wD_ext (w : World) : Ext w (wD w) := (Ext.alloc _ _).trans (Ext.alloc _ _)
theorem mergeD (w : World) (hG : GMax w) (v : Value) (hbl : Sl encBl 34 w v blA) : Calls Tryz.prog 15 #[.agg #[.slice none 0 0, .slice (some ⟨w.heap.size, 0, none⟩) 1 1, .slice (some ⟨w.heap.size + 1, 0, none⟩) 1 1], .iface 34 (.agg #[v])] (wD w) (MergeIs (wD w) ([oD, oE], 0)) := by
  have h1 : Files (wD w) (.slice (some ⟨w.heap.size, 0, none⟩) 1 1) fD := (Sl.new encF 34 56 w fD (fun b _ => encF_length b) (by decide)).ext (Ext.alloc _ _)
  have h2 : Files (wD w) (.slice (some ⟨w.heap.size + 1, 0, none⟩) 1 1) fE := Sl.one 56 (Sl.new encF 34 56 (w.alloc (.cells (fD.flatMap encF).toArray 56)) fE (fun b _ => encF_length b) (by decide)) (by simp) (Ext.refl _)
  have := c15 _ _ _ _ [] fD fE blA (wD w) (Sl.nil _ _ _) h1 h2 (hbl.ext (wD_ext w)) (hG.ext (wD_ext w)) (oks_one (by kernel_rfl)) blA_size (decT blA) oksD
  rwa [evD] at this

theorem foul_of {w : World} {os : List ThreeD} {rs : List OutR} (h : OutsOk w os rs) {b : Bool} (hb : (rs.any fun r => r.kind != 1 && r.kind != 2) = b) : os.any foulB = b := by
  rw [← hb]
  obtain ⟨hl, hk⟩ := h
  have e : os.map foulB = rs.map (fun r => r.kind != 1 && r.kind != 2) := by
    apply List.ext_getElem?
    intro i
    rw [List.getElem?_map, List.getElem?_map]
    rcases Nat.lt_or_ge i os.length with hi | hi
    · have ho : os[i]? = some os[i] := List.getElem?_eq_getElem hi
      have hr : rs[i]? = some (rs[i]'(by omega)) := List.getElem?_eq_getElem (by omega)
      rw [ho, hr]
      simp only [Option.map_some]
      rw [foulB, (hk i _ _ ho hr).kind]
    · rw [List.getElem?_eq_none hi, List.getElem?_eq_none (by omega)]
      rfl
  have e1 : os.any foulB = (os.map foulB).any id := by rw [List.any_map]; rfl
  have e2 : (rs.any fun r => r.kind != 1 && r.kind != 2) = (rs.map (fun r => r.kind != 1 && r.kind != 2)).any id := by rw [List.any_map]; rfl
  rw [e1, e2, e]

set_option maxRecDepth 100000 in
set_option maxHeartbeats 4000000 in
theorem c12 (w : World) (hG : GMax w) : Calls Tryz.prog 12 #[] w fun e w' => e = .returned (.bool true) ∧ Ext w w' := by
  have HA := Lib.hid (mergeA w hG)
  have HG := Lib.hid hG
  clear hG
  go_enter Tryz.func12, Tryz.ntmps12
  go_wp2_with fail
  refine (calls_at HA.out (by kernel_rfl)).mono ?_
  rintro e w1 ⟨v1, os1, rfl, hown1, hok1, he1⟩
  have HW1 := Lib.hid (And.intro hown1 (And.intro hok1 he1))
  have hl1 := hok1.1
  obtain ⟨R1, C1, rfl⟩ := hown1.form
  rw [show os1.length = 1 from hl1] at *
  have HD := Lib.hid (mergeD w1 ((HG.out.ext (wA_ext w)).ext he1) _ ((wA_bl w).ext he1))
  clear hown1 hok1 he1 hl1
  go_wp2_with fail
  refine (calls_at HD.out (by kernel_rfl)).mono ?_
  rintro e w2 ⟨v2, os2, rfl, hown2, hok2, he2⟩
  obtain ⟨R2, C2, rfl⟩ := hown2.form
  have hl2 : os2.length = 2 := hok2.1
  have hl1 : os1.length = 1 := HW1.out.2.1.1
  have he12 : Ext w1 w2 := (wD_ext w1).trans he2
  obtain ⟨g1, tv, rfl, ha1⟩ := out_at (i := 0) HW1.out.1 HW1.out.2.1 rfl
  obtain ⟨g2, tv2, rfl, ha2⟩ := out_at (i := 1) hown2 hok2 rfl
  have ha1 := ha1.ext he12
  have c1 := ha1.kind
  have c2 := ha1.stamp
  have c3 := ha1.textv
  have c4 := ha2.kind
  obtain ⟨At, ct, rfl, -⟩ := Byt.open_ ha1.text.1
  have hcv := run_toString w2 At ct _ ha1.text.1 (by decide)
  have HC1 := Lib.hid (c20 _ os1 w2 ((HW1.out.1.sl (fun o _ => encO_length o) (by omega)).ext he12))
  have HC2 := Lib.hid (fun w' (he : Ext w2 w') => c20 _ os2 w' ((hown2.sl (fun o _ => encO_length o) (by omega)).ext he))
  have e1 : os1.any foulB = false := foul_of HW1.out.2.1 (by decide)
  have e2 : os2.any foulB = true := foul_of hok2 (by decide)
  rw [e1] at HC1
  rw [e2] at HC2
  rw [hl2] at HC2 ⊢
  have Hend := Lib.hid ((wA_ext w).trans (HW1.out.2.2.trans he12))
  simp only [oA, oE, Nat.zero_mul, Nat.one_mul, Nat.zero_add, Nat.reduceAdd, List.length_cons, List.length_nil] at c1 c2 c3 c4 hcv
  have hmk : mkS [120, 10, 98, 10, 121, 10] = ⟨#[120, 10, 98, 10, 121, 10]⟩ := rfl
  rw [hmk] at hcv
  clear ha1 ha2 hown2 hok2 hl1 hl2 he12 e1 e2 he2 HD HA hmk HW1 HG
  go_wp2_with fail
  refine HC1.out.mono ?_
  rintro e w3 ⟨rfl, he3⟩
  have c4' := he3.cells c4
  have HC3 := Lib.hid (HC2.out w3 he3)
  have He3 := Lib.hid he3
  clear c1 c2 c3 c4 hcv HC1 HC2 he3
  go_wp2_with fail
  refine HC3.out.mono ?_
  rintro e w4 ⟨rfl, he4⟩
  have Hfin := Lib.hid (Hend.out.trans (He3.out.trans he4))
  clear he4
  go_wp2_with fail
  go_ret
  exact ⟨rfl, Hfin.out⟩
end Go.Proofs.YtaeleagkpgbmaaaGreatDoor
