/- join.three's method decide. -/
import Derived.Test.YtaeleagkpgbmaaaGreatDoorWoven
import Derived.Test.YtaeleagkpgbmaaaGreatDoorJoin2
namespace Go.Proofs.YtaeleagkpgbmaaaGreatDoor
open Go.RowKit
set_option linter.unusedSimpArgs false
set_option linter.unusedVariables false

@[go_sem] theorem run_store_float {P : Program} {w : World} {a : Addr} {m : Mode} (k : FloatKind) (n : Nat) : (store a (.float k n) m).run P w = stored P w a (.float k n) m := run_store P w a _ m rfl
def sm12 (t : ThreeD) : Bool := t.h1 == t.h2 && decide (t.i1 = t.i2)
def sm02 (t : ThreeD) : Bool := t.h0 == t.h2 && decide (t.i0 = t.i2)
def sm01 (t : ThreeD) : Bool := t.h0 == t.h1 && decide (t.i0 = t.i1)
/-- what the method leaves: the files of the path, is it there, the error -/
structure DecR where
  kind : Int
  id : ID
  text : Option (List UInt8)
  there : Bool
  err : Int
def decideO (bl : List BlobD) (t : ThreeD) : Option DecR :=
  if sm12 t || sm02 t then some ⟨1, t.i1, none, t.h1, 0⟩ else if sm01 t then some ⟨1, t.i2, none, t.h2, 0⟩
  else (weaveO bl t).map fun r => ⟨r.kind, t.id, r.text, true, r.err⟩
def DecIs (w : World) (B : Nat) (t : ThreeD) (d : DecR) : Prop :=
  ∃ v, IsT w B { t with kind := d.kind, id := d.id, stamp := whenF t.h0 t.h1 t.h2 t.s0 t.s1 t.s2, text := v } ∧ match d.text with | none => v = t.text | some s => TSl encB 1 5 w v s
theorem IsT.stamp_ {w : World} {B : Nat} {t : ThreeD} (h : IsT w B t) : w.cell? ⟨B, 34, none⟩ = some (.float .f64 t.stamp) := by
  unfold IsT at h; rw [spl_stamp] at h; have := range_one h.range; simpa [preS_length] using this
theorem id_one (x : ID) : ∀ v ∈ (encId x).toArray, v.oneCell' = true := by
  intro v hv
  unfold encId at hv
  simp only [List.mem_toArray, List.mem_map] at hv
  obtain ⟨b, _, rfl⟩ := hv
  rfl

theorem offL_cells (B : Nat) : ∀ (vs : List Value) (o : Nat) (w : World), OffL B w (w.setCells B o vs)
  | [], o, w => OffL.refl B w
  | v :: r, o, w => by
    rw [World.setCells]
    exact (OffL.set w o v).trans (offL_cells B r (o + 1) _)
theorem id_all (x : ID) : (encId x).toArray.all (·.oneCell') = true := Array.all_eq_true_iff_forall_mem.2 (id_one x)
set_option maxRecDepth 10000 in
set_option maxHeartbeats 1000000 in
theorem c40 (B : Nat) (t : ThreeD) (v : Value) (bl : List BlobD) (d : DecR) (w0 w : World) (h : IsT w B t) (hbl : Sl encBl 34 w0 v bl) (he : Ext w0 w) (hB0 : w0.heap.size ≤ B) (hsz : ∀ b ∈ bl, b.text.size ≤ 600) (k0 : okStamp t.s0) (k1 : okStamp t.s1) (k2 : okStamp t.s2) (hd : decideO bl t = some d) :
    Calls Tryz.prog 40 #[.pointer (some ⟨B, 0, none⟩), .iface 34 (.agg #[v])] w fun e w' => e = .returned (.tuple #[.bool d.there, .int .i64 d.err]) ∧ DecIs w' B t d ∧ OffL B w w' := by
  have Hd := Lib.hid hd
  have H := Lib.hid h
  have H12 := Lib.hid (c79_12 B t w h)
  have H02 := Lib.hid (fun w h => c79_02 B t w h)
  have H01 := Lib.hid (fun w h => c79_01 B t w h)
  clear hd h
  have hd := Hd.out
  unfold decideO at hd
  have Hd := Lib.hid hd
  clear hd
  rw [show (t.h1 == t.h2 && decide (t.i1 = t.i2)) = sm12 t from rfl] at H12
  generalize sm12 t = p at *
  go_enter Tryz.func40, Tryz.ntmps40
  cases p
  · go_wp2_with fail
    refine H12.out.mono ?_
    rintro e w1 ⟨rfl, he1⟩
    have He0 := Lib.hid he1
    have H02 := Lib.hid (show Calls Tryz.prog 79 _ w1 fun e w' => e = .returned (.bool (sm02 t)) ∧ Ext w1 w' from H02.out w1 (IsT.ext H.out he1))
    clear he1
    generalize sm02 t = q at *
    cases q
    · go_wp2_with fail
      refine H02.out.mono ?_
      rintro e w2 ⟨rfl, he2⟩
      have He2 := Lib.hid (He0.out.trans he2)
      have H01 := Lib.hid (show Calls Tryz.prog 79 _ w2 fun e w' => e = .returned (.bool (sm01 t)) ∧ Ext w2 w' from H01.out w2 (IsT.ext H.out He2.out))
      clear he2
      generalize sm01 t = y at *
      cases y
      · go_wp2_with fail
        refine H01.out.mono ?_
        rintro e w3 ⟨rfl, he3⟩
        have He1 := Lib.hid (He2.out.trans he3)
        clear he3
        have hd := Hd.out
        simp only [Bool.or_false, Bool.false_eq_true, if_false] at hd
        obtain ⟨r, hr, hd⟩ := Option.map_eq_some_iff.1 hd
        subst hd
        have H81 := Lib.hid (c81 B t v bl r w0 w3 (IsT.ext H.out He1.out) hbl (he.trans He1.out) hB0 hsz hr)
        go_wp2_with fail
        refine H81.out.mono ?_
        rintro e w4 ⟨rfl, ⟨v4, hT4, ht4⟩, hO4⟩
        have H80 := Lib.hid (c80 B _ _ hT4 k0 k1 k2)
        simp only at H80
        have Hall := Lib.hid (And.intro hT4 (And.intro ht4 hO4))
        clear hT4 ht4 hO4
        go_wp2_with fail
        refine H80.out.mono ?_
        rintro e w5 ⟨rfl, he5⟩
        have hT5 := IsT.ext Hall.out.1 he5
        have Hn5 := Lib.hid (Blk.notTy (T := 5) hT5 (by decide))
        have hs5 := hT5.stamp_
        have hf5 := hT5.frozen 34
        have hT6 := hT5.setStamp (whenF t.h0 t.h1 t.h2 t.s0 t.s1 t.s2)
        simp only at hs5
        have Hfin := Lib.hid (And.intro hT6 (((OffL.ext He1.out).trans (Hall.out.2.2.trans (OffL.ext he5))).trans (OffL.set w5 34 (.float .f64 (whenF t.h0 t.h1 t.h2 t.s0 t.s1 t.s2)))))
        have He5 := Lib.hid he5
        clear hT5 hT6 he5
        go_wp2_with fail
        go_ret2
        refine ⟨rfl, ⟨v4, Hfin.out.1, ?_⟩, Hfin.out.2⟩
        have ht := Hall.out.2.1
        cases hrt : r.text with
        | none => rw [hrt] at ht; exact ht
        | some s => rw [hrt] at ht; exact TSl.off (ht.ext He5.out) (OffL.set w5 34 (.float .f64 (whenF t.h0 t.h1 t.h2 t.s0 t.s1 t.s2))) Hn5.out
      · have hd := Hd.out
        simp only [Bool.or_false, Bool.false_eq_true, if_false, if_true] at hd
        injection hd with hd
        subst hd
        go_wp2_with fail
        refine H01.out.mono ?_
        rintro e w3 ⟨rfl, he3⟩
        have He1 := Lib.hid (He2.out.trans he3)
        clear he3
        have hT1 : IsT w3 B t := IsT.ext H.out He1.out
        have hr1 := hT1.i2_
        have hk1 := hT1.kind_
        have hf1 := hT1.frozen 1
        have hT2 := hT1.setKind 1
        have hth : (w3.setCell ⟨B, 1, none⟩ (.int .i64 1)).there B 2 (encId t.i2).toArray.size := by
          have := Blk.there hT2 2 32 (by rw [encT_length]; omega)
          rw [List.size_toArray, encId_length]; exact this
        have hT3 := hT2.setId t.i2
        have hO3 : OffL B w ((w3.setCell ⟨B, 1, none⟩ (.int .i64 1)).setCells B 2 (encId t.i2)) := ((OffL.ext He1.out).trans (OffL.set _ _ _)).trans (offL_cells _ _ _ _)
        have H80 := Lib.hid (c80 B _ _ hT3 k0 k1 k2)
        simp only at H80
        have Hall := Lib.hid (And.intro hT3 hO3)
        clear hT1 hT2 hT3 hO3
        go_wp2_with (first | (with_reducible refine wpList_load_mid rfl 43 _ rfl B 103 rfl (encId t.i2) _ hr1 Tryz.underlying43 rfl (by rw [encId_length]; exact size43) ?_) | ((with_reducible refine wpList_store_mid rfl 43 _ _ rfl B 2 (encId t.i2).toArray ?_ ?_ hth ?_ (id_all t.i2) ?_); (rfl); (rfl); (rw [List.size_toArray, encId_length]; exact size43)))
        refine H80.out.mono ?_
        rintro e w5 ⟨rfl, he5⟩
        have hT5 := IsT.ext Hall.out.1 he5
        have hs5 := hT5.stamp_
        have hf5 := hT5.frozen 34
        have hT6 := hT5.setStamp (whenF t.h0 t.h1 t.h2 t.s0 t.s1 t.s2)
        have hh6 := hT6.h2_
        simp only at hs5 hh6
        have Hfin := Lib.hid (And.intro hT6 ((Hall.out.2.trans (OffL.ext he5)).trans (OffL.set w5 34 (.float .f64 (whenF t.h0 t.h1 t.h2 t.s0 t.s1 t.s2)))))
        clear hT5 hT6 he5
        go_wp2_with fail
        go_ret2
        exact ⟨rfl, ⟨t.text, Hfin.out.1, rfl⟩, Hfin.out.2⟩
    · have hd := Hd.out
      simp only [Bool.or_true, Bool.false_or, if_true] at hd
      injection hd with hd
      subst hd
      go_wp2_with fail
      refine H02.out.mono ?_
      rintro e w2 ⟨rfl, he2⟩
      have He1 := Lib.hid (He0.out.trans he2)
      clear he2
      have hT1 : IsT w2 B t := IsT.ext H.out He1.out
      have hr1 := hT1.i1_
      have hk1 := hT1.kind_
      have hf1 := hT1.frozen 1
      have hT2 := hT1.setKind 1
      have hth : (w2.setCell ⟨B, 1, none⟩ (.int .i64 1)).there B 2 (encId t.i1).toArray.size := by
        have := Blk.there hT2 2 32 (by rw [encT_length]; omega)
        rw [List.size_toArray, encId_length]; exact this
      have hT3 := hT2.setId t.i1
      have hO3 : OffL B w ((w2.setCell ⟨B, 1, none⟩ (.int .i64 1)).setCells B 2 (encId t.i1)) := ((OffL.ext He1.out).trans (OffL.set _ _ _)).trans (offL_cells _ _ _ _)
      have H80 := Lib.hid (c80 B _ _ hT3 k0 k1 k2)
      simp only at H80
      have Hall := Lib.hid (And.intro hT3 hO3)
      clear hT1 hT2 hT3 hO3
      go_wp2_with (first | (with_reducible refine wpList_load_mid rfl 43 _ rfl B 71 rfl (encId t.i1) _ hr1 Tryz.underlying43 rfl (by rw [encId_length]; exact size43) ?_) | ((with_reducible refine wpList_store_mid rfl 43 _ _ rfl B 2 (encId t.i1).toArray ?_ ?_ hth ?_ (id_all t.i1) ?_); (rfl); (rfl); (rw [List.size_toArray, encId_length]; exact size43)))
      refine H80.out.mono ?_
      rintro e w5 ⟨rfl, he5⟩
      have hT5 := IsT.ext Hall.out.1 he5
      have hs5 := hT5.stamp_
      have hf5 := hT5.frozen 34
      have hT6 := hT5.setStamp (whenF t.h0 t.h1 t.h2 t.s0 t.s1 t.s2)
      have hh6 := hT6.h1_
      simp only at hs5 hh6
      have Hfin := Lib.hid (And.intro hT6 ((Hall.out.2.trans (OffL.ext he5)).trans (OffL.set w5 34 (.float .f64 (whenF t.h0 t.h1 t.h2 t.s0 t.s1 t.s2)))))
      clear hT5 hT6 he5
      go_wp2_with fail
      go_ret2
      exact ⟨rfl, ⟨t.text, Hfin.out.1, rfl⟩, Hfin.out.2⟩
  · have hd := Hd.out
    simp only [Bool.true_or, if_true] at hd
    injection hd with hd
    subst hd
    go_wp2_with fail
    refine H12.out.mono ?_
    rintro e w1 ⟨rfl, he1⟩
    have He1 := Lib.hid he1
    clear he1
    have hT1 : IsT w1 B t := IsT.ext H.out He1.out
    have hr1 := hT1.i1_
    have hk1 := hT1.kind_
    have hf1 := hT1.frozen 1
    have hT2 := hT1.setKind 1
    have hth : (w1.setCell ⟨B, 1, none⟩ (.int .i64 1)).there B 2 (encId t.i1).toArray.size := by
      have := Blk.there hT2 2 32 (by rw [encT_length]; omega)
      rw [List.size_toArray, encId_length]; exact this
    have hT3 := hT2.setId t.i1
    have hO3 : OffL B w ((w1.setCell ⟨B, 1, none⟩ (.int .i64 1)).setCells B 2 (encId t.i1)) := ((OffL.ext He1.out).trans (OffL.set _ _ _)).trans (offL_cells _ _ _ _)
    have H80 := Lib.hid (c80 B _ _ hT3 k0 k1 k2)
    simp only at H80
    have Hall := Lib.hid (And.intro hT3 hO3)
    clear hT1 hT2 hT3 hO3
    go_wp2_with (first | (with_reducible refine wpList_load_mid rfl 43 _ rfl B 71 rfl (encId t.i1) _ hr1 Tryz.underlying43 rfl (by rw [encId_length]; exact size43) ?_) | ((with_reducible refine wpList_store_mid rfl 43 _ _ rfl B 2 (encId t.i1).toArray ?_ ?_ hth ?_ (id_all t.i1) ?_); (rfl); (rfl); (rw [List.size_toArray, encId_length]; exact size43)))
    refine H80.out.mono ?_
    rintro e w5 ⟨rfl, he5⟩
    have hT5 := IsT.ext Hall.out.1 he5
    have hs5 := hT5.stamp_
    have hf5 := hT5.frozen 34
    have hT6 := hT5.setStamp (whenF t.h0 t.h1 t.h2 t.s0 t.s1 t.s2)
    have hh6 := hT6.h1_
    simp only at hs5 hh6
    have Hfin := Lib.hid (And.intro hT6 ((Hall.out.2.trans (OffL.ext he5)).trans (OffL.set w5 34 (.float .f64 (whenF t.h0 t.h1 t.h2 t.s0 t.s1 t.s2)))))
    clear hT5 hT6 he5
    go_wp2_with fail
    go_ret2
    exact ⟨rfl, ⟨t.text, Hfin.out.1, rfl⟩, Hfin.out.2⟩
end Go.Proofs.YtaeleagkpgbmaaaGreatDoor
