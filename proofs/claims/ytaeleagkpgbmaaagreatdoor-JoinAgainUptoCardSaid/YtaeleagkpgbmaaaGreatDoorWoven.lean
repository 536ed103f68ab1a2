/- join.three's method weave. -/
import Derived.Test.YtaeleagkpgbmaaaGreatDoorBlob
import Derived.Handy
import Derived.Test.YtaeleagkpgbmaaaGreatDoorTree
import Derived.Deep.RegionHeld3
import Derived.Deep.DeepCutAuto
namespace Go.Proofs.YtaeleagkpgbmaaaGreatDoor
open Go.RowKit
set_option linter.unusedSimpArgs false
set_option linter.unusedVariables false

theorem run_size4 (w : World) : (sizeOf 4).run Tryz.prog w = .ok 1 w := by
  obtain ⟨i, hi, hz⟩ := Option.map_eq_some_iff.1 (show (Tryz.prog.info? 4).map (fun i => (i.zero.map fun z => z.cells.size, i.size)) = some (some 1, 1) by kernel_rfl)
  simp only [Prod.mk.injEq] at hz
  rw [run_sizeOf w hi]; unfold Program.cellsOf; simp [hi, hz.2]
@[go_sem] theorem run_index45_0 (a b c : Bool) (w : World) : (Instr.index 45 (.agg #[.bool a, .bool b, .bool c]) (.int .i64 0)).run Tryz.prog w = .ok (.bool a) w := by
  simp [Instr.index, asIntOf, run_underlying Tryz.underlying45, run_size4, part]
@[go_sem] theorem run_index45_1 (a b c : Bool) (w : World) : (Instr.index 45 (.agg #[.bool a, .bool b, .bool c]) (.int .i64 1)).run Tryz.prog w = .ok (.bool b) w := by
  simp [Instr.index, asIntOf, run_underlying Tryz.underlying45, run_size4, part]
@[go_sem] theorem run_index45_2 (a b c : Bool) (w : World) : (Instr.index 45 (.agg #[.bool a, .bool b, .bool c]) (.int .i64 2)).run Tryz.prog w = .ok (.bool c) w := by
  simp [Instr.index, asIntOf, run_underlying Tryz.underlying45, run_size4, part]
@[go_sem] theorem na34 (v : Value) (w : World) : Sem.run Tryz.prog (nilAhead 448 34 (.agg #[v]) "Text") w = .ok (some false) w := by kernel_rfl
@[go_sem] theorem meth34 (v : Value) (w : World) : Sem.run Tryz.prog (method 448 34 (.agg #[v]) "Text") w = .ok (239, .agg #[v]) w := by kernel_rfl
/-- a version's lines, or the error with which all stops (0: it is no text) -/
def lineI (bl : List BlobD) (has : Bool) (id : ID) : Except Int (List ByteArray) :=
  if has then (if (blobF bl id).2 ≠ 0 then .error (blobF bl id).2 else if isTextB (blobF bl id).1.data.toList then .ok ((linesOf (blobF bl id).1.data.toList).map mkS) else .error 0) else .ok []
theorem lineI_err {bl : List BlobD} {id : ID} (h : (blobF bl id).2 ≠ 0) : lineI bl true id = .error (blobF bl id).2 := by unfold lineI; rw [if_pos rfl, if_pos h]
theorem lineI_no {bl : List BlobD} {id : ID} (h : (blobF bl id).2 = 0) (ht : isTextB (blobF bl id).1.data.toList = false) : lineI bl true id = .error 0 := by unfold lineI; rw [if_pos rfl, if_neg (by simpa using h), if_neg (by rw [ht]; simp)]
theorem lineI_ok {bl : List BlobD} {id : ID} (h : (blobF bl id).2 = 0) (ht : isTextB (blobF bl id).1.data.toList = true) : lineI bl true id = .ok ((linesOf (blobF bl id).1.data.toList).map mkS) := by unfold lineI; rw [if_pos rfl, if_neg (by simpa using h), if_pos ht]
theorem OffL.setNew {B X j : Nat} {w w' : World} {v : Value} (h : OffL B w w') (hX : w.heap.size ≤ X) : OffL B w (w'.setCell ⟨X, j, none⟩ v) := by
  obtain ⟨h1, h2, h3, h4, h5⟩ := h
  exact ⟨h1, h2, h3, by simpa [World.setCell] using h4, fun k hk hne => (Below.heap_setCell w' _ _ k (by show k ≠ X; omega)).trans (h5 k hk hne)⟩
/-- the kind, the text, the error -/
structure WovenR where
  kind : Int
  text : Option (List UInt8)
  err : Int
def weaveO (bl : List BlobD) (t : ThreeD) : Option WovenR :=
  if t.h1 && t.h2 then
    match lineI bl t.h0 t.i0 with
    | .error e => some ⟨3, none, e⟩
    | .ok l0 => match lineI bl t.h1 t.i1 with
      | .error e => some ⟨3, none, e⟩
      | .ok l1 => match lineI bl t.h2 t.i2 with
        | .error e => some ⟨3, none, e⟩
        | .ok l2 => (mergeO l0 l1 l2).bind fun ps => (textO ps).bind fun tx => if (catF tx).length < 4294967296 then some ⟨2, some (catF tx), 0⟩ else none
  else some ⟨3, none, 0⟩
/-- what the method leaves in the block -/
def WovenIs (w : World) (B : Nat) (t : ThreeD) (r : WovenR) : Prop :=
  ∃ v, IsT w B { t with kind := r.kind, text := v } ∧ match r.text with | none => v = t.text | some s => TSl encB 1 5 w v s

theorem IsT.text_ {w : World} {B : Nat} {t : ThreeD} (h : IsT w B t) : w.cell? ⟨B, 35, none⟩ = some t.text := by
  unfold IsT at h; rw [spl_text] at h; have := range_one h.range; simpa [preS_length] using this
theorem IsT.has_ {w : World} {B : Nat} {t : ThreeD} (h : IsT w B t) : w.rangeAt B 36 [.bool t.h0, .bool t.h1, .bool t.h2] := by
  unfold IsT at h; rw [spl_has] at h; have := h.range; simpa [preS_length] using this

theorem blobF_small' {l : List BlobD} (h : ∀ b ∈ l, b.text.size ≤ 600) (id : ID) : (blobF l id).1.size ≤ 600 := by
  induction l with
  | nil =>
    show ByteArray.size ⟨#[]⟩ ≤ 600
    decide
  | cons b r ih =>
    rw [blobF]
    split
    · split
      · show ByteArray.size ⟨#[]⟩ ≤ 600
        decide
      · exact h b List.mem_cons_self
    · exact ih (fun b hb => h b (List.mem_cons_of_mem _ hb))
theorem lineI_len {bl : List BlobD} (h : ∀ b ∈ bl, b.text.size ≤ 600) {has : Bool} {id : ID} {l : List ByteArray} (hl : lineI bl has id = .ok l) : l.length ≤ 600 := by
  unfold lineI at hl
  split at hl
  · split at hl
    · cases hl
    · split at hl
      · injection hl with hl
        subst hl
        rw [List.length_map]
        have h1 := linesOf_len (blobF bl id).1.data.toList
        have h2 := blobF_small' h id
        have h3 : (blobF bl id).1.data.toList.length = (blobF bl id).1.size := by simp
        omega
      · cases hl
  · injection hl with hl
    subst hl
    simp
theorem mergeO_len {b o t : List ByteArray} {ps : List PartD} (h : mergeO b o t = some ps) : ps.length ≤ 2001 := by
  obtain ⟨s, h1, h2⟩ := Option.bind_eq_some_iff.1 h
  obtain ⟨s', h3, rfl⟩ := Option.map_eq_some_iff.1 h2
  obtain ⟨_, _, _, h4, h5, _⟩ := stepO_some h3
  unfold addO at h5
  split at h5
  · injection h5 with h5; rw [← h5]; omega
  · simp only at h5
    split at h5
    · cases h5
    · injection h5 with h5; rw [← h5]; simp; omega
theorem WovenIs.old {w : World} {B : Nat} {t : ThreeD} {r : WovenR} (h : IsT w B { t with kind := r.kind }) (hr : r.text = none) : WovenIs w B t r := ⟨t.text, h, by rw [hr]⟩
set_option maxRecDepth 10000 in
set_option maxHeartbeats 1000000 in
theorem c81 (B : Nat) (t : ThreeD) (v : Value) (bl : List BlobD) (r : WovenR) (w0 w : World) (h : IsT w B t) (hbl : Sl encBl 34 w0 v bl) (he : Ext w0 w) (hB0 : w0.heap.size ≤ B) (hsz : ∀ b ∈ bl, b.text.size ≤ 600) (hr : weaveO bl t = some r) :
    Calls Tryz.prog 81 #[.pointer (some ⟨B, 0, none⟩), .iface 34 (.agg #[v])] w fun e w' => e = .returned (.int .i64 r.err) ∧ WovenIs w' B t r ∧ OffL B w w' := by
  have Hr := Lib.hid hr
  have H := Lib.hid h
  have Hbl := Lib.hid hbl
  have h3 := h.setKind 3
  have H3 := Lib.hid h3
  have hk := h.kind_
  have hkf := h.frozen 1
  have hh1 := h3.h1_
  have hh2 := h3.h2_
  have hhas := h3.has_
  simp only at hh1 hh2
  clear h h3 hr hbl
  go_enter Tryz.func81, Tryz.ntmps81
  by_cases hh : (t.h1 && t.h2) = true
  · have hr := Hr.out
    unfold weaveO at hr
    rw [if_pos hh] at hr
    simp only [Bool.and_eq_true] at hh
    obtain ⟨e1, e2⟩ := hh
    rw [e1] at hh1
    rw [e2] at hh2
    obtain ⟨p, hp⟩ : ∃ p, t.h0 = p := ⟨_, rfl⟩
    have ha0 : ∀ o, ((w.setCell ⟨B, 1, none⟩ (.int .i64 3)).alloc o).cell? ⟨B, 36, none⟩ = some (.bool p) := fun o => ((H3.out.ext (Ext.alloc _ o)).h0_).trans (by rw [← hp])
    have HP0 := Lib.hid hp
    clear hp
    have ha1 : ∀ o, ((w.setCell ⟨B, 1, none⟩ (.int .i64 3)).alloc o).cell? ⟨B, 37, none⟩ = some (.bool true) := fun o => ((H3.out.ext (Ext.alloc _ o)).h1_).trans (by rw [← e1])
    have ha2 : ∀ o, ((w.setCell ⟨B, 1, none⟩ (.int .i64 3)).alloc o).cell? ⟨B, 38, none⟩ = some (.bool true) := fun o => ((H3.out.ext (Ext.alloc _ o)).h2_).trans (by rw [← e2])
    have Hr := Lib.hid hr
    clear hr hhas
    go_wp2_with fail
    have HX := Lib.hid (show Blk ((w.setCell ⟨B, 1, none⟩ (.int .i64 3)).alloc (.cells #[.slice none 0 0, .slice none 0 0, .slice none 0 0] 167)) w.heap.size 167 [.slice none 0 0, .slice none 0 0, .slice none 0 0] by
      have := Blk.new (w.setCell ⟨B, 1, none⟩ (.int .i64 3)) 167 [.slice none 0 0, .slice none 0 0, .slice none 0 0]
      rw [show (w.setCell ⟨B, 1, none⟩ (.int .i64 3)).heap.size = w.heap.size by simp [World.setCell]] at this
      exact this)
    have HT := Lib.hid (H3.out.ext (Ext.alloc _ (.cells #[.slice none 0 0, .slice none 0 0, .slice none 0 0] 167)))
    have HO := Lib.hid ((OffL.set w 1 (.int .i64 3)).trans (OffL.ext (L := B) (Ext.alloc _ (.cells #[.slice none 0 0, .slice none 0 0, .slice none 0 0] 167))))
    have HBX := Lib.hid H.out.lt
    have Hbig := Lib.hid (blobF_small' hsz)
    have H239 := Lib.hid (fun id w1 he1 => c239 v bl id w1 (Sl.ext Hbl.out he1) (fun b hb => by have := hsz b hb; omega))
    clear ha0 ha1 ha2 hk hkf hh1 hh2
    generalize hX : w.heap.size = X at *
    have HX0 := Lib.hid hX
    clear hX
    go_loopw [39] (fun i wr => ∃ (k : Nat) (x0 x1 x2 : Value) (l0 l1 l2 : List ByteArray), k ≤ 3 ∧ i = .int .i64 (k : Int) ∧ IsT wr B { t with kind := 3 } ∧ Blk wr X 167 [x0, x1, x2] ∧ OffL B w wr ∧
      Own encS 1 9 X wr x0 l0 ∧ Own encS 1 9 X wr x1 l1 ∧ Own encS 1 9 X wr x2 l2 ∧ (if 0 < k then lineI bl t.h0 t.i0 = .ok l0 else l0 = []) ∧ (if 1 < k then lineI bl t.h1 t.i1 = .ok l1 else l1 = []) ∧ (if 2 < k then lineI bl t.h2 t.i2 = .ok l2 else l2 = [])) (fun i _ => 3 - (intOf i).toNat)
    case atStart => exact ⟨0, _, _, _, [], [], [], by omega, rfl, HT.out, HX.out, HO.out, Own.nil, Own.nil, Own.nil, rfl, rfl, rfl⟩
    case round =>
      obtain ⟨k, x0, x1, x2, l0, l1, l2, hk, rfl, hT, hX, hO, o0, o1, o2, r0, r1, r2⟩ := hrel
      rename World => w3
      obtain ⟨A0, c0, rfl⟩ := o0.form
      obtain ⟨A1, c1, rfl⟩ := o1.form
      obtain ⟨A2, c2, rfl⟩ := o2.form
      have hkk : k = 0 ∨ k = 1 ∨ k = 2 ∨ k = 3 := by omega
      rcases hkk with rfl | rfl | rfl | rfl
      · cases p
        rotate_left
        · have hid := Lib.hid (show w3.rangeAt B 39 (encId t.i0) from hT.i0_)
          have Hall := Lib.hid (And.intro hT (And.intro hX (And.intro hO (And.intro o0 (And.intro o1 o2)))))
          have Hrs := Lib.hid (And.intro r0 (And.intro r1 r2))
          clear hT hX hO o0 o1 o2 r0 r1 r2
          go_wp2_with fail
          have S1 : w3.drew.rangeAt B 39 (encId t.i0) := hid.out
          have e1' : Ext w0 w3.drew := Ext.trans (OffL.down Hall.out.2.2.1 he hB0) (Ext.drew w3)
          have hu43 := Tryz.underlying43
          have hln := encId_length t.i0
          have hsz43 : (Tryz.prog.info? 43).map (·.size) = some (encId t.i0).length := by rw [hln]; exact size43
          have C239 := Lib.hid (H239.out t.i0 w3.drew e1')
          have Hlt := Hbig.out t.i0
          generalize hbf : blobF bl t.i0 = bf at *
          have Hbf := Lib.hid hbf
          clear hbf H239
          go_region_held3 (fun w' => w'.rangeAt B 39 (encId t.i0)) (first | exact S1 | exact rangeAt_ext S1 (by assumption)) (first | (go_at_call 239; refine C239.out.mono ?_; rintro e w5 ⟨A, c, rfl, hb5, he5⟩))
          have e35 : Ext w3 w5 := (Ext.drew w3).trans he5
          have He35 := Lib.hid e35
          have Hb5 := Lib.hid hb5
          clear S1 e1' hu43 hln hsz43 he5 e35 hb5
          rename_i hS5
          clear hS5
          obtain ⟨tx, cd⟩ := bf
          simp only at *
          by_cases hcd : cd = 0
          · have H124 := Lib.hid (c124 _ _ w5 Hb5.out)
            have H125 := Lib.hid (c125 _ _ w5 Hb5.out)
            have hbl5 := linesOf_len tx.data.toList
            subst hcd
            cases htx : isTextB tx.data.toList
            · rw [htx] at H124
              go_wp2_with fail
              refine H124.out.mono ?_
              rintro e w6 ⟨rfl, rfl⟩
              go_wp2_with fail
              go_ret
              obtain ⟨hT, hX, hO, o0, o1, o2⟩ := Hall.out
              obtain ⟨r0, r1, r2⟩ := Hrs.out
              have e0 := HP0.out
              have hr := Hr.out
              have hl := lineI_no (bl := bl) (id := t.i0) (by rw [Hbf.out]) (by rw [Hbf.out]; exact htx)
              simp only [e0, hl] at hr
              injection hr with hr
              subst hr
              exact ⟨rfl, ⟨t.text, hT.ext He35.out, rfl⟩, hO.trans (OffL.ext He35.out)⟩
            · rw [htx] at H124
              go_wp2_with fail
              refine H124.out.mono ?_
              rintro e w6 ⟨rfl, rfl⟩
              go_wp2_with fail
              refine H125.out.mono ?_
              rintro e w6 ⟨v6, rfl, hown6, he6⟩
              obtain ⟨A6, c6, rfl⟩ := hown6.form
              rw [List.length_map] at hown6
              obtain ⟨hT, hX, hO, o0, o1, o2⟩ := Hall.out
              obtain ⟨r0, r1, r2⟩ := Hrs.out
              have e0 := HP0.out
              have hr := Hr.out
              have hl := lineI_ok (bl := bl) (id := t.i0) (by rw [Hbf.out]) (by rw [Hbf.out]; exact htx)
              rw [Hbf.out] at hl
              have he36 : Ext w3 w6 := He35.out.trans he6
              have hX6 := hX.ext he36
              have hXle : X ≤ w5.heap.size := by have := hX.lt; have := He35.out.size; omega
              have hcX := hX6.cell 0
              have hfX := hX6.frozen 0
              have Hfin := Lib.hid (And.intro hT (And.intro hX6 (And.intro hO (And.intro o0 (And.intro o1 (And.intro o2 (And.intro hown6 (And.intro he36 hl))))))))
              clear hT hX hO o0 o1 o2 hown6 he36 hl hr hX6 he6
              go_wp2_with fail
              obtain ⟨hT, hX6, hO, o0, o1, o2, hown6, he36, hl⟩ := Hfin.out
              go_roundw
              case rel =>
                exact ⟨1, _, .slice A1 l1.length c1, .slice A2 l2.length c2, _, l1, l2, by omega, by go_num, Blk.far (IsT.ext hT he36) (by show B ≠ X; have := HBX.out; omega) _, hX6.put 0 _, (hO.trans (OffL.ext he36)).setNew (by rw [HX0.out]; exact Nat.le_refl _), (Own.offL (Own.lower hown6 hXle) (OffL.set w6 0 _) (Own.typ hown6 hX6 (by decide))), (Own.offL (Own.ext o1 he36) (OffL.set w6 0 _) (Own.typ (Own.ext o1 he36) hX6 (by decide))), (Own.offL (Own.ext o2 he36) (OffL.set w6 0 _) (Own.typ (Own.ext o2 he36) hX6 (by decide))), by rw [if_pos (by decide), e0]; exact hl, by simpa using r1, by simpa using r2⟩
              case measure => simp [intOf]
          · have hcb : (cd != 0) = true := by simpa using hcd
            go_wp2_with fail
            go_ret
            obtain ⟨hT, hX, hO, o0, o1, o2⟩ := Hall.out
            obtain ⟨r0, r1, r2⟩ := Hrs.out
            have e0 := HP0.out
            have hr := Hr.out
            have hl := lineI_err (bl := bl) (id := t.i0) (by rw [Hbf.out]; exact hcd)
            rw [Hbf.out] at hl
            simp only [e0, hl] at hr
            injection hr with hr
            subst hr
            exact ⟨rfl, ⟨t.text, hT.ext He35.out, rfl⟩, hO.trans (OffL.ext He35.out)⟩
        · have hl : lineI bl t.h0 t.i0 = .ok [] := by unfold lineI; rw [HP0.out]; rfl
          have hl0 : l0 = [] := by simpa using r0
          have Hfin := Lib.hid (And.intro hT (And.intro hX (And.intro hO (And.intro o0 (And.intro o1 (And.intro o2 (And.intro hl (And.intro r1 (And.intro r2 hl0)))))))))
          clear hT hX hO o0 o1 o2 hl r0 r1 r2 hl0
          go_wp2_with fail
          obtain ⟨hT, hX, hO, o0, o1, o2, hl, r1, r2, hl0⟩ := Hfin.out
          go_roundw
          case rel => exact ⟨1, _, _, _, l0, l1, l2, by omega, by go_num, hT, hX, hO, o0, o1, o2, by rw [hl0]; exact hl, by simpa using r1, by simpa using r2⟩
          case measure => simp [intOf]
      · have hid := Lib.hid (show w3.rangeAt B 71 (encId t.i1) from hT.i1_)
        have Hall := Lib.hid (And.intro hT (And.intro hX (And.intro hO (And.intro o0 (And.intro o1 o2)))))
        have Hrs := Lib.hid (And.intro r0 (And.intro r1 r2))
        clear hT hX hO o0 o1 o2 r0 r1 r2
        go_wp2_with fail
        have S1 : w3.drew.rangeAt B 71 (encId t.i1) := hid.out
        have e1' : Ext w0 w3.drew := Ext.trans (OffL.down Hall.out.2.2.1 he hB0) (Ext.drew w3)
        have hu43 := Tryz.underlying43
        have hln := encId_length t.i1
        have hsz43 : (Tryz.prog.info? 43).map (·.size) = some (encId t.i1).length := by rw [hln]; exact size43
        have C239 := Lib.hid (H239.out t.i1 w3.drew e1')
        have Hlt := Hbig.out t.i1
        generalize hbf : blobF bl t.i1 = bf at *
        have Hbf := Lib.hid hbf
        clear hbf H239
        go_region_held3 (fun w' => w'.rangeAt B 71 (encId t.i1)) (first | exact S1 | exact rangeAt_ext S1 (by assumption)) (first | (go_at_call 239; refine C239.out.mono ?_; rintro e w5 ⟨A, c, rfl, hb5, he5⟩))
        have e35 : Ext w3 w5 := (Ext.drew w3).trans he5
        have He35 := Lib.hid e35
        have Hb5 := Lib.hid hb5
        clear S1 e1' hu43 hln hsz43 he5 e35 hb5
        rename_i hS5
        clear hS5
        obtain ⟨tx, cd⟩ := bf
        simp only at *
        by_cases hcd : cd = 0
        · have H124 := Lib.hid (c124 _ _ w5 Hb5.out)
          have H125 := Lib.hid (c125 _ _ w5 Hb5.out)
          have hbl5 := linesOf_len tx.data.toList
          subst hcd
          cases htx : isTextB tx.data.toList
          · rw [htx] at H124
            go_wp2_with fail
            refine H124.out.mono ?_
            rintro e w6 ⟨rfl, rfl⟩
            go_wp2_with fail
            go_ret
            obtain ⟨hT, hX, hO, o0, o1, o2⟩ := Hall.out
            obtain ⟨r0, r1, r2⟩ := Hrs.out
            have hr := Hr.out
            have r0' : lineI bl t.h0 t.i0 = .ok l0 := by simpa using r0
            have hl := lineI_no (bl := bl) (id := t.i1) (by rw [Hbf.out]) (by rw [Hbf.out]; exact htx)
            simp only [r0', e1, hl] at hr
            injection hr with hr
            subst hr
            exact ⟨rfl, ⟨t.text, hT.ext He35.out, rfl⟩, hO.trans (OffL.ext He35.out)⟩
          · rw [htx] at H124
            go_wp2_with fail
            refine H124.out.mono ?_
            rintro e w6 ⟨rfl, rfl⟩
            go_wp2_with fail
            refine H125.out.mono ?_
            rintro e w6 ⟨v6, rfl, hown6, he6⟩
            obtain ⟨A6, c6, rfl⟩ := hown6.form
            rw [List.length_map] at hown6
            obtain ⟨hT, hX, hO, o0, o1, o2⟩ := Hall.out
            obtain ⟨r0, r1, r2⟩ := Hrs.out
            have hr := Hr.out
            have hl := lineI_ok (bl := bl) (id := t.i1) (by rw [Hbf.out]) (by rw [Hbf.out]; exact htx)
            rw [Hbf.out] at hl
            have he36 : Ext w3 w6 := He35.out.trans he6
            have hX6 := hX.ext he36
            have hXle : X ≤ w5.heap.size := by have := hX.lt; have := He35.out.size; omega
            have hcX := hX6.cell 1
            have hfX := hX6.frozen 1
            have Hfin := Lib.hid (And.intro hT (And.intro hX6 (And.intro hO (And.intro o0 (And.intro o1 (And.intro o2 (And.intro hown6 (And.intro he36 hl))))))))
            clear hT hX hO o0 o1 o2 hown6 he36 hl hr hX6 he6
            go_wp2_with fail
            obtain ⟨hT, hX6, hO, o0, o1, o2, hown6, he36, hl⟩ := Hfin.out
            go_roundw
            case rel =>
              exact ⟨2, .slice A0 l0.length c0, _, .slice A2 l2.length c2, l0, _, l2, by omega, by go_num, Blk.far (IsT.ext hT he36) (by show B ≠ X; have := HBX.out; omega) _, hX6.put 1 _, (hO.trans (OffL.ext he36)).setNew (by rw [HX0.out]; exact Nat.le_refl _), (Own.offL (Own.ext o0 he36) (OffL.set w6 1 _) (Own.typ (Own.ext o0 he36) hX6 (by decide))), (Own.offL (Own.lower hown6 hXle) (OffL.set w6 1 _) (Own.typ hown6 hX6 (by decide))), (Own.offL (Own.ext o2 he36) (OffL.set w6 1 _) (Own.typ (Own.ext o2 he36) hX6 (by decide))), by simpa using r0, by rw [if_pos (by decide), e1]; exact hl, by simpa using r2⟩
            case measure => simp [intOf]
        · have hcb : (cd != 0) = true := by simpa using hcd
          go_wp2_with fail
          go_ret
          obtain ⟨hT, hX, hO, o0, o1, o2⟩ := Hall.out
          obtain ⟨r0, r1, r2⟩ := Hrs.out
          have hr := Hr.out
          have r0' : lineI bl t.h0 t.i0 = .ok l0 := by simpa using r0
          have hl := lineI_err (bl := bl) (id := t.i1) (by rw [Hbf.out]; exact hcd)
          rw [Hbf.out] at hl
          simp only [r0', e1, hl] at hr
          injection hr with hr
          subst hr
          exact ⟨rfl, ⟨t.text, hT.ext He35.out, rfl⟩, hO.trans (OffL.ext He35.out)⟩
      · have hid := Lib.hid (show w3.rangeAt B 103 (encId t.i2) from hT.i2_)
        have Hall := Lib.hid (And.intro hT (And.intro hX (And.intro hO (And.intro o0 (And.intro o1 o2)))))
        have Hrs := Lib.hid (And.intro r0 (And.intro r1 r2))
        clear hT hX hO o0 o1 o2 r0 r1 r2
        go_wp2_with fail
        have S1 : w3.drew.rangeAt B 103 (encId t.i2) := hid.out
        have e1' : Ext w0 w3.drew := Ext.trans (OffL.down Hall.out.2.2.1 he hB0) (Ext.drew w3)
        have hu43 := Tryz.underlying43
        have hln := encId_length t.i2
        have hsz43 : (Tryz.prog.info? 43).map (·.size) = some (encId t.i2).length := by rw [hln]; exact size43
        have C239 := Lib.hid (H239.out t.i2 w3.drew e1')
        have Hlt := Hbig.out t.i2
        generalize hbf : blobF bl t.i2 = bf at *
        have Hbf := Lib.hid hbf
        clear hbf H239
        go_region_held3 (fun w' => w'.rangeAt B 103 (encId t.i2)) (first | exact S1 | exact rangeAt_ext S1 (by assumption)) (first | (go_at_call 239; refine C239.out.mono ?_; rintro e w5 ⟨A, c, rfl, hb5, he5⟩))
        have e35 : Ext w3 w5 := (Ext.drew w3).trans he5
        have He35 := Lib.hid e35
        have Hb5 := Lib.hid hb5
        clear S1 e1' hu43 hln hsz43 he5 e35 hb5
        rename_i hS5
        clear hS5
        obtain ⟨tx, cd⟩ := bf
        simp only at *
        by_cases hcd : cd = 0
        · have H124 := Lib.hid (c124 _ _ w5 Hb5.out)
          have H125 := Lib.hid (c125 _ _ w5 Hb5.out)
          have hbl5 := linesOf_len tx.data.toList
          subst hcd
          cases htx : isTextB tx.data.toList
          · rw [htx] at H124
            go_wp2_with fail
            refine H124.out.mono ?_
            rintro e w6 ⟨rfl, rfl⟩
            go_wp2_with fail
            go_ret
            obtain ⟨hT, hX, hO, o0, o1, o2⟩ := Hall.out
            obtain ⟨r0, r1, r2⟩ := Hrs.out
            have hr := Hr.out
            have r0' : lineI bl t.h0 t.i0 = .ok l0 := by simpa using r0
            have r1' : lineI bl t.h1 t.i1 = .ok l1 := by simpa using r1
            have hl := lineI_no (bl := bl) (id := t.i2) (by rw [Hbf.out]) (by rw [Hbf.out]; exact htx)
            simp only [r0', r1', e2, hl] at hr
            injection hr with hr
            subst hr
            exact ⟨rfl, ⟨t.text, hT.ext He35.out, rfl⟩, hO.trans (OffL.ext He35.out)⟩
          · rw [htx] at H124
            go_wp2_with fail
            refine H124.out.mono ?_
            rintro e w6 ⟨rfl, rfl⟩
            go_wp2_with fail
            refine H125.out.mono ?_
            rintro e w6 ⟨v6, rfl, hown6, he6⟩
            obtain ⟨A6, c6, rfl⟩ := hown6.form
            rw [List.length_map] at hown6
            obtain ⟨hT, hX, hO, o0, o1, o2⟩ := Hall.out
            obtain ⟨r0, r1, r2⟩ := Hrs.out
            have hr := Hr.out
            have hl := lineI_ok (bl := bl) (id := t.i2) (by rw [Hbf.out]) (by rw [Hbf.out]; exact htx)
            rw [Hbf.out] at hl
            have he36 : Ext w3 w6 := He35.out.trans he6
            have hX6 := hX.ext he36
            have hXle : X ≤ w5.heap.size := by have := hX.lt; have := He35.out.size; omega
            have hcX := hX6.cell 2
            have hfX := hX6.frozen 2
            have Hfin := Lib.hid (And.intro hT (And.intro hX6 (And.intro hO (And.intro o0 (And.intro o1 (And.intro o2 (And.intro hown6 (And.intro he36 hl))))))))
            clear hT hX hO o0 o1 o2 hown6 he36 hl hr hX6 he6
            go_wp2_with fail
            obtain ⟨hT, hX6, hO, o0, o1, o2, hown6, he36, hl⟩ := Hfin.out
            go_roundw
            case rel =>
              exact ⟨3, .slice A0 l0.length c0, .slice A1 l1.length c1, _, l0, l1, _, by omega, by go_num, Blk.far (IsT.ext hT he36) (by show B ≠ X; have := HBX.out; omega) _, hX6.put 2 _, (hO.trans (OffL.ext he36)).setNew (by rw [HX0.out]; exact Nat.le_refl _), (Own.offL (Own.ext o0 he36) (OffL.set w6 2 _) (Own.typ (Own.ext o0 he36) hX6 (by decide))), (Own.offL (Own.ext o1 he36) (OffL.set w6 2 _) (Own.typ (Own.ext o1 he36) hX6 (by decide))), (Own.offL (Own.lower hown6 hXle) (OffL.set w6 2 _) (Own.typ hown6 hX6 (by decide))), by simpa using r0, by simpa using r1, by rw [if_pos (by decide), e2]; exact hl⟩
            case measure => simp [intOf]
        · have hcb : (cd != 0) = true := by simpa using hcd
          go_wp2_with fail
          go_ret
          obtain ⟨hT, hX, hO, o0, o1, o2⟩ := Hall.out
          obtain ⟨r0, r1, r2⟩ := Hrs.out
          have hr := Hr.out
          have r0' : lineI bl t.h0 t.i0 = .ok l0 := by simpa using r0
          have r1' : lineI bl t.h1 t.i1 = .ok l1 := by simpa using r1
          have hl := lineI_err (bl := bl) (id := t.i2) (by rw [Hbf.out]; exact hcd)
          rw [Hbf.out] at hl
          simp only [r0', r1', e2, hl] at hr
          injection hr with hr
          subst hr
          exact ⟨rfl, ⟨t.text, hT.ext He35.out, rfl⟩, hO.trans (OffL.ext He35.out)⟩
      · obtain ⟨r0', r1', r2'⟩ : lineI bl t.h0 t.i0 = .ok l0 ∧ lineI bl t.h1 t.i1 = .ok l1 ∧ lineI bl t.h2 t.i2 = .ok l2 := ⟨by simpa using r0, by simpa using r1, by simpa using r2⟩
        have hr := Hr.out
        simp only [r0', r1', r2'] at hr
        obtain ⟨ps, hps, hr⟩ := Option.bind_eq_some_iff.1 hr
        obtain ⟨tx, htx, hr⟩ := Option.bind_eq_some_iff.1 hr
        split at hr
        · rename_i hcat
          injection hr with hr
          subst hr
          have g0 := lineI_len hsz r0'
          have g1 := lineI_len hsz r1'
          have g2 := lineI_len hsz r2'
          have H126 := Lib.hid (c126 _ _ _ l0 l1 l2 ps w3 (o0.sl (fun _ _ => rfl) (by omega)) (o1.sl (fun _ _ => rfl) (by omega)) (o2.sl (fun _ _ => rfl) (by omega)) g0 g1 g2 hps)
          have hpl := mergeO_len hps
          have hc0 := hX.cell 0
          have hc1 := hX.cell 1
          have hc2 := hX.cell 2
          have Hall := Lib.hid (And.intro hT (And.intro hO (And.intro hps (And.intro htx hcat))))
          clear hT hX hO o0 o1 o2 r0 r1 r2 r0' r1' r2' hps htx g0 g1 g2
          go_wp2_with fail
          refine H126.out.mono ?_
          rintro e w5 ⟨v5, vs, rfl, hv5, hok5, he5⟩
          have H127 := Lib.hid (c127 w3.heap.size v5 vs ps tx ⟨#[111, 117, 114, 115]⟩ ⟨#[116, 104, 101, 105, 114, 115]⟩ w5 he5.size hv5 hok5 (by omega) Hall.out.2.2.2.1)
          have He5 := Lib.hid he5
          clear hc0 hc1 hc2 hv5 hok5 he5 H126
          go_wp2_with fail
          refine H127.out.mono ?_
          rintro e w6 ⟨v6, rfl, hv6, he6⟩
          have htl : tx.length < 4000000 := by
            have h := Hall.out.2.2.2.1
            unfold textO at h
            split at h
            · rename_i hc
              injection h with h
              rw [← h]; exact hc.2
            · cases h
          have H128 := Lib.hid (c128 v6 tx w6 (hv6.sl (fun _ _ => rfl) (by omega)) hcat)
          have He6 := Lib.hid he6
          clear hv6 he6 H127
          go_wp2_with fail
          refine H128.out.mono ?_
          rintro e w7 ⟨v7, rfl, hv7, he7⟩
          obtain ⟨A7, c7, rfl, -⟩ := Byt.open_ hv7.1
          have hT7 : IsT w7 B { t with kind := 3 } := IsT.ext Hall.out.1 ((He5.out.trans He6.out).trans he7)
          have hT8 := hT7.setText (.slice A7 (catF tx).length c7)
          have hT9 := hT8.setKind 2
          have hx35 := hT7.text_
          have hf35 := hT7.frozen 35
          have hx1 := hT8.kind_
          have hf1 := hT8.frozen 1
          have hn7 := Blk.notTy (T := 5) hT7 (by decide)
          have Hfin := Lib.hid (And.intro hT9 (And.intro (Hall.out.2.1.trans (OffL.ext ((He5.out.trans He6.out).trans he7))) (And.intro hv7 hn7)))
          clear hT7 hT8 hT9 hv7 he7 hn7
          go_wp2_with fail
          go_ret
          obtain ⟨hT9, hO9, hv7, hn7⟩ := Hfin.out
          exact ⟨rfl, ⟨_, hT9, TSl.off hv7 ((OffL.set (L := B) w7 35 (.slice A7 (catF tx).length c7)).trans (OffL.set _ 1 (.int .i64 2))) hn7⟩, (hO9.trans (OffL.set _ _ _)).trans (OffL.set _ _ _)⟩
        · cases hr
  · have hr := Hr.out
    unfold weaveO at hr
    rw [if_neg hh] at hr
    injection hr with hr
    subst hr
    cases e1 : t.h1
    · rw [e1] at hh1
      go_wp2_with fail
      go_ret
      exact ⟨rfl, ⟨t.text, H3.out, rfl⟩, OffL.set _ _ _⟩
    · have e2 : t.h2 = false := by rw [e1] at hh; simpa using hh
      rw [e1] at hh1
      rw [e2] at hh2
      go_wp2_with fail
      go_ret
      exact ⟨rfl, ⟨t.text, H3.out, rfl⟩, OffL.set _ _ _⟩
end Go.Proofs.YtaeleagkpgbmaaaGreatDoor
