/- The law's blobs: ref13.Text; the shelf's method. -/
import Derived.Test.YtaeleagkpgbmaaaGreatDoorText
import Derived.Test.YtaeleagkpgbmaaaGreatDoorJoin1
namespace Go.Proofs.YtaeleagkpgbmaaaGreatDoor
open Go.RowKit
set_option linter.unusedSimpArgs false
set_option linter.unusedVariables false

structure BlobD where
  id : ID
  text : ByteArray
  bad : Int
def encBl (b : BlobD) : List Value := encId b.id ++ [.string b.text, .int .i64 b.bad]
theorem encBl_length (b : BlobD) : (encBl b).length = 34 := by simp [encBl, encId_length]
theorem encBl_id (b : BlobD) (j : Nat) (hj : j < 32) : (encBl b)[j]? = (encId b.id)[j]? := by
  rw [encBl, List.getElem?_append_left (by rw [encId_length]; exact hj)]
theorem encBl_text (b : BlobD) : (encBl b)[32]? = some (.string b.text) := by
  rw [encBl, List.getElem?_append_right (by rw [encId_length]; decide), encId_length]; rfl
theorem encBl_bad (b : BlobD) : (encBl b)[33]? = some (.int .i64 b.bad) := by
  rw [encBl, List.getElem?_append_right (by rw [encId_length]; decide), encId_length]; rfl
/-- a blob's text, and the error's number -/
def blobF (l : List BlobD) (id : ID) : ByteArray × Int := match l with
  | [] => (⟨#[]⟩, 4)
  | b :: r => if b.id = id then (if b.bad ≠ 0 then (⟨#[]⟩, b.bad) else (b.text, 0)) else blobF r id
theorem blobF_at {l : List BlobD} {k : Nat} {b : BlobD} (h : l[k]? = some b) (id : ID) : blobF (l.drop k) id = if b.id = id then (if b.bad ≠ 0 then (⟨#[]⟩, b.bad) else (b.text, 0)) else blobF (l.drop (k + 1)) id := by
  obtain ⟨hk, rfl⟩ := List.getElem?_eq_some_iff.1 h
  rw [List.drop_eq_getElem_cons hk, blobF]

set_option maxRecDepth 10000 in
set_option maxHeartbeats 1000000 in
theorem c84 (v : Value) (l : List BlobD) (id : ID) (w : World) (h : Sl encBl 34 w v l) :
    Calls Tryz.prog 84 #[v, .agg (encId id).toArray] w fun e w' => e = .returned (.tuple #[.string (blobF l id).1, .int .i64 (blobF l id).2]) ∧ Ext w w' := by
  obtain ⟨hl, A, c, rfl, hc, hz, hx⟩ := h
  have hcl := hc.1
  have Hx := Lib.hid hx
  clear hx hz
  generalize hres : blobF l id = res at *
  go_enter Tryz.func84, Tryz.ntmps84
  go_wp2_with fail
  have hBx : Blk (w.alloc (.cells (encId id).toArray 43)) w.heap.size 43 (encId id) := Blk.new w 43 _
  have He0 := Lib.hid (Ext.alloc w (.cells (encId id).toArray 43))
  generalize w.alloc (.cells (encId id).toArray 43) = w1 at *
  generalize hXX : w.heap.size = X at *
  have HBx := Lib.hid hBx
  clear hBx
  go_loopw [6] (fun t wr => ∃ k : Nat, k ≤ l.length ∧ t = .int .i64 (k : Int) ∧ blobF (l.drop k) id = res ∧ Ext w1 wr) (fun t _ => l.length - (intOf t).toNat)
  case atStart => exact ⟨0, Nat.zero_le _, rfl, by rw [List.drop_zero]; exact hres, Ext.refl _⟩
  case round =>
    obtain ⟨k, hk, rfl, hr, he⟩ := hrel
    have He := Lib.hid he
    have Hr := Lib.hid hr
    clear hr he
    rename World => w2
    by_cases hkl : k < l.length
    · obtain ⟨b, off, rfl, hb, hcell⟩ := Hx.out (by omega)
      obtain ⟨bl, hbl⟩ : ∃ x, l[k]? = some x := ⟨_, List.getElem?_eq_getElem hkl⟩
      have hr := Hr.out
      rw [blobF_at hbl] at hr
      have Hr2 := Lib.hid hr
      have hcx := fun j u hj => (He0.out.trans He.out).cells (hcell k bl hbl j u hj)
      have hcid : w2.rangeAt b (off + k * 34) (encId bl.id) := fun j u hj => hcx j u (by rw [encBl_id bl j (by rw [← encId_length bl.id]; exact (List.getElem?_eq_some_iff.1 hj).1)]; exact hj)
      have hct := hcx 32 _ (encBl_text bl)
      have hcb := hcx 33 _ (encBl_bad bl)
      have hid : w2.rangeAt X 0 (encId id) := fun j u hj => by rw [Nat.zero_add]; exact He.out.cells ((HBx.out.cell j).trans hj)
      have ra := Lib.hid (EW.range hcid)
      have rb := Lib.hid (EW.range hid)
      clear hcx hcell hcid hid hr
      generalize bl.id = y at *
      go_wp2_with fail
      have p1 : (0 : Int) ≤ (k : Int) := by omega
      have p2 : (k : Int) < (l.length : Int) := by omega
      have p3 : (k : Int).toNat = k := by omega
      refine wp_region_ext_lit (by kernel_rfl) (by kernel_rfl) ?_
      repeat (first | ((with_reducible refine wpQuiet_load_mid ?_ 43 _ rfl b (off + k * 34) rfl (encId y) _ ra.out Tryz.underlying43 rfl (by rw [encId_length]; exact size43) ?_); (rfl); (simp only [Act.put, List.setIfInBounds_toArray, List.set_cons_zero, List.set_cons_succ])) | ((with_reducible refine wpQuiet_load_mid ?_ 43 _ rfl X 0 rfl (encId id) _ rb.out Tryz.underlying43 rfl (by rw [encId_length]; exact size43) ?_); (rfl); (simp only [Act.put, List.setIfInBounds_toArray, List.set_cons_zero, List.set_cons_succ])) | go_big_quiet_step (fail))
      refine wpQuiet_nil ?_
      rintro _ ⟨⟨w3, he3⟩, rfl⟩
      have hct3 := he3.cells hct
      have hcb3 := he3.cells hcb
      clear hct hcb
      have He3 := Lib.hid he3
      clear he3
      by_cases hy : y = id
      · have hr := Hr2.out
        rw [if_pos hy] at hr
        by_cases hb0 : bl.bad = 0
        · rw [if_neg (by simpa using hb0)] at hr
          rw [hb0] at hcb3
          go_wp2_with fail
          go_ret2
          subst hr
          exact ⟨rfl, (He0.out.trans He.out).trans He3.out⟩
        · rw [if_pos hb0] at hr
          have hbb : (bl.bad != 0) = true := by simpa using hb0
          generalize bl.bad = bad at *
          go_wp2_with fail
          go_quiet (fail)
          go_wp2_with fail
          go_ret2
          subst hr
          exact ⟨rfl, ((He0.out.trans He.out).trans He3.out).trans (Ext.drewN _ _)⟩
      · have hr := Hr2.out
        rw [if_neg hy] at hr
        go_wp2_with fail
        go_roundw
        case rel => exact ⟨k + 1, by omega, by go_num, hr, He.out.trans He3.out⟩
        case measure => simp [intOf]; omega
    · have hr := Hr.out
      rw [List.drop_eq_nil_of_le (by omega)] at hr
      go_wp2_with fail
      go_ret2
      subst hr
      exact ⟨rfl, He0.out.trans He.out⟩
theorem blobF_small {l : List BlobD} {id : ID} (h : ∀ b ∈ l, b.text.size < 4294967296) : (blobF l id).1.size < 4294967296 := by
  induction l with
  | nil =>
    show ByteArray.size ⟨#[]⟩ < 4294967296
    decide
  | cons b r ih =>
    rw [blobF]
    split
    · split
      · show ByteArray.size ⟨#[]⟩ < 4294967296
        decide
      · exact h b List.mem_cons_self
    · exact ih (fun b hb => h b (List.mem_cons_of_mem _ hb))

theorem box_range (w : World) (o : Obj) (id : ID) : ((w.alloc o).alloc (.cells (encId id).toArray 43)).rangeAt (w.heap.size + 1) 0 (encId id) := fun j u hj => by
  have h := (Blk.new (w.alloc o) 43 (encId id)).cell j
  rw [show (w.alloc o).heap.size = w.heap.size + 1 by simp] at h
  rw [Nat.zero_add, h]; exact hj
set_option maxRecDepth 10000 in
set_option maxHeartbeats 1000000 in
/-- the shelf's method -/
theorem c239 (v : Value) (l : List BlobD) (id : ID) (w : World) (h : Sl encBl 34 w v l) (hs : ∀ b ∈ l, b.text.size < 4294967296) :
    Calls Tryz.prog 239 #[.agg #[v], .agg (encId id).toArray] w fun e w' => ∃ A c, e = .returned (.tuple #[.slice A (blobF l id).1.size c, .int .i64 (blobF l id).2]) ∧ Byt w' (.slice A (blobF l id).1.size c) (blobF l id).1.data.toList ∧ Ext w w' := by
  have H := Lib.hid (fun w1 he => c84 v l id w1 (Sl.ext h he))
  have hsm := blobF_small (id := id) hs
  obtain ⟨hl, A, c, rfl, -⟩ := h
  have hid := box_range w (.cells #[.slice A l.length c] 34) id
  have He := Lib.hid ((Ext.alloc w (.cells #[.slice A l.length c] 34)).trans (Ext.alloc _ (.cells (encId id).toArray 43)))
  generalize blobF l id = r at *
  obtain ⟨t, code⟩ := r
  simp only at *
  go_enter Tryz.func239, Tryz.ntmps239
  go_wp2_with (with_reducible refine wpList_load_mid rfl 43 _ rfl (w.heap.size + 1) 0 rfl (encId id) _ hid Tryz.underlying43 rfl (by rw [encId_length]; exact size43) ?_)
  refine (H.out _ He.out).mono ?_
  rintro e w2 ⟨rfl, he2⟩
  have He2 := Lib.hid he2
  clear he2
  go_wp2_with ((refine wpList_toBytes rfl _ rfl t rfl hsm ?_); intro A1 c1 w3 hb1 he1 _ _)
  go_ret2
  exact ⟨A1, c1, rfl, hb1, (He.out.trans He2.out).trans he1⟩
end Go.Proofs.YtaeleagkpgbmaaaGreatDoor
