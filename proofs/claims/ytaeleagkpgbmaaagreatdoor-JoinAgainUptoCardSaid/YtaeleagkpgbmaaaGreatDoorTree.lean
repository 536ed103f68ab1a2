/- The contract of tree.Check. -/
import Derived.Test.YtaeleagkpgbmaaaGreatDoorLaws
import Derived.Test.YtaeleagkpgbmaaaGreatDoorPath
import Derived.Deep.RegionHeld3
import Derived.BigQuiet
import Derived.Deep.QuietTactic
namespace Go.Proofs.YtaeleagkpgbmaaaGreatDoor
open Go.RowKit
set_option linter.unusedSimpArgs false
set_option linter.unusedVariables false

abbrev Files (w : World) (v : Value) (l : List FileD) : Prop := Sl encF 34 w v l

/-- tree.Check from a place on -/
def checkFrom : Option ByteArray → List FileD → Int
  | _, [] => 0
  | o, f :: r => if checkP f.path ≠ 0 then checkP f.path else
    match o with
    | none => checkFrom (some f.path) r
    | some g => if 0 ≤ cmpP g f.path then 92 else if underB f.path g then 110 else checkFrom (some f.path) r
def checkT (l : List FileD) : Int := if 256 < l.length then 2 else checkFrom none l
def prevAt (l : List FileD) (k : Nat) : Option ByteArray := if k = 0 then none else (l[k - 1]?).map (·.path)

theorem checkFrom_cons (o : Option ByteArray) (f : FileD) (r : List FileD) : checkFrom o (f :: r) = if checkP f.path ≠ 0 then checkP f.path else
    match o with
    | none => checkFrom (some f.path) r
    | some g => if 0 ≤ cmpP g f.path then 92 else if underB f.path g then 110 else checkFrom (some f.path) r := by
  cases o <;> rfl
theorem checkFrom_nil (o : Option ByteArray) : checkFrom o [] = 0 := by cases o <;> rfl
theorem checkFrom_bad {l : List FileD} {k : Nat} {f : FileD} (hf : l[k]? = some f) (h : checkP f.path ≠ 0) : checkFrom (prevAt l k) (l.drop k) = checkP f.path := by
  obtain ⟨hk, rfl⟩ := List.getElem?_eq_some_iff.1 hf
  rw [List.drop_eq_getElem_cons hk, checkFrom_cons, if_pos h]
theorem checkFrom_first {l : List FileD} {f : FileD} (hf : l[0]? = some f) (h : checkP f.path = 0) : checkFrom (prevAt l 0) (l.drop 0) = checkFrom (prevAt l 1) (l.drop 1) := by
  obtain ⟨hk, rfl⟩ := List.getElem?_eq_some_iff.1 hf
  rw [List.drop_eq_getElem_cons hk, checkFrom_cons, if_neg (by simpa using h)]
  simp [prevAt, hk]
theorem checkFrom_next {l : List FileD} {k : Nat} {f g : FileD} (hf : l[k + 1]? = some f) (hg : l[k]? = some g) (h : checkP f.path = 0) :
    checkFrom (prevAt l (k + 1)) (l.drop (k + 1)) = if 0 ≤ cmpP g.path f.path then 92 else if underB f.path g.path then 110 else checkFrom (prevAt l (k + 2)) (l.drop (k + 2)) := by
  obtain ⟨hk, rfl⟩ := List.getElem?_eq_some_iff.1 hf
  obtain ⟨hk', rfl⟩ := List.getElem?_eq_some_iff.1 hg
  rw [List.drop_eq_getElem_cons hk]
  have e1 : prevAt l (k + 1) = some l[k].path := by simp [prevAt, hk']
  have e2 : prevAt l (k + 2) = some l[k + 1].path := by simp [prevAt, hk]
  rw [e1, e2, checkFrom_cons, if_neg (by simpa using h)]

theorem Files.open_ {w : World} {v : Value} {l : List FileD} (h : Files w v l) :
    ∃ A c, v = .slice A l.length c ∧ l.length ≤ c ∧ l.length < 4294967296 ∧
      (0 < l.length → ∃ b off, A = some ⟨b, off, none⟩ ∧ b < w.heap.size ∧ ∀ i f, l[i]? = some f → w.rangeAt b (off + i * 34) (encF f)) := by
  obtain ⟨h0, A, c, hv, hc, hz, hx⟩ := h
  refine ⟨A, c, hv, hc.1, h0, fun hp => ?_⟩
  obtain ⟨b, off, ha, hb, hcells⟩ := hx hp
  exact ⟨b, off, ha, hb, fun i x hi j u hj => hcells i x hi j u hj⟩

theorem rangeAt_ext {w w' : World} {b o : Nat} {cs : List Value} (h : w.rangeAt b o cs) (he : Ext w w') : w'.rangeAt b o cs := fun j v hj => he.cells (h j v hj)

theorem keep9 {w2 w w' : World} {p q : Addr} {x y : Value} (h : Ext w2 w ∧ w.cell? p = some x ∧ w.cell? q = some y ∧ GMax w) (he : Ext w w') : Ext w2 w' ∧ w'.cell? p = some x ∧ w'.cell? q = some y ∧ GMax w' :=
  ⟨h.1.trans he, he.cells h.2.1, he.cells h.2.2.1, h.2.2.2.ext he⟩

set_option maxHeartbeats 1000000 in
theorem c21 (v : Value) (l : List FileD) (w : World) (h : Files w v l) (hG : GMax w) (hs : ∀ f ∈ l, f.path.size < 4294967280) :
    Calls Tryz.prog 21 #[v] w fun e w' => e = .returned (.int .i64 (checkT l)) ∧ Ext w w' := by
  unfold checkT
  obtain ⟨A, c, rfl, hc, hl, hx⟩ := h.open_
  have H := Lib.hid hx
  have HG := Lib.hid hG
  have HS := Lib.hid hs
  clear hx h hG hs
  by_cases hbig : 256 < l.length
  · rw [if_pos hbig]
    go_enter Tryz.func21, Tryz.ntmps21
    go_wp2_with fail
    go_ret
    exact ⟨rfl, Ext.refl _⟩
  · rw [if_neg hbig]
    have Hd := Lib.hid (show checkFrom none l = checkFrom (prevAt l 0) (l.drop 0) by simp [prevAt])
    go_enter Tryz.func21, Tryz.ntmps21
    go_wp2_with fail
    go_loopw [11] (fun i wr => ∃ k : Nat, k ≤ l.length ∧ i = .int .i64 k ∧ checkFrom none l = checkFrom (prevAt l k) (l.drop k) ∧ Ext w wr) (fun i _ => l.length - (intOf i).toNat)
    case atStart => exact ⟨0, Nat.zero_le _, rfl, Hd.out, Ext.refl _⟩
    case round =>
      obtain ⟨k, hk, rfl, hr, hew⟩ := hrel
      have Hr := Lib.hid hr
      have Hew := Lib.hid hew
      clear hr Hd hew
      by_cases hlt : k < l.length
      · obtain ⟨f, hf⟩ : ∃ x, l[k]? = some x := ⟨_, List.getElem?_eq_getElem hlt⟩
        obtain ⟨b, off, rfl, hb, hcell⟩ := H.out (by omega)
        have hcx := rangeAt_ext (hcell k f hf) Hew.out
        have Hcx := Lib.hid hcx
        have Hf := Lib.hid hf
        clear hf hcx
        have Hcell := Lib.hid hcell
        clear hcell
        have h0 := encF_0 f
        have hsz := HS.out f (List.mem_of_getElem? Hf.out)
        have hb' : b < wr.heap.size := Nat.lt_of_lt_of_le hb Hew.out.size
        go_wp2_with (first | (with_reducible refine wpList_load_mid rfl 56 _ rfl b (off + k * 34) rfl (encF f) _ Hcx.out Tryz.underlying56 rfl (by rw [encF_length]; exact size56) ?_) | (with_reducible refine wpList_alloc_z rfl 56 rfl zok56 ?_) | (with_reducible refine wpList_store_new rfl 56 _ _ rfl (Z 56) (encF f) rfl rfl (by rw [Z56, encF_length]) (by rw [encF_length]; exact size56) (encF_one f) ?_))
        have He1 := Lib.hid (Ext.alloc wr (.cells (encF f).toArray 56))
        refine (c49 f.path _ ((HG.out.ext Hew.out).ext He1.out) hsz).mono ?_
        rintro e w2 ⟨rfl, he2⟩
        have He2 := Lib.hid he2
        have hbox : w2.cell? ⟨wr.heap.size, 0, none⟩ = some (.string f.path) := by
          rw [he2.cell (p := ⟨wr.heap.size, 0, none⟩) (by simp), World.cell?_alloc_at _ _ _ _ rfl]
          simpa using h0
        clear he2
        by_cases hck : checkP f.path = 0
        · have Hck := Lib.hid hck
          rw [hck]
          clear hck
          rcases Nat.eq_zero_or_pos k with rfl | hk0
          · have Hs := Lib.hid (checkFrom_first Hf.out Hck.out)
            go_wp2_with fail
            go_quiet (fail)
            go_wp2_with fail
            go_quiet (fail)
            go_wp2_with fail
            go_roundw
            case rel => exact ⟨1, by omega, by go_num, by rw [Hr.out, Hs.out], ((Hew.out.trans He1.out).trans He2.out).trans (Ext.drewN _ _)⟩
            case measure => simp [intOf]; omega
          · obtain ⟨j, rfl⟩ : ∃ j, k = j + 1 := ⟨k - 1, by omega⟩
            obtain ⟨g, hg⟩ : ∃ x, l[j]? = some x := ⟨_, List.getElem?_eq_getElem (by omega)⟩
            have Hs := Lib.hid (checkFrom_next Hf.out hg Hck.out)
            have hgs := HS.out g (List.mem_of_getElem? hg)
            have hcg : w2.cell? ⟨b, off + j * 34, none⟩ = some (.string g.path) := by
              have := (Hcell.out j g hg) 0 _ (encF_0 g)
              exact ((Hew.out.trans He1.out).trans He2.out).cells this
            have Hg := Lib.hid hg
            have hG2 := ((HG.out.ext Hew.out).ext He1.out).ext He2.out
            clear hg
            go_wp2_with fail
            have q1 : IntKind.i64.wrap ((j : Int) + 1 - 1) = (j : Int) := by rw [IntWalk.i64_in _ (by omega)]; omega
            have q2 : IntKind.i64.wrap (j : Int) = (j : Int) := IntWalk.i64_in _ (by omega)
            have q3 : (0 : Int) ≤ (j : Int) := by omega
            have q4 : (j : Int) < (l.length : Int) := by omega
            have q5 : (j : Int).toNat = j := by omega
            have S9 : Ext w2 w2.drew ∧ w2.drew.cell? ⟨b, off + j * 34, none⟩ = some (.string g.path) ∧ w2.drew.cell? ⟨wr.heap.size, 0, none⟩ = some (.string f.path) ∧ GMax w2.drew := ⟨Ext.drew _, hcg, hbox, hG2⟩
            have H39 := fun w' hG => c39 g.path f.path w' hG hgs hsz
            have H41 := fun w' => c41 f.path g.path w' (by omega)
            generalize cmpP g.path f.path = d at *
            generalize underB f.path g.path = u at *
            have h39 := Lib.hid H39
            have h41 := Lib.hid H41
            clear H39 H41
            by_cases hd : 0 ≤ d
            · have hd' : decide (0 ≤ d) = true := decide_eq_true hd
              have Hd := Lib.hid hd
              clear hd
              go_region_held3 (fun w' => Ext w2 w' ∧ w'.cell? ⟨b, off + j * 34, none⟩ = some (.string g.path) ∧ w'.cell? ⟨wr.heap.size, 0, none⟩ = some (.string f.path) ∧ GMax w') (first | exact S9 | exact keep9 S9 ‹Ext _ _›) (first | (go_at_call 39; refine (h39.out _ ?_).mono ?_; (exact hG2); rintro e w' ⟨rfl, he⟩))
              rename_i hH
              have Hx := Lib.hid hH.1
              clear he hH
              go_wp2_with fail
              go_ret
              exact ⟨ret_int' (by rw [Hr.out, Hs.out, if_pos Hd.out]), ((Hew.out.trans He1.out).trans He2.out).trans Hx.out⟩
            · have hd' : decide (0 ≤ d) = false := decide_eq_false hd
              have Hd := Lib.hid hd
              clear hd
              go_region_held3 (fun w' => Ext w2 w' ∧ w'.cell? ⟨b, off + j * 34, none⟩ = some (.string g.path) ∧ w'.cell? ⟨wr.heap.size, 0, none⟩ = some (.string f.path) ∧ GMax w') (first | exact S9 | exact keep9 S9 ‹Ext _ _›) (first | (go_at_call 39; refine (h39.out _ ?_).mono ?_; (exact hG2); rintro e w' ⟨rfl, he⟩))
              rename_i hH
              obtain ⟨hx1, hx2, hx3, hx4⟩ := hH
              have S9 := Lib.hid S9
              clear he
              rename World => w3
              go_wp2_with fail
              have S11 : Ext w3 w3.drew ∧ w3.drew.cell? ⟨b, off + j * 34, none⟩ = some (.string g.path) ∧ w3.drew.cell? ⟨wr.heap.size, 0, none⟩ = some (.string f.path) ∧ GMax w3.drew := ⟨Ext.drew _, hx2, hx3, hx4⟩
              have Hx1 := Lib.hid hx1
              clear hx1
              cases u
              all_goals
                go_region_held3 (fun w' => Ext w3 w' ∧ w'.cell? ⟨b, off + j * 34, none⟩ = some (.string g.path) ∧ w'.cell? ⟨wr.heap.size, 0, none⟩ = some (.string f.path) ∧ GMax w') (first | exact S11) (first | (go_at_call 41; refine (h41.out _).mono ?_; rintro e w' ⟨rfl, rfl⟩))
                clear S11 hx2 hx3 hx4
                rename_i hH
                have Hx := Lib.hid hH.1
                clear hH
                go_wp2_with fail
              · go_roundw
                case rel => exact ⟨j + 2, by omega, by go_num, by rw [Hr.out, Hs.out, if_neg (Int.not_le.2 Hd.out)]; rfl, (((Hew.out.trans He1.out).trans He2.out).trans Hx1.out).trans Hx.out⟩
                case measure => simp [intOf]; omega
              · go_ret
                exact ⟨ret_int' (by rw [Hr.out, Hs.out, if_neg (Int.not_le.2 Hd.out)]; rfl), (((Hew.out.trans He1.out).trans He2.out).trans Hx1.out).trans Hx.out⟩
        · have Hck := Lib.hid (checkFrom_bad Hf.out hck)
          have hck' : (checkP f.path != 0) = true := by simpa using hck
          clear hck
          go_wp2_with fail
          go_ret
          exact ⟨ret_int' (by rw [Hr.out, Hck.out]), (Hew.out.trans He1.out).trans He2.out⟩
      · have Hn := Lib.hid (show l.drop k = [] from List.drop_eq_nil_of_le (by omega))
        go_wp2_with fail
        go_ret
        exact ⟨ret_int' (by rw [Hr.out, Hn.out, checkFrom_nil]), Hew.out⟩

end Go.Proofs.YtaeleagkpgbmaaaGreatDoor
