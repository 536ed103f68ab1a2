/- law13.JoinAgain answers true. -/
import Derived.Test.YtaeleagkpgbmaaaGreatDoorAgain0
import Derived.Test.YtaeleagkpgbmaaaGreatDoorSides1
namespace Go.Proofs.YtaeleagkpgbmaaaGreatDoor
open Go.RowKit
set_option linter.unusedSimpArgs false
set_option linter.unusedVariables false

/-- one more of the two sides, and the files against it twice -/
theorem again_call {l K : List FileD} {v vK : Value} {w : World} (hl : Files w v l) (hK : Files w vK K) (hG : GMax w) (kl : okFiles l) (kK : okFiles K) (cl : checkT l = 0) (cK : checkT K = 0) :
    ∃ rs, Calls Tryz.prog 15 #[.agg #[v, vK, v], .iface 34 (.agg #[.slice none 0 0])] w (MergeIs w (rs, 0)) ∧ KeepAll rs K := side_call 0 (by omega) hl hK hG kl kK cl cK
/-- the side that a turn of the loop reads -/
theorem again_side {w : World} {B j : Nat} {u v0 v1 : Value} {l1 l2 : List FileD} (hb : Blk w B 23 [u, v0, v1]) (h1 : Files w v0 l1) (h2 : Files w v1 l2) (k1 : okFiles l1) (k2 : okFiles l2) (c1 : checkT l1 = 0) (c2 : checkT l2 = 0) (hj : j < 2) :
    ∃ A n l, w.cell? ⟨B, 1 + j, none⟩ = some (.slice A (List.length l) n) ∧ Files w (.slice A (List.length l) n) l ∧ okFiles l ∧ checkT l = 0 := by
  obtain ⟨A1, n1, rfl, -⟩ := h1.open_
  obtain ⟨A2, n2, rfl, -⟩ := h2.open_
  have e1 := hb.cell 1
  have e2 := hb.cell 2
  simp only [List.getElem?_cons_zero, List.getElem?_cons_succ] at e1 e2
  obtain rfl | rfl : j = 0 ∨ j = 1 := by omega
  · exact ⟨A1, n1, l1, e1, h1, k1, c1⟩
  · exact ⟨A2, n2, l2, e2, h2, k2, c2⟩
theorem again_paths {l0 l1 l2 K : List FileD} (k0 : okFiles l0) (k1 : okFiles l1) (k2 : okFiles l2) (h : ∀ f ∈ K, okStamp f.stamp ∧ ∃ g, (g ∈ l0 ∨ g ∈ l1 ∨ g ∈ l2) ∧ g.path = f.path) : okFiles K := by
  intro f hf
  obtain ⟨h1, g, hg, e⟩ := h f hf
  refine ⟨?_, h1⟩
  rw [← e]
  rcases hg with h | h | h
  · exact (k0 g h).1
  · exact (k1 g h).1
  · exact (k2 g h).1

set_option maxRecDepth 100000 in
set_option maxHeartbeats 8000000 in
theorem c6 (v0 v1 v2 : Value) (l0 l1 l2 : List FileD) (w : World) (h0 : Files w v0 l0) (h1 : Files w v1 l1) (h2 : Files w v2 l2) (hG : GMax w) (k0 : okFiles l0) (k1 : okFiles l1) (k2 : okFiles l2) :
    Calls Tryz.prog 6 #[.agg #[v0, v1, v2]] w fun e w' => e = .returned (.bool true) ∧ Ext w w' := by
  have F0 := Lib.hid h0
  have F1 := Lib.hid h1
  have F2 := Lib.hid h2
  have HG := Lib.hid hG
  have K0 := Lib.hid k0
  have K1 := Lib.hid k1
  have K2 := Lib.hid k2
  obtain ⟨A0, n0, rfl, -⟩ := h0.open_
  obtain ⟨A1, n1, rfl, -⟩ := h1.open_
  obtain ⟨A2, n2, rfl, -⟩ := h2.open_
  clear h0 h1 h2 hG k0 k1 k2
  go_enter Tryz.func6, Tryz.ntmps6
  go_wp2_with fail
  have HX0 := Lib.hid (Ext.alloc w (.cells #[.slice A0 l0.length n0, .slice A1 l1.length n1, .slice A2 l2.length n2] 23))
  have HB0 := Lib.hid (Blk.new w 23 [.slice A0 l0.length n0, .slice A1 l1.length n1, .slice A2 l2.length n2])
  refine (c12 _ (HG.out.ext HX0.out)).mono ?_
  rintro e w1 ⟨rfl, he1⟩
  have HX1 := Lib.hid (HX0.out.trans he1)
  have HB1 := Lib.hid (HB0.out.ext he1)
  clear he1 HX0 HB0
  have t0 := HB1.out.cell 0
  have t1 := HB1.out.cell 1
  have t2 := HB1.out.cell 2
  simp only [List.getElem?_cons_zero, List.getElem?_cons_succ] at t0 t1 t2
  have H13 := Lib.hid (c13 _ _ _ l0 l1 l2 w1 (F0.out.ext HX1.out) (F1.out.ext HX1.out) (F2.out.ext HX1.out))
  by_cases hs : l0.length + l1.length + l2.length ≤ 90
  case neg =>
    rw [decide_eq_false hs] at H13
    go_wp2_with fail
    refine H13.out.mono ?_
    rintro e w2 ⟨rfl, he2⟩
    have HX2 := Lib.hid (HX1.out.trans he2)
    clear he2
    go_wp2_with fail
    go_ret
    exact ⟨rfl, HX2.out⟩
  case pos =>
    rw [decide_eq_true hs] at H13
    go_wp2_with fail
    refine H13.out.mono ?_
    rintro e w2 ⟨rfl, he2⟩
    have HX2 := Lib.hid (HX1.out.trans he2)
    have HB2 := Lib.hid (HB1.out.ext he2)
    clear he2 t0 t1 t2
    have t0 := HB2.out.cell 0
    have t1 := HB2.out.cell 1
    have t2 := HB2.out.cell 2
    simp only [List.getElem?_cons_zero, List.getElem?_cons_succ] at t0 t1 t2
    have H15 := Lib.hid (c15 _ _ _ (.slice none 0 0) l0 l1 l2 [] w2 (F0.out.ext HX2.out) (F1.out.ext HX2.out) (F2.out.ext HX2.out) (Sl.nil _ _ _) (HG.out.ext HX2.out) (lK_ok K0.out K1.out K2.out) (by simp) (decT []) (oks_nil l0 l1 l2))
    have hml := merge_len (decT []) l0 l1 l2
    obtain ⟨M, hM⟩ : ∃ M, mergeF (decT []) l0 l1 l2 = M := ⟨_, rfl⟩
    rw [hM] at H15 hml
    have HM := Lib.hid hM
    clear hM
    obtain ⟨rs, c⟩ := M
    have Hs := Lib.hid hs
    clear hs
    simp only at hml
    go_wp2_with fail
    refine H15.out.mono ?_
    rintro e w3 ⟨v3, os, rfl, hown, hok, he3⟩
    obtain ⟨R3, C3, rfl⟩ := hown.form
    have hlo : os.length = rs.length := hok.1
    have hl90 : rs.length ≤ 90 := Nat.le_trans hml Hs.out
    clear hml
    have HX3 := Lib.hid (HX2.out.trans he3)
    have HB3 := Lib.hid (HB2.out.ext he3)
    clear he3 t0 t1 t2
    simp only
    by_cases hc : c = 0
    case neg =>
      have hc' : (c != 0) = true := by simpa using hc
      go_wp2_with fail
      go_ret
      exact ⟨rfl, HX3.out⟩
    case pos =>
      subst hc
      have H20 := Lib.hid (c20 _ os w3 (hown.sl (fun o _ => encO_length o) (by omega)))
      obtain ⟨fb, hfb⟩ : ∃ fb, (rs.any fun r => r.kind != 1 && r.kind != 2) = fb := ⟨_, rfl⟩
      rw [foul_of hok hfb] at H20
      have Hout := Lib.hid (And.intro hown hok)
      rw [hlo] at H20 Hout ⊢
      have Hfb := Lib.hid hfb
      clear hown hok hlo hfb
      cases fb
      case true =>
        go_wp2_with fail
        refine H20.out.mono ?_
        rintro e w4 ⟨rfl, he4⟩
        have HX4 := Lib.hid (HX3.out.trans he4)
        clear he4
        go_wp2_with fail
        go_ret
        exact ⟨rfl, HX4.out⟩
      case false =>
        obtain ⟨z0, z1, z2, zK, -, hfk⟩ := again_files HM.out Hfb.out Hs.out K0.out.all K1.out.all K2.out.all
        have Z0 := Lib.hid (And.intro z0 (And.intro z1 z2))
        have ZK := Lib.hid zK
        have KK := Lib.hid (again_paths K0.out K1.out K2.out hfk)
        clear z0 z1 z2 zK hfk H13 H15
        go_wp2_with fail
        refine H20.out.mono ?_
        rintro e w4 ⟨rfl, he4⟩
        have HX4 := Lib.hid he4
        clear he4 H20
        go_wp2_with fail
        have Hnil := Lib.hid (show Own encF 34 56 w3.heap.size w4 (.slice none 0 0) (filesOf (rs.take 0)) from Own.nil)
        go_loopw [5, 35] (fun fs i wr => ∃ k : Nat, k ≤ rs.length ∧ i = .int .i64 (k : Int) ∧ Ext w3 wr ∧ Own encF 34 56 w3.heap.size wr fs (filesOf (rs.take k))) (fun _ i _ => rs.length - (intOf i).toNat)
        case atStart => exact ⟨0, Nat.zero_le _, rfl, HX4.out, Hnil.out⟩
        case round =>
          obtain ⟨k, hk, rfl, hx, hfs⟩ := hrel
          have Hx := Lib.hid hx
          have Hfs := Lib.hid hfs
          clear hx hfs
          rename World => wr
          by_cases hlt : k < rs.length
          · obtain ⟨r, hr⟩ : ∃ x, rs[k]? = some x := ⟨_, List.getElem?_eq_getElem hlt⟩
            obtain ⟨g, tv, rfl, hat⟩ := out_at Hout.out.1 Hout.out.2 hr
            have Hnx := Lib.hid (filesOf_take hr)
            have hatx := hat.ext Hx.out
            have hwh := hatx.whole
            have hbx := OutAt.box hatx.text
            have hone := encO_one (o := oOf r tv) (text_form hatx.text)
            have q2 := hbx.path
            have q3 := hbx.id
            have q4 := hbx.stamp
            simp only [Nat.zero_mul, Nat.zero_add] at q2 q3 q4
            have hsz54 : (Tryz.prog.info? 54).map (·.size) = some (encO (oOf r tv)).length := by rw [encO_length]; exact size54
            have hz54 : (Z 54).size = (encO (oOf r tv)).length := by rw [encO_length]; exact Z54
            have hu := Tryz.underlying43
            have hsz43 : (Tryz.prog.info? 43).map (·.size) = some (encId r.id).length := by rw [encId_length]; exact size43
            have Hax := Lib.hid (Ext.alloc wr (.cells (encO (oOf r tv)).toArray 54))
            have hfl : (filesOf (rs.take k)).length < 274877906944 := by unfold filesOf; rw [List.length_map, List.length_take]; omega
            have hfo := Hfs.out.ext Hax.out
            have hb2 := (Hx.out.trans Hax.out).size
            have hfl34 := encF_length (fileR r)
            have hfone := encF_one (fileR r)
            clear hr hat hatx hbx
            generalize encO (oOf r tv) = cs at *
            go_wp2_with (first | (with_reducible refine wpList_load_mid rfl 54 _ rfl g (k * 135) rfl cs _ hwh Tryz.underlying54 rfl hsz54 ?_) | (with_reducible refine wpList_alloc_z rfl 54 rfl zok54 ?_) | (with_reducible refine wpList_store_new rfl 54 _ _ rfl (Z 54) cs rfl rfl hz54 hsz54 hone ?_) | (with_reducible refine wpList_load_mid rfl 43 _ rfl wr.heap.size 2 rfl (encId r.id) _ q3 hu rfl hsz43 ?_) | (with_reducible refine wpList_slice_one row22 rfl _ rfl (encF (fileR r)) rfl hfl34 (by omega) ?_) | (at_builtin; go_loud (refine wpList_append_one row22 rfl _ _ rfl _ (filesOf (rs.take k)) (fileR r) (wr.alloc (.cells cs.toArray 54)) rfl rfl (by exact hfo) rfl hfl34 hfone hfl (by omega) hb2 ?_); intro out3 w5 hown3 hg3; have Hg3 := Lib.hid (And.intro hown3 hg3); clear hown3 hg3))
            go_roundw
            case rel =>
              exact ⟨k + 1, by omega, by go_num, (Hx.out.trans Hax.out).grown_ Hg3.out.2 (fun b hb => (hfo.block b hb).1), by rw [Hnx.out]; exact Hg3.out.1⟩
            case measure => simp [intOf]; omega
          · have htk : rs.take k = rs := List.take_of_length_le (by omega)
            rw [htk] at Hfs
            have hown := Hfs.out
            obtain ⟨FA, FC, rfl⟩ := hown.form
            have hKl : (filesOf rs).length = rs.length := by unfold filesOf; rw [List.length_map]
            have HK := Lib.hid (show Files wr _ (filesOf rs) from hown.sl (fun f _ => encF_length f) (by omega))
            have HXr := Lib.hid (HX3.out.trans Hx.out)
            have HBr := Lib.hid (HB3.out.ext Hx.out)
            clear htk hown Hfs Hx HB3 HX3 HX4 Hout Hfb Hnil HM
            generalize filesOf rs = K at *
            have H21 := Lib.hid (c21 _ K wr HK.out (HG.out.ext HXr.out) (fun f hf => (KK.out f hf).1))
            rw [ZK.out] at H21
            rw [← hKl] at hl90
            clear hKl
            go_wp2_with fail
            refine H21.out.mono ?_
            rintro e w5 ⟨rfl, he5⟩
            have HX5 := Lib.hid (HXr.out.trans he5)
            have HB5 := Lib.hid (HBr.out.ext he5)
            have HK5 := Lib.hid (HK.out.ext he5)
            clear he5 H21 HK HXr HBr
            go_wp2_with fail
            clear hk hlt
            go_loopw [55] (fun i wr => ∃ k : Nat, k ≤ 2 ∧ i = .int .i64 (k : Int) ∧ Ext w5 wr) (fun i _ => 2 - (intOf i).toNat)
            case atStart => exact ⟨0, Nat.zero_le _, rfl, Ext.refl _⟩
            case round =>
              obtain ⟨k, hk, rfl, hx⟩ := hrel
              have Hx := Lib.hid hx
              clear hx
              rename World => wr
              by_cases hlt : k < 2
              · obtain ⟨A, n, b, hcb, hfb, kb, cb⟩ := again_side (HB5.out.ext Hx.out) (F1.out.ext (HX5.out.trans Hx.out)) (F2.out.ext (HX5.out.trans Hx.out)) K1.out K2.out Z0.out.2.1 Z0.out.2.2 hlt
                obtain ⟨rs2, hc, hka⟩ := again_call hfb (HK5.out.ext Hx.out) (HG.out.ext (HX5.out.trans Hx.out)) kb KK.out cb ZK.out
                have Hc := Lib.hid hc
                have Hka := Lib.hid hka
                clear hc hka hfb kb cb
                go_wp2_with fail
                refine Hc.out.mono ?_
                rintro e w7 ⟨v7, os7, rfl, hown, hok, he7⟩
                obtain ⟨R7, C7, rfl⟩ := hown.form
                have hlo : os7.length = K.length := hok.1.trans Hka.out.1
                have H20 := Lib.hid (c20 _ os7 w7 (hown.sl (fun o _ => encO_length o) (by omega)))
                rw [foul_of hok Hka.out.clean] at H20
                have Hout := Lib.hid (And.intro hown hok)
                rw [hlo] at H20 Hout ⊢
                have He7 := Lib.hid (Hx.out.trans he7)
                clear hown hok he7 hlo Hc hcb
                go_wp2_with fail
                refine H20.out.mono ?_
                rintro e w8 ⟨rfl, he8⟩
                have He8 := Lib.hid he8
                clear he8 H20
                go_wp2_with fail
                go_loopw [85] (fun i wx => ∃ j : Nat, j ≤ K.length ∧ i = .int .i64 (j : Int) ∧ Ext w7 wx) (fun i _ => K.length - (intOf i).toNat)
                case atStart => exact ⟨0, Nat.zero_le _, rfl, He8.out⟩
                case round =>
                  obtain ⟨j, hj, rfl, hx⟩ := hrel
                  have Hy := Lib.hid hx
                  clear hx
                  rename World => wx
                  by_cases hlt2 : j < K.length
                  · obtain ⟨f, hf⟩ : ∃ x, K[j]? = some x := ⟨_, List.getElem?_eq_getElem hlt2⟩
                    obtain ⟨r, hr⟩ : ∃ x, rs2[j]? = some x := ⟨_, List.getElem?_eq_getElem (by rw [Hka.out.1]; exact hlt2)⟩
                    obtain ⟨ek, ep, ei, es⟩ := Hka.out.2 j r f hr hf
                    obtain ⟨g, tv, rfl, hat⟩ := out_at Hout.out.1 Hout.out.2 hr
                    have hatx := hat.ext Hy.out
                    have hwh := hatx.whole
                    have hbx := OutAt.box hatx.text
                    have hone := encO_one (o := oOf r tv) (text_form hatx.text)
                    have hfx := HK5.out.ext (He7.out.trans Hy.out)
                    obtain ⟨bb, off, rfl, hbb, hfr⟩ := Files.at hfx hf
                    obtain ⟨p1, p2, p3⟩ := file_cells (rangeAt_ext hfr (Ext.alloc wx (.cells (encO (oOf r tv)).toArray 54)))
                    have q1 := hbx.kind
                    have q2 := hbx.path
                    have q3 := hbx.id
                    have q4 := hbx.stamp
                    rw [ek] at q1
                    rw [ep] at q2
                    rw [ei] at q3
                    simp only [Nat.zero_mul, Nat.zero_add] at q1 q2 q3 q4
                    have HE := Lib.hid es
                    have hsz54 : (Tryz.prog.info? 54).map (·.size) = some (encO (oOf r tv)).length := by rw [encO_length]; exact size54
                    have hz54 : (Z 54).size = (encO (oOf r tv)).length := by rw [encO_length]; exact Z54
                    have hu := Tryz.underlying43
                    have hsz43 : (Tryz.prog.info? 43).map (·.size) = some (encId f.id).length := by rw [encId_length]; exact size43
                    clear hf hr ek ep ei es hat hatx hbx hfx hfr
                    generalize encO (oOf r tv) = cs at *
                    generalize r.stamp = sr at *
                    go_wp2_with (first | (with_reducible refine wpList_load_mid rfl 54 _ rfl g (j * 135) rfl cs _ hwh Tryz.underlying54 rfl hsz54 ?_) | (with_reducible refine wpList_alloc_z rfl 54 rfl zok54 ?_) | (with_reducible refine wpList_store_new rfl 54 _ _ rfl (Z 54) cs rfl rfl hz54 hsz54 hone ?_))
                    refine wp_region_still_lit (by kernel_rfl) (by kernel_rfl) ?_
                    change wpStill _ _ (wx.alloc (.cells cs.toArray 54)).drew (fun a' => _) _ _
                    iterate 15 still_step
                    refine wpStill_load (by kernel_rfl) 43 _ rfl wx.heap.size 2 rfl (encId f.id) _ q3 hu rfl hsz43 ?_
                    iterate 4 still_step
                    refine wpStill_load (by kernel_rfl) 43 _ rfl bb (off + j * 34 + 1) rfl (encId f.id) _ p2 hu rfl hsz43 ?_
                    iterate 5 still_step
                    still_call (c22e HE.out _)
                    iterate 5 still_step
                    still_call (c22s f.stamp _)
                    iterate 2 still_step
                    refine wpStill_nil ?_
                    clear p1 p2 p3 q1 q2 q3 q4 hwh hone hsz54 hz54 hu hsz43
                    go_wp2_with fail
                    refine ⟨⟨j + 1, by omega, by go_num, Hy.out.trans ((Ext.alloc wx (.cells cs.toArray 54)).trans (Ext.drew _))⟩, ?_⟩
                    simp [intOf]; omega
                  · have Hend := Lib.hid (He7.out.trans Hy.out)
                    go_wp2_with fail
                    go_roundw
                    case rel => exact ⟨k + 1, by omega, by go_num, Hend.out⟩
                    case measure => simp [intOf]; omega
              · go_wp2_with fail
                go_ret
                exact ⟨rfl, HX5.out.trans Hx.out⟩
end Go.Proofs.YtaeleagkpgbmaaaGreatDoor
