/- join.Merge: the walk. -/
import Derived.Test.YtaeleagkpgbmaaaGreatDoorOuts
namespace Go.Proofs.YtaeleagkpgbmaaaGreatDoor
open Go.RowKit
set_option linter.unusedSimpArgs false
set_option linter.unusedVariables false

set_option maxRecDepth 100000 in
set_option maxHeartbeats 4000000 in
/-- join.Merge -/
theorem c15 (v0 v1 v2 bv : Value) (l0 l1 l2 : List FileD) (bl : List BlobD) (w0 : World) (h0 : Files w0 v0 l0) (h1 : Files w0 v1 l1) (h2 : Files w0 v2 l2) (hbl : Sl encBl 34 w0 bv bl) (hG : GMax w0)
    (hs : ∀ k, k < 3 → ∀ f ∈ lK l0 l1 l2 k, f.path.size < 4294967280 ∧ okStamp f.stamp)
    (hsz : ∀ b ∈ bl, b.text.size ≤ 600) (dec : ThreeD → DecR) (hd : ∀ p, p ∈ (sK l0 l1 l2 3).ps → decideO bl ((sK l0 l1 l2 3).m p) = some (dec ((sK l0 l1 l2 3).m p)) ∧ (dec ((sK l0 l1 l2 3).m p)).kind ≠ 4) :
  Calls Tryz.prog 15 #[.agg #[v0, v1, v2], .iface 34 (.agg #[bv])] w0 (MergeIs w0 (mergeF dec l0 l1 l2)) := by
  have HL := Lib.hid (list_at h0 h1 h2)
  have HG := Lib.hid hG
  have HS := Lib.hid hs
  have Hlen := Lib.hid (sK_len (lK_lt h0 h1 h2))
  have Hraw := Lib.hid (sK_raw hs 3 (Nat.le_refl _))
  have Hsizes := Lib.hid (sK_sizes hs 3 (Nat.le_refl _))
  have Hd := Lib.hid hd
  have Hsz := Lib.hid hsz
  have Hbl := Lib.hid hbl
  clear h0 h1 h2 hG hs hd hsz hbl
  have hmm := @run_makeMap Tryz.prog
  go_enter Tryz.func15, Tryz.ntmps15
  go_wp2_with fail
  clear hmm
  have Hst := Lib.hid (St.mk1 (Ext.alloc w0 (.cells #[v0, v1, v2] 23)))
  go_loopw [7, 23] (fun pv i wr => ∃ k : Nat, k ≤ 3 ∧ i = .int .i64 (k : Int) ∧ (∀ j, j < k → checkT (lK l0 l1 l2 j) = 0) ∧ GRel w0 (w0.heap.size + 1) (sK l0 l1 l2 k) pv wr) (fun _ i _ => 3 - (intOf i).toNat)
  case atStart => exact ⟨0, Nat.zero_le _, rfl, fun j hj => absurd hj (Nat.not_lt_zero _), _, by simpa [sK] using Hst.out, Own.nil⟩
  case round =>
    obtain ⟨k, hk, rfl, hck, F, hst, hpv⟩ := hrel
    have Hck := Lib.hid hck
    have Hst := Lib.hid hst
    have Hpv := Lib.hid hpv
    clear hck hst hpv
    by_cases hlt : k < 3
    · obtain ⟨A, n, hfl, hidx⟩ := HL.out k hlt
      have Hsk := Lib.hid (HS.out k hlt)
      have Hfl := Lib.hid hfl
      have Hidx := Lib.hid hidx
      have H21 := Lib.hid (c21 _ _ _ (hfl.ext Hst.out.ext) (HG.out.ext Hst.out.ext) (fun f hf => (HS.out k hlt f hf).1))
      clear hfl
      generalize hL : lK l0 l1 l2 k = L at *
      have HLk := Lib.hid hL
      clear hL
      generalize hC : checkT L = C at *
      have HC := Lib.hid hC
      clear hC
      go_wp2_with fail
      refine H21.out.mono ?_
      rintro e w1 ⟨rfl, he1⟩
      have He1 := Lib.hid he1
      clear he1 hidx
      by_cases hc : C = 0
      · have Hc := Lib.hid hc
        subst hc
        have hLlt := Hfl.out.lt
        go_wp2_with fail
        have Hst1 := Lib.hid (show GRel w0 (w0.heap.size + 1) (addLS k (sK l0 l1 l2 k) (L.take 0)) _ w1 from ⟨F, Hst.out.grow He1.out, Hpv.out.ext He1.out⟩)
        go_loopw [7, 34] (fun pv i wr => ∃ j : Nat, j ≤ L.length ∧ i = .int .i64 (j : Int) ∧ GRel w0 (w0.heap.size + 1) (addLS k (sK l0 l1 l2 k) (L.take j)) pv wr) (fun _ i _ => L.length - (intOf i).toNat)
        case atStart => exact ⟨0, Nat.zero_le _, rfl, Hst1.out⟩
        case round =>
          obtain ⟨j, hj, rfl, F2, hst2, hpv2⟩ := hrel
          have Hst2 := Lib.hid hst2
          have Hpv2 := Lib.hid hpv2
          clear hst2 hpv2
          by_cases hlt2 : j < L.length
          · obtain ⟨f, hf⟩ : ∃ x, L[j]? = some x := ⟨_, List.getElem?_eq_getElem hlt2⟩
            have Hnx := Lib.hid (addLS_next k (sK l0 l1 l2 k) hf)
            obtain ⟨b, off, rfl, hb, hrg⟩ := Hfl.out.at hf
            have Hrg := Lib.hid (rangeAt_ext hrg Hst2.out.ext)
            have hsz := (Hsk.out f (List.mem_of_getElem? hf)).1
            have Hkst := Lib.hid (Hsk.out f (List.mem_of_getElem? hf)).2
            have hps : (addLS k (sK l0 l1 l2 k) (L.take j)).ps.length < 20000000000 := by
              have h1 := addLS_len k (L.take j) (sK l0 l1 l2 k)
              have h2 := Hlen.out k hk
              rw [List.length_take] at h1
              have h3 := Hfl.out.lt
              omega
            clear hf hrg
            generalize addLS k (sK l0 l1 l2 k) (L.take j) = s at *
            have h0 := encF_0 f
            have hbx : (wr.alloc (.cells (encF f).toArray 56)).cell? ⟨wr.heap.size, 0, none⟩ = some (.string f.path) := by
              rw [World.cell?_alloc_at _ _ _ _ rfl]; simpa using h0
            have hlk := (Hst2.out.map.ext (Ext.alloc wr (.cells (encF f).toArray 56))).lookup f.path (by unfold maxLen; omega)
            go_upto_region 13 with (first | (with_reducible refine wpList_load_mid rfl 56 _ rfl b (off + j * 34) rfl (encF f) _ Hrg.out Tryz.underlying56 rfl (by rw [encF_length]; exact size56) ?_) | (with_reducible refine wpList_alloc_z rfl 56 rfl zok56 ?_) | (with_reducible refine wpList_store_new rfl 56 _ _ rfl (Z 56) (encF f) rfl rfl (by rw [Z56, encF_length]) (by rw [encF_length]; exact size56) (encF_one f) ?_))
            go_cut [13, 43] (fun s13 s43 wx => s13 = ptrE (F2 f.path) ∧ s43 = .bool (!memB f.path s.ps) ∧ wx = wr.alloc (.cells (encF f).toArray 56))
            case first =>
              cases hm : memB f.path s.ps
              · have e : ptrE (F2 f.path) = .pointer none := by rw [Hst2.out.only _ (memB_false.1 hm)]; rfl
                rw [e] at hlk ⊢
                go_wp2_with fail
                go_meet
                case rel => exact ⟨e.symm, by rw [hm]; rfl, rfl⟩
              · obtain ⟨B, e', -⟩ := Hst2.out.here _ (memB_true.1 hm)
                have e : ptrE (F2 f.path) = .pointer (some ⟨B, 0, none⟩) := by rw [e']; rfl
                rw [e] at hlk ⊢
                go_wp2_with fail
                go_meet
                case rel => exact ⟨e.symm, by rw [hm]; rfl, rfl⟩
            case rest =>
              obtain ⟨rfl, rfl, rfl⟩ := hcut
              go_upto_if 43 with fail
              go_cut [7, 13] (fun pv tv wx => GMid w0 (w0.heap.size + 1) s f pv (.pointer (some ⟨wr.heap.size, 0, none⟩)) tv wx)
              case first =>
                cases hm : memB f.path s.ps
                · have e : ptrE (F2 f.path) = .pointer none := by rw [Hst2.out.only _ (memB_false.1 hm)]; rfl
                  rw [e]
                  have Hm := Lib.hid hm
                  have HM := Lib.hid (fun o1 o2 => Hst2.out.map.ext ((Ext.alloc wr o1).trans (Ext.alloc _ o2)))
                  clear hlk hm e
                  go_wp2_with (first | (at_mapUpdate; (refine wpList_mapSet rfl _ _ _ rfl (w0.heap.size + 1) s.ps.length F2 f.path (wr.heap.size + 1) rfl rfl rfl (HM.out _ _) (by unfold maxLen; omega) (by unfold maxLen; omega) ?_); intro w3 hm3 hg3; have Hm3 := Lib.hid (And.intro hm3 hg3); have hbx3 := map_box Hst2.out hg3; clear hm3 hg3) | (at_builtin; go_loud (refine wpList_append_one row103 rfl _ _ rfl _ s.ps f.path w3 rfl rfl (by exact map_own Hst2.out Hpv2.out Hm3.out.2) rfl rfl encS_one (by omega) (by omega) (map_size Hst2.out Hm3.out.2) ?_); intro pv4 w4 hown4 hg4; have Hg4 := Lib.hid (And.intro hown4 hg4); clear hown4 hg4))
                  trace_state
                  go_meet
                  case rel => exact gmid_new Hst2.out Hpv2.out Hm.out Hm3.out.1 Hm3.out.2 Hg4.out.1 Hg4.out.2
                · obtain ⟨B, e, hB0, hB, -⟩ := Hst2.out.here _ (memB_true.1 hm)
                  have e' : ptrE (F2 f.path) = .pointer (some ⟨B, 0, none⟩) := by rw [e]; rfl
                  rw [e']
                  have Hm := Lib.hid hm
                  have He := Lib.hid e
                  clear hlk hm e e' hB
                  go_wp2_with fail
                  go_meet
                  case rel => exact gmid_old Hst2.out Hpv2.out Hm.out He.out
              case rest =>
                obtain ⟨X, B, F3, hX, rfl, hst3, hF3, hp3, hown3, hbk⟩ := hcut
                obtain rfl : wr.heap.size = X := by
                  injection hX with e; injection e with e; injection e
                clear hX h0 hbx hlk
                have hT := (hst3.isT hF3).2.2
                have hne := Blk.ne_typ hbk hT (by decide)
                obtain ⟨t1, hT1⟩ := IsT.setHK (k := k) (w := wc.drew) hT hlt
                obtain ⟨t2, hT2⟩ := hT1.setIK (k := k) hlt f.id
                obtain ⟨bH, hcH⟩ := hT.hK hlt
                have hfH := hT.frozen (36 + k)
                obtain ⟨nS, hcS⟩ := hT2.sK hlt
                have hfS := hT2.frozen (135 + k)
                have hcS1 : ((wc.setCell ⟨B, 36 + k, none⟩ (.bool true)).drew.setCells B (39 + k * 32) (encId f.id)).cell? ⟨B, 135 + k, none⟩ = some (.float .f64 nS) := hcS
                have hfS1 : ((wc.setCell ⟨B, 36 + k, none⟩ (.bool true)).drew.setCells B (39 + k * 32) (encId f.id)).frozen? ⟨B, 135 + k, none⟩ = false := hfS
                have S0 : RS wr.heap.size B k f wc.drew := RS.mk (k := k) hbk hT hlt
                have S1 : RS wr.heap.size B k f (wc.drew.setCell ⟨B, 36 + k, none⟩ (.bool true)) := RS.mk (k := k) (Blk.far (w := wc.drew) hbk hne _) hT1 hlt
                have S2 : RS wr.heap.size B k f ((wc.drew.setCell ⟨B, 36 + k, none⟩ (.bool true)).setCells B (39 + k * 32) (encId f.id)) := RS.mk (k := k) ((Blk.far (w := wc.drew) hbk hne _).farCells hne _ _) hT2 hlt
                have S3 : RS wr.heap.size B k f (((wc.drew.setCell ⟨B, 36 + k, none⟩ (.bool true)).setCells B (39 + k * 32) (encId f.id)).setCell ⟨B, 135 + k, none⟩ (.float .f64 f.stamp)) := RS.mk (k := k) (((Blk.far (w := wc.drew) hbk hne _).farCells hne _ _).far hne _) (IsT.put (w := wc.drew) hT hlt f) hlt
                have Hc := Lib.hid (And.intro hst3 (And.intro hF3 (And.intro hp3 (And.intro hown3 (IsT.put (w := wc.drew) hT hlt f)))))
                clear hst3 hF3 hp3 hown3 hT hbk hT1 hT2
                have hln := encId_length f.id
                have hone := id_one f.id
                unfold RS at S0 S1 S2 S3
                go_upto_region 18 with fail
                have hu := Tryz.underlying43
                have hsz43 : (Tryz.prog.info? 43).map (·.size) = some (encId f.id).length := by rw [hln]; exact size43
                have hone' : ∀ v ∈ encId f.id, v.oneCell' = true := fun v hv => hone v (by simpa using hv)
                go_region_held3 (fun w' => w'.rangeAt wr.heap.size 1 (encId f.id) ∧ w'.cell? ⟨wr.heap.size, 33, none⟩ = some (.float .f64 f.stamp) ∧ w'.there B (39 + k * 32) 32) (first | exact S0 | exact S1 | exact S2 | exact S3) (first | fail)
                clear S0 S1 S2 S3 hcS hfS hcS1 hfS1 hcH hfH hone hone' hln hsz43 hu
                go_wp2_with fail
                go_roundw
                case rel => exact ⟨j + 1, by omega, by go_num, by rw [Hnx.out]; exact grel_put Hc.out.1 Hc.out.2.1 Hc.out.2.2.1 Hc.out.2.2.2.1 Hc.out.2.2.2.2⟩
                case measure => simp [intOf]; omega
          · have Hj := Lib.hid (show L.take j = L from List.take_of_length_le (by omega))
            go_wp2_with fail
            go_roundw
            case rel =>
              refine ⟨k + 1, by omega, by go_num, fun i hi => ?_, F2, ?_, ?_⟩
              · rcases Nat.lt_or_ge i k with h | h
                · exact Hck.out i h
                · obtain rfl : i = k := by omega
                  rw [HLk.out]; exact HC.out
              · have := Hst2.out
                rw [Hj.out] at this
                rw [sK, HLk.out]; exact this
              · have := Hpv2.out
                rw [Hj.out] at this
                rw [sK, HLk.out]; exact this
            case measure => simp [intOf]; omega
      · have hc' : (C != 0) = true := by simpa using hc
        have Hfin := Lib.hid (show mergeF dec l0 l1 l2 = ([], C) by
          have h1 := chk3_at hlt Hck.out (by rw [HLk.out, HC.out]; exact hc)
          rw [HLk.out, HC.out] at h1
          unfold mergeF
          rw [h1, if_pos hc])
        go_wp2_with fail
        go_ret2
        rw [Hfin.out]
        exact MergeIs.err (Hst.out.ext.trans He1.out)
    · obtain rfl : k = 3 := by omega
      have hG3 := HG.out.ext Hst.out.ext
      have hb1 : 1 < w0.heap.size := by
        obtain ⟨m, hm⟩ := HG.out
        exact World.block_lt_of_cell? _ _ hm
      have hlen3 := Hlen.out 3 (Nat.le_refl _)
      have Hnd := Lib.hid (sK_nodup l0 l1 l2 3)
      have Hm := Lib.hid (show mergeF dec l0 l1 l2 = if errD dec (sK l0 l1 l2 3) (sortP (sK l0 l1 l2 3).ps) ≠ 0 then ([], errD dec (sK l0 l1 l2 3) (sortP (sK l0 l1 l2 3).ps)) else (blockF (keepD dec (sK l0 l1 l2 3) (sortP (sK l0 l1 l2 3).ps)), 0) from by
        unfold mergeF
        rw [chk3_zero Hck.out, if_neg (by simp)])
      have hpl := sK_small Hck.out
      clear Hck
      generalize sK l0 l1 l2 3 = S at *
      have H38 := Lib.hid (c38w w0.heap.size _ S.ps wr Hpv.out hG3 hb1 Hsizes.out (by omega))
      clear hG3
      go_wp2_with fail
      refine H38.out.mono ?_
      rintro e w1 ⟨rfl, hp1, hs1⟩
      have hperm := sortP_len S.ps
      obtain ⟨Ap, cp, rfl, -⟩ := Strs.open_ hp1.1
      have Hst1 := Lib.hid (Hst.out.srt Hpv.out hs1)
      have Hc1 := Lib.hid (crel_start (dec := dec) Hst1.out hp1)
      have Hmem := Lib.hid (fun p (hp : p ∈ sortP S.ps) => (sortP_perm S.ps).mem_iff.1 hp)
      have HndP := Lib.hid ((sortP_perm S.ps).nodup_iff.2 Hnd.out)
      have Hpath := Lib.hid (fun p (hp : p ∈ S.ps) => (Hst1.out.here p hp).choose_spec.2.2.2)
      clear hp1 hs1 Hst Hpv H38
      have hpl2 : (sortP S.ps).length ≤ 768 := by omega
      have Hsp := Lib.hid (show sortP S.ps = sortP S.ps from rfl)
      clear hperm
      go_wp2_with fail
      go_loopw [14, 88] (fun out i wr => ∃ k : Nat, k ≤ (sortP S.ps).length ∧ i = .int .i64 (k : Int) ∧ CRel w0 (w0.heap.size + 1) F S (.slice Ap (sortP S.ps).length cp) dec k out wr) (fun _ i _ => (sortP S.ps).length - (intOf i).toNat)
      case atStart => exact ⟨0, Nat.zero_le _, rfl, Hc1.out⟩
      case round =>
        obtain ⟨k, hk, rfl, s, hst, hps, hrest, hpv, herr, os, hown, hos⟩ := hrel
        have Hrel := Lib.hid (And.intro hst (And.intro hps (And.intro hrest (And.intro hpv (And.intro herr (And.intro hown hos))))))
        clear hst hps hrest herr hown hos
        by_cases hlt : k < (sortP S.ps).length
        · obtain ⟨p, hp⟩ : ∃ x, (sortP S.ps)[k]? = some x := ⟨_, List.getElem?_eq_getElem hlt⟩
          obtain ⟨A', c', hA', _, _, hcell⟩ := Strs.open_ hpv.1
          injection hA' with e1 e2 e3
          subst e1
          subst e3
          clear e2
          obtain ⟨b, off, rfl, hb, hcell⟩ := hcell (by omega)
          have hcp := hcell k p hp
          have hpS := Hmem.out p (List.mem_of_getElem? hp)
          obtain ⟨B, hF, hB0, hT, hpath⟩ := Hrel.out.1.here p (by rw [Hrel.out.2.1]; exact hpS)
          have hsm : s.m p = S.m p := Hrel.out.2.2.1 p (by rw [List.drop_eq_getElem_cons hlt]; rw [(List.getElem?_eq_some_iff.1 hp).2]; exact List.mem_cons_self)
          have hpz := Hsizes.out p hpS
          have hlk := Hrel.out.1.map.lookup p (by unfold maxLen; omega)
          rw [hF] at hlk
          simp only [ptrE] at hlk
          have hTS := hT
          rw [hsm] at hT hpath
          have Hdp := Lib.hid (Hd.out p hpS)
          have H40 := Lib.hid (c40 B (S.m p) bv bl (dec (S.m p)) w0 wr hT Hbl.out Hrel.out.1.ext hB0 Hsz.out (Hraw.out p).2.1 (Hraw.out p).2.2.1 (Hraw.out p).2.2.2 Hdp.out.1)
          have Hp := Lib.hid hp
          have HF := Lib.hid hF
          have HT := Lib.hid (And.intro hT (And.intro hpath hTS))
          clear hp hcell hpv hF hT hTS hsm hpath
          have Hkn := Lib.hid (keepD_next (dec := dec) (S := S) Hp.out)
          have Hea := Lib.hid (errD_at (dec := dec) (s := S) Hp.out Hrel.out.2.2.2.2.1)
          generalize hdd : dec (S.m p) = d at *
          have Hdd := Lib.hid hdd
          clear hdd
          obtain ⟨c, hc⟩ : ∃ c, d.err = c := ⟨_, rfl⟩
          obtain ⟨th, hth⟩ : ∃ th, d.there = th := ⟨_, rfl⟩
          rw [hc, hth] at H40
          rw [hc] at Hea
          have Hc := Lib.hid hc
          have Hth := Lib.hid hth
          clear hc hth
          go_wp2_with fail
          refine H40.out.mono ?_
          rintro e w2 ⟨rfl, hdi, ho⟩
          obtain ⟨o, hTo, hpo, hok⟩ := decIs_ok hdi (Hraw.out p).1
          have hpo' : o.path = p := hpo.trans HT.out.2.1
          obtain ⟨hst2, hps2, hrest2, hpv2, hown2, hos2⟩ := crel_turn Hp.out Hrel.out.1 Hrel.out.2.1 Hrel.out.2.2.1 Hrel.out.2.2.2.1 Hrel.out.2.2.2.2.2.1 Hrel.out.2.2.2.2.2.2 HF.out HT.out.2.2 ho hTo hpo' HndP.out
          have hlk2 := hst2.map.lookup p (by unfold maxLen; omega)
          rw [HF.out] at hlk2
          simp only [ptrE] at hlk2
          have hto := text_form hok.text
          have hone := encO_one hto
          have Hnew := Lib.hid (And.intro hst2 (And.intro hps2 (And.intro hrest2 (And.intro hpv2 (And.intro hown2 (And.intro hos2 (And.intro hok hTo)))))))
          have hrg := hTo.out_
          clear hdi hTo hpo hpo' hok hst2 hps2 hrest2 hpv2 hown2 hos2 hlk hcp hto H40
          by_cases he : c = 0
          · subst he
            have Herr := Lib.hid (err_next (dec := dec) Hp.out Hrel.out.2.2.2.2.1 (by rw [Hdd.out]; exact Hc.out))
            clear Hea
            cases th
            · go_wp2_with fail
              go_roundw
              case rel =>
                obtain ⟨r1, r2, r3, r4, r5, r6, r7, r8⟩ := Hnew.out
                first | exact ⟨k + 1, by omega, by go_num, s.set p o, r1, r2, r3, r4, Herr.out, os, r5, by rw [Hkn.out, if_neg (by rw [Hth.out]; simp), List.append_nil]; exact r6⟩ | exact ⟨_, _, .int .i64 ((k + 1 : Nat) : Int), ⟨k + 1, by omega, rfl, s.set p o, r1, r2, r3, r4, Herr.out, os, r5, by rw [Hkn.out, if_neg (by rw [Hth.out]; simp), List.append_nil]; exact r6⟩, rfl, rfl, by simp⟩ | exact ⟨_, _, _, _, _, _, .int .i64 ((k + 1 : Nat) : Int), ⟨k + 1, by omega, rfl, s.set p o, r1, r2, r3, r4, Herr.out, os, r5, by rw [Hkn.out, if_neg (by rw [Hth.out]; simp), List.append_nil]; exact r6⟩, rfl, rfl, rfl, rfl, rfl, rfl, by simp⟩
              case measure => simp [intOf]; omega
            · have hol : os.length ≤ 768 := by
                have h1 := Hrel.out.2.2.2.2.2.2.1
                have h2 : (keepD dec S ((sortP S.ps).take k)).length ≤ ((sortP S.ps).take k).length := keepD_le _ _ _
                rw [List.length_take] at h2
                omega
              have hsz2 : w0.heap.size ≤ w2.heap.size := Hnew.out.1.ext.size
              have hsz54 : (Tryz.prog.info? 54).map (·.size) = some (encO o).length := by rw [encO_length]; exact size54
              go_wp2_with (first | (with_reducible refine wpList_load_mid rfl 54 _ rfl B 0 rfl (encO o) _ hrg Tryz.underlying54 rfl hsz54 ?_) | (with_reducible refine wpList_slice_one row29 rfl _ rfl (encO o) rfl (encO_length o) (by omega) ?_) | (at_builtin; go_loud (refine wpList_append_one row29 rfl _ _ rfl _ os o w2 rfl rfl (by exact Hnew.out.2.2.2.2.1) rfl (encO_length o) hone (by omega) (by omega) hsz2 ?_); intro out3 w3 hown3 hg3; have Hg3 := Lib.hid (And.intro hown3 hg3); clear hown3 hg3))
              go_roundw
              case rel =>
                obtain ⟨r1, r2, r3, r4, r5, r6, r7, r8⟩ := Hnew.out
                exact ⟨k + 1, by omega, by go_num, crel_app r1 r2 r3 r4 Herr.out r5 r6 (by rw [Hdd.out]; exact r7) Hp.out (by rw [Hdd.out]; exact Hth.out) Hg3.out.1 Hg3.out.2⟩
              case measure => simp [intOf]; omega
          · have he' : (c != 0) = true := by simpa using he
            have Hfin := Lib.hid (show mergeF dec l0 l1 l2 = ([], c) from by
              rw [Hm.out, Hea.out he, if_pos he])
            clear Hea he
            go_wp2_with fail
            go_ret2
            rw [Hfin.out]
            exact MergeIs.err Hnew.out.1.ext
        · obtain ⟨hst, hps, hrest, -, herr, hown, hos⟩ := Hrel.out
          have hkl : k = (sortP S.ps).length := by omega
          have htk : (sortP S.ps).take k = sortP S.ps := List.take_of_length_le (by omega)
          rw [htk] at herr hos
          have Hm2 := Lib.hid (show mergeF dec l0 l1 l2 = (blockF (keepD dec S (sortP S.ps)), 0) from by
            rw [Hm.out, errD_zero herr, if_neg (by simp)])
          have Hkd := Lib.hid (keepD_kind (dec := dec) (S := S) (l := sortP S.ps) (fun p hp => (Hd.out p (Hmem.out p hp)).2))
          have Hks := Lib.hid (keepD_sizes (dec := dec) (S := S) (l := sortP S.ps) (fun p hp => by rw [Hpath.out p (Hmem.out p hp)]; exact Hsizes.out p (Hmem.out p hp)))
          have hkl2 := keepD_le dec S (sortP S.ps)
          clear htk hkl
          generalize keepD dec S (sortP S.ps) = rs at *
          have hrl := hos.1
          obtain ⟨R, C, rfl⟩ := hown.form
          rw [hrl] at hown
          have Hb0 := Lib.hid (show BRel w0 (.slice R rs.length C) (bk rs 0) wr from ⟨os, hown, by rw [bk_zero]; exact hos, hst.ext⟩)
          clear hst hps hrest herr hown hos hpv Hrel
          rw [hrl]
          clear hrl
          go_wp2_with fail
          go_loopw [116] (fun i wr => ∃ k : Nat, k ≤ rs.length ∧ i = .int .i64 (k : Int) ∧ BRel w0 (.slice R rs.length C) (bk rs k) wr) (fun i _ => rs.length - (intOf i).toNat)
          case atStart => exact ⟨0, Nat.zero_le _, rfl, Hb0.out⟩
          case round =>
            obtain ⟨i, hi, rfl, hb⟩ := hrel
            have Hb := Lib.hid hb
            clear hb
            by_cases hlt3 : i < rs.length
            · obtain ⟨r, hr⟩ : ∃ x, rs[i]? = some x := ⟨_, List.getElem?_eq_getElem hlt3⟩
              have Hr := Lib.hid hr
              have Hk0 := Lib.hid (krel_start (r := r) Hb.out)
              have hrk : r.kind ≠ 4 := Hkd.out r (List.mem_of_getElem? hr)
              clear hr
              go_wp2_with fail
              go_loopw [20] (fun kk wx => ∃ (j : Nat) (b : Bool), j ≤ i ∧ kk = .int .i64 ((j : Int) - 1) ∧ KRel w0 (.slice R rs.length C) rs i r j b wx) (fun kk _ => (intOf kk + 1).toNat)
              case atStart => exact ⟨i, false, Nat.le_refl _, rfl, Hk0.out⟩
              case round =>
                obtain ⟨j, b, hj, hkk, hkr⟩ := hrel
                have Hkr := Lib.hid hkr
                clear hkr
                cases j with
                | zero =>
                  rw [show ((0 : Nat) : Int) - 1 = -1 from rfl] at hkk
                  subst hkk
                  go_wp2_with fail
                  go_roundw
                  case rel => exact ⟨i + 1, by omega, by go_num, krel_end Hr.out Hkr.out (fun _ => rfl)⟩
                  case measure => simp [intOf]; omega
                | succ j =>
                  rw [show (((j + 1 : Nat) : Int) - 1) = (j : Int) by omega] at hkk
                  subst hkk
                  obtain ⟨q, hq⟩ : ∃ x, rs[j]? = some x := ⟨_, List.getElem?_eq_getElem (by omega)⟩
                  obtain ⟨g, rfl, c1, c2, c3, fz⟩ := krel_cells Hkr.out Hr.out hq
                  have Hq := Lib.hid hq
                  have hqs := Hks.out q (List.mem_of_getElem? hq)
                  clear hq
                  cases b with
                  | true =>
                    simp only [if_true] at c3
                    go_wp2_with fail
                    go_roundw
                    case rel => exact ⟨i + 1, by omega, by go_num, krel_end Hr.out Hkr.out (fun h => by cases h)⟩
                    case measure => simp [intOf]; omega
                  | false =>
                    simp only [Bool.false_eq_true, if_false] at c3
                    have H41 := Lib.hid (fun w' => c41 r.path q.path w' (by omega))
                    have hk4 : (r.kind != 4) = true := by simpa using hrk
                    obtain ⟨u, hu⟩ : ∃ u, underB r.path q.path = u := ⟨_, rfl⟩
                    rw [hu] at H41
                    have Hu := Lib.hid hu
                    clear hu hrk
                    generalize hkap : r.kind = kap at *
                    clear hkap
                    go_wp2_with fail
                    have q2 : IntKind.i64.wrap (j : Int) = (j : Int) := IntWalk.i64_in _ (by omega)
                    have q3 : (0 : Int) ≤ (j : Int) := by omega
                    have q4 : (j : Int) < (rs.length : Int) := by omega
                    have q5 : (j : Int).toNat = j := by omega
                    have q6 : (0 : Int) ≤ (i : Int) := by omega
                    have q7 : (i : Int) < (rs.length : Int) := by omega
                    have q8 : (i : Int).toNat = i := by omega
                    rename World => wx
                    have S9 : wx.drew.cell? ⟨g, i * 135, none⟩ = some (.string r.path) ∧ wx.drew.cell? ⟨g, j * 135, none⟩ = some (.string q.path) := ⟨c1, c2⟩
                    go_region_held3 (fun w' => w'.cell? ⟨g, i * 135, none⟩ = some (.string r.path) ∧ w'.cell? ⟨g, j * 135, none⟩ = some (.string q.path)) (first | exact S9) (first | (go_at_call 41; refine (H41.out _).mono ?_; rintro e w' ⟨rfl, rfl⟩))
                    clear q2 q3 q4 q5 q6 q7 q8 S9
                    cases u
                    · go_wp2_with fail
                      refine ⟨⟨j, false, by omega, rfl, krel_miss (Hkr.out.ext (Ext.drew wx)) Hq.out Hu.out⟩, ?_⟩
                      simp [intOf]
                    · go_wp2_with fail
                      refine ⟨⟨j, true, by omega, rfl, krel_hit (Hkr.out.ext (Ext.drew wx)) Hr.out (by omega) Hq.out Hu.out⟩, ?_⟩
                      simp [intOf]
            · have Hfin := Lib.hid (show i = rs.length by omega)
              have Hend := Lib.hid Hb.out
              go_wp2_with fail
              go_ret2
              rw [Hm2.out]
              obtain ⟨os2, g1, g2, g3⟩ := Hend.out
              rw [Hfin.out] at g2
              exact ⟨_, os2, rfl, g1, g2, g3⟩
end Go.Proofs.YtaeleagkpgbmaaaGreatDoor
