/- lines.Split. -/
import Derived.Test.YtaeleagkpgbmaaaGreatDoorLines
import Derived.Test.YtaeleagkpgbmaaaGreatDoorCut
namespace Go.Proofs.YtaeleagkpgbmaaaGreatDoor
open Go.RowKit
set_option linter.unusedSimpArgs false
set_option linter.unusedVariables false

def lenV : Value → Nat | .slice _ n _ => n | _ => 0
theorem strOfNums_nats (s : List UInt8) : Go.strOfNums (s.map fun x => (x.toNat : Int)) = mkS s := by
  have h := strOfNums_data (s.map fun x => (x.toNat : Int))
  have e : (List.map (fun n : Int => UInt8.ofNat n.toNat) (s.map fun x => (x.toNat : Int))) = s := by
    rw [List.map_map]
    conv => rhs; rw [← List.map_id s]
    apply List.map_congr_left
    intro x _
    simp
  rw [e] at h
  generalize Go.strOfNums (s.map fun x => (x.toNat : Int)) = b at h
  obtain ⟨d⟩ := b
  unfold mkS
  simp only at h
  rw [← h]
theorem run_toString (w : World) (A : Option Addr) (c : Nat) (s : List UInt8) (h : Byt w (.slice A s.length c) s) (hp : 0 < s.length) :
    (convert 52 9 (.slice A s.length c)).run Tryz.prog w = .ok (.string (mkS s)) w := by
  obtain ⟨b, off, rfl, hb, hcell⟩ : ∃ b off, A = some ⟨b, off, none⟩ ∧ b < w.heap.size ∧ ∀ i x, s[i]? = some x → w.cell? ⟨b, off + i, none⟩ = some (.int .u8 x.toNat) := by
    obtain ⟨A', c', hv, hc, hl, hx⟩ := h.open_
    have hA : A = A' := congrArg (fun v => match v with | .slice A _ _ => A | _ => none) hv
    subst hA
    exact hx hp
  have hq : ∀ i, i < s.length → w.cell? ⟨b, off + i, none⟩ = some (.int .u8 ((s.map fun x => (x.toNat : Int)).getD i 0)) := fun i hi => by
    rw [getD_nats hi]; exact hcell i _ (List.getElem?_eq_getElem hi)
  have hlen : (s.map fun x => (x.toNat : Int)).length = s.length := by simp
  have := run_convert_bytes_arg w 52 5 Tryz.underlying52 Tryz.underlying5 b off s.length c (s.map fun x => (x.toNat : Int)) hlen hq 9 Tryz.underlying9
  rw [strOfNums_nats] at this
  exact this
theorem encS_one {y : ByteArray} : ∀ u ∈ encS y, u.oneCell' = true := by intro u hu; simp [encS] at hu; subst hu; rfl
theorem Byt.nil_ (w : World) : Byt w (.slice none 0 0) [] := Sl.nil _ _ _

set_option maxRecDepth 10000 in
set_option maxHeartbeats 1000000 in
theorem c125 (v : Value) (s : List UInt8) (w : World) (h : Byt w v s) :
    Calls Tryz.prog 125 #[v] w fun e w' => ∃ v', e = .returned v' ∧ Own encS 1 9 w.heap.size w' v' ((linesOf s).map mkS) ∧ Ext w w' := by
  have hsl : s.length < 4294967296 := h.1
  have Hv := Lib.hid h
  have hll := linesOf_len s
  have HB := Lib.hid (show w.heap.size ≤ w.heap.size from Nat.le_refl _)
  generalize hB : w.heap.size = B at HB
  have HBe := Lib.hid hB
  clear hB h
  go_enter Tryz.func125, Tryz.ntmps125
  go_wp2_with fail
  go_loopw [0, 3, 4] (fun t o _ wr => ∃ (r : List UInt8) (ls : List ByteArray), Byt w t r ∧ Own encS 1 9 B wr o ls ∧ (linesOf s).map mkS = ls ++ (linesOf r).map mkS ∧ Ext w wr) (fun t _ _ _ => lenV t)
  case atStart => exact ⟨s, [], Hv.out, Own.nil, rfl, Ext.refl _⟩
  case round =>
    obtain ⟨r, ls, ht0, ho, hr, hew⟩ := hrel
    have Ht0 := Lib.hid ht0
    have ht : Byt wr _ r := Sl.ext ht0 hew
    clear ht0
    have Hr := Lib.hid hr
    have Hew := Lib.hid hew
    have Ho := Lib.hid ho
    have hlen := congrArg List.length hr
    rw [List.length_append, List.length_map] at hlen
    have hls : ls.length ≤ s.length := by omega
    have H171 := Lib.hid (c171 _ r 10 wr ht)
    rw [show (10 : Int).toNat.toUInt8 = 10 from rfl] at H171
    have Ht := Lib.hid ht
    obtain ⟨A, c, rfl, hc, hl, hx⟩ := ht.open_
    have hcl := hc.1
    clear hr hew ho hlen hx hc ht
    by_cases hp : 0 < r.length
    · have Hcut := Lib.hid (linesOf_cut r hp)
      have hge := Lib.indexByte_ge r 10
      have hlt := indexByte_lt r 10
      have hle := (lineEnd_pos hp).2
      have hpo := (lineEnd_pos hp).1
      by_cases hm : Lib.indexByte r 10 = -1
      · have Hle := Lib.hid (show lineEnd r = r.length by unfold lineEnd; rw [hm]; rfl)
        rw [hm] at H171
        clear hm hge hlt
        go_wp2_with fail
        refine H171.out.mono ?_
        rintro e w' ⟨rfl, rfl⟩
        go_wp2_with (first | (with_reducible refine wpList_cut row52 rfl _ _ _ rfl A r.length c 0 r.length rfl (Nat.zero_le _) (Nat.le_refl _) hcl (.inr ⟨rfl, rfl⟩) (.inl rfl) ?_))
        intro A1 c1 hc1 hs1
        have hb1 := hs1 _ encB wr r rfl Ht.out
        have hln : (r.take (r.length)).length = r.length := by rw [List.length_take]; omega
        have hb2 : Byt wr (.slice A1 (r.take (r.length)).length c1) (r.take (r.length)) := by rw [hln]; simpa using hb1
        have hcv := run_toString wr A1 c1 (r.take (r.length)) hb2 (by omega)
        rw [hln] at hcv
        generalize hX : r.take (r.length) = x at hcv
        have HX := Lib.hid hX
        clear hs1 hb1 hln hb2 hX
        go_wp2_with (first | (with_reducible refine wpList_cut row52 rfl _ _ _ rfl A r.length c r.length r.length rfl (Nat.le_refl _) (Nat.le_refl _) hcl (.inl rfl) (.inr ⟨rfl, rfl⟩) ?_; intro A2 c2 hc2 hs2; have Hs2 := Lib.hid (hs2 _ encB w r rfl Ht0.out); clear hs2) | (at_builtin; go_loud (refine wpList_append_one row103 rfl _ _ rfl _ ls (mkS x) wr rfl rfl Ho.out rfl rfl encS_one (by omega) (by omega) (HBe.out ▸ Hew.out.size) ?_); intro o1 w1 hown1 hg1))
        have hs := Hs2.out
        refine ⟨⟨r.drop (r.length), ls ++ [mkS x], ?_, hown1, ?_, Hew.out.grown_ hg1 (fun q hq => HBe.out ▸ (Ho.out.block q hq).1)⟩, by simp only [lenV]; omega⟩
        · have e : (r.drop (r.length)).take (r.length - (r.length)) = r.drop (r.length) := List.take_of_length_le (by rw [List.length_drop]; omega)
          rw [e, Nat.sub_self] at hs
          exact hs
        · rw [Hr.out, Hcut.out, List.map_cons, Hle.out, HX.out, List.append_assoc]; rfl
      · obtain ⟨k, hk⟩ := Int.eq_ofNat_of_zero_le (show 0 ≤ Lib.indexByte r 10 by omega)
        have Hle := Lib.hid (show lineEnd r = k + 1 by unfold lineEnd; rw [if_neg (by omega), hk]; rfl)
        have hkl : k < r.length := by omega
        have hke : ((k : Int) + 1 == 0) = false := by rw [beq_eq_false_iff_ne]; omega
        rw [hk] at H171
        clear hm hge hlt hk
        go_wp2_with fail
        refine H171.out.mono ?_
        rintro e w' ⟨rfl, rfl⟩
        go_wp2_with (first | ((with_reducible refine wpList_cut row52 rfl _ _ _ rfl A r.length c 0 (k + 1) rfl (Nat.zero_le _) (by omega) hcl (.inr ⟨rfl, rfl⟩) (.inl ?_) ?_); (rfl)))
        intro A1 c1 hc1 hs1
        have hb1 := hs1 _ encB wr r rfl Ht.out
        have hln : (r.take (k + 1)).length = k + 1 := by rw [List.length_take]; omega
        have hb2 : Byt wr (.slice A1 (r.take (k + 1)).length c1) (r.take (k + 1)) := by rw [hln]; simpa using hb1
        have hcv := run_toString wr A1 c1 (r.take (k + 1)) hb2 (by omega)
        rw [hln] at hcv
        generalize hX : r.take (k + 1) = x at hcv
        have HX := Lib.hid hX
        clear hs1 hb1 hln hb2 hX
        go_wp2_with (first | ((with_reducible refine wpList_cut row52 rfl _ _ _ rfl A r.length c (k + 1) r.length rfl (by omega) (Nat.le_refl _) hcl (.inl ?_) (.inr ⟨rfl, rfl⟩) ?_); (rfl); intro A2 c2 hc2 hs2; have Hs2 := Lib.hid (hs2 _ encB w r rfl Ht0.out); clear hs2) | (at_builtin; go_loud (refine wpList_append_one row103 rfl _ _ rfl _ ls (mkS x) wr rfl rfl Ho.out rfl rfl encS_one (by omega) (by omega) (HBe.out ▸ Hew.out.size) ?_); intro o1 w1 hown1 hg1))
        have hs := Hs2.out
        refine ⟨⟨r.drop (k + 1), ls ++ [mkS x], ?_, hown1, ?_, Hew.out.grown_ hg1 (fun q hq => HBe.out ▸ (Ho.out.block q hq).1)⟩, by simp only [lenV]; omega⟩
        · have e : (r.drop (k + 1)).take (r.length - (k + 1)) = r.drop (k + 1) := List.take_of_length_le (by rw [List.length_drop]; omega)
          rw [e] at hs
          exact hs
        · rw [Hr.out, Hcut.out, List.map_cons, Hle.out, HX.out, List.append_assoc]; rfl
    · have Hnil := Lib.hid (show r = [] from List.length_eq_zero_iff.1 (by omega))
      go_wp2_with fail
      go_ret
      have hr := Hr.out
      rw [Hnil.out, show linesOf [] = [] from rfl, List.map_nil, List.append_nil] at hr
      refine ⟨_, rfl, ?_, Hew.out⟩
      rw [hr]
      exact Ho.out
end Go.Proofs.YtaeleagkpgbmaaaGreatDoor
