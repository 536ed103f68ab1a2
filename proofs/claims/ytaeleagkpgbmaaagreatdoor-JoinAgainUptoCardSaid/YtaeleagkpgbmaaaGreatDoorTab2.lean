/- lines.fill. -/
import Derived.Test.YtaeleagkpgbmaaaGreatDoorTab
import Derived.Deep.RegionHeld3
namespace Go.Proofs.YtaeleagkpgbmaaaGreatDoor
open Go.RowKit
set_option linter.unusedSimpArgs false
set_option linter.unusedVariables false

theorem row284 : Row 284 3 (.int .i64 0) 1 8 := ⟨Tryz.underlying284, by kernel_rfl, rfl, by decide⟩
theorem grown_none {w w' : World} (h : w.grownBy w' none) : Ext w w' := (Ext.refl w).grown h (fun k hk => by cases hk)
theorem made_ints (N : Nat) : (madeCells (Value.int .i64 0).cells (N * 1)).toList = List.replicate N (.int .i64 0) := by
  rw [Nat.mul_one]; exact toList_madeCells_one _ _
/-- make([]int, N): the block -/
theorem own_full {w : World} {base T : Nat} {g N : Nat} {l : List Value} (h : w.ownsRow base T 1 (.slice (some ⟨g, 0, none⟩) N N) N l) (hl : l.length = N) : Blk w g T l := by
  obtain ⟨h1, h2⟩ := h
  rcases h2 with ⟨h2, h0⟩ | ⟨g', cap, cur, hv, hg, hh, hc, hm, hs, ht⟩
  · cases h2
  · injection hv with hv1 hv2 hv3
    injection hv1 with hv1
    injection hv1 with hv1
    subst hv1; subst hv3
    unfold Blk
    rw [hh, ← ht, List.take_of_length_le (by simp [hs])]

theorem TabIs.congr {l : List Value} {la W : Nat} {F G : Nat → Nat → Nat} (h : TabIs l la W F) (hG : ∀ i k, i ≤ la → k < W → G i k = F i k) : TabIs l la W G := fun i k hi hk => by
  rw [hG i k hi hk]; exact h i k hi hk
/-- the rows from p on are done, and in the row before it the columns from m on -/
def fillF (a b : List ByteArray) (p m : Nat) (i k : Nat) : Nat := if p ≤ i ∨ (p = i + 1 ∧ m ≤ k) then lcs (a.drop i) (b.drop k) else 0
theorem fillF_start {a b : List ByteArray} {i k : Nat} (hi : i ≤ a.length) (hk : k < b.length + 1) : fillF a b a.length b.length i k = 0 := by
  unfold fillF
  split
  · rename_i h
    exact lcs_end (by omega)
  · rfl
theorem fillF_row {a b : List ByteArray} {p i k : Nat} (hk : k < b.length + 1) : fillF a b p b.length i k = fillF a b (p + 1) 0 i k := by
  unfold fillF
  by_cases h1 : p ≤ i
  · rw [if_pos (.inl h1), if_pos (by omega)]
  · rw [if_neg (show ¬ (p + 1 ≤ i ∨ (p + 1 = i + 1 ∧ 0 ≤ k)) by omega)]
    split
    · exact lcs_end (by omega)
    · rfl
theorem fillF_all {a b : List ByteArray} {m i k : Nat} : lcs (a.drop i) (b.drop k) = fillF a b 0 m i k := by
  unfold fillF; rw [if_pos (by omega)]
theorem fillF_set {a b : List ByteArray} {n m i k : Nat} (h : ¬ (i = n ∧ k = m)) : fillF a b (n + 1) m i k = fillF a b (n + 1) (m + 1) i k := by
  unfold fillF
  by_cases h1 : n + 1 ≤ i ∨ (n + 1 = i + 1 ∧ m + 1 ≤ k)
  · rw [if_pos h1, if_pos (by omega)]
  · rw [if_neg h1, if_neg (by omega)]
theorem fillF_at {a b : List ByteArray} {n m : Nat} : fillF a b (n + 1) m n m = lcs (a.drop n) (b.drop m) := by
  unfold fillF; rw [if_pos (by omega)]
theorem fillF_old {a b : List ByteArray} {n m i k : Nat} (h : n + 1 ≤ i ∨ (n = i ∧ m ≤ k)) : fillF a b (n + 1) m i k = lcs (a.drop i) (b.drop k) := by
  unfold fillF; rw [if_pos (by omega)]

theorem sEq (x y : ByteArray) : (x.toList == y.toList) = decide (x = y) := by
  rw [ByteArray.toList_eq, ByteArray.toList_eq]
  by_cases h : x = y
  · subst h; simp
  · have : ¬ x.data.toList = y.data.toList := fun h' => h (by
      cases x; cases y
      simp only at h'
      rw [Array.toList_inj] at h'
      rw [h'])
    rw [decide_eq_false h, beq_eq_false_iff_ne]
    exact this
theorem fill_step {a b : List ByteArray} {w w3 : World} {tp tb N n m q j : Nat} {l : List Value} {v : Int} (HT : TabBox w3 tp tb N (b.length + 1)) (HB : Blk w3 tb 3 l) (HI : TabIs l a.length (b.length + 1) (fillF a b (n + 1) (m + 1)))
    (He : Ext w w3) (hne : tb < tp) (htb : w.heap.size = tb) (hn : n + 1 ≤ a.length) (hm : m + 1 ≤ b.length) (hj : n * (b.length + 1) + m = j) (hv : v = (lcs (a.drop n) (b.drop m) : Nat)) :
    ∃ m1 l', m1 ≤ b.length ∧ Value.int .i64 ((m : Int) - 1) = .int .i64 ((m1 : Int) - 1) ∧ TabBox ((w3.drewN q).setCell ⟨tb, j, none⟩ (.int .i64 v)) tp tb N (b.length + 1) ∧ Blk ((w3.drewN q).setCell ⟨tb, j, none⟩ (.int .i64 v)) tb 3 l' ∧
      TabIs l' a.length (b.length + 1) (fillF a b (n + 1) m1) ∧ Ext w ((w3.drewN q).setCell ⟨tb, j, none⟩ (.int .i64 v)) := by
  have hB' : Blk (w3.drewN q) tb 3 l := HB
  have hT' : TabBox (w3.drewN q) tp tb N (b.length + 1) := HT
  subst hj; subst hv
  refine ⟨m, _, by omega, rfl, Blk.far hT' (by show tp ≠ tb; omega) _, hB'.put _ _, ?_, Ext.setCell (He.trans (Ext.drewN _ q)) (by show w.heap.size ≤ tb; omega) _⟩
  have := HI.set (i0 := n) (k0 := m) (G := fillF a b (n + 1) m) (by omega) (by omega) (fun i k _ _ hh => fillF_set hh)
  rwa [fillF_at] at this
theorem set_other (w : World) (tb j k : Nat) (v : Value) (h : j ≠ k) : (w.setCell ⟨tb, j, none⟩ v).cell? ⟨tb, k, none⟩ = w.cell? ⟨tb, k, none⟩ :=
  World.cell?_setCell_other _ _ _ _ (fun h1 => h (by injection h1))
theorem c194' (tp tb N W i k j : Nat) (I K : Int) (w : World) (h : TabBox w tp tb N W) (hI : I = i) (hK : K = k) (hj : i * W + k = j) (hjN : j < N) (hN : N < 4294967296) :
    Calls Tryz.prog 194 #[.pointer (some ⟨tp, 0, none⟩), .int .i64 I, .int .i64 K] w fun e w' => e = .returned (.pointer (some ⟨tb, j, none⟩)) ∧ ∃ q, w' = w.drewN q := by
  subst hI; subst hK; subst hj
  exact c194 tp tb N W i k w h hjN hN

set_option maxRecDepth 10000 in
set_option maxHeartbeats 1000000 in
theorem c193 (va vb : Value) (a b : List ByteArray) (w : World) (ha : Strs w va a) (hb : Strs w vb b) (hla : a.length ≤ 600) (hlb : b.length ≤ 600) :
    Calls Tryz.prog 193 #[va, vb] w fun e w' => ∃ tp tb l, e = .returned (.pointer (some ⟨tp, 0, none⟩)) ∧ TabBox w' tp tb ((a.length + 1) * (b.length + 1)) (b.length + 1) ∧ Blk w' tb 3 l ∧
      TabIs l a.length (b.length + 1) (fun i k => lcs (a.drop i) (b.drop k)) ∧ Ext w w' := by
  have hN : (a.length + 1) * (b.length + 1) ≤ 601 * 601 := Nat.mul_le_mul (by omega) (by omega)
  obtain ⟨Aa, ca, rfl, hca, _, hxa⟩ := ha.open_
  obtain ⟨Ab, cb, rfl, hcb, _, hxb⟩ := hb.open_
  have hNe : ((a.length : Int) + 1) * ((b.length : Int) + 1) = (((a.length + 1) * (b.length + 1) : Nat) : Int) := by push_cast; rfl
  generalize hNN : (a.length + 1) * (b.length + 1) = N at *
  obtain ⟨i0, hi0, hz0, hz1, hz2⟩ := info_parts row284.info
  have HNN := Lib.hid hNN
  have Hxa := Lib.hid hxa
  have Hxb := Lib.hid hxb
  clear hNN hxa hxb ha hb
  have q1 : IntKind.i64.wrap (((a.length : Int) + 1) * ((b.length : Int) + 1)) = (N : Int) := by rw [hNe]; exact IntWalk.i64_in _ (by omega)
  go_enter Tryz.func193, Tryz.ntmps193
  go_wp2_with (at_make; go_loud (refine wpList_make_full _ rfl _ _ 284 rfl w.heap.size 3 i0 (.int .i64 0) 1 Tryz.underlying284 hi0 hz0 hz1 .i64 .i64 _ _ N rfl rfl (by omega) (by omega) (by rw [hz2]; omega) (by unfold maxLen; omega) (Nat.le_refl _) ?_); intro w1 hown hgrow)
  have Hg0 := Lib.hid (grown_none hgrow)
  have hB1 := own_full hown (by rw [made_ints]; simp)
  rw [made_ints] at hB1
  have hlt1 := hB1.lt
  have hB2 := hB1.ext (Ext.alloc w1 (.cells #[Value.slice (some { block := w.heap.size, off := 0 }) N N, Value.int IntKind.i64 (b.length + 1)] 322))
  have hT2 : TabBox (w1.alloc (.cells #[Value.slice (some { block := w.heap.size, off := 0 }) N N, Value.int IntKind.i64 (b.length + 1)] 322)) w1.heap.size w.heap.size N (b.length + 1) := Blk.new w1 322 _
  have Hg := Lib.hid (Hg0.out.trans (Ext.alloc w1 (.cells #[Value.slice (some { block := w.heap.size, off := 0 }) N N, Value.int IntKind.i64 (b.length + 1)] 322)))
  generalize w1.alloc (.cells #[Value.slice (some { block := w.heap.size, off := 0 }) N N, Value.int IntKind.i64 (b.length + 1)] 322) = w2 at *
  clear hB1 hown hgrow q1
  have hTI : TabIs (List.replicate N (Value.int .i64 0)) a.length (b.length + 1) (fillF a b a.length b.length) := by
    intro i k hi hk
    rw [fillF_start hi hk, List.getElem?_replicate, if_pos]; rfl
    have := HNN.out
    have : i * (b.length + 1) ≤ a.length * (b.length + 1) := Nat.mul_le_mul_right _ hi
    rw [Nat.add_mul] at HNN
    have := HNN.out
    omega
  have HP := Lib.hid (show w.heap.size < w1.heap.size from hlt1)
  generalize w1.heap.size = tp at *
  generalize htb : w.heap.size = tb at *
  have Htb := Lib.hid htb
  have HS := Lib.hid (show ∃ l, TabBox w2 tp tb N (b.length + 1) ∧ Blk w2 tb 3 l ∧ TabIs l a.length (b.length + 1) (fillF a b a.length b.length) ∧ Ext w w2 from ⟨_, hT2, hB2, hTI, Hg.out⟩)
  clear hT2 hB2 hTI Hg0 Hg htb hlt1
  go_loopw [6] (fun t wr => ∃ n l, n ≤ a.length ∧ t = .int .i64 ((n : Int) - 1) ∧ TabBox wr tp tb N (b.length + 1) ∧ Blk wr tb 3 l ∧ TabIs l a.length (b.length + 1) (fillF a b n b.length) ∧ Ext w wr) (fun t _ => (intOf t + 1).toNat)
  case atStart =>
    obtain ⟨l, h1, h2, h3, h4⟩ := HS.out
    exact ⟨a.length, l, Nat.le_refl _, rfl, h1, h2, h3, h4⟩
  case round =>
    obtain ⟨n, l, hn, ht, hT, hB, hI, he⟩ := hrel
    have HT := Lib.hid hT
    have HB := Lib.hid hB
    have HI := Lib.hid hI
    have He := Lib.hid he
    clear hT hB hI he
    rcases Nat.eq_zero_or_pos n with rfl | hn0
    · subst ht
      go_wp2_with fail
      go_ret
      exact ⟨tp, tb, l, rfl, HT.out, HB.out, HI.out.congr (fun i k _ _ => fillF_all), He.out⟩
    · obtain ⟨n, rfl⟩ : ∃ j, n = j + 1 := ⟨n - 1, by omega⟩
      rw [show (((n + 1 : Nat) : Int) - 1) = (n : Int) by omega] at ht
      subst ht
      go_wp2_with fail
      have HS2 := Lib.hid (show ∃ l, TabBox wr tp tb N (b.length + 1) ∧ Blk wr tb 3 l ∧ TabIs l a.length (b.length + 1) (fillF a b (n + 1) b.length) ∧ Ext w wr from ⟨_, HT.out, HB.out, HI.out, He.out⟩)
      clear HT HB HI He
      go_loopw [7] (fun t wr => ∃ m l, m ≤ b.length ∧ t = .int .i64 ((m : Int) - 1) ∧ TabBox wr tp tb N (b.length + 1) ∧ Blk wr tb 3 l ∧ TabIs l a.length (b.length + 1) (fillF a b (n + 1) m) ∧ Ext w wr) (fun t _ => (intOf t + 1).toNat)
      case atStart =>
        obtain ⟨l, h1, h2, h3, h4⟩ := HS2.out
        exact ⟨b.length, l, Nat.le_refl _, rfl, h1, h2, h3, h4⟩
      case round =>
        obtain ⟨m, l, hm, ht, hT, hB, hI, he⟩ := hrel
        have HT := Lib.hid hT
        have HB := Lib.hid hB
        have HI := Lib.hid hI
        have He := Lib.hid he
        rename World => w3
        clear hT hB hI he
        rcases Nat.eq_zero_or_pos m with rfl | hm0
        · subst ht
          go_wp2_with fail
          go_roundw
          case rel => exact ⟨n, l, by omega, by go_num, HT.out, HB.out, HI.out.congr (fun i k _ hk => fillF_row hk), He.out⟩
          case measure => simp [intOf]
        · obtain ⟨m, rfl⟩ : ∃ j, m = j + 1 := ⟨m - 1, by omega⟩
          rw [show (((m + 1 : Nat) : Int) - 1) = (m : Int) by omega] at ht
          subst ht
          have hx : a[n]? = some a[n] := List.getElem?_eq_getElem (by omega)
          have hy : b[m]? = some b[m] := List.getElem?_eq_getElem (by omega)
          have Hlcs := Lib.hid (lcs_at hx hy)
          obtain ⟨ba, oa, rfl, hba, hxa⟩ := Hxa.out (by omega)
          obtain ⟨bb, ob, rfl, hbb, hxb⟩ := Hxb.out (by omega)
          have hcx := He.out.cells (hxa n _ hx)
          have hcy := He.out.cells (hxb m _ hy)
          generalize a[n] = x at *
          generalize b[m] = y at *
          clear hxa hxb hba hbb
          have Hxa := 0
          have Hxb := 0
          have Hfr := fun j => HB.out.frozen j
          have hc11 := HI.out.cell HB.out (i := n + 1) (k := m + 1) (by omega) (by omega)
          have hc10 := HI.out.cell HB.out (i := n + 1) (k := m) (by omega) (by omega)
          have hc01 := HI.out.cell HB.out (i := n) (k := m + 1) (by omega) (by omega)
          have hc00 := HI.out.cell HB.out (i := n) (k := m) (by omega) (by omega)
          generalize fillF a b (n + 1) (m + 1) n m = v00 at hc00
          rw [fillF_old (by omega)] at hc11 hc10 hc01
          have Hlc1 := Lib.hid (lcs_le (a.drop (n + 1)) (b.drop (m + 1)))
          have Hlc2 := Lib.hid (lcs_le (a.drop (n + 1)) (b.drop m))
          have Hlc3 := Lib.hid (lcs_le (a.drop n) (b.drop (m + 1)))
          have L1 := Hlc1.out
          have L2 := Hlc2.out
          have L3 := Hlc3.out
          rw [List.length_drop] at L1 L2 L3
          have hNN := HNN.out
          have e0 : n * (b.length + 1) ≤ a.length * (b.length + 1) := Nat.mul_le_mul_right _ (by omega)
          have e1 : (n + 1) * (b.length + 1) ≤ a.length * (b.length + 1) := Nat.mul_le_mul_right _ (by omega)
          rw [Nat.add_mul a.length] at hNN
          generalize hj00 : n * (b.length + 1) + m = j00 at *
          generalize hj11 : (n + 1) * (b.length + 1) + (m + 1) = j11 at *
          generalize hj10 : (n + 1) * (b.length + 1) + m = j10 at *
          generalize hj01 : n * (b.length + 1) + (m + 1) = j01 at *
          have b00 : j00 < N := by omega
          have b11 : j11 < N := by omega
          have b10 : j10 < N := by omega
          have b01 : j01 < N := by omega
          have C00 := fun (w : World) (h : TabBox w tp tb N (b.length + 1)) => c194' tp tb N _ n m j00 (n : Int) (m : Int) w h rfl rfl hj00 b00 (by omega)
          have C11 := fun (w : World) (h : TabBox w tp tb N (b.length + 1)) => c194' tp tb N _ (n + 1) (m + 1) j11 ((n : Int) + 1) ((m : Int) + 1) w h (by omega) (by omega) hj11 b11 (by omega)
          have C10 := fun (w : World) (h : TabBox w tp tb N (b.length + 1)) => c194' tp tb N _ (n + 1) m j10 ((n : Int) + 1) (m : Int) w h (by omega) rfl hj10 b10 (by omega)
          have C01 := fun (w : World) (h : TabBox w tp tb N (b.length + 1)) => c194' tp tb N _ n (m + 1) j01 (n : Int) ((m : Int) + 1) w h rfl (by omega) hj01 b01 (by omega)
          have qn : IntKind.i64.wrap ((n : Int) + 1) = (n : Int) + 1 := IntWalk.i64_in _ (by omega)
          have qm : IntKind.i64.wrap ((m : Int) + 1) = (m : Int) + 1 := IntWalk.i64_in _ (by omega)
          have Qn := Lib.hid qn
          have Qm := Lib.hid qm
          clear qn qm
          have C00 := Lib.hid C00
          have C11 := Lib.hid C11
          have C10 := Lib.hid C10
          have C01 := Lib.hid C01
          have Hj00 := Lib.hid hj00
          have hfr0 : w3.frozen? ⟨tb, j00, none⟩ = false := Hfr j00
          have hneA : j00 ≠ j10 := by
            intro h; rw [← hj00, ← hj10, Nat.add_mul] at h; omega
          have hneB : j00 ≠ j01 := by
            intro h; rw [← hj00, ← hj01] at h; omega
          clear hj00 hj11 hj10 hj01 e0 e1 hNN b00 b11 b10 b01 Hfr hNe
          generalize h11 : lcs (a.drop (n + 1)) (b.drop (m + 1)) = l11 at *
          generalize h10 : lcs (a.drop (n + 1)) (b.drop m) = l10 at *
          generalize h01 : lcs (a.drop n) (b.drop (m + 1)) = l01 at *
          clear h11 h10 h01
          have p1 : (0 : Int) ≤ (n : Int) := by omega
          have p2 : (n : Int) < (a.length : Int) := by omega
          have p3 : (n : Int).toNat = n := by omega
          have p4 : (0 : Int) ≤ (m : Int) := by omega
          have p5 : (m : Int) < (b.length : Int) := by omega
          have p6 : (m : Int).toNat = m := by omega
          by_cases hxy : x = y
          · have hE : (x.toList == y.toList) = true := by rw [sEq]; exact decide_eq_true hxy
            go_wp2_with fail
            go_quiet (fail)
            clear p1 p2 p3 p4 p5 p6 hcx hcy hE
            go_wp2_with (first | (go_at_call 194; (first | ((with_reducible refine (C00.out _ ?_).mono ?_); (exact HT.out)) | ((with_reducible refine (C11.out _ ?_).mono ?_); (exact HT.out))); rintro e w' ⟨rfl, q, rfl⟩))
            refine ⟨fill_step HT.out HB.out HI.out He.out HP.out Htb.out hn hm Hj00.out ?_, ?_⟩
            · rw [Hlcs.out, if_pos hxy]; rfl
            · simp [intOf]
          · have hE : (x.toList == y.toList) = false := by rw [sEq]; exact decide_eq_false hxy
            go_wp2_with fail
            go_quiet (fail)
            clear p1 p2 p3 p4 p5 p6 hcx hcy hE
            have hV : Value.int .i64 (max (l10 : Int) (l01 : Int)) = .int .i64 (max (l10 : Int) (l01 : Int)) := rfl
            have K0 : ∀ q, (w3.drewN q).cell? ⟨tb, j10, none⟩ = some (.int .i64 l10) ∧ (w3.drewN q).cell? ⟨tb, j01, none⟩ = some (.int .i64 l01) ∧ ∃ q', w3.drewN q = w3.drewN q' ∨ w3.drewN q = (w3.drewN q').setCell ⟨tb, j00, none⟩ (Value.int .i64 (max (l10 : Int) (l01 : Int))) := fun q => ⟨hc10, hc01, q, .inl rfl⟩
            have K1 : ∀ q, ((w3.drewN q).setCell ⟨tb, j00, none⟩ (Value.int .i64 (max (l10 : Int) (l01 : Int)))).cell? ⟨tb, j10, none⟩ = some (.int .i64 l10) ∧ ((w3.drewN q).setCell ⟨tb, j00, none⟩ (Value.int .i64 (max (l10 : Int) (l01 : Int)))).cell? ⟨tb, j01, none⟩ = some (.int .i64 l01) ∧ ∃ q', (w3.drewN q).setCell ⟨tb, j00, none⟩ (Value.int .i64 (max (l10 : Int) (l01 : Int))) = w3.drewN q' ∨ (w3.drewN q).setCell ⟨tb, j00, none⟩ (Value.int .i64 (max (l10 : Int) (l01 : Int))) = (w3.drewN q').setCell ⟨tb, j00, none⟩ (Value.int .i64 (max (l10 : Int) (l01 : Int))) := fun q =>
              ⟨(set_other _ _ _ _ _ hneA).trans hc10, (set_other _ _ _ _ _ hneB).trans hc01, q, .inr rfl⟩
            go_wp2_with fail
            have S2 := K0 (nq + 1)
            have qn := Qn.out
            have qm := Qm.out
            go_region_held3 (fun w' => w'.cell? ⟨tb, j10, none⟩ = some (.int .i64 l10) ∧ w'.cell? ⟨tb, j01, none⟩ = some (.int .i64 l01) ∧ ∃ q', w' = w3.drewN q' ∨ w' = (w3.drewN q').setCell ⟨tb, j00, none⟩ (Value.int .i64 (max (l10 : Int) (l01 : Int)))) (first | exact S2 | exact K0 _ | exact K1 _) (first | (go_at_call 194; (first | ((with_reducible refine (C00.out _ ?_).mono ?_); (exact HT.out)) | ((with_reducible refine (C10.out _ ?_).mono ?_); (exact HT.out)) | ((with_reducible refine (C01.out _ ?_).mono ?_); (exact HT.out))); rintro e w' ⟨rfl, q, rfl⟩))
            clear K0 K1 S2 qn qm hc11 hc10 hc01 hc00 hfr0 hneA hneB
            go_wp2_with fail
            refine ⟨fill_step HT.out HB.out HI.out He.out HP.out Htb.out hn hm Hj00.out ?_, ?_⟩
            · rw [Hlcs.out, if_neg hxy]; omega
            · simp [intOf]
end Go.Proofs.YtaeleagkpgbmaaaGreatDoor
