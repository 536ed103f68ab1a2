/- lines.Pairs. -/
import Derived.Test.YtaeleagkpgbmaaaGreatDoorTab2
namespace Go.Proofs.YtaeleagkpgbmaaaGreatDoor
open Go.RowKit
set_option linter.unusedSimpArgs false
set_option linter.unusedVariables false

def encP (p : Nat × Nat) : List Value := [.int .i64 p.1, .int .i64 p.2]
theorem row270 : Row 270 276 (.agg #[.int .i64 0, .int .i64 0]) 2 16 := ⟨Tryz.underlying270, by kernel_rfl, rfl, by decide⟩
theorem encP_one {y : Nat × Nat} : ∀ u ∈ encP y, u.oneCell' = true := by
  intro u hu; simp only [encP, List.mem_cons, List.mem_nil_iff, or_false] at hu; rcases hu with rfl | rfl <;> rfl
/-- the places of a longest common list -/
def pairsN : Nat → List ByteArray → List ByteArray → Nat → Nat → List (Nat × Nat)
  | 0, _, _, _, _ => []
  | _ + 1, [], _, _, _ => []
  | _ + 1, _ :: _, [], _, _ => []
  | f + 1, x :: xs, y :: ys, i, k => if x = y then (i, k) :: pairsN f xs ys (i + 1) (k + 1) else if lcs (x :: xs) ys ≤ lcs xs (y :: ys) then pairsN f xs (y :: ys) (i + 1) k else pairsN f (x :: xs) ys i (k + 1)
def pairsF (a b : List ByteArray) : List (Nat × Nat) := pairsN (a.length + b.length) a b 0 0
theorem pairsN_nil {f : Nat} {a b : List ByteArray} {i k : Nat} (h : a = [] ∨ b = []) : pairsN f a b i k = [] := by
  rcases h with rfl | rfl
  · cases f <;> rfl
  · cases f
    · rfl
    · cases a <;> rfl
theorem pairsN_len : ∀ (f : Nat) (a b : List ByteArray) (i k : Nat), (pairsN f a b i k).length ≤ a.length
  | 0, _, _, _, _ => by simp [pairsN]
  | _ + 1, [], _, _, _ => by simp [pairsN]
  | _ + 1, _ :: _, [], _, _ => by simp [pairsN]
  | f + 1, x :: xs, y :: ys, i, k => by
    rw [pairsN]
    have h1 := pairsN_len f xs ys (i + 1) (k + 1)
    have h2 := pairsN_len f xs (y :: ys) (i + 1) k
    have h3 := pairsN_len f (x :: xs) ys i (k + 1)
    split
    · simp; omega
    · split
      · simp; omega
      · exact h3
theorem pairsN_at {a b : List ByteArray} {i k f : Nat} {x y : ByteArray} (hx : a[i]? = some x) (hy : b[k]? = some y) :
    pairsN (f + 1) (a.drop i) (b.drop k) i k = if x = y then (i, k) :: pairsN f (a.drop (i + 1)) (b.drop (k + 1)) (i + 1) (k + 1) else
      if lcs (a.drop i) (b.drop (k + 1)) ≤ lcs (a.drop (i + 1)) (b.drop k) then pairsN f (a.drop (i + 1)) (b.drop k) (i + 1) k else pairsN f (a.drop i) (b.drop (k + 1)) i (k + 1) := by
  obtain ⟨hi, rfl⟩ := List.getElem?_eq_some_iff.1 hx
  obtain ⟨hk, rfl⟩ := List.getElem?_eq_some_iff.1 hy
  rw [List.drop_eq_getElem_cons hi, List.drop_eq_getElem_cons hk, pairsN]
theorem pairsF_len (a b : List ByteArray) : (pairsF a b).length ≤ a.length := pairsN_len _ _ _ _ _

set_option maxRecDepth 10000 in
set_option maxHeartbeats 1000000 in
theorem c172 (va vb : Value) (a b : List ByteArray) (w : World) (ha : Strs w va a) (hb : Strs w vb b) (hla : a.length ≤ 600) (hlb : b.length ≤ 600) :
    Calls Tryz.prog 172 #[va, vb] w fun e w' => ∃ v, e = .returned (.tuple #[v, .int .i64 0]) ∧ Sl encP 2 w' v (pairsF a b) ∧ Ext w w' := by
  have H193 := Lib.hid (c193 va vb a b w ha hb hla hlb)
  obtain ⟨Aa, ca, rfl, hca, _, hxa⟩ := ha.open_
  obtain ⟨Ab, cb, rfl, hcb, _, hxb⟩ := hb.open_
  have hN : (a.length + 1) * (b.length + 1) ≤ 601 * 601 := Nat.mul_le_mul (by omega) (by omega)
  generalize hNN : (a.length + 1) * (b.length + 1) = N at *
  have HNN := Lib.hid hNN
  have Hxa := Lib.hid hxa
  have Hxb := Lib.hid hxb
  clear hNN hxa hxb ha hb
  have hq : 0 < b.length → (a.length : Int) ≤ 1048576 / (b.length : Int) := fun h => by
    rw [Int.le_ediv_iff_mul_le (by omega)]
    have : (a.length : Int) * (b.length : Int) = ((a.length * b.length : Nat) : Int) := by simp
    rw [this]
    have : a.length * b.length ≤ 600 * 600 := Nat.mul_le_mul hla hlb
    omega
  have hps := pairsF_len a b
  have Hpf := Lib.hid (show pairsF a b = pairsN (a.length + b.length) a b 0 0 from rfl)
  generalize pairsF a b = ps at *
  go_enter Tryz.func172, Tryz.ntmps172
  by_cases hb0 : 0 < b.length
  · have hq := hq hb0
    go_wp2_with fail
    refine H193.out.mono ?_
    rintro e w2 ⟨tp, tb, l, rfl, hT, hB, hI, he⟩
    have HT := Lib.hid hT
    have HB := Lib.hid hB
    have HI := Lib.hid hI
    have He := Lib.hid he
    have HB0 := Lib.hid (show w2.heap.size ≤ w2.heap.size from Nat.le_refl _)
    clear hT hB hI he H193
    go_wp2_with fail
    go_loopw [7, 8, 9] (fun o ti tk wr => ∃ i k f done, (a.length - i) + (b.length - k) ≤ f ∧ i ≤ a.length ∧ k ≤ b.length ∧ ti = .int .i64 (i : Int) ∧ tk = .int .i64 (k : Int) ∧ Own encP 2 276 w2.heap.size wr o done ∧ ps = done ++ pairsN f (a.drop i) (b.drop k) i k ∧ Ext w2 wr) (fun _ ti tk _ => (a.length - (intOf ti).toNat) + (b.length - (intOf tk).toNat))
    case atStart => exact ⟨0, 0, a.length + b.length, [], Nat.le_refl _, Nat.zero_le _, Nat.zero_le _, rfl, rfl, Own.nil, by rw [Hpf.out]; rfl, Ext.refl _⟩
    case round =>
      obtain ⟨i, k, f0, done, hf0, hi, hk, rfl, rfl, ho, hr, he2⟩ := hrel
      have Ho := Lib.hid ho
      have Hr := Lib.hid hr
      have He2 := Lib.hid he2
      have hdl := congrArg List.length hr
      rw [List.length_append] at hdl
      have hdl2 : done.length ≤ 600 := by omega
      clear ho hr he2 hdl
      rename World => w3
      by_cases hil : i < a.length
      · by_cases hkl : k < b.length
        · have hx : a[i]? = some a[i] := List.getElem?_eq_getElem (by omega)
          have hy : b[k]? = some b[k] := List.getElem?_eq_getElem (by omega)
          obtain ⟨f, hf⟩ : ∃ f, f0 = f + 1 := ⟨f0 - 1, by omega⟩
          have hr := Hr.out
          subst hf
          rw [pairsN_at hx hy] at hr
          have Hr := Lib.hid hr
          obtain ⟨ba, oa, rfl, hba, hxa⟩ := Hxa.out (by omega)
          obtain ⟨bb, ob, rfl, hbb, hxb⟩ := Hxb.out (by omega)
          have hcx := (He.out.trans He2.out).cells (hxa i _ hx)
          have hcy := (He.out.trans He2.out).cells (hxb k _ hy)
          generalize a[i] = x at *
          generalize b[k] = y at *
          have hc10 := He2.out.cells (HI.out.cell HB.out (i := i + 1) (k := k) (by omega) (by omega))
          have hc01 := He2.out.cells (HI.out.cell HB.out (i := i) (k := k + 1) (by omega) (by omega))
          have HT3 := Lib.hid (show TabBox w3 tp tb N (b.length + 1) from Blk.ext HT.out He2.out)
          have hNN := HNN.out
          have e0 : i * (b.length + 1) ≤ a.length * (b.length + 1) := Nat.mul_le_mul_right _ (by omega)
          have e1 : (i + 1) * (b.length + 1) ≤ a.length * (b.length + 1) := Nat.mul_le_mul_right _ (by omega)
          rw [Nat.add_mul a.length] at hNN
          generalize hj10 : (i + 1) * (b.length + 1) + k = j10 at *
          generalize hj01 : i * (b.length + 1) + (k + 1) = j01 at *
          have b10 : j10 < N := by omega
          have b01 : j01 < N := by omega
          have C10 := fun (w : World) (h : TabBox w tp tb N (b.length + 1)) => c194' tp tb N _ (i + 1) k j10 ((i : Int) + 1) (k : Int) w h (by omega) rfl hj10 b10 (by omega)
          have C01 := fun (w : World) (h : TabBox w tp tb N (b.length + 1)) => c194' tp tb N _ i (k + 1) j01 (i : Int) ((k : Int) + 1) w h rfl (by omega) hj01 b01 (by omega)
          have C10 := Lib.hid C10
          have C01 := Lib.hid C01
          have qn : IntKind.i64.wrap ((i : Int) + 1) = (i : Int) + 1 := IntWalk.i64_in _ (by omega)
          have qm : IntKind.i64.wrap ((k : Int) + 1) = (k : Int) + 1 := IntWalk.i64_in _ (by omega)
          have Qn := Lib.hid qn
          have Qm := Lib.hid qm
          clear qn qm hj10 hj01 e0 e1 hNN b10 b01 hr hxa hxb hba hbb hx hy
          have Hxa := 0
          have Hxb := 0
          generalize lcs (a.drop (i + 1)) (b.drop k) = l10 at *
          generalize lcs (a.drop i) (b.drop (k + 1)) = l01 at *
          have p1 : (0 : Int) ≤ (i : Int) := by omega
          have p2 : (i : Int) < (a.length : Int) := by omega
          have p3 : (i : Int).toNat = i := by omega
          have p4 : (0 : Int) ≤ (k : Int) := by omega
          have p5 : (k : Int) < (b.length : Int) := by omega
          have p6 : (k : Int).toNat = k := by omega
          by_cases hxy : x = y
          · have hE : (x.toList == y.toList) = true := by rw [sEq]; exact decide_eq_true hxy
            have hr2 := Hr.out
            rw [if_pos hxy] at hr2
            have Hr := Lib.hid hr2
            clear hc10 hc01 hr2
            go_wp2_with fail
            go_quiet (fail)
            clear p1 p2 p3 p4 p5 p6 hcx hcy hE
            go_wp2_with (at_builtin; (refine wpList_append_one row270 rfl _ _ rfl _ done (i, k) (w3.drewN nq) rfl rfl Ho.out rfl rfl encP_one (by omega) (by omega) He2.out.size ?_); intro o1 w4 hown1 hg1)
            have he4 := (He2.out.trans (Ext.drewN w3 nq)).grown_ hg1 (fun q hq => (Ho.out.block q hq).1)
            refine ⟨⟨i + 1, k + 1, f, done ++ [(i, k)], by omega, by omega, by omega, by go_num, by go_num, hown1, ?_, he4⟩, by simp [intOf]; omega⟩
            rw [Hr.out, List.append_assoc]
            rfl
          · have hE : (x.toList == y.toList) = false := by rw [sEq]; exact decide_eq_false hxy
            go_wp2_with fail
            go_quiet (fail)
            clear p1 p2 p3 p4 p5 p6 hcx hcy hE
            go_wp2_with fail
            have K0 : ∀ q, (w3.drewN q).cell? ⟨tb, j10, none⟩ = some (.int .i64 l10) ∧ (w3.drewN q).cell? ⟨tb, j01, none⟩ = some (.int .i64 l01) ∧ ∃ q', w3.drewN q = w3.drewN q' := fun q => ⟨hc10, hc01, q, rfl⟩
            have S2 := K0 (nq + 1)
            have qn := Qn.out
            have qm := Qm.out
            go_region_held3 (fun w' => w'.cell? ⟨tb, j10, none⟩ = some (.int .i64 l10) ∧ w'.cell? ⟨tb, j01, none⟩ = some (.int .i64 l01) ∧ ∃ q', w' = w3.drewN q') (first | exact S2 | exact K0 _) (first | (go_at_call 194; (first | ((with_reducible refine (C10.out _ ?_).mono ?_); (exact HT3.out)) | ((with_reducible refine (C01.out _ ?_).mono ?_); (exact HT3.out))); rintro e w' ⟨rfl, q, rfl⟩))
            clear K0 S2 qn qm hc10 hc01
            by_cases hle : l01 ≤ l10
            · have hr2 := Hr.out
              rw [if_neg hxy, if_pos hle] at hr2
              go_wp2_with fail
              refine ⟨⟨i + 1, k, f, done, by omega, by omega, by omega, by go_num, by go_num, Ho.out, hr2, He2.out.trans (Ext.drewN w3 _)⟩, by simp [intOf]; omega⟩
            · have hr2 := Hr.out
              rw [if_neg hxy, if_neg hle] at hr2
              go_wp2_with fail
              refine ⟨⟨i, k + 1, f, done, by omega, by omega, by omega, by go_num, by go_num, Ho.out, hr2, He2.out.trans (Ext.drewN w3 _)⟩, by simp [intOf]; omega⟩
        · go_wp2_with fail
          go_ret2
          have hr := Hr.out
          rw [pairsN_nil (.inr (List.drop_eq_nil_of_le (by omega))), List.append_nil] at hr
          subst hr
          exact ⟨_, rfl, Ho.out.sl (fun _ _ => rfl) (by omega), He.out.trans He2.out⟩
      · go_wp2_with fail
        go_ret2
        have hr := Hr.out
        rw [pairsN_nil (.inl (List.drop_eq_nil_of_le (by omega))), List.append_nil] at hr
        subst hr
        exact ⟨_, rfl, Ho.out.sl (fun _ _ => rfl) (by omega), He.out.trans He2.out⟩
  · have hn : ps = [] := by rw [Hpf.out, pairsN_nil (.inr (List.length_eq_zero_iff.1 (by omega)))]
    subst hn
    go_wp2_with fail
    refine H193.out.mono ?_
    rintro e w2 ⟨tp, tb, l, rfl, hT, hB, hI, he⟩
    have He := Lib.hid he
    clear hT hB hI he H193
    go_wp2_with fail
    go_loopw [7, 8, 9] (fun o ti tk wr => o = .slice none 0 0 ∧ ti = .int .i64 0 ∧ tk = .int .i64 0 ∧ wr = w2) (fun _ ti tk _ => 0)
    case atStart => exact ⟨rfl, rfl, rfl, rfl⟩
    case round =>
      obtain ⟨rfl, rfl, rfl, rfl⟩ := hrel
      have hb1 : b.length = 0 := by omega
      go_wp2_with fail
      all_goals
        go_ret2
        exact ⟨_, rfl, Sl.nil _ _ _, He.out⟩
end Go.Proofs.YtaeleagkpgbmaaaGreatDoor
