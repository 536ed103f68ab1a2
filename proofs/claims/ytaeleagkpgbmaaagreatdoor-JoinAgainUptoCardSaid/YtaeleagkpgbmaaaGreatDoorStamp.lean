/- Contracts of the functions on times (package stamp, towlineref01). -/
import Derived.Test.YtaeleagkpgbmaaaGreatDoorRows
import Derived.WalkKit
import Derived.WalkSpells
import Derived.WalkLawsBesides
import Derived.Lib.Hide
namespace Go.Proofs.YtaeleagkpgbmaaaGreatDoor
open Go.RowKit
set_option linter.unusedSimpArgs false
set_option linter.unusedVariables false

def nanB (n : Nat) : Bool := FloatKind.f64.format.order n n != some .eq
def bitsF (n : Nat) : Nat := if nanB n then 9221120237041090560 else n

theorem run_f50 (n : Nat) (w : World) : Sem.run Tryz.prog (callFunc 50 #[.float .f64 n]) w = .ok (.value (.int .u64 n)) w := by kernel_rfl
theorem run_f130 (n : Nat) (w : World) : Sem.run Tryz.prog (callFunc 130 #[.int .u64 n]) w = .ok (.value (.float .f64 n)) w := by kernel_rfl

set_option maxRecDepth 10000 in
set_option maxHeartbeats 400000 in
theorem c22 (n : Nat) (w : World) :
    Calls Tryz.prog 22 #[.float .f64 n] w fun e w' => e = .returned (.int .u64 (bitsF n)) ∧ w = w' := by
  have h50 := run_f50
  cases hn : nanB n
  · have hb : bitsF n = n := by simp [bitsF, hn]
    rw [hb]; clear hb
    unfold nanB at hn
    go_enter Tryz.func22, Tryz.ntmps22
    go_wp2_with fail
    go_ret
    exact ⟨rfl, rfl⟩
  · have hb : bitsF n = 9221120237041090560 := by simp [bitsF, hn]
    rw [hb]; clear hb
    unfold nanB at hn
    go_enter Tryz.func22, Tryz.ntmps22
    go_wp2_with fail
    go_ret
    exact ⟨rfl, rfl⟩

theorem run_f130c (w : World) : Sem.run Tryz.prog (callFunc 130 #[.int .u64 9221120237041090560]) w = .ok (.value (.float .f64 9221120237041090560)) w := by kernel_rfl

set_option maxRecDepth 10000 in
set_option maxHeartbeats 400000 in
theorem c122 (n : Nat) (w : World) :
    Calls Tryz.prog 122 #[.float .f64 n] w fun e w' => e = .returned (.float .f64 (bitsF n)) ∧ w = w' := by
  have h130 := run_f130c
  cases hn : nanB n
  · have hb : bitsF n = n := by simp [bitsF, hn]
    rw [hb]; clear hb
    unfold nanB at hn
    go_enter Tryz.func122, Tryz.ntmps122
    go_wp2_with fail
    go_ret
    exact ⟨rfl, rfl⟩
  · have hb : bitsF n = 9221120237041090560 := by simp [bitsF, hn]
    rw [hb]; clear hb
    unfold nanB at hn
    go_enter Tryz.func122, Tryz.ntmps122
    go_wp2_with fail
    go_ret
    exact ⟨rfl, rfl⟩

/-- the place of a number in the order -/
def keyF (n : Nat) : Nat := if bitsF n / 9223372036854775808 = 1 then 18446744073709551615 - bitsF n else bitsF n + 9223372036854775808

theorem key_xor (b : Nat) (hb : b < 18446744073709551616) : bits BinOp.xor IntKind.u64 IntKind.u64.max (b : Int) = ((18446744073709551615 - b : Nat) : Int) := by
  have e : IntKind.u64.max = ((18446744073709551615 : Nat) : Int) := by decide
  rw [e, bits_xor_u64_nat _ _ (by omega) hb]
  congr 1
  have h := Nat.xor_comm b 18446744073709551615
  have h2 : 18446744073709551615 ^^^ b = 2 ^ 64 - 1 - b := by
    rw [← h]
    have := BitVec.toNat_not (x := BitVec.ofNat 64 b)
    have e3 : (~~~ (BitVec.ofNat 64 b)) = BitVec.ofNat 64 b ^^^ BitVec.allOnes 64 := by
      exact (BitVec.xor_allOnes).symm
    rw [e3, BitVec.toNat_xor, BitVec.toNat_allOnes, BitVec.toNat_ofNat, Nat.mod_eq_of_lt (by omega)] at this
    exact this
  rw [h2]
theorem key_or (b : Nat) (hb : b < 9223372036854775808) : bits BinOp.or IntKind.u64 (b : Int) 9223372036854775808 = ((b + 9223372036854775808 : Nat) : Int) := by
  have e : (9223372036854775808 : Int) = ((9223372036854775808 : Nat) : Int) := by decide
  rw [e, bits_or_u64_nat _ _ (by omega) (by omega)]
  congr 1
  have := Nat.two_pow_add_eq_or_of_lt (i := 63) (b := b) (by omega) 1
  rw [Nat.or_comm]
  simp only [Nat.reducePow, Nat.mul_one] at this
  omega

theorem ret_u64 {a b : Int} (h : a = b) : Ending.returned (.int .u64 a) = .returned (.int .u64 b) := by rw [h]

set_option maxRecDepth 10000 in
set_option maxHeartbeats 400000 in
theorem c139 (n : Nat) (w : World) (hn : bitsF n < 18446744073709551616) :
    Calls Tryz.prog 139 #[.float .f64 n] w fun e w' => e = .returned (.int .u64 (keyF n)) ∧ w = w' := by
  have h50 := run_f50
  unfold keyF
  generalize hb : bitsF n = b at *
  have Hb := Lib.hid hb
  clear hb
  by_cases hs : b / 9223372036854775808 = 1
  · rw [if_pos hs]
    have hk := Lib.hid (key_xor b hn)
    have hs' : ((b : Int) / 9223372036854775808 == 1) = true := by rw [beq_iff_eq]; omega
    clear hs
    go_enter Tryz.func139, Tryz.ntmps139
    go_wp2_with (go_at_call 122; refine (c122 _ _).mono ?_; rintro e w' ⟨rfl, rfl⟩; rw [Hb.out])
    go_ret
    exact ⟨ret_u64 hk.out, rfl⟩
  · rw [if_neg hs]
    have hk := Lib.hid (key_or b (by omega))
    have hs' : ((b : Int) / 9223372036854775808 == 1) = false := by rw [beq_eq_false_iff_ne]; omega
    clear hs
    go_enter Tryz.func139, Tryz.ntmps139
    go_wp2_with (go_at_call 122; refine (c122 _ _).mono ?_; rintro e w' ⟨rfl, rfl⟩; rw [Hb.out])
    go_ret
    exact ⟨ret_u64 hk.out, rfl⟩

/-- Go's stamp.Compare -/
def cmpF (a b : Nat) : Int := if keyF a < keyF b then -1 else if keyF b < keyF a then 1 else 0

set_option maxRecDepth 10000 in
set_option maxHeartbeats 400000 in
theorem c94 (a b : Nat) (w : World) (ha : bitsF a < 18446744073709551616) (hb : bitsF b < 18446744073709551616) :
    Calls Tryz.prog 94 #[.float .f64 a, .float .f64 b] w fun e w' => e = .returned (.int .i64 (cmpF a b)) ∧ w = w' := by
  have h1 := c139 a
  have h2 := c139 b
  unfold cmpF
  generalize keyF a = x at *
  generalize keyF b = y at *
  have H1 := Lib.hid h1
  have H2 := Lib.hid h2
  clear h1 h2
  by_cases hlt : x < y
  · rw [if_pos hlt]
    go_enter Tryz.func94, Tryz.ntmps94
    go_wp2_with fail
    refine (H1.out _ ha).mono ?_
    rintro e w' ⟨rfl, rfl⟩
    go_wp2_with fail
    refine (H2.out _ hb).mono ?_
    rintro e w' ⟨rfl, rfl⟩
    go_wp2_with fail
    go_ret
    exact ⟨rfl, rfl⟩
  · rw [if_neg hlt]
    by_cases hgt : y < x
    · rw [if_pos hgt]
      go_enter Tryz.func94, Tryz.ntmps94
      go_wp2_with fail
      refine (H1.out _ ha).mono ?_
      rintro e w' ⟨rfl, rfl⟩
      go_wp2_with fail
      refine (H2.out _ hb).mono ?_
      rintro e w' ⟨rfl, rfl⟩
      go_wp2_with fail
      go_ret
      exact ⟨rfl, rfl⟩
    · rw [if_neg hgt]
      go_enter Tryz.func94, Tryz.ntmps94
      go_wp2_with fail
      refine (H1.out _ ha).mono ?_
      rintro e w' ⟨rfl, rfl⟩
      go_wp2_with fail
      refine (H2.out _ hb).mono ?_
      rintro e w' ⟨rfl, rfl⟩
      go_wp2_with fail
      go_ret
      exact ⟨rfl, rfl⟩

set_option maxRecDepth 10000 in
set_option maxHeartbeats 400000 in
theorem c46 (a b : Nat) (w : World) :
    Calls Tryz.prog 46 #[.float .f64 a, .float .f64 b] w fun e w' => e = .returned (.bool (decide (bitsF a = bitsF b))) ∧ w = w' := by
  have h1 := c22 a
  have h2 := c22 b
  generalize bitsF a = x at *
  generalize bitsF b = y at *
  have H1 := Lib.hid h1
  have H2 := Lib.hid h2
  clear h1 h2
  go_enter Tryz.func46, Tryz.ntmps46
  go_wp2_with fail
  refine (H1.out _).mono ?_
  rintro e w' ⟨rfl, rfl⟩
  go_wp2_with fail
  refine (H2.out _).mono ?_
  rintro e w' ⟨rfl, rfl⟩
  go_wp2_with fail
  go_ret
  refine ⟨?_, rfl⟩
  by_cases h : x = y
  · subst h; simp
  · have : ¬ (x : Int) = (y : Int) := by omega
    simp [h, this]

set_option maxRecDepth 10000 in
set_option maxHeartbeats 400000 in
theorem c83 (a : Nat) (w : World) :
    Calls Tryz.prog 83 #[.float .f64 a] w fun e w' => e = .returned (.float .f64 (bitsF a)) ∧ w = w' := by
  have h130 := run_f130
  have h1 := c22 a
  generalize bitsF a = x at *
  have H1 := Lib.hid h1
  clear h1
  go_enter Tryz.func83, Tryz.ntmps83
  go_wp2_with fail
  refine (H1.out _).mono ?_
  rintro e w' ⟨rfl, rfl⟩
  go_wp2_with fail
  go_ret
  exact ⟨rfl, rfl⟩

theorem run_f130i (w : World) : Sem.run Tryz.prog (callFunc 130 #[.int .u64 18442240474082181120]) w = .ok (.value (.float .f64 18442240474082181120)) w := by kernel_rfl

set_option maxRecDepth 10000 in
set_option maxHeartbeats 400000 in
theorem c170 (w : World) :
    Calls Tryz.prog 170 #[.int .i64 (-1)] w fun e w' => e = .returned (.float .f64 18442240474082181120) ∧ w = w' := by
  have h130 := run_f130i
  go_enter Tryz.func170, Tryz.ntmps170
  go_wp2_with fail
  go_ret
  exact ⟨rfl, rfl⟩

/-- Go's towlineref01.Before -/
def beforeF (a b : Nat) : Bool :=
  if 9223372036854775808 ≤ bitsF a ∧ 9223372036854775808 ≤ bitsF b then decide (bitsF b < bitsF a)
  else if 9223372036854775808 ≤ bitsF a ∨ 9223372036854775808 ≤ bitsF b then decide (9223372036854775808 ≤ bitsF a)
  else decide (bitsF a < bitsF b)

theorem ret_bool {a b : Bool} (h : a = b) : Ending.returned (.bool a) = .returned (.bool b) := by rw [h]

set_option maxRecDepth 10000 in
set_option maxHeartbeats 400000 in
theorem c24 (a b : Nat) (w : World) :
    Calls Tryz.prog 24 #[.float .f64 a, .float .f64 b] w fun e w' => e = .returned (.bool (beforeF a b)) ∧ w = w' := by
  have h1 := c22 a
  have h2 := c22 b
  unfold beforeF
  generalize bitsF a = x at *
  generalize bitsF b = y at *
  have H1 := Lib.hid h1
  have H2 := Lib.hid h2
  clear h1 h2
  have walk : ∀ (p q : Bool) (r : Bool), decide ((9223372036854775808 : Int) ≤ (x : Int)) = p → decide ((9223372036854775808 : Int) ≤ (y : Int)) = q →
      (if p && q then decide ((y : Int) < x) else if p || q then p else decide ((x : Int) < y)) = r →
      Calls Tryz.prog 24 #[.float .f64 a, .float .f64 b] w fun e w' => e = .returned (.bool r) ∧ w = w' := by
    intro p q r hp hq hr
    have Hr := Lib.hid hr
    clear hr
    cases p <;> cases q
    all_goals
      go_enter Tryz.func24, Tryz.ntmps24
      go_wp2_with fail
      refine (H1.out _).mono ?_
      rintro e w' ⟨rfl, rfl⟩
      go_wp2_with fail
      refine (H2.out _).mono ?_
      rintro e w' ⟨rfl, rfl⟩
      go_wp2_with fail
      go_ret
      refine ⟨?_, rfl⟩
      apply ret_bool
      rw [← Hr.out]
      simp
  refine walk _ _ _ rfl rfl ?_
  by_cases hx : 9223372036854775808 ≤ x
  all_goals by_cases hy : 9223372036854775808 ≤ y
  all_goals
    have e1 : decide ((9223372036854775808 : Int) ≤ (x : Int)) = decide (9223372036854775808 ≤ x) := by apply Bool.eq_iff_iff.2; rw [decide_eq_true_iff, decide_eq_true_iff]; omega
    have e2 : decide ((9223372036854775808 : Int) ≤ (y : Int)) = decide (9223372036854775808 ≤ y) := by apply Bool.eq_iff_iff.2; rw [decide_eq_true_iff, decide_eq_true_iff]; omega
    rw [e1, e2]
    simp only [hx, hy, decide_true, decide_false, Bool.and_self, Bool.and_false, Bool.false_and, Bool.or_self, Bool.or_false, Bool.or_true, Bool.true_or, Bool.false_or, if_true, if_false, and_self, and_false, false_and, or_self, or_false, or_true, true_or, false_or, Bool.false_eq_true, Int.ofNat_lt, Bool.true_and, Bool.and_true]

/-- one step of stamp.Latest -/
def lateStep (out f : Nat) : Nat := if 0 < cmpF f out then bitsF f else out
def latestF (l : List Nat) : Nat := l.foldl lateStep 18442240474082181120
theorem bitsF_lt {n : Nat} (h : n < 18446744073709551616) : bitsF n < 18446744073709551616 := by
  unfold bitsF; split <;> omega
theorem bitsF_idem (n : Nat) : bitsF (bitsF n) = bitsF n := by
  unfold bitsF
  by_cases h : nanB n = true
  · have h2 : nanB 9221120237041090560 = true := by decide +kernel
    simp [h, h2]
  · simp [h]
theorem lateStep_lt {o f : Nat} (ho : o < 18446744073709551616) (hf : f < 18446744073709551616) : lateStep o f < 18446744073709551616 := by
  unfold lateStep; split
  · exact bitsF_lt hf
  · exact ho
theorem late_lt (l : List Nat) (h : ∀ x ∈ l, x < 18446744073709551616) (o : Nat) (ho : o < 18446744073709551616) : l.foldl lateStep o < 18446744073709551616 := by
  induction l generalizing o with
  | nil => exact ho
  | cons a l ih => exact ih (fun x hx => h x (List.mem_cons_of_mem _ hx)) _ (lateStep_lt ho (h a List.mem_cons_self))
theorem take_snoc' {α : Type} {l : List α} {k : Nat} {x : α} (h : l[k]? = some x) : l.take (k + 1) = l.take k ++ [x] := by
  rw [List.take_add_one, h]; rfl
theorem foldl_take_snoc {α β : Type} (f : β → α → β) {l : List α} {k : Nat} {x : α} (h : l[k]? = some x) (b : β) : (l.take (k + 1)).foldl f b = f ((l.take k).foldl f b) x := by
  rw [take_snoc' h, List.foldl_append]; rfl
theorem lateStep_pos {o f : Nat} (h : 0 < cmpF f o) : lateStep o f = bitsF f := by simp [lateStep, h]
theorem lateStep_neg {o f : Nat} (h : ¬ 0 < cmpF f o) : lateStep o f = o := by simp [lateStep, h]
theorem ret_float {a b : Nat} (h : a = b) : Ending.returned (.float .f64 a) = .returned (.float .f64 b) := by rw [h]

set_option maxRecDepth 10000 in
set_option maxHeartbeats 400000 in
theorem c123 (b off c : Nat) (l : List Nat) (w : World) (hl : l.length ≤ 9223372036854775807) (h : ∀ x ∈ l, x < 18446744073709551616)
    (hc : ∀ j x, l[j]? = some x → w.cell? ⟨b, off + j, none⟩ = some (.float .f64 x)) :
    Calls Tryz.prog 123 #[.slice (some ⟨b, off, none⟩) l.length c] w fun e w' => e = .returned (.float .f64 (latestF l)) ∧ w = w' := by
  have hi : ∀ k, k ≤ l.length → (l.take k).foldl lateStep 18442240474082181120 < 18446744073709551616 := fun k _ =>
    late_lt _ (fun x hx => h x (List.mem_of_mem_take hx)) _ (by decide)
  have Hi := Lib.hid hi
  have Hm := Lib.hid h
  have Hc := Lib.hid hc
  clear h hi hc
  unfold latestF
  go_enter Tryz.func123, Tryz.ntmps123
  go_wp2_with fail
  refine (c170 _).mono ?_
  rintro e w' ⟨rfl, rfl⟩
  go_wp2_with fail
  go_loop [3, 9] (fun o i => ∃ k : Nat, k ≤ l.length ∧ i = .int .i64 k ∧ o = .float .f64 ((l.take k).foldl lateStep 18442240474082181120)) (fun _ i => l.length - (intOf i).toNat)
  case atStart => exact ⟨0, Nat.zero_le _, rfl, rfl⟩
  case round =>
    obtain ⟨k, hk, rfl, rfl⟩ := hrel
    by_cases hlt : k < l.length
    · obtain ⟨x, hx⟩ : ∃ x, l[k]? = some x := ⟨_, List.getElem?_eq_getElem hlt⟩
      have hcx := Hc.out k x hx
      have hxl := bitsF_lt (Hm.out x (List.mem_of_getElem? hx))
      have hol := bitsF_lt (Hi.out k hk)
      have Hs := Lib.hid (foldl_take_snoc lateStep hx 18442240474082181120)
      have Hx := Lib.hid hx
      clear hx
      generalize List.foldl lateStep 18442240474082181120 (List.take k l) = o at *
      by_cases hp : 0 < cmpF x o
      · have Hp := Lib.hid (lateStep_pos hp)
        have hp' : decide (0 < cmpF x o) = true := by simpa using hp
        clear hp
        have H94 := Lib.hid (c94 x o w hxl hol)
        generalize cmpF x o = d at *
        go_wp2_with fail
        refine H94.out.mono ?_
        rintro e w' ⟨rfl, rfl⟩
        go_wp2_with fail
        refine (c122 _ _).mono ?_
        rintro e w' ⟨rfl, rfl⟩
        go_wp2_with fail
        go_round
        case rel => exact ⟨k + 1, by omega, by go_num, by rw [Hs.out, Hp.out]⟩
        case measure => simp [intOf]; omega
      · have Hp := Lib.hid (lateStep_neg hp)
        have hp' : decide (0 < cmpF x o) = false := by simpa using hp
        clear hp
        have H94 := Lib.hid (c94 x o w hxl hol)
        generalize cmpF x o = d at *
        go_wp2_with fail
        refine H94.out.mono ?_
        rintro e w' ⟨rfl, rfl⟩
        go_wp2_with fail
        go_round
        case rel => exact ⟨k + 1, by omega, by go_num, by rw [Hs.out, Hp.out]⟩
        case measure => simp [intOf]; omega
    · obtain rfl : k = l.length := by omega
      clear hlt
      go_wp2_with fail
      go_ret
      exact ⟨ret_float (by simp), rfl⟩
end Go.Proofs.YtaeleagkpgbmaaaGreatDoor
