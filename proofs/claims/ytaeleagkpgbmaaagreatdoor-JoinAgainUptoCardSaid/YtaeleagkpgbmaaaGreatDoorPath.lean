/- Contracts of package path. -/
import Derived.Test.YtaeleagkpgbmaaaGreatDoorMem
import Derived.Test.YtaeleagkpgbmaaaGreatDoorShelf
namespace Go.Proofs.YtaeleagkpgbmaaaGreatDoor
open Go.RowKit
set_option linter.unusedSimpArgs false
set_option linter.unusedVariables false

theorem ret_bool' {a b : Bool} (h : a = b) : Ending.returned (.bool a) = .returned (.bool b) := by rw [h]
theorem ret_int' {k : IntKind} {a b : Int} (h : a = b) : Ending.returned (.int k a) = .returned (.int k b) := by rw [h]

def slB : ByteArray := ⟨#[47]⟩
/-- path.Under -/
def underB (p f : ByteArray) : Bool := if f.toList.isEmpty then !p.toList.isEmpty else Lib.hasPrefix p.data.toList (f ++ slB).data.toList

set_option maxHeartbeats 400000 in
theorem c41 (p f : ByteArray) (w : World) (hf : f.size ≤ 1099511627776) :
    Calls Tryz.prog 41 #[.string p, .string f] w fun e w' => e = .returned (.bool (underB p f)) ∧ w = w' := by
  unfold underB slB
  have H := Lib.hid (Tryz.strings_HasPrefix p (f ++ ⟨#[47]⟩) w)
  cases hE : f.toList.isEmpty
  · generalize Lib.hasPrefix p.data.toList (f ++ ⟨#[47]⟩).data.toList = r at *
    go_enter Tryz.func41, Tryz.ntmps41
    go_wp2_with fail
    refine H.out.mono ?_
    rintro e w' ⟨rfl, rfl⟩
    cases r
    all_goals
      go_wp2_with fail
      go_ret
      exact ⟨rfl, rfl⟩
  · cases hP : p.toList.isEmpty
    · go_enter Tryz.func41, Tryz.ntmps41
      go_wp2_with fail
      go_ret
      exact ⟨rfl, rfl⟩
    · generalize Lib.hasPrefix p.data.toList (f ++ ⟨#[47]⟩).data.toList = r at *
      go_enter Tryz.func41, Tryz.ntmps41
      go_wp2_with fail
      refine H.out.mono ?_
      rintro e w' ⟨rfl, rfl⟩
      cases r
      all_goals
        go_wp2_with fail
        go_ret
        exact ⟨rfl, rfl⟩

/-- path.Split -/
def splitP (s : ByteArray) : List ByteArray := if s.toList.isEmpty then [] else Lib.splitB slB 0 (Lib.countB s slB) s

/-- what is asked of the world: internal/bytealg.MaxLen holds some number -/
def GMax (w : World) : Prop := ∃ m : Int, w.cell? ⟨1, 0, none⟩ = some (.int .i64 m)
theorem GMax.ext {w w' : World} (h : GMax w) (he : Ext w w') : GMax w' := let ⟨m, hm⟩ := h; ⟨m, he.cells hm⟩

theorem splitAll_length (s : ByteArray) : (Lib.splitB slB 0 (Lib.countB s slB) s).length = Lib.countB s slB + 1 := Lib.splitB_all slB (by decide) 0 _ s rfl
theorem countB_le (s : ByteArray) : Lib.countB s slB ≤ s.size := Lib.countB_le slB (by decide) s.size s (Nat.le_refl _)

theorem c90 (s : ByteArray) (w : World) (hG : GMax w) (hs : s.size < 4294967280) :
    Calls Tryz.prog 90 #[.string s, .string slB] w fun e w' => ∃ v, e = .returned v ∧ Strs w' v (Lib.splitB slB 0 (Lib.countB s slB) s) ∧ Ext w w' := by
  obtain ⟨m, hm⟩ := hG
  refine (Tryz.strings_Split s slB m w (by omega) hm (by decide)).mono ?_
  rintro e w' ⟨rfl, rfl⟩
  have hl := splitAll_length s
  have hc := countB_le s
  refine ⟨_, rfl, ?_, Ext.alloc _ _⟩
  have := Strs.new w (Lib.splitB slB 0 (Lib.countB s slB) s) (by omega)
  rw [hl] at this
  exact this

set_option maxHeartbeats 400000 in
theorem c78 (s : ByteArray) (w : World) (hG : GMax w) (hs : s.size < 4294967280) :
    Calls Tryz.prog 78 #[.string s] w fun e w' => ∃ v, e = .returned v ∧ Strs w' v (splitP s) ∧ Ext w w' := by
  unfold splitP
  cases hE : s.toList.isEmpty
  · have H := Lib.hid (c90 s w hG hs)
    unfold slB at H
    simp only [Bool.false_eq_true, if_false]
    generalize hL : Lib.splitB slB 0 (Lib.countB s slB) s = L
    unfold slB at hL
    rw [hL] at H
    clear hL
    go_enter Tryz.func78, Tryz.ntmps78
    go_wp2_with fail
    refine H.out.mono ?_
    rintro e w' ⟨v, rfl, hv, he⟩
    go_wp2_with fail
    go_ret
    exact ⟨_, rfl, hv, he⟩
  · simp only [if_true]
    go_enter Tryz.func78, Tryz.ntmps78
    go_wp2_with fail
    go_ret
    exact ⟨_, rfl, Sl.nil _ _ _, Ext.refl _⟩

/-- cmp.Compare at strings -/
def cmpS (x y : ByteArray) : Int := if Op.bytesLess x.toList y.toList then -1 else if !Op.bytesLess x.toList y.toList && !(x.toList == y.toList) then 1 else 0
def cmpL : List ByteArray → List ByteArray → Int
  | [], [] => 0
  | [], _ :: _ => -1
  | _ :: _, [] => 1
  | x :: xs, y :: ys => if cmpS x y = 0 then cmpL xs ys else cmpS x y
theorem cmpS_bd (x y : ByteArray) : -1 ≤ cmpS x y ∧ cmpS x y ≤ 1 := by unfold cmpS; split <;> (try split) <;> omega
theorem cmpL_bd : ∀ (xs ys : List ByteArray), -1 ≤ cmpL xs ys ∧ cmpL xs ys ≤ 1
  | [], [] => by simp [cmpL]
  | [], _ :: _ => by simp [cmpL]
  | _ :: _, [] => by simp [cmpL]
  | x :: xs, y :: ys => by
    unfold cmpL
    have := cmpL_bd xs ys
    have := cmpS_bd x y
    split <;> omega
theorem cmpL_step {xs ys : List ByteArray} {k : Nat} {x y : ByteArray} (hx : xs[k]? = some x) (hy : ys[k]? = some y) :
    cmpL (xs.drop k) (ys.drop k) = if cmpS x y = 0 then cmpL (xs.drop (k + 1)) (ys.drop (k + 1)) else cmpS x y := by
  obtain ⟨hk, rfl⟩ := List.getElem?_eq_some_iff.1 hx
  obtain ⟨hk', rfl⟩ := List.getElem?_eq_some_iff.1 hy
  rw [List.drop_eq_getElem_cons hk, List.drop_eq_getElem_cons hk', cmpL]
theorem cmpL_short {xs ys : List ByteArray} {k : Nat} (hx : k < xs.length) (hy : ys.length ≤ k) : cmpL (xs.drop k) (ys.drop k) = 1 := by
  rw [List.drop_eq_getElem_cons hx, List.drop_eq_nil_of_le hy, cmpL]
theorem cmpL_end {xs ys : List ByteArray} {k : Nat} (hx : xs.length ≤ k) (hy : k < ys.length) : cmpL (xs.drop k) (ys.drop k) = -1 := by
  rw [List.drop_eq_getElem_cons hy, List.drop_eq_nil_of_le hx, cmpL]
theorem cmpL_both {xs ys : List ByteArray} {k : Nat} (hx : xs.length ≤ k) (hy : ys.length ≤ k) : cmpL (xs.drop k) (ys.drop k) = 0 := by
  rw [List.drop_eq_nil_of_le hx, List.drop_eq_nil_of_le hy, cmpL]
/-- path.Compare -/
def cmpP (a b : ByteArray) : Int := cmpL (splitP a) (splitP b)

set_option maxHeartbeats 400000 in
theorem c169 (x : ByteArray) (w : World) :
    Calls Tryz.prog 169 #[.string x] w fun e w' => e = .returned (.bool false) ∧ w = w' := by
  go_enter Tryz.func169, Tryz.ntmps169
  go_wp2_with fail
  go_ret
  exact ⟨rfl, rfl⟩

set_option maxHeartbeats 400000 in
theorem c121 (x y : ByteArray) (w : World) :
    Calls Tryz.prog 121 #[.string x, .string y] w fun e w' => e = .returned (.int .i64 (cmpS x y)) ∧ w = w' := by
  unfold cmpS
  cases h1 : Op.bytesLess x.toList y.toList
  all_goals cases h2 : x.toList == y.toList
  all_goals
    go_enter Tryz.func121, Tryz.ntmps121
    go_wp2_with fail
    refine (c169 _ _).mono ?_
    rintro e w' ⟨rfl, rfl⟩
    go_wp2_with fail
    refine (c169 _ _).mono ?_
    rintro e w' ⟨rfl, rfl⟩
    go_wp2_with fail
    go_ret
    exact ⟨rfl, rfl⟩

set_option maxHeartbeats 400000 in
theorem c77 (v1 v2 : Value) (xs ys : List ByteArray) (w : World) (h1 : Strs w v1 xs) (h2 : Strs w v2 ys) :
    Calls Tryz.prog 77 #[v1, v2] w fun e w' => e = .returned (.int .i64 (cmpL xs ys)) ∧ w = w' := by
  obtain ⟨A1, k1, rfl, hc1, hl1, hx1⟩ := h1.open_
  obtain ⟨A2, k2, rfl, hc2, hl2, hx2⟩ := h2.open_
  have H1 := Lib.hid hx1
  have H2 := Lib.hid hx2
  clear hx1 hx2 h1 h2
  have Hd := Lib.hid (show cmpL xs ys = cmpL (xs.drop 0) (ys.drop 0) by simp)
  go_enter Tryz.func77, Tryz.ntmps77
  go_wp2_with fail
  go_loop [11] (fun i => ∃ k : Nat, k ≤ xs.length ∧ k ≤ ys.length ∧ i = .int .i64 k ∧ cmpL xs ys = cmpL (xs.drop k) (ys.drop k)) (fun i => xs.length - (intOf i).toNat)
  case atStart => exact ⟨0, Nat.zero_le _, Nat.zero_le _, rfl, Hd.out⟩
  case round =>
    obtain ⟨k, hk, hky, rfl, hr⟩ := hrel
    have Hr := Lib.hid hr
    clear hr Hd
    by_cases hlt : k < xs.length
    · obtain ⟨x, hx⟩ : ∃ x, xs[k]? = some x := ⟨_, List.getElem?_eq_getElem hlt⟩
      obtain ⟨b, off, rfl, hb, hcell⟩ := H1.out (by omega)
      have hcx := hcell k x hx
      have Hx := Lib.hid hx
      clear hx hcell
      by_cases hlt2 : k < ys.length
      · obtain ⟨y, hy⟩ : ∃ x, ys[k]? = some x := ⟨_, List.getElem?_eq_getElem hlt2⟩
        obtain ⟨b2, off2, rfl, hb2, hcell2⟩ := H2.out (by omega)
        have hcy := hcell2 k y hy
        have Hs := Lib.hid (cmpL_step Hx.out hy)
        have H121 := Lib.hid (c121 x y w)
        clear hy hcell2
        by_cases hz : cmpS x y = 0
        · have Hz := Lib.hid hz
          rw [hz] at H121
          clear hz
          go_wp2_with fail
          refine H121.out.mono ?_
          rintro e w' ⟨rfl, rfl⟩
          go_wp2_with fail
          go_round
          case rel => exact ⟨k + 1, by omega, by omega, by go_num, by rw [Hr.out, Hs.out, if_pos Hz.out]⟩
          case measure => simp [intOf]; omega
        · have Hz := Lib.hid hz
          have hz' : (cmpS x y != 0) = true := by simpa using hz
          clear hz
          generalize hd : cmpS x y = d at *
          have Hd := Lib.hid hd
          clear hd
          go_wp2_with fail
          refine H121.out.mono ?_
          rintro e w' ⟨rfl, rfl⟩
          go_wp2_with fail
          go_ret
          exact ⟨ret_int' (by rw [Hr.out, Hs.out, if_neg Hz.out]), rfl⟩
      · have He := Lib.hid (cmpL_short hlt (show ys.length ≤ k by omega))
        go_wp2_with fail
        go_ret
        exact ⟨ret_int' (by rw [Hr.out, He.out]), rfl⟩
    · by_cases hlt2 : k < ys.length
      · have He := Lib.hid (cmpL_end (show xs.length ≤ k by omega) hlt2)
        have hxy : xs.length < ys.length := by omega
        go_wp2_with fail
        go_ret
        exact ⟨ret_int' (by rw [Hr.out, He.out]), rfl⟩
      · have He := Lib.hid (cmpL_both (show xs.length ≤ k by omega) (show ys.length ≤ k by omega))
        have hxy : ¬ xs.length < ys.length := by omega
        go_wp2_with fail
        go_ret
        exact ⟨ret_int' (by rw [Hr.out, He.out]), rfl⟩

set_option maxHeartbeats 400000 in
theorem c39 (a b : ByteArray) (w : World) (hG : GMax w) (ha : a.size < 4294967280) (hb : b.size < 4294967280) :
    Calls Tryz.prog 39 #[.string a, .string b] w fun e w' => e = .returned (.int .i64 (cmpP a b)) ∧ Ext w w' := by
  unfold cmpP
  have H1 := Lib.hid (c78 a w hG ha)
  have H2 := fun w' he => Lib.hid (c78 b w' (hG.ext he) hb)
  have H3 := Lib.hid H2
  clear H2
  go_enter Tryz.func39, Tryz.ntmps39
  go_wp2_with fail
  refine H1.out.mono ?_
  rintro e w1 ⟨v1, rfl, hv1, he1⟩
  go_wp2_with fail
  refine (H3.out w1 he1).out.mono ?_
  rintro e w2 ⟨v2, rfl, hv2, he2⟩
  go_wp2_with fail
  refine (c77 v1 v2 _ _ w2 (hv1.ext he2) hv2).mono ?_
  rintro e w3 ⟨rfl, rfl⟩
  go_wp2_with fail
  go_ret
  exact ⟨rfl, he1.trans he2⟩

/-- path.bad: of a rune -/
def badR (r : Int) : Bool := decide (r < 32) || r == 127 || r == 47

set_option maxHeartbeats 400000 in
theorem c138 (r : Int) (w : World) :
    Calls Tryz.prog 138 #[.int .i32 r] w fun e w' => e = .returned (.bool (badR r)) ∧ w = w' := by
  unfold badR
  cases h1 : decide (r < 32)
  all_goals cases h2 : (r == 127)
  all_goals cases h3 : (r == 47)
  all_goals
    go_enter Tryz.func138, Tryz.ntmps138
    go_wp2_with fail
    go_ret
    exact ⟨rfl, rfl⟩

theorem e138 : ∀ args w, (callFunc 138 args).run Tryz.prog w = .ok (.enter 138 args) w := enters_of Tryz.func138 (by kernel_rfl) rfl
theorem e92 : ∀ args w, (callFunc 92 args).run Tryz.prog w = .ok (.enter 92 args) w := enters_of Tryz.func92 (by kernel_rfl) rfl

/-- where a bad rune begins, or -1 -/
def badIdx (s : ByteArray) : Int := Lib.idxFunc (fun n : Nat => badR n) true s
theorem c137 (s : ByteArray) (w : World) :
    Calls Tryz.prog 137 #[.string s, .func (.func 138) #[] #[]] w fun e w' => e = .returned (.int .i64 (badIdx s)) ∧ Ext w w' :=
  Tryz.strings_IndexFunc 138 #[] e138 _ s w fun W x _ => (c138 x W).mono fun e w' ⟨h1, h2⟩ => ⟨h1, 0, h2 ▸ rfl⟩

/-- path.Name -/
def nameB (s : ByteArray) : Bool := !s.toList.isEmpty && !(s.toList == [46]) && !(s.toList == [46, 46]) && decide (s.size ≤ 64) && decide (badIdx s < 0)

set_option maxHeartbeats 400000 in
theorem c93 (s : ByteArray) (w : World) :
    Calls Tryz.prog 93 #[.string s] w fun e w' => e = .returned (.bool (nameB s)) ∧ Ext w w' := by
  unfold nameB
  have H := Lib.hid (c137 s w)
  generalize badIdx s = i at *
  cases h1 : s.toList.isEmpty
  · cases h2 : s.toList == [46]
    · cases h3 : s.toList == [46, 46]
      · by_cases h4 : s.size ≤ 64
        · have h4' := Lib.hid (decide_eq_true h4)
          go_enter Tryz.func93, Tryz.ntmps93
          go_wp2_with fail
          refine H.out.mono ?_
          rintro e w' ⟨rfl, he⟩
          go_wp2_with fail
          go_ret
          exact ⟨ret_bool' (by first | rfl | (rw [h4'.out]; rfl)), he⟩
        · have h4' := Lib.hid (decide_eq_false h4)
          go_enter Tryz.func93, Tryz.ntmps93
          go_wp2_with fail
          go_ret
          exact ⟨ret_bool' (by first | rfl | (rw [h4'.out]; rfl)), Ext.refl _⟩
      · go_enter Tryz.func93, Tryz.ntmps93
        go_wp2_with fail
        go_ret
        exact ⟨rfl, Ext.refl _⟩
    · go_enter Tryz.func93, Tryz.ntmps93
      go_wp2_with fail
      go_ret
      exact ⟨rfl, Ext.refl _⟩
  · go_enter Tryz.func93, Tryz.ntmps93
    go_wp2_with fail
    go_ret
    exact ⟨rfl, Ext.refl _⟩

set_option maxHeartbeats 400000 in
theorem c92 (s : ByteArray) (w : World) :
    Calls Tryz.prog 92 #[.string s] w fun e w' => e = .returned (.bool (!nameB s)) ∧ Ext w w' := by
  have H := Lib.hid (c93 s w)
  generalize nameB s = r at *
  go_enter Tryz.func92, Tryz.ntmps92
  go_wp2_with fail
  refine H.out.mono ?_
  rintro e w' ⟨rfl, he⟩
  go_wp2_with fail
  go_ret
  exact ⟨rfl, he⟩

/-- slices.IndexFunc -/
def findI (p : ByteArray → Bool) : List ByteArray → Nat → Int
  | [], _ => -1
  | x :: xs, i => if p x then i else findI p xs (i + 1)
theorem findI_step {p : ByteArray → Bool} {xs : List ByteArray} {k : Nat} {x : ByteArray} (hx : xs[k]? = some x) :
    findI p (xs.drop k) k = if p x then (k : Int) else findI p (xs.drop (k + 1)) (k + 1) := by
  obtain ⟨hk, rfl⟩ := List.getElem?_eq_some_iff.1 hx
  rw [List.drop_eq_getElem_cons hk, findI]
theorem findI_any (p : ByteArray → Bool) : ∀ (xs : List ByteArray) (i : Nat), decide (0 ≤ findI p xs i) = xs.any p
  | [], _ => by simp [findI]
  | x :: xs, i => by
    unfold findI
    cases h : p x
    · simp [h, findI_any p xs (i + 1)]
    · simp [h]
theorem findI_bd (p : ByteArray → Bool) : ∀ (xs : List ByteArray) (i : Nat), -1 ≤ findI p xs i
  | [], _ => by simp [findI]
  | x :: xs, i => by unfold findI; have := findI_bd p xs (i + 1); split <;> omega

set_option maxHeartbeats 400000 in
theorem c136 (v : Value) (xs : List ByteArray) (w : World) (h : Strs w v xs) :
    Calls Tryz.prog 136 #[v, .func (.func 92) #[] #[]] w fun e w' => e = .returned (.int .i64 (findI (fun s => !nameB s) xs 0)) ∧ Ext w w' := by
  obtain ⟨A, c, rfl, hc, hl, hx⟩ := h.open_
  have H := Lib.hid hx
  clear hx h
  have He := e92
  have Hd := Lib.hid (show findI (fun s => !nameB s) xs 0 = findI (fun s => !nameB s) (xs.drop 0) 0 by simp)
  go_enter Tryz.func136, Tryz.ntmps136
  go_wp2_with fail
  go_loopw [8] (fun i wr => ∃ k : Nat, k ≤ xs.length ∧ i = .int .i64 k ∧ findI (fun s => !nameB s) xs 0 = findI (fun s => !nameB s) (xs.drop k) k ∧ Ext w wr) (fun i _ => xs.length - (intOf i).toNat)
  case atStart => exact ⟨0, Nat.zero_le _, rfl, Hd.out, Ext.refl _⟩
  case round =>
    obtain ⟨k, hk, rfl, hr, hew⟩ := hrel
    have Hr := Lib.hid hr
    clear hr Hd
    by_cases hlt : k < xs.length
    · obtain ⟨x, hx⟩ : ∃ x, xs[k]? = some x := ⟨_, List.getElem?_eq_getElem hlt⟩
      obtain ⟨b, off, rfl, hb, hcell⟩ := H.out (by omega)
      have hcx := (hew.cell (p := ⟨b, off + k, none⟩) hb).trans (hcell k x hx)
      have Hs := Lib.hid (findI_step (p := fun s => !nameB s) hx)
      have H92 := Lib.hid (c92 x wr)
      clear hx hcell
      generalize nameB x = r at *
      have Hew := Lib.hid hew
      clear hew
      cases r
      · go_wp2_with fail
        refine H92.out.mono ?_
        rintro e w' ⟨rfl, he⟩
        go_wp2_with fail
        go_ret
        exact ⟨ret_int' (by rw [Hr.out, Hs.out]; rfl), Hew.out.trans he⟩
      · go_wp2_with fail
        refine H92.out.mono ?_
        rintro e w' ⟨rfl, he⟩
        go_wp2_with fail
        go_roundw
        case rel => exact ⟨k + 1, by omega, by go_num, by rw [Hr.out, Hs.out]; rfl, Hew.out.trans he⟩
        case measure => simp [intOf]; omega
    · have Hn := Lib.hid (show xs.drop k = [] from List.drop_eq_nil_of_le (by omega))
      go_wp2_with fail
      go_ret
      exact ⟨ret_int' (by rw [Hr.out, Hn.out]; rfl), hew⟩

set_option maxHeartbeats 400000 in
theorem c91 (v : Value) (xs : List ByteArray) (w : World) (h : Strs w v xs) :
    Calls Tryz.prog 91 #[v, .func (.func 92) #[] #[]] w fun e w' => e = .returned (.bool (xs.any fun s => !nameB s)) ∧ Ext w w' := by
  have H := Lib.hid (c136 v xs w h)
  have Ha := Lib.hid (findI_any (fun s => !nameB s) xs 0)
  generalize findI (fun s => !nameB s) xs 0 = i at *
  go_enter Tryz.func91, Tryz.ntmps91
  go_wp2_with fail
  refine H.out.mono ?_
  rintro e w' ⟨rfl, he⟩
  go_wp2_with fail
  go_ret
  exact ⟨ret_bool' (Ha.out), he⟩

/-- path.Check -/
def checkP (s : ByteArray) : Int :=
  if 255 < s.size ∨ 16 < Lib.countB s slB + 1 then 2
  else if (Lib.splitB slB 0 (Lib.countB s slB) s).any fun n => !nameB n then 50 else 0

set_option maxHeartbeats 400000 in
theorem c49 (s : ByteArray) (w : World) (hG : GMax w) (hs : s.size < 4294967280) :
    Calls Tryz.prog 49 #[.string s] w fun e w' => e = .returned (.int .i64 (checkP s)) ∧ Ext w w' := by
  unfold checkP
  have H := Lib.hid (c90 s w hG hs)
  have hl := splitAll_length s
  generalize Lib.splitB slB 0 (Lib.countB s slB) s = L at *
  unfold slB at H
  have H91 := fun v w' h => Lib.hid (c91 v L w' h)
  have H91' := Lib.hid H91
  clear H91
  rw [← hl]
  clear hl
  by_cases h1 : 255 < s.size
  · rw [if_pos (Or.inl h1)]
    go_enter Tryz.func49, Tryz.ntmps49
    go_wp2_with fail
    refine H.out.mono ?_
    rintro e w1 ⟨v, rfl, hv, he⟩
    go_wp2_with fail
    go_ret
    exact ⟨rfl, he⟩
  · by_cases h2 : 16 < L.length
    · rw [if_pos (Or.inr h2)]
      go_enter Tryz.func49, Tryz.ntmps49
      go_wp2_with fail
      refine H.out.mono ?_
      rintro e w1 ⟨v, rfl, hv, he⟩
      obtain ⟨A, c, rfl, hc, hl, hx⟩ := hv.open_
      clear hx hv
      go_wp2_with fail
      go_ret
      exact ⟨rfl, he⟩
    · rw [if_neg (show ¬ (255 < s.size ∨ 16 < L.length) by omega)]
      cases hr : L.any (fun n => !nameB n)
      all_goals
        have Hr := Lib.hid hr
        clear hr
        go_enter Tryz.func49, Tryz.ntmps49
        go_wp2_with fail
        refine H.out.mono ?_
        rintro e w1 ⟨v, rfl, hv, he⟩
        have H91 := H91'.out v w1 hv
        rw [Hr.out] at H91
        obtain ⟨A, c, rfl, hc, hl, hx⟩ := hv.open_
        clear hx hv
        go_wp2_with fail
        refine H91.out.mono ?_
        rintro e w2 ⟨rfl, he2⟩
        go_wp2_with fail
        go_ret
        exact ⟨rfl, he.trans he2⟩

end Go.Proofs.YtaeleagkpgbmaaaGreatDoor
