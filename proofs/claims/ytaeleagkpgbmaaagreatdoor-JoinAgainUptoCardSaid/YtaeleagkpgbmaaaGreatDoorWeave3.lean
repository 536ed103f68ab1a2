/- weave.Merge. -/
import Derived.Test.YtaeleagkpgbmaaaGreatDoorWeave2
namespace Go.Proofs.YtaeleagkpgbmaaaGreatDoor
open Go.RowKit
set_option linter.unusedSimpArgs false
set_option linter.unusedVariables false

structure LoomS where
  b : List ByteArray
  o : List ByteArray
  t : List ByteArray
  ps : List PartD
deriving DecidableEq
def stepO (s : LoomS) (i j k : Nat) : Option LoomS :=
  if i ≤ s.b.length ∧ j ≤ s.o.length ∧ k ≤ s.t.length ∧ s.ps.length ≤ 2000 then (addO s.b s.o s.t s.ps i j k).map fun ps' => ⟨s.b.drop i, s.o.drop j, s.t.drop k, ps'⟩ else none
def pairO (s : LoomS) (x y : Nat × Nat) (i j k : Nat) : Option LoomS :=
  if x.1 = y.1 then (if i ≤ x.1 ∧ j ≤ x.2 ∧ k ≤ y.2 then (stepO s (x.1 - i) (x.2 - j) (y.2 - k)).bind fun s' => stepO s' 1 1 1 else none) else some s
def loomO : Nat → List (Nat × Nat) → List (Nat × Nat) → LoomS → Nat → Nat → Nat → Option LoomS
  | 0, _, _, _, _, _, _ => none
  | f + 1, x :: xs, y :: ys, s, i, j, k =>
    if x.1 < 1000000 ∧ x.2 < 1000000 ∧ y.1 < 1000000 ∧ y.2 < 1000000 then
      (pairO s x y i j k).bind fun s' => loomO f (if x.1 ≤ y.1 then xs else x :: xs) (if y.1 ≤ x.1 then ys else y :: ys) s' (if x.1 = y.1 then x.1 + 1 else i) (if x.1 = y.1 then x.2 + 1 else j) (if x.1 = y.1 then y.2 + 1 else k)
    else none
  | _ + 1, [], _, s, _, _, _ => some s
  | _ + 1, _ :: _, [], s, _, _, _ => some s
def mergeO (b o t : List ByteArray) : Option (List PartD) :=
  (loomO (b.length + b.length + 1) (pairsF b o) (pairsF b t) ⟨b, o, t, []⟩ 0 0 0).bind fun s => (stepO s s.b.length s.o.length s.t.length).map (·.ps)

theorem LoomI.grow {w0 w w' : World} {L : Nat} {b o t : List ByteArray} {ps : List PartD} (h : LoomI w0 w L b o t ps) (he : Ext w w') : LoomI w0 w' L b o t ps := by
  obtain ⟨h1, h2, x0, x1, x2, pv, vs, hB, s0, s1, s2, hp, hok⟩ := h
  exact ⟨h1.trans he, h2, x0, x1, x2, pv, vs, hB.ext he, s0, s1, s2, hp.ext he, hok.1, fun i q p hq hp => by
    obtain ⟨a, b, c, d⟩ := hok.2 i q p hq hp
    exact ⟨a, b.ext he, c.ext he, d.ext he⟩⟩
theorem stepO_some {s s' : LoomS} {i j k : Nat} (h : stepO s i j k = some s') : i ≤ s.b.length ∧ j ≤ s.o.length ∧ k ≤ s.t.length ∧ s.ps.length ≤ 2000 ∧ addO s.b s.o s.t s.ps i j k = some s'.ps ∧ s'.b = s.b.drop i ∧ s'.o = s.o.drop j ∧ s'.t = s.t.drop k := by
  unfold stepO at h
  split at h
  · rename_i hc
    obtain ⟨ps', h1, rfl⟩ := Option.map_eq_some_iff.1 h
    exact ⟨hc.1, hc.2.1, hc.2.2.1, hc.2.2.2, h1, rfl, rfl, rfl⟩
  · cases h
/-- the loom's call, by the state -/
theorem c173s (w0 w : World) (L : Nat) (s s' : LoomS) (i j k : Nat) (h : LoomI w0 w L s.b s.o s.t s.ps) (hb : s.b.length ≤ 600) (ho : s.o.length ≤ 600) (ht : s.t.length ≤ 600) (hs : stepO s i j k = some s') (I J K : Int) (hI : I = i) (hJ : J = j) (hK : K = k) :
    Calls Tryz.prog 173 #[.pointer (some ⟨L, 0, none⟩), .int .i64 I, .int .i64 J, .int .i64 K] w fun e w' => e = .returned (.tuple #[]) ∧ LoomI w0 w' L s'.b s'.o s'.t s'.ps ∧ ∀ X l, Blk w X 276 l → Blk w' X 276 l := by
  subst hI; subst hJ; subst hK
  obtain ⟨h1, h2, h3, h4, h5, h6, h7, h8⟩ := stepO_some hs
  rw [h6, h7, h8]
  exact c173 w0 w L s.b s.o s.t s.ps s'.ps i j k h h1 h2 h3 hb ho ht h4 h5
theorem stepO_len {s s' : LoomS} {i j k : Nat} (h : stepO s i j k = some s') (hb : s.b.length ≤ 600) (ho : s.o.length ≤ 600) (ht : s.t.length ≤ 600) : s'.b.length ≤ 600 ∧ s'.o.length ≤ 600 ∧ s'.t.length ≤ 600 := by
  obtain ⟨_, _, _, _, _, h6, h7, h8⟩ := stepO_some h
  rw [h6, h7, h8]
  simp only [List.length_drop]
  omega

theorem two_new (w : World) (T : TypeId) (l1 l2 : List Value) : Blk ((w.alloc (.cells l1.toArray T)).alloc (.cells l2.toArray T)).drew w.heap.size T l1 ∧ Blk ((w.alloc (.cells l1.toArray T)).alloc (.cells l2.toArray T)).drew (w.heap.size + 1) T l2 ∧ Ext w ((w.alloc (.cells l1.toArray T)).alloc (.cells l2.toArray T)).drew := by
  refine ⟨(Blk.new w T l1).ext ((Ext.alloc _ _).trans (Ext.drew _)), ?_, ((Ext.alloc w _).trans (Ext.alloc _ _)).trans (Ext.drew _)⟩
  have h := Blk.new (w.alloc (.cells l1.toArray T)) T l2
  have e : (w.alloc (.cells l1.toArray T)).heap.size = w.heap.size + 1 := by simp
  rw [e] at h
  exact h
theorem loomO_eq {f : Nat} {x0 x1 y0 y1 : Nat} {xs ys : List (Nat × Nat)} {s sE : LoomS} {i j k : Nat} (h : loomO f ((x0, x1) :: xs) ((y0, y1) :: ys) s i j k = some sE) (he : x0 = y0) :
    ∃ f' s1 s2, x0 < 1000000 ∧ x1 < 1000000 ∧ y1 < 1000000 ∧ i ≤ x0 ∧ j ≤ x1 ∧ k ≤ y1 ∧ stepO s (x0 - i) (x1 - j) (y1 - k) = some s1 ∧ stepO s1 1 1 1 = some s2 ∧ loomO f' xs ys s2 (x0 + 1) (x1 + 1) (y1 + 1) = some sE := by
  cases f with
  | zero => cases h
  | succ f =>
    rw [loomO] at h
    split at h
    · rename_i hc
      obtain ⟨s2, h1, h2⟩ := Option.bind_eq_some_iff.1 h
      unfold pairO at h1
      simp only [he, if_true, Nat.le_refl] at h1 h2 hc
      split at h1
      · rename_i hd
        obtain ⟨s1, h3, h4⟩ := Option.bind_eq_some_iff.1 h1
        subst he
        exact ⟨f, s1, s2, hc.1, hc.2.1, hc.2.2.2, hd.1, hd.2.1, hd.2.2, h3, h4, h2⟩
      · cases h1
    · cases h
theorem loomO_ne {f : Nat} {x0 x1 y0 y1 : Nat} {xs ys : List (Nat × Nat)} {s sE : LoomS} {i j k : Nat} (h : loomO f ((x0, x1) :: xs) ((y0, y1) :: ys) s i j k = some sE) (he : x0 ≠ y0) :
    ∃ f', x0 < 1000000 ∧ y0 < 1000000 ∧ loomO f' (if x0 ≤ y0 then xs else (x0, x1) :: xs) (if y0 ≤ x0 then ys else (y0, y1) :: ys) s i j k = some sE := by
  cases f with
  | zero => cases h
  | succ f =>
    rw [loomO] at h
    split at h
    · rename_i hc
      obtain ⟨s2, h1, h2⟩ := Option.bind_eq_some_iff.1 h
      unfold pairO at h1
      simp only [he, if_false] at h1 h2 hc
      injection h1 with h1
      subst h1
      exact ⟨f, hc.1, hc.2.2.1, h2⟩
    · cases h
theorem loomO_end {f : Nat} {xs ys : List (Nat × Nat)} {s sE : LoomS} {i j k : Nat} (h : loomO f xs ys s i j k = some sE) (he : xs = [] ∨ ys = []) : s = sE := by
  cases f with
  | zero => cases h
  | succ f =>
    rcases he with rfl | rfl
    · rw [loomO] at h; injection h
    · cases xs with
      | nil => rw [loomO] at h; injection h
      | cons x xs => rw [loomO] at h; injection h
theorem PartsOk.lower {B B' : Nat} {w : World} {vs : List PartV} {ps : List PartD} (h : PartsOk B w vs ps) (hb : B' ≤ B) : PartsOk B' w vs ps :=
  ⟨h.1, fun i q p hq hp => by
    obtain ⟨h1, h2, h3, h4⟩ := h.2 i q p hq hp
    exact ⟨h1, h2.lower hb, h3.lower hb, h4.lower hb⟩⟩
theorem tail_cut {w : World} {A : Option Addr} {c : Nat} {x : Nat × Nat} {xs xs' : List (Nat × Nat)} (h0 : 0 < xs.length) (he : xs = x :: xs') (h : Sl encP 2 w (.slice A (xs.length - 1) c) ((xs.drop 1).take (xs.length - 1))) : Sl encP 2 w (.slice A (xs.length - 1) c) xs' := by
  subst he
  rw [List.drop_succ_cons, List.drop_zero, List.length_cons, Nat.add_sub_cancel, List.take_length] at h
  exact h
set_option maxRecDepth 10000 in
set_option maxHeartbeats 1000000 in
theorem c126 (vb vo vt : Value) (b o t : List ByteArray) (ps : List PartD) (w : World) (h0 : Strs w vb b) (h1 : Strs w vo o) (h2 : Strs w vt t) (hb : b.length ≤ 600) (ho : o.length ≤ 600) (ht : t.length ≤ 600) (hm : mergeO b o t = some ps) :
    Calls Tryz.prog 126 #[vb, vo, vt] w fun e w' => ∃ v vs, e = .returned (.tuple #[v, .int .i64 0]) ∧ Own encV 4 278 w.heap.size w' v vs ∧ PartsOk w.heap.size w' vs ps ∧ Ext w w' := by
  obtain ⟨sE, hloom, hm2⟩ := Option.bind_eq_some_iff.1 hm
  obtain ⟨s', hlast, rfl⟩ := Option.map_eq_some_iff.1 hm2
  have Hloom := Lib.hid hloom
  have Hlast := Lib.hid hlast
  have Hpa := Lib.hid (c172 vb vo b o w h0 h1 hb ho)
  have Hpb := Lib.hid (fun w1 he => c172 vb vt b t w1 (Sl.ext h0 he) (Sl.ext h2 he) hb ht)
  have H0 := Lib.hid h0
  have H1 := Lib.hid h1
  have H2 := Lib.hid h2
  clear hloom hlast hm2 hm
  obtain ⟨Ab, cb, rfl, -⟩ := h0.open_
  obtain ⟨Ao, co, rfl, -⟩ := h1.open_
  obtain ⟨At, ct, rfl, -⟩ := h2.open_
  clear h0 h1 h2
  go_enter Tryz.func126, Tryz.ntmps126
  go_wp2_with fail
  refine Hpa.out.mono ?_
  rintro e w1 ⟨pa, rfl, hsa, he1⟩
  have Hsa := Lib.hid hsa
  have He1 := Lib.hid he1
  clear hsa he1
  go_wp2_with fail
  refine (Hpb.out w1 He1.out).mono ?_
  rintro e w2 ⟨pb, rfl, hsb, he2⟩
  have Hsb := Lib.hid hsb
  have He2 := Lib.hid he2
  clear hsb he2
  go_wp2_with fail
  have hL0 : LoomI w2 (w2.alloc (.cells #[.slice Ab b.length cb, .slice Ao o.length co, .slice At t.length ct, .slice none 0 0] 275)) w2.heap.size b o t [] := by
    have e2 := He1.out.trans He2.out
    exact ⟨Ext.alloc _ _, Nat.le_refl _, _, _, _, _, [], Blk.new w2 275 [_, _, _, _], Sl.ext H0.out e2, Sl.ext H1.out e2, Sl.ext H2.out e2, Own.nil, rfl, fun i q p hq _ => by simp at hq⟩
  have HL0 := Lib.hid hL0
  clear hL0
  go_loopw [8, 10, 12, 13, 14] (fun A C i j k wr => ∃ (f : Nat) (xs ys : List (Nat × Nat)) (s : LoomS) (iN jN kN : Nat), Sl encP 2 w2 A xs ∧ Sl encP 2 w2 C ys ∧ i = .int .i64 (iN : Int) ∧ j = .int .i64 (jN : Int) ∧ k = .int .i64 (kN : Int) ∧
    LoomI w2 wr w2.heap.size s.b s.o s.t s.ps ∧ loomO f xs ys s iN jN kN = some sE ∧ s.b.length ≤ 600 ∧ s.o.length ≤ 600 ∧ s.t.length ≤ 600 ∧ iN < 4000000 ∧ jN < 4000000 ∧ kN < 4000000) (fun A C _ _ _ _ => lenV A + lenV C)
  case atStart => exact ⟨_, _, _, ⟨b, o, t, []⟩, 0, 0, 0, Hsa.out.ext He2.out, Hsb.out, rfl, rfl, rfl, HL0.out, Hloom.out, hb, ho, ht, by omega, by omega, by omega⟩
  case round =>
    obtain ⟨f, xs, ys, s, iN, jN, kN, hxs, hys, rfl, rfl, rfl, hL, hf, hbs, hos, hts, hi, hj, hk⟩ := hrel
    rename World => w3
    have Hxs := Lib.hid hxs
    have Hys := Lib.hid hys
    have HL := Lib.hid hL
    have Hf := Lib.hid hf
    obtain ⟨hxl, Ax, cx, rfl, hcx, _, hxx⟩ := hxs
    obtain ⟨hyl, Ay, cy, rfl, hcy, _, hyy⟩ := hys
    have Hxx := Lib.hid hxx
    have Hyy := Lib.hid hyy
    have hcx1 := hcx.1
    have hcy1 := hcy.1
    clear hL hf hxx hyy hcx hcy
    by_cases hx0 : 0 < xs.length
    · by_cases hy0 : 0 < ys.length
      · obtain ⟨x, xs', hxe⟩ : ∃ x xs', xs = x :: xs' := by cases xs with | nil => simp at hx0 | cons x xs' => exact ⟨x, xs', rfl⟩
        obtain ⟨y, ys', hye⟩ : ∃ y ys', ys = y :: ys' := by cases ys with | nil => simp at hy0 | cons y ys' => exact ⟨y, ys', rfl⟩
        have Hx1 := Lib.hid (show 1 ≤ xs.length from hx0)
        have Hy1 := Lib.hid (show 1 ≤ ys.length from hy0)
        obtain ⟨bx, ox, rfl, _, hxc⟩ := Hxx.out hx0
        obtain ⟨by', oy, rfl, _, hyc⟩ := Hyy.out hy0
        have hx00 := HL.out.ext.cells (hxc 0 x (by rw [hxe]; rfl) 0 _ rfl)
        have hx01 := HL.out.ext.cells (hxc 0 x (by rw [hxe]; rfl) 1 _ rfl)
        have hy00 := HL.out.ext.cells (hyc 0 y (by rw [hye]; rfl) 0 _ rfl)
        have hy01 := HL.out.ext.cells (hyc 0 y (by rw [hye]; rfl) 1 _ rfl)
        simp only [Nat.zero_mul, Nat.add_zero] at hx00 hx01 hy00 hy01
        have Hxe := Lib.hid hxe
        have Hye := Lib.hid hye
        clear hxe hye hxc hyc Hxx Hyy
        obtain ⟨x0, x1⟩ := x
        obtain ⟨y0, y1⟩ := y
        simp only at hx00 hx01 hy00 hy01
        go_upto_region 10 with fail
        go_cut [15, 16] (fun s15 s16 wx => ∃ X Y, s15 = .pointer (some ⟨X, 0, none⟩) ∧ s16 = .pointer (some ⟨Y, 0, none⟩) ∧ Blk wx X 276 [.int .i64 x0, .int .i64 x1] ∧ Blk wx Y 276 [.int .i64 y0, .int .i64 y1] ∧ Ext w3 wx)
        case first =>
          have n1 := World.new_ne w3 _ hx00
          have n2 := World.new_ne w3 _ hx01
          have n3 := World.new_ne w3 _ hy00
          have n4 := World.new_ne w3 _ hy01
          go_region_held3 (fun w' => w'.cell? ⟨bx, ox, none⟩ = some (.int .i64 x0) ∧ w'.cell? ⟨bx, ox + 1, none⟩ = some (.int .i64 x1) ∧ w'.cell? ⟨by', oy, none⟩ = some (.int .i64 y0) ∧ w'.cell? ⟨by', oy + 1, none⟩ = some (.int .i64 y1)) (go_keep) (fail)
          all_goals (go_wp2_with fail; go_meet)
          · obtain ⟨t1, t2, t3⟩ := two_new w3 276 [.int .i64 x0, .int .i64 x1] [.int .i64 y0, .int .i64 y1]
            exact ⟨_, _, rfl, rfl, t1, t2, t3⟩
          · obtain ⟨t1, t2, t3⟩ := two_new w3 276 [.int .i64 y0, .int .i64 y1] [.int .i64 x0, .int .i64 x1]
            exact ⟨_, _, rfl, rfl, t2, t1, t3⟩
        case rest =>
          obtain ⟨X, Y, rfl, rfl, hX, hY, he3⟩ := hcut
          have hX0 := hX.cell 0
          have hX1 := hX.cell 1
          have hY0 := hY.cell 0
          have hY1 := hY.cell 1
          have HX := Lib.hid hX
          have HY := Lib.hid hY
          have hf := Hf.out
          rw [Hxe.out, Hye.out] at hf
          have HL2 := Lib.hid (LoomI.grow HL.out he3)
          clear hX hY hx00 hx01 hy00 hy01
          by_cases hxy : x0 = y0
          · obtain ⟨f', s1, s2, b1, b2, b3, b4, b5, b6, hs1, hs2, hf'⟩ := loomO_eq hf hxy
            have Hf2 := Lib.hid hf'
            have Hs1 := Lib.hid (c173s w2 wc w2.heap.size s s1 (x0 - iN) (x1 - jN) (y1 - kN) HL2.out hbs hos hts hs1 ((x0 : Int) - iN) ((x1 : Int) - jN) ((y1 : Int) - kN) (by omega) (by omega) (by omega))
            obtain ⟨g1, g2, g3⟩ := stepO_len hs1 hbs hos hts
            have Hs2 := Lib.hid (fun w h => c173s w2 w w2.heap.size s1 s2 1 1 1 h g1 g2 g3 hs2 1 1 1 rfl rfl rfl)
            obtain ⟨g4, g5, g6⟩ := stepO_len hs2 g1 g2 g3
            subst hxy
            clear hf hf' hs1 hs2
            go_wp2_with fail
            refine Hs1.out.mono ?_
            rintro e w5 ⟨rfl, hL5, hk5⟩
            have HL5 := Lib.hid hL5
            have HX5 := Lib.hid (hk5 X _ HX.out)
            have HY5 := Lib.hid (hk5 Y _ HY.out)
            clear hL5 hk5
            go_wp2_with fail
            refine (Hs2.out w5 HL5.out).mono ?_
            rintro e w6 ⟨rfl, hL6, hk6⟩
            have HL6 := Lib.hid hL6
            have hX6 := hk6 X _ HX5.out
            have hY6 := hk6 Y _ HY5.out
            have hX0 := hX6.cell 0
            have hX1 := hX6.cell 1
            have hY0 := hY6.cell 0
            have hY1 := hY6.cell 1
            clear hL6 hk6 hX6 hY6
            have q1 : IntKind.i64.wrap ((x0 : Int) + 1) = (x0 : Int) + 1 := IntWalk.i64_in _ (by omega)
            have q2 : IntKind.i64.wrap ((x1 : Int) + 1) = (x1 : Int) + 1 := IntWalk.i64_in _ (by omega)
            have q3 : IntKind.i64.wrap ((y1 : Int) + 1) = (y1 : Int) + 1 := IntWalk.i64_in _ (by omega)
            go_wp2_with fail
            go_quiet (fail)
            clear q1 q2 q3
            go_wp2_with (first | ((with_reducible refine wpList_cut row270 rfl _ _ _ rfl (some ⟨bx, ox, none⟩) xs.length cx 1 xs.length rfl Hx1.out (Nat.le_refl _) hcx1 (.inl ?_) (.inr ⟨rfl, rfl⟩) ?_); (rfl); intro A2 c2 hc2 hs2; have Hcx := Lib.hid (hs2 _ encP w2 xs rfl Hxs.out); clear hs2) | ((with_reducible refine wpList_cut row270 rfl _ _ _ rfl (some ⟨by', oy, none⟩) ys.length cy 1 ys.length rfl Hy1.out (Nat.le_refl _) hcy1 (.inl ?_) (.inr ⟨rfl, rfl⟩) ?_); (rfl); intro A3 c3 hc3 hs3; have Hcy := Lib.hid (hs3 _ encP w2 ys rfl Hys.out); clear hs3))
            have k1 := tail_cut hx0 Hxe.out Hcx.out
            have k2 := tail_cut hy0 Hye.out Hcy.out
            refine ⟨⟨f', xs', ys', s2, x0 + 1, x1 + 1, y1 + 1, k1, k2, by go_num, by go_num, by go_num, HL6.out.grow (Ext.drewN _ _), Hf2.out, g4, g5, g6, by omega, by omega, by omega⟩, by simp [lenV]; omega⟩
          · obtain ⟨f', b1, b2, hf'⟩ := loomO_ne hf hxy
            have Hf2 := Lib.hid hf'
            have hne : ((x0 : Int) == (y0 : Int)) = false := by rw [beq_eq_false_iff_ne]; omega
            clear hf hf'
            by_cases hlt : x0 < y0
            · go_wp2_with ((with_reducible refine wpList_cut row270 rfl _ _ _ rfl (some ⟨bx, ox, none⟩) xs.length cx 1 xs.length rfl Hx1.out (Nat.le_refl _) hcx1 (.inl ?_) (.inr ⟨rfl, rfl⟩) ?_); (rfl); intro A2 c2 hc2 hs2; have Hcx := Lib.hid (hs2 _ encP w2 xs rfl Hxs.out); clear hs2)
              have hf2 := Hf2.out
              rw [if_pos (by omega), if_neg (by omega)] at hf2
              have k1 := tail_cut hx0 Hxe.out Hcx.out
              exact ⟨⟨f', xs', ys, s, iN, jN, kN, k1, Hys.out, by go_num, by go_num, by go_num, HL2.out, by rw [Hye.out]; exact hf2, hbs, hos, hts, hi, hj, hk⟩, by simp [lenV]; omega⟩
            · go_wp2_with ((with_reducible refine wpList_cut row270 rfl _ _ _ rfl (some ⟨by', oy, none⟩) ys.length cy 1 ys.length rfl Hy1.out (Nat.le_refl _) hcy1 (.inl ?_) (.inr ⟨rfl, rfl⟩) ?_); (rfl); intro A3 c3 hc3 hs3; have Hcy := Lib.hid (hs3 _ encP w2 ys rfl Hys.out); clear hs3)
              have hf2 := Hf2.out
              rw [if_neg (by omega), if_pos (by omega)] at hf2
              have k2 := tail_cut hy0 Hye.out Hcy.out
              exact ⟨⟨f', xs, ys', s, iN, jN, kN, Hxs.out, k2, by go_num, by go_num, by go_num, HL2.out, by rw [Hxe.out]; exact hf2, hbs, hos, hts, hi, hj, hk⟩, by simp [lenV]; omega⟩
      · have hse := loomO_end Hf.out (.inr (List.length_eq_zero_iff.1 (by omega)))
        subst hse
        obtain ⟨_, _, z0, z1, z2, pv, vs, hB, hz0, hz1, hz2, _, _⟩ := HL.out
        obtain ⟨B0, d0, rfl, -⟩ := hz0.open_
        obtain ⟨B1, d1, rfl, -⟩ := hz1.open_
        obtain ⟨B2, d2, rfl, -⟩ := hz2.open_
        have hc0 := hB.cell 0
        have hc1 := hB.cell 1
        have hc2 := hB.cell 2
        clear hB hz0 hz1 hz2
        have Hcall := Lib.hid (c173s w2 w3.drew w2.heap.size s s' s.b.length s.o.length s.t.length (HL.out.grow (Ext.drew _)) hbs hos hts Hlast.out _ _ _ rfl rfl rfl)
        go_wp2_with fail
        go_still_tail 16, (by kernel_rfl)
        change wpList _ _ _ _ _ w3.drew
        generalize w3.drew = w4 at *
        go_wp2_with fail
        refine Hcall.out.mono ?_
        rintro e w6 ⟨rfl, hL6, -⟩
        obtain ⟨he6, _, z0', z1', z2', pv', vs', hB', -, -, -, hp6, hok6⟩ := hL6
        have hc3 := hB'.cell 3
        have Hfin := Lib.hid (show Own encV 4 278 w.heap.size w6 pv' vs' ∧ PartsOk w.heap.size w6 vs' s'.ps ∧ Ext w w6 from ⟨hp6.lower (He1.out.trans He2.out).size, hok6.lower (He1.out.trans He2.out).size, (He1.out.trans He2.out).trans he6⟩)
        clear hp6 hok6 hB' he6 hc0 hc1 hc2
        go_wp2_with fail
        go_ret2
        exact ⟨pv', vs', rfl, Hfin.out⟩
    · have hse := loomO_end Hf.out (.inl (List.length_eq_zero_iff.1 (by omega)))
      subst hse
      obtain ⟨_, _, z0, z1, z2, pv, vs, hB, hz0, hz1, hz2, _, _⟩ := HL.out
      obtain ⟨B0, d0, rfl, -⟩ := hz0.open_
      obtain ⟨B1, d1, rfl, -⟩ := hz1.open_
      obtain ⟨B2, d2, rfl, -⟩ := hz2.open_
      have hc0 := hB.cell 0
      have hc1 := hB.cell 1
      have hc2 := hB.cell 2
      clear hB hz0 hz1 hz2
      have Hcall := Lib.hid (c173s w2 w3.drew w2.heap.size s s' s.b.length s.o.length s.t.length (HL.out.grow (Ext.drew _)) hbs hos hts Hlast.out _ _ _ rfl rfl rfl)
      go_wp2_with fail
      go_still_tail 16, (by kernel_rfl)
      change wpList _ _ _ _ _ w3.drew
      generalize w3.drew = w4 at *
      go_wp2_with fail
      refine Hcall.out.mono ?_
      rintro e w6 ⟨rfl, hL6, -⟩
      obtain ⟨he6, _, z0', z1', z2', pv', vs', hB', -, -, -, hp6, hok6⟩ := hL6
      have hc3 := hB'.cell 3
      have Hfin := Lib.hid (show Own encV 4 278 w.heap.size w6 pv' vs' ∧ PartsOk w.heap.size w6 vs' s'.ps ∧ Ext w w6 from ⟨hp6.lower (He1.out.trans He2.out).size, hok6.lower (He1.out.trans He2.out).size, (He1.out.trans He2.out).trans he6⟩)
      clear hp6 hok6 hB' he6 hc0 hc1 hc2
      go_wp2_with fail
      go_ret2
      exact ⟨pv', vs', rfl, Hfin.out⟩
end Go.Proofs.YtaeleagkpgbmaaaGreatDoor
