/- Lists of paths in their order; what lies under another path. -/
import Derived.Test.YtaeleagkpgbmaaaGreatDoorSortP
import Derived.Test.YtaeleagkpgbmaaaGreatDoorTree
namespace Go.Proofs.YtaeleagkpgbmaaaGreatDoor
open Go.RowKit
set_option linter.unusedSimpArgs false
set_option linter.unusedVariables false

theorem cmpP_swap (a b : ByteArray) : cmpP b a = - cmpP a b := cmpL_swap _ _
theorem cmpP_trans {a b c : ByteArray} (h1 : cmpP a b < 0) (h2 : cmpP b c < 0) : cmpP a c < 0 := cmpL_trans h1 h2
theorem cmpP_irr (a : ByteArray) : ¬ cmpP a a < 0 := by
  have := cmpL_self (splitP a)
  unfold cmpP; omega
/-- strictly ascending -/
def Asc (ps : List ByteArray) : Prop := ps.Pairwise fun a b => cmpP a b < 0
theorem Asc.nodup {ps : List ByteArray} (h : Asc ps) : ps.Nodup := List.Pairwise.imp (fun {a b} (h : cmpP a b < 0) (e : a = b) => cmpP_irr b (e ▸ h)) h
theorem Asc.eq : ∀ {xs ys : List ByteArray}, Asc xs → Asc ys → (∀ q, q ∈ xs ↔ q ∈ ys) → xs = ys
  | [], [], _, _, _ => rfl
  | [], y :: ys, _, _, h => by have := (h y).2 List.mem_cons_self; cases this
  | x :: xs, [], _, _, h => by have := (h x).1 List.mem_cons_self; cases this
  | x :: xs, y :: ys, hx, hy, h => by
    have hx' := hx
    have hy' := hy
    unfold Asc at hx hy
    rw [List.pairwise_cons] at hx hy
    have e : x = y := by
      rcases List.mem_cons.1 ((h x).1 List.mem_cons_self) with e | e
      · exact e
      · rcases List.mem_cons.1 ((h y).2 List.mem_cons_self) with e' | e'
        · exact e'.symm
        · exact absurd (cmpP_trans (hx.1 y e') (hy.1 x e)) (cmpP_irr _)
    subst e
    have hnx := hx'.nodup
    have hny := hy'.nodup
    rw [List.nodup_cons] at hnx hny
    rw [Asc.eq (xs := xs) (ys := ys) hx.2 hy.2 (fun q => by
      constructor
      · intro hq
        rcases List.mem_cons.1 ((h q).1 (List.mem_cons_of_mem _ hq)) with e | e
        · subst e; exact absurd hq hnx.1
        · exact e
      · intro hq
        rcases List.mem_cons.1 ((h q).2 (List.mem_cons_of_mem _ hq)) with e | e
        · subst e; exact absurd hq hny.1
        · exact e)]
theorem sortP_asc {ps : List ByteArray} (hn : ps.Nodup) : Asc (sortP ps) := by
  have hs : (sortP ps).Pairwise fun a b => (!decide (cmpP b a < 0)) = true := by
    unfold sortP
    refine List.pairwise_mergeSort (fun a b c h1 h2 => ?_) (fun a b => ?_) ps
    · simp only [Bool.not_eq_true', decide_eq_false_iff_not] at *
      exact cmpP_nlt h2 h1
    · simp only [Bool.or_eq_true, Bool.not_eq_true', decide_eq_false_iff_not]
      have := cmpP_swap a b
      omega
  have hn' : (sortP ps).Nodup := (sortP_perm ps).nodup_iff.2 hn
  unfold Asc
  refine List.Pairwise.imp ?_ (hs.and hn')
  intro a b ⟨h, hne⟩
  simp only [Bool.not_eq_true', decide_eq_false_iff_not] at h
  rcases Int.lt_trichotomy (cmpP a b) 0 with h2 | h2 | h2
  · exact h2
  · exact absurd (cmpP_zero h2) hne
  · have := cmpP_swap a b; omega
theorem sortP_mem {ps : List ByteArray} {q : ByteArray} : q ∈ sortP ps ↔ q ∈ ps := (sortP_perm ps).mem_iff
theorem Asc.filter {ps : List ByteArray} (h : Asc ps) (p : ByteArray → Bool) : Asc (ps.filter p) := List.Pairwise.filter p h

/-! ### what tree.Check says -/
theorem checkFrom_ok : ∀ {l : List FileD} {o : Option ByteArray}, checkFrom o l = 0 →
    Asc (l.map (·.path)) ∧ (∀ f ∈ l, checkP f.path = 0) ∧ (∀ g, o = some g → ∀ f ∈ l, cmpP g f.path < 0) ∧ (∀ g f, o = some g → l[0]? = some f → underB f.path g = false) ∧ ∀ i f g, l[i + 1]? = some f → l[i]? = some g → underB f.path g.path = false
  | [], o, _ => ⟨List.Pairwise.nil, (fun f h => by cases h), (fun g _ f h => by cases h), (fun g f _ h => by cases h), fun i f g h => by cases h⟩
  | x :: r, o, h => by
    rw [checkFrom_cons] at h
    by_cases hc : checkP x.path = 0
    · rw [if_neg (by simpa using hc)] at h
      have key : (∀ g, o = some g → cmpP g x.path < 0 ∧ underB x.path g = false) ∧ checkFrom (some x.path) r = 0 := by
        cases o with
        | none => exact ⟨(fun g hg => by cases hg), h⟩
        | some g =>
          simp only at h
          split at h
          · cases h
          · rename_i hlt
            split at h
            · cases h
            · rename_i hu
              refine ⟨fun g' hg' => ?_, h⟩
              cases hg'
              exact ⟨by omega, by simpa using hu⟩
      obtain ⟨hg, hr⟩ := key
      obtain ⟨h1, h2, h3, h4, h5⟩ := checkFrom_ok hr
      refine ⟨?_, ?_, ?_, ?_, ?_⟩
      · unfold Asc at h1 ⊢
        rw [List.map_cons, List.pairwise_cons]
        refine ⟨fun q hq => ?_, h1⟩
        obtain ⟨f, hf, rfl⟩ := List.mem_map.1 hq
        exact h3 x.path rfl f hf
      · intro f hf
        rcases List.mem_cons.1 hf with rfl | hf
        · exact hc
        · exact h2 f hf
      · intro g hgo f hf
        rcases List.mem_cons.1 hf with rfl | hf
        · exact (hg g hgo).1
        · exact cmpP_trans (hg g hgo).1 (h3 x.path rfl f hf)
      · intro g f hgo hf
        simp only [List.getElem?_cons_zero, Option.some.injEq] at hf
        subst hf
        exact (hg g hgo).2
      · intro i f g hf hg'
        cases i with
        | zero =>
          simp only [List.getElem?_cons_zero, Option.some.injEq] at hg'
          subst hg'
          exact h4 x.path f rfl (by simpa using hf)
        | succ i => exact h5 i f g (by simpa using hf) (by simpa using hg')
    · rw [if_pos (by simpa using hc)] at h
      exact absurd h hc
theorem checkT_ok {l : List FileD} (h : checkT l = 0) : Asc (l.map (·.path)) ∧ (∀ f ∈ l, checkP f.path = 0) ∧ (∀ i f g, l[i + 1]? = some f → l[i]? = some g → underB f.path g.path = false) ∧ l.length ≤ 256 := by
  unfold checkT at h
  split at h
  · cases h
  · obtain ⟨h1, h2, _, _, h5⟩ := checkFrom_ok h
    exact ⟨h1, h2, h5, by omega⟩

/-! ### under -/
theorem namesL_app : ∀ (s t : List UInt8), namesL (s ++ 47 :: t) = namesL s ++ namesL t
  | [], t => by simp [namesL_cons, namesL]
  | c :: s, t => by
    rw [List.cons_append, namesL_cons, namesL_cons, namesL_app s t]
    split
    · rfl
    · cases hn : namesL s with
      | nil => exact absurd hn (namesL_ne s)
      | cons x xs => rfl
theorem unL_app : ∀ {a r : List (List UInt8)}, a ≠ [] → r ≠ [] → unL (a ++ r) = unL a ++ 47 :: unL r
  | [], _, h, _ => absurd rfl h
  | [x], r, _, hr => by
    cases r with
    | nil => exact absurd rfl hr
    | cons y ys => rfl
  | x :: y :: a, r, _, hr => by
    have ih := unL_app (a := y :: a) (r := r) (by simp) hr
    show x ++ 47 :: unL ((y :: a) ++ r) = (x ++ 47 :: unL (y :: a)) ++ 47 :: unL r
    rw [ih]; simp
theorem splitP_full {s : ByteArray} (h : s.data.toList ≠ []) : (splitP s).map (·.data.toList) = namesL s.data.toList := by rw [splitP_names, if_neg h]
theorem hasPrefix_iff {s p : List UInt8} : Lib.hasPrefix s p = true ↔ ∃ t, s = p ++ t := by
  unfold Lib.hasPrefix
  constructor
  · intro h
    obtain ⟨t, ht⟩ := List.isPrefixOf_iff_prefix.1 h
    exact ⟨t, ht.symm⟩
  · rintro ⟨t, rfl⟩
    simp
theorem slB_app (f : ByteArray) : (f ++ slB).data.toList = f.data.toList ++ [47] := by
  have : (f ++ slB).data = f.data ++ slB.data := ByteArray.data_append ..
  rw [this]; simp [slB]
/-- under a path: its names, and some more -/
theorem under_iff {p f : ByteArray} (hp : p.data.toList ≠ []) (hf : f.data.toList ≠ []) : underB p f = true ↔ ∃ r, r ≠ [] ∧ splitP p = splitP f ++ r := by
  have hfe : f.toList.isEmpty = false := by rw [Lib.toList_data]; simpa [List.isEmpty_iff] using hf
  unfold underB
  rw [hfe]
  simp only [Bool.false_eq_true, if_false]
  rw [hasPrefix_iff, slB_app]
  constructor
  · rintro ⟨t, ht⟩
    have hn : namesL p.data.toList = namesL f.data.toList ++ namesL t := by rw [ht, List.append_assoc]; exact namesL_app _ _
    rw [← splitP_full hp, ← splitP_full hf] at hn
    have hl : (splitP f).length ≤ (splitP p).length := by
      have := congrArg List.length hn
      simp at this; omega
    refine ⟨(splitP p).drop (splitP f).length, ?_, ?_⟩
    · intro e
      have h2 := congrArg List.length hn
      have h3 := congrArg List.length e
      simp at h2 h3
      have := List.length_pos_iff.2 (namesL_ne t)
      omega
    · have h2 := congrArg (List.take (splitP f).length) hn
      rw [List.take_append_of_le_length (by simp), ← List.map_take, ← List.map_take, List.take_length] at h2
      have h3 : (splitP p).take (splitP f).length = splitP f := by
        have hinj : ∀ {a b : List ByteArray}, a.map (·.data.toList) = b.map (·.data.toList) → a = b := by
          intro a
          induction a with
          | nil => intro b h; cases b with
            | nil => rfl
            | cons y ys => cases h
          | cons x xs ih => intro b h; cases b with
            | nil => cases h
            | cons y ys =>
              rw [List.map_cons, List.map_cons] at h
              injection h with h1 h2
              rw [ba_ext h1, ih h2]
        exact hinj h2
      conv => lhs; rw [← List.take_append_drop (splitP f).length (splitP p), h3]
  · rintro ⟨r, hr, he⟩
    have hn := congrArg (List.map (fun s : ByteArray => s.data.toList)) he
    rw [List.map_append, splitP_full hp, splitP_full hf] at hn
    have h1 := congrArg unL hn
    rw [unL_names, unL_app (namesL_ne _) (by simpa using hr), unL_names] at h1
    exact ⟨unL (r.map fun s : ByteArray => s.data.toList), by rw [h1]; simp⟩
theorem pre_between : ∀ {a x q r : List ByteArray}, cmpL a x < 0 → (cmpL x q < 0 ∨ x = q) → q = a ++ r → ∃ r', r' ≠ [] ∧ x = a ++ r'
  | [], x, q, r, h1, _, _ => by
    refine ⟨x, ?_, rfl⟩
    rintro rfl
    simp [cmpL] at h1
  | y :: a, [], q, r, h1, _, _ => by simp [cmpL] at h1
  | y :: a, z :: x, q, r, h1, h2, hq => by
    subst hq
    rw [cmpL] at h1
    have hyz : cmpS y z = 0 := by
      by_cases h : cmpS y z = 0
      · exact h
      · rw [if_neg h] at h1
        rcases h2 with h2 | h2
        · rw [List.cons_append, cmpL, cmpS_swap y z, if_neg (by omega)] at h2
          omega
        · rw [List.cons_append] at h2
          injection h2 with e1 e2
          rw [e1, cmpS_self] at h
          exact absurd rfl h
    rw [if_pos hyz] at h1
    have := cmpS_zero hyz
    subst this
    obtain ⟨r', hr', e⟩ := pre_between (a := a) (x := x) (q := a ++ r) (r := r) h1 (by
      rcases h2 with h2 | h2
      · rw [List.cons_append, cmpL, if_pos (cmpS_self y)] at h2
        exact .inl h2
      · rw [List.cons_append] at h2
        injection h2 with e1 e2
        exact .inr e2) rfl
    exact ⟨r', hr', by rw [e]; rfl⟩
/-- a list in its order in which none lies under the one ahead of it: none lies under any -/
theorem asc_under {ps : List ByteArray} (ha : Asc ps) (hne : ∀ p ∈ ps, p.data.toList ≠ []) (hc : ∀ i f g, ps[i + 1]? = some f → ps[i]? = some g → underB f g = false) :
    ∀ (j k : Nat) (g f : ByteArray), j < k → ps[j]? = some g → ps[k]? = some f → underB f g = false := by
  intro j k g f hjk hg hf
  rw [Bool.eq_false_iff]
  intro hu
  obtain ⟨hkl, rfl⟩ := List.getElem?_eq_some_iff.1 hf
  obtain ⟨hjl, rfl⟩ := List.getElem?_eq_some_iff.1 hg
  have hx : ps[j + 1]? = some ps[j + 1] := List.getElem?_eq_getElem (by omega)
  obtain ⟨r, hr, he⟩ := (under_iff (hne _ (List.getElem_mem hkl)) (hne _ (List.getElem_mem hjl))).1 hu
  have h1 : cmpP ps[j] ps[j + 1] < 0 := List.pairwise_iff_getElem.1 ha j (j + 1) hjl (by omega) (by omega)
  have h2 : cmpL (splitP ps[j + 1]) (splitP ps[k]) < 0 ∨ splitP ps[j + 1] = splitP ps[k] := by
    rcases Nat.lt_or_ge (j + 1) k with h | h
    · exact .inl (List.pairwise_iff_getElem.1 ha (j + 1) k (by omega) hkl h)
    · obtain rfl : k = j + 1 := by omega
      exact .inr rfl
  obtain ⟨r', hr', e'⟩ := pre_between h1 h2 he
  have := (under_iff (hne _ (List.getElem_mem (by omega))) (hne _ (List.getElem_mem hjl))).2 ⟨r', hr', e'⟩
  rw [hc j _ _ hx hg] at this
  cases this
end Go.Proofs.YtaeleagkpgbmaaaGreatDoor
