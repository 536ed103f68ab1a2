/- Merges in which each path is one snapshot's file: the law by itself. -/
import Derived.Test.YtaeleagkpgbmaaaGreatDoorFound
import Derived.Test.YtaeleagkpgbmaaaGreatDoorSorted
import Derived.Test.YtaeleagkpgbmaaaGreatDoorTimes0
import Derived.Test.YtaeleagkpgbmaaaGreatDoorEval
namespace Go.Proofs.YtaeleagkpgbmaaaGreatDoor
open Go.RowKit
set_option linter.unusedSimpArgs false
set_option linter.unusedVariables false

/-- these outcomes keep just these files -/
def KeepAll (rs : List OutR) (K : List FileD) : Prop :=
  rs.length = K.length ∧ ∀ (i : Nat) (r : OutR) (f : FileD), rs[i]? = some r → K[i]? = some f → r.kind = 1 ∧ r.path = f.path ∧ r.id = f.id ∧ bitsF r.stamp = bitsF f.stamp
theorem blockF_id {rs : List OutR} (h : ∀ (j k : Nat) (q r : OutR), j < k → rs[j]? = some q → rs[k]? = some r → underB r.path q.path = false) : blockF rs = rs := by
  unfold blockF bk
  apply List.ext_getElem?
  intro k
  rw [List.getElem?_mapIdx]
  cases hr : rs[k]? with
  | none => rfl
  | some r =>
    simp only [Option.map_some]
    have : blkR (rs.take k) r = r := by
      unfold blkR
      rw [if_neg]
      rw [Bool.not_eq_true, Bool.eq_false_iff]
      intro ha
      obtain ⟨q, hq, hu⟩ := List.any_eq_true.1 ha
      obtain ⟨j, hj⟩ := List.getElem?_of_mem hq
      rw [List.getElem?_take] at hj
      split at hj
      · rename_i hjk
        rw [h j k q r hjk hj hr] at hu; cases hu
      · cases hj
    split
    · rw [this]
    · rfl
theorem checkP_ne {p : ByteArray} (h : checkP p = 0) : p.data.toList ≠ [] := by
  intro e
  have : p = ⟨#[]⟩ := ba_ext (by rw [e])
  subst this
  have e2 : checkP ⟨#[]⟩ ≠ 0 := by
    have : (checkP ⟨#[]⟩ == 0) = false := by kernel_rfl
    intro h
    rw [h] at this
    cases this
  exact e2 h
theorem keep_list {dec : ThreeD → DecR} {S : MS} {K : List FileD} (hn : S.ps.Nodup) (hK : Asc (K.map (·.path))) (hsub : ∀ f ∈ K, f.path ∈ S.ps) (hth : ∀ q ∈ S.ps, (dec (S.m q)).there = (fileAt K q).isSome) :
    keepD dec S (sortP S.ps) = K.map fun f => outR (S.m f.path) (dec (S.m f.path)) := by
  have e1 : ∀ l : List ByteArray, keepD dec S l = (l.filter fun q => (dec (S.m q)).there).map fun q => outR (S.m q) (dec (S.m q)) := by
    intro l
    induction l with
    | nil => rfl
    | cons q r ih =>
      unfold keepD at ih ⊢
      rw [List.flatMap_cons, ih, List.filter_cons]
      cases (dec (S.m q)).there <;> rfl
  have e2 : ((sortP S.ps).filter fun q => (dec (S.m q)).there) = K.map (·.path) := by
    refine Asc.eq ((sortP_asc hn).filter _) hK fun q => ?_
    rw [List.mem_filter, sortP_mem]
    constructor
    · rintro ⟨h1, h2⟩
      rw [hth q h1] at h2
      obtain ⟨f, hf⟩ := Option.isSome_iff_exists.1 h2
      obtain ⟨h3, h4⟩ := fileAt_some hf
      exact List.mem_map.2 ⟨f, h3, h4⟩
    · intro h
      obtain ⟨f, hf, rfl⟩ := List.mem_map.1 h
      have h1 := hsub f hf
      refine ⟨h1, ?_⟩
      rw [hth _ h1]
      rw [fileAt_mem hK.nodup hf]; rfl
  rw [e1, e2, List.map_map]
  rfl
/-- what is asked of each path -/
def OneOf (bl : List BlobD) (K : List FileD) (t : ThreeD) (q : ByteArray) : Prop :=
  ∃ d, decideO bl t = some d ∧ d.kind = 1 ∧ d.err = 0 ∧ d.there = (fileAt K q).isSome ∧ ∀ f, fileAt K q = some f → d.id = f.id ∧ bitsF (whenF t.h0 t.h1 t.h2 t.s0 t.s1 t.s2) = bitsF f.stamp
theorem sides_gen {bl : List BlobD} {l0 l1 l2 K : List FileD} (h0 : checkT l0 = 0) (h1 : checkT l1 = 0) (h2 : checkT l2 = 0) (hK : checkT K = 0)
    (hsub : ∀ f ∈ K, f.path ∈ l0.map (·.path) ∨ f.path ∈ l1.map (·.path) ∨ f.path ∈ l2.map (·.path))
    (H : ∀ q, OneOf bl K (tOf l0 l1 l2 q) q) :
    (∃ rs, mergeF (decT bl) l0 l1 l2 = (rs, 0) ∧ KeepAll rs K) ∧ ∀ p, p ∈ (sK l0 l1 l2 3).ps → decideO bl ((sK l0 l1 l2 3).m p) = some (decT bl ((sK l0 l1 l2 3).m p)) ∧ (decT bl ((sK l0 l1 l2 3).m p)).kind ≠ 4 := by
  obtain ⟨a0, -⟩ := checkT_ok h0
  obtain ⟨a1, -⟩ := checkT_ok h1
  obtain ⟨a2, -⟩ := checkT_ok h2
  obtain ⟨aK, cK, uK, -⟩ := checkT_ok hK
  obtain ⟨hm, hp⟩ := sK_all a0.nodup a1.nodup a2.nodup
  have hdec : ∀ q, ∃ d, decideO bl ((sK l0 l1 l2 3).m q) = some d ∧ decT bl ((sK l0 l1 l2 3).m q) = d ∧ d.kind = 1 ∧ d.err = 0 ∧ d.there = (fileAt K q).isSome ∧ ∀ f, fileAt K q = some f → d.id = f.id ∧ bitsF (outR ((sK l0 l1 l2 3).m q) d).stamp = bitsF f.stamp := by
    intro q
    obtain ⟨d, e1, e2, e3, e4, e5⟩ := H q
    rw [hm q]
    exact ⟨d, e1, by unfold decT; rw [e1]; rfl, e2, e3, e4, e5⟩
  refine ⟨?_, fun p _ => ?_⟩
  · have hkl := keep_list (dec := decT bl) (S := sK l0 l1 l2 3) (K := K) (sK_nodup l0 l1 l2 3) aK (fun f hf => (hp _).2 (hsub f hf)) (fun q _ => by
      obtain ⟨d, e1, e2, _, _, e5, _⟩ := hdec q
      rw [e2, e5])
    have herr : errD (decT bl) (sK l0 l1 l2 3) (sortP (sK l0 l1 l2 3).ps) = 0 := errD_zero fun q _ => by
      obtain ⟨d, e1, e2, _, e4, _⟩ := hdec q
      rw [e2, e4]
    have hch : chk3 l0 l1 l2 = 0 := by unfold chk3; rw [h0, h1, h2]; rfl
    have hka : KeepAll (K.map fun f => outR ((sK l0 l1 l2 3).m f.path) (decT bl ((sK l0 l1 l2 3).m f.path))) K := by
      refine ⟨by simp, fun i r f hr hf => ?_⟩
      rw [List.getElem?_map, hf] at hr
      simp only [Option.map_some, Option.some.injEq] at hr
      subst hr
      obtain ⟨d, e1, e2, e3, e4, e5, e6⟩ := hdec f.path
      rw [e2]
      obtain ⟨e7, e8⟩ := e6 f (fileAt_mem aK.nodup (List.mem_of_getElem? hf))
      exact ⟨e3, by rw [hm]; rw [tOf_eq]; rfl, e7, e8⟩
    refine ⟨_, ?_, hka⟩
    unfold mergeF
    rw [hch, herr, hkl, if_neg (by simp), if_neg (by simp), blockF_id]
    intro j k q r hjk hq hr
    rw [List.getElem?_map] at hq hr
    obtain ⟨f, hf, rfl⟩ := Option.map_eq_some_iff.1 hq
    obtain ⟨g, hg, rfl⟩ := Option.map_eq_some_iff.1 hr
    have e1 : ∀ x : FileD, (outR ((sK l0 l1 l2 3).m x.path) (decT bl ((sK l0 l1 l2 3).m x.path))).path = x.path := fun x => by rw [hm, tOf_eq]; rfl
    rw [e1, e1]
    refine asc_under aK (fun p hp => ?_) (fun i f g hf hg => ?_) j k f.path g.path hjk (by rw [List.getElem?_map, hf]; rfl) (by rw [List.getElem?_map, hg]; rfl)
    · obtain ⟨x, hx, rfl⟩ := List.mem_map.1 hp
      exact checkP_ne (cK x hx)
    · rw [List.getElem?_map] at hf hg
      obtain ⟨x, hx, rfl⟩ := Option.map_eq_some_iff.1 hf
      obtain ⟨y, hy, rfl⟩ := Option.map_eq_some_iff.1 hg
      exact uK i x y hx hy
  · obtain ⟨d, e1, e2, e3, _⟩ := hdec p
    rw [e2, e1, e3]
    exact ⟨rfl, by omega⟩
def okAll (l : List FileD) : Prop := ∀ f ∈ l, okStamp f.stamp
theorem fileAt_ok {l : List FileD} (h : okAll l) {q : ByteArray} {f : FileD} (hf : fileAt l q = some f) : f.stamp < 18446744073709551616 := h f (fileAt_some hf).1
/-- ours against the base twice -/
theorem side_010 {b o : List FileD} (hb : okAll b) (ho : okAll o) (bl : List BlobD) (q : ByteArray) : OneOf bl o (tOf b o b q) q := by
  unfold OneOf
  rw [tOf_eq]
  simp only
  refine ⟨⟨1, idO (fileAt o q), none, hasO (fileAt o q), 0⟩, ?_, rfl, rfl, rfl, fun f hf => ?_⟩
  · unfold decideO
    rw [if_pos (by simp [sm12, sm02])]
  · rw [hf]
    refine ⟨rfl, ?_⟩
    have kf := fileAt_ok ho hf
    cases hB : fileAt b q with
    | none => simp [whenF, hasO, stO, bitsF_idem]
    | some g =>
      have kg := fileAt_ok hb hB
      simp only [hasO, stO, Option.isSome_some, whenF, Bool.true_eq_false, if_false, true_and, cmpF_zero kf kg, cmpF_zero kg kg, if_true]
      split
      · rename_i h; rw [bitsF_idem, h]
      · rw [bitsF_idem]
/-- the base twice against theirs -/
theorem side_001 {b o : List FileD} (hb : okAll b) (ho : okAll o) (bl : List BlobD) (q : ByteArray) : OneOf bl o (tOf b b o q) q := by
  unfold OneOf
  rw [tOf_eq]
  simp only
  refine ⟨⟨1, idO (fileAt o q), none, hasO (fileAt o q), 0⟩, ?_, rfl, rfl, rfl, fun f hf => ?_⟩
  · unfold decideO
    by_cases h : (sm12 ⟨q, 0, zeroId, 0, .slice none 0 0, hasO (fileAt b q), hasO (fileAt b q), hasO (fileAt o q), idO (fileAt b q), idO (fileAt b q), idO (fileAt o q), stO (fileAt b q), stO (fileAt b q), stO (fileAt o q)⟩) = true
    · have h' := h
      unfold sm12 at h'
      simp only [Bool.and_eq_true, beq_iff_eq, decide_eq_true_eq] at h'
      rw [if_pos (by rw [h]; rfl)]
      simp only [h'.1, h'.2]
    · have h2 : sm02 ⟨q, 0, zeroId, 0, .slice none 0 0, hasO (fileAt b q), hasO (fileAt b q), hasO (fileAt o q), idO (fileAt b q), idO (fileAt b q), idO (fileAt o q), stO (fileAt b q), stO (fileAt b q), stO (fileAt o q)⟩ = false := by
        unfold sm12 at h
        unfold sm02
        simpa using h
      rw [Bool.not_eq_true] at h
      rw [if_neg (by rw [h, h2]; simp), if_pos (by simp [sm01])]
  · rw [hf]
    refine ⟨rfl, ?_⟩
    have kf := fileAt_ok ho hf
    cases hB : fileAt b q with
    | none => simp [whenF, hasO, stO, bitsF_idem]
    | some g =>
      have kg := fileAt_ok hb hB
      simp only [hasO, stO, Option.isSome_some, whenF, Bool.true_eq_false, if_false, true_and, cmpF_zero kf kg, cmpF_zero kg kg, if_true]
      exact bitsF_idem _
/-- both alike -/
theorem side_011 {b o : List FileD} (hb : okAll b) (ho : okAll o) (bl : List BlobD) (q : ByteArray) : OneOf bl o (tOf b o o q) q := by
  unfold OneOf
  rw [tOf_eq]
  simp only
  refine ⟨⟨1, idO (fileAt o q), none, hasO (fileAt o q), 0⟩, ?_, rfl, rfl, rfl, fun f hf => ?_⟩
  · unfold decideO
    rw [if_pos (by simp [sm12, sm02])]
  · rw [hf]
    refine ⟨rfl, ?_⟩
    have kf := fileAt_ok ho hf
    have hL := (latest_two kf kf).1
    unfold whenF
    have key : ∀ (c d : Prop) [Decidable c] [Decidable d], bitsF (if c then bitsF f.stamp else if d then bitsF f.stamp else latestF [f.stamp, f.stamp]) = bitsF f.stamp := by
      intro c d _ _
      by_cases h1 : c
      · rw [if_pos h1]; exact bitsF_idem _
      · by_cases h2 : d
        · rw [if_neg h1, if_pos h2]; exact bitsF_idem _
        · rw [if_neg h1, if_neg h2]
          rcases hL with h | h <;> exact h
    simp only [hasO, stO, Option.isSome_some, Bool.true_eq_false, if_false]
    exact key _ _
end Go.Proofs.YtaeleagkpgbmaaaGreatDoor
