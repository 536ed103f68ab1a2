/- The files that a clean merge leaves are files that stand: the law by itself. -/
import Derived.Test.YtaeleagkpgbmaaaGreatDoorSides0
namespace Go.Proofs.YtaeleagkpgbmaaaGreatDoor
open Go.RowKit
set_option linter.unusedSimpArgs false
set_option linter.unusedVariables false

/-- what the law asks of each path where there is no blob -/
theorem decide_nil (t : ThreeD) : ∃ d, decideO [] t = some d ∧ d.kind ≠ 4 := by
  have h4 : ∀ i, lineI [] true i = .error 4 := fun i => lineI_err (bl := []) (id := i) (show (4 : Int) ≠ 0 by decide)
  have h5 : ∀ i, lineI [] false i = .ok [] := fun i => rfl
  have hw : ∃ r, weaveO [] t = some r ∧ r.kind ≠ 4 := by
    unfold weaveO
    cases h1 : t.h1 <;> cases h2 : t.h2 <;> cases h0 : t.h0 <;> simp only [Bool.and_self, Bool.and_true, Bool.and_false, Bool.false_eq_true, if_false, if_true, h4, h5]
    all_goals exact ⟨_, rfl, fun h => by cases h⟩
  obtain ⟨r, hr, hk⟩ := hw
  unfold decideO
  split
  · exact ⟨_, rfl, fun h => by cases h⟩
  · split
    · exact ⟨_, rfl, fun h => by cases h⟩
    · rw [hr]
      exact ⟨_, rfl, hk⟩
/-- the files of these outcomes -/
def fileR (r : OutR) : FileD := ⟨r.path, r.id, r.stamp⟩
def filesOf (rs : List OutR) : List FileD := rs.map fileR
theorem checkFrom_mk : ∀ {l : List FileD} {o : Option ByteArray}, Asc (l.map (·.path)) → (∀ f ∈ l, checkP f.path = 0) → (∀ i f g, l[i + 1]? = some f → l[i]? = some g → underB f.path g.path = false) →
    (∀ g f, o = some g → l[0]? = some f → cmpP g f.path < 0 ∧ underB f.path g = false) → checkFrom o l = 0
  | [], o, _, _, _, _ => checkFrom_nil o
  | x :: r, o, ha, hc, hu, ho => by
    have hr : checkFrom (some x.path) r = 0 := by
      have ha' := ha
      unfold Asc at ha'
      rw [List.map_cons, List.pairwise_cons] at ha'
      refine checkFrom_mk ha'.2 (fun f hf => hc f (List.mem_cons_of_mem _ hf)) (fun i f g hf hg => hu (i + 1) f g (by simpa using hf) (by simpa using hg)) fun g f hg hf => ?_
      cases hg
      exact ⟨ha'.1 _ (List.mem_map.2 ⟨f, List.mem_of_getElem? hf, rfl⟩), hu 0 f x (by simpa using hf) rfl⟩
    rw [checkFrom_cons, if_neg (by simpa using hc x List.mem_cons_self)]
    cases o with
    | none => exact hr
    | some g =>
      obtain ⟨h1, h2⟩ := ho g x rfl rfl
      simp only
      rw [if_neg (by omega), if_neg (by rw [h2]; simp)]
      exact hr
theorem checkT_mk {l : List FileD} (hl : l.length ≤ 256) (ha : Asc (l.map (·.path))) (hc : ∀ f ∈ l, checkP f.path = 0) (hu : ∀ i f g, l[i + 1]? = some f → l[i]? = some g → underB f.path g.path = false) : checkT l = 0 := by
  unfold checkT
  rw [if_neg (by omega)]
  exact checkFrom_mk ha hc hu fun g f h => by cases h
/-- none of them blocked: they are as they were, and none lies under one ahead of it -/
theorem blockF_clean {rs : List OutR} (h : ∀ r ∈ blockF rs, r.kind ≠ 4) : blockF rs = rs ∧ ∀ (j k : Nat) (q r : OutR), j < k → rs[j]? = some q → rs[k]? = some r → underB r.path q.path = false := by
  have key : ∀ (j k : Nat) (q r : OutR), j < k → rs[j]? = some q → rs[k]? = some r → underB r.path q.path = false := by
    intro j k q r hjk hq hr
    rw [Bool.eq_false_iff]
    intro hu
    have hkl := (List.getElem?_eq_some_iff.1 hr).1
    have hb : (blockF rs)[k]? = some (blkR (rs.take k) r) := by
      unfold blockF bk
      rw [List.getElem?_mapIdx, hr]
      simp [hkl]
    have ha : (rs.take k).any (fun q => underB r.path q.path) = true := List.any_eq_true.2 ⟨q, List.mem_of_getElem? (i := j) (by rw [List.getElem?_take, if_pos hjk]; exact hq), hu⟩
    have := h _ (List.mem_of_getElem? hb)
    unfold blkR at this
    rw [if_pos ha] at this
    exact this rfl
  exact ⟨blockF_id key, key⟩
theorem keepD_path {dec : ThreeD → DecR} {S : MS} : ∀ (l : List ByteArray), (∀ p ∈ l, (S.m p).path = p) → ((keepD dec S l).map (·.path)).Sublist l
  | [], _ => List.Sublist.refl _
  | p :: r, h => by
    have ih := keepD_path (dec := dec) (S := S) r (fun q hq => h q (List.mem_cons_of_mem _ hq))
    unfold keepD at ih ⊢
    rw [List.flatMap_cons, List.map_append]
    split
    · simp only [List.map_cons, List.map_nil, List.singleton_append]
      rw [show (outR (S.m p) (dec (S.m p))).path = p from h p List.mem_cons_self]
      exact ih.cons_cons _
    · exact ih.cons _
theorem addLS_len2 (l0 l1 l2 : List FileD) : (sK l0 l1 l2 3).ps.length ≤ l0.length + l1.length + l2.length := by
  have e : sK l0 l1 l2 3 = addLS 2 (addLS 1 (addLS 0 zeroS l0) l1) l2 := rfl
  rw [e]
  have a := addLS_len 0 l0 zeroS
  have b := addLS_len 1 l1 (addLS 0 zeroS l0)
  have c := addLS_len 2 l2 (addLS 1 (addLS 0 zeroS l0) l1)
  have d : zeroS.ps.length = 0 := rfl
  omega
theorem whenF_lt {h0 h1 h2 : Bool} {s0 s1 s2 : Nat} (k0 : okStamp s0) (k1 : okStamp s1) (k2 : okStamp s2) : okStamp (whenF h0 h1 h2 s0 s1 s2) := by
  have b1 := bitsF_lt k1
  have b2 := bitsF_lt k2
  have b3 := (latest_two k1 k2).2.2.2
  unfold whenF okStamp
  split
  · exact b2
  · split
    · exact b1
    · split
      · exact b2
      · split
        · exact b1
        · exact b3
theorem stO_ok {l : List FileD} (h : okAll l) (q : ByteArray) : okStamp (stO (fileAt l q)) := by
  cases hf : fileAt l q with
  | none => unfold stO okStamp; decide
  | some f => exact fileAt_ok h hf
/-- a merge that goes through clean leaves files that stand -/
theorem again_files {dec : ThreeD → DecR} {l0 l1 l2 : List FileD} {rs : List OutR} (hm : mergeF dec l0 l1 l2 = (rs, 0)) (hcl : (rs.any fun r => r.kind != 1 && r.kind != 2) = false) (hlen : l0.length + l1.length + l2.length ≤ 90)
    (ok0 : okAll l0) (ok1 : okAll l1) (ok2 : okAll l2) :
    checkT l0 = 0 ∧ checkT l1 = 0 ∧ checkT l2 = 0 ∧ checkT (filesOf rs) = 0 ∧ rs.length ≤ 90 ∧ (∀ f ∈ filesOf rs, okStamp f.stamp ∧ ∃ g, (g ∈ l0 ∨ g ∈ l1 ∨ g ∈ l2) ∧ g.path = f.path) := by
  unfold mergeF at hm
  split at hm
  · rename_i h
    injection hm with _ h2
    exact absurd h2 h
  · rename_i hch
    split at hm
    · rename_i h
      injection hm with _ h2
      exact absurd h2 h
    · injection hm with hrs _
      have hch' : chk3 l0 l1 l2 = 0 := by simpa using hch
      have h3 : checkT l0 = 0 ∧ checkT l1 = 0 ∧ checkT l2 = 0 := by
        unfold chk3 at hch'
        by_cases e0 : checkT l0 = 0
        · rw [if_neg (by simpa using e0)] at hch'
          by_cases e1 : checkT l1 = 0
          · rw [if_neg (by simpa using e1)] at hch'
            exact ⟨e0, e1, hch'⟩
          · rw [if_pos e1] at hch'; exact absurd hch' e1
        · rw [if_pos e0] at hch'; exact absurd hch' e0
      obtain ⟨z0, z1, z2⟩ := h3
      obtain ⟨a0, c0, -⟩ := checkT_ok z0
      obtain ⟨a1, c1, -⟩ := checkT_ok z1
      obtain ⟨a2, c2, -⟩ := checkT_ok z2
      obtain ⟨hmm, hpp⟩ := sK_all a0.nodup a1.nodup a2.nodup
      have hk4 : ∀ r ∈ blockF (keepD dec (sK l0 l1 l2 3) (sortP (sK l0 l1 l2 3).ps)), r.kind ≠ 4 := by
        intro r hr e
        rw [hrs] at hr
        have := List.any_eq_false.1 hcl r hr
        rw [e] at this
        exact this (by decide)
      obtain ⟨hid, hun⟩ := blockF_clean hk4
      rw [hid] at hrs
      have hpath : ∀ p ∈ sortP (sK l0 l1 l2 3).ps, ((sK l0 l1 l2 3).m p).path = p := fun p _ => by rw [hmm, tOf_eq]
      have hsub := keepD_path (dec := dec) (S := sK l0 l1 l2 3) _ hpath
      have hlp := sortP_len (sK l0 l1 l2 3).ps
      have hl2 := addLS_len2 l0 l1 l2
      have hkl := keepD_le dec (sK l0 l1 l2 3) (sortP (sK l0 l1 l2 3).ps)
      have hasc := sortP_asc (sK_nodup l0 l1 l2 3)
      have hmem : ∀ r ∈ keepD dec (sK l0 l1 l2 3) (sortP (sK l0 l1 l2 3).ps), r.path ∈ (sK l0 l1 l2 3).ps ∧ okStamp r.stamp := by
        intro r hr
        unfold keepD at hr
        obtain ⟨p, hp, hr⟩ := List.mem_flatMap.1 hr
        split at hr
        · rw [List.mem_singleton] at hr
          subst hr
          refine ⟨?_, ?_⟩
          · rw [show (outR ((sK l0 l1 l2 3).m p) (dec ((sK l0 l1 l2 3).m p))).path = p from hpath p hp]
            exact sortP_mem.1 hp
          · show okStamp (whenF _ _ _ _ _ _)
            rw [hmm, tOf_eq]
            exact whenF_lt (stO_ok ok0 _) (stO_ok ok1 _) (stO_ok ok2 _)
        · cases hr
      rw [hrs] at hsub hkl hun hmem
      have hfp : (filesOf rs).map (·.path) = rs.map (·.path) := by unfold filesOf; rw [List.map_map]; rfl
      refine ⟨z0, z1, z2, checkT_mk (by unfold filesOf; rw [List.length_map]; omega) ?_ ?_ ?_, by omega, ?_⟩
      · rw [hfp]
        exact List.Pairwise.sublist hsub hasc
      · intro f hf
        obtain ⟨r, hr, rfl⟩ := List.mem_map.1 hf
        rcases (hpp _).1 (hmem r hr).1 with h | h | h
        · obtain ⟨g, hg, e⟩ := List.mem_map.1 h
          have := c0 g hg
          rw [e] at this; exact this
        · obtain ⟨g, hg, e⟩ := List.mem_map.1 h
          have := c1 g hg
          rw [e] at this; exact this
        · obtain ⟨g, hg, e⟩ := List.mem_map.1 h
          have := c2 g hg
          rw [e] at this; exact this
      · intro i f g hf hg
        unfold filesOf at hf hg
        rw [List.getElem?_map] at hf hg
        obtain ⟨r, hr, rfl⟩ := Option.map_eq_some_iff.1 hf
        obtain ⟨q, hq, rfl⟩ := Option.map_eq_some_iff.1 hg
        exact hun i (i + 1) q r (by omega) hq hr
      · intro f hf
        obtain ⟨r, hr, rfl⟩ := List.mem_map.1 hf
        refine ⟨(hmem r hr).2, ?_⟩
        rcases (hpp _).1 (hmem r hr).1 with h | h | h
        · obtain ⟨g, hg, e⟩ := List.mem_map.1 h
          exact ⟨g, .inl hg, e⟩
        · obtain ⟨g, hg, e⟩ := List.mem_map.1 h
          exact ⟨g, .inr (.inl hg), e⟩
        · obtain ⟨g, hg, e⟩ := List.mem_map.1 h
          exact ⟨g, .inr (.inr hg), e⟩
theorem merge_len (dec : ThreeD → DecR) (l0 l1 l2 : List FileD) : (mergeF dec l0 l1 l2).1.length ≤ l0.length + l1.length + l2.length := by
  have hl2 := addLS_len2 l0 l1 l2
  have hlp := sortP_len (sK l0 l1 l2 3).ps
  have hkl := keepD_le dec (sK l0 l1 l2 3) (sortP (sK l0 l1 l2 3).ps)
  unfold mergeF
  split
  · exact Nat.zero_le _
  · split
    · exact Nat.zero_le _
    · show (blockF _).length ≤ _
      unfold blockF
      rw [bk_len]
      omega
theorem filesOf_take {rs : List OutR} {k : Nat} {r : OutR} (h : rs[k]? = some r) : filesOf (rs.take (k + 1)) = filesOf (rs.take k) ++ [fileR r] := by
  unfold filesOf
  rw [List.take_add_one, h, List.map_append]
  rfl
theorem oks_nil (l0 l1 l2 : List FileD) : ∀ p, p ∈ (sK l0 l1 l2 3).ps → decideO [] ((sK l0 l1 l2 3).m p) = some (decT [] ((sK l0 l1 l2 3).m p)) ∧ (decT [] ((sK l0 l1 l2 3).m p)).kind ≠ 4 := by
  intro p _
  obtain ⟨d, hd, hk⟩ := decide_nil ((sK l0 l1 l2 3).m p)
  unfold decT
  rw [hd]
  exact ⟨rfl, hk⟩
set_option maxRecDepth 100000 in
set_option maxHeartbeats 2000000 in
theorem c13 (v0 v1 v2 : Value) (l0 l1 l2 : List FileD) (w : World) (h0 : Files w v0 l0) (h1 : Files w v1 l1) (h2 : Files w v2 l2) :
    Calls Tryz.prog 13 #[.agg #[v0, v1, v2], .slice none 0 0] w fun e w' => e = .returned (.bool (decide (l0.length + l1.length + l2.length ≤ 90))) ∧ Ext w w' := by
  obtain ⟨A0, n0, rfl, -⟩ := h0.open_
  obtain ⟨A1, n1, rfl, -⟩ := h1.open_
  obtain ⟨A2, n2, rfl, -⟩ := h2.open_
  have k0 := h0.lt
  have k1 := h1.lt
  have k2 := h2.lt
  clear h0 h1 h2
  go_enter Tryz.func13, Tryz.ntmps13
  go_wp2_with fail
  have hBx : Blk (w.alloc (.cells #[.slice A0 l0.length n0, .slice A1 l1.length n1, .slice A2 l2.length n2] 23)) w.heap.size 23 [.slice A0 l0.length n0, .slice A1 l1.length n1, .slice A2 l2.length n2] := Blk.new w 23 _
  have He0 := Lib.hid (Ext.alloc w (.cells #[.slice A0 l0.length n0, .slice A1 l1.length n1, .slice A2 l2.length n2] 23))
  generalize w.alloc (.cells #[.slice A0 l0.length n0, .slice A1 l1.length n1, .slice A2 l2.length n2] 23) = w1 at *
  generalize hXX : w.heap.size = X at *
  have t0 := hBx.cell 0
  have t1 := hBx.cell 1
  have t2 := hBx.cell 2
  simp only [List.getElem?_cons_zero, List.getElem?_cons_succ] at t0 t1 t2
  go_loopw [5, 10] (fun s t wr => t = .int .i64 0 ∧ s = .int .i64 0 ∧ wr = w1) (fun _ _ _ => 0)
  case atStart => exact ⟨rfl, rfl, rfl⟩
  case round =>
    obtain ⟨rfl, rfl, rfl⟩ := hrel
    go_wp2_with fail
    go_ret
    refine ⟨?_, He0.out⟩
    have e : decide ((l0.length : Int) + (l1.length : Int) + (l2.length : Int) ≤ 90) = decide (l0.length + l1.length + l2.length ≤ 90) := by rw [decide_eq_decide]; omega
    rw [← e]
    rfl
end Go.Proofs.YtaeleagkpgbmaaaGreatDoor
