/- A slice of files that comes in as an argument. -/
import Derived.Test.YtaeleagkpgbmaaaGreatDoorClose
import Derived.Test.YtaeleagkpgbmaaaGreatDoorTree
import Derived.Deep.Slices
namespace Go.Proofs.YtaeleagkpgbmaaaGreatDoor
open Go.ChangeShapes Go.WideShapes Go.ChangeAt Go.RowKit
set_option linter.unusedSimpArgs false
set_option linter.unusedVariables false
set_option maxRecDepth 100000

section
variable {H : Type} {enc : TypeId × Value → H} {W : World} {base : Nat} {spare : Nat → Bool} {held : Bool}
theorem trod_f64 {t fuel : Nat} {cs : List Value} {x : DataW H × List MemPlace} (ht : Tryz.prog.underlying t = some (.float .f64)) (h : DataW.trod enc Tryz.prog W base spare held fuel t cs = some x) :
    ∃ n, cs = [.float .f64 n] ∧ x = (.lit (.float .f64 n), []) ∧ okStamp n := by
  cases fuel with
  | zero => simp [DataW.trod] at h
  | succ n =>
    unfold DataW.trod at h
    rw [ht] at h
    split at h <;> simp_all
    rename_i _ b hb e1 e2
    obtain ⟨⟨h1, h2⟩, _⟩ := h
    subst h1
    subst e2
    unfold okStamp
    simpa [Lit.wf] using h2
theorem cells5 : Tryz.prog.cellsOf 5 = 1 := by kernel_rfl
theorem cells9 : Tryz.prog.cellsOf 9 = 1 := by kernel_rfl
theorem cells43 : Tryz.prog.cellsOf 43 = 32 := by kernel_rfl
theorem cells44 : Tryz.prog.cellsOf 44 = 1 := by kernel_rfl
theorem cells56 : Tryz.prog.cellsOf 56 = 34 := by kernel_rfl
/-- an array of 32 bytes is an id -/
theorem trod_id {fuel : Nat} {cs : List Value} {x : DataW H × List MemPlace} (h : DataW.trod enc Tryz.prog W base spare held fuel 43 cs = some x) : ∃ i : ID, cs = encId i := by
  obtain ⟨xs, m, _, _, hl, _, hel⟩ := DataW.trod_array Tryz.underlying43 h
  rw [cells43] at hl
  rw [cells5] at hel
  have hall : ∀ u ∈ cs, ∃ b : UInt8, u = .int .u8 b.toNat := by
    intro u hu
    obtain ⟨i, hi⟩ := List.getElem?_of_mem hu
    have hil := (List.getElem?_eq_some_iff.1 hi).1
    have h1 := hel i (by omega)
    have hx : ∃ y, xs[i]? = some y := ⟨_, List.getElem?_eq_getElem (by omega)⟩
    obtain ⟨y, hy⟩ := hx
    rw [hy] at h1
    obtain ⟨n, e1, _, e3⟩ := DataW.trod_int Tryz.underlying5 h1
    rw [Nat.mul_one] at e1
    have h0 : ((cs.drop i).take 1)[0]? = some (.int .u8 n) := by rw [e1]; rfl
    rw [List.getElem?_take] at h0
    simp only [Nat.zero_lt_one, if_true, List.getElem?_drop, Nat.add_zero] at h0
    rw [hi] at h0
    injection h0 with h0
    simp only [Lit.wf, Bool.and_eq_true, decide_eq_true_eq] at e3
    have a1 : (0 : Int) ≤ n := e3.1
    have a2 : n ≤ 255 := e3.2
    refine ⟨UInt8.ofNat n.toNat, ?_⟩
    rw [h0]
    congr 1
    simp
    omega
  have hb : ∃ l : List UInt8, cs = l.map (fun b => .int .u8 b.toNat) := by
    clear h hel hl
    induction cs with
    | nil => exact ⟨[], rfl⟩
    | cons u r ih =>
      obtain ⟨b, rfl⟩ := hall u List.mem_cons_self
      obtain ⟨l, rfl⟩ := ih (fun v hv => hall v (List.mem_cons_of_mem _ hv))
      exact ⟨b :: l, rfl⟩
  obtain ⟨l, rfl⟩ := hb
  refine ⟨⟨l, by simpa using hl⟩, ?_⟩
  unfold encId; rfl
/-- a file -/
theorem trod_file {fuel : Nat} {cs : List Value} {x : DataW H × List MemPlace} (h : DataW.trod enc Tryz.prog W base spare held fuel 56 cs = some x) :
    ∃ f : FileD, cs = encF f ∧ okStamp f.stamp ∧ f.path.size < Rows.uptoBulk x.1 := by
  obtain ⟨xs, n, _, rfl, hl, hxl, hel⟩ := DataW.trod_struct Tryz.underlying56 h
  rw [cells56] at hl
  have hx : ∀ i, i < 3 → ∃ y, xs[i]? = some y := fun i hi => ⟨_, List.getElem?_eq_getElem (by simp at hxl; omega)⟩
  obtain ⟨y0, hy0⟩ := hx 0 (by omega)
  obtain ⟨y1, hy1⟩ := hx 1 (by omega)
  obtain ⟨y2, hy2⟩ := hx 2 (by omega)
  have h0 : DataW.trod enc Tryz.prog W base spare held n 9 ((cs.drop 0).take (Tryz.prog.cellsOf 9)) = xs[0]? := hel 0 _ rfl
  have h1 : DataW.trod enc Tryz.prog W base spare held n 43 ((cs.drop 1).take (Tryz.prog.cellsOf 43)) = xs[1]? := hel 1 _ rfl
  have h2 : DataW.trod enc Tryz.prog W base spare held n 44 ((cs.drop 33).take (Tryz.prog.cellsOf 44)) = xs[2]? := hel 2 _ rfl
  rw [hy0, cells9] at h0
  rw [hy1, cells43] at h1
  rw [hy2, cells44] at h2
  obtain ⟨s, e0, rfl, _⟩ := DataW.trod_string Tryz.underlying9 h0
  obtain ⟨i, e1⟩ := trod_id h1
  obtain ⟨st, e2, _, hst⟩ := trod_f64 Tryz.underlying44 h2
  refine ⟨⟨s, i, st⟩, ?_, hst, ?_⟩
  · have e3 : cs = cs.take 1 ++ ((cs.drop 1).take 32 ++ cs.drop 33) := by
      have a1 : cs = cs.take 1 ++ cs.drop 1 := (List.take_append_drop 1 cs).symm
      have a2 : cs.drop 1 = (cs.drop 1).take 32 ++ (cs.drop 1).drop 32 := (List.take_append_drop 32 _).symm
      rw [List.drop_drop] at a2
      rw [← a2]; exact a1
    have e4 : cs.drop 33 = [.float .f64 st] := by
      rw [List.take_of_length_le (by simp; omega)] at e2
      exact e2
    have e5 : cs.take 1 = [.string s] := by simpa using e0
    rw [e3, e5, e1, e4]
    unfold encF; rfl
  · obtain ⟨r, hr⟩ : ∃ r, xs = (.lit (.string s.data.toList), []) :: r := by
      cases xs with
      | nil => cases hy0
      | cons z r =>
        simp only [List.getElem?_cons_zero, Option.some.injEq] at hy0
        subst hy0
        exact ⟨r, rfl⟩
    rw [hr]
    simp only [List.map_cons, Rows.uptoBulk, Rows.uptoBulkAll]
    have : s.size = s.data.toList.length := by rw [Array.length_toList]; rfl
    omega
theorem bulk_mem {d : DataW H} : ∀ {ds : List (DataW H)}, d ∈ ds → Rows.uptoBulk d ≤ Rows.uptoBulkAll ds
  | x :: r, h => by
    rw [Rows.uptoBulkAll]
    rcases List.mem_cons.1 h with rfl | h
    · omega
    · have := bulk_mem h; omega
theorem bulk_pos (d : DataW H) : 0 < Rows.uptoBulk d := by
  cases d with
  | lit l => cases l <;> (simp only [Rows.uptoBulk]; omega)
  | nil => simp only [Rows.uptoBulk]; omega
  | ptr d => simp only [Rows.uptoBulk]; omega
  | slice a b => simp only [Rows.uptoBulk]; omega
  | agg a => simp only [Rows.uptoBulk]; omega
  | iface a d => simp only [Rows.uptoBulk]; omega
  | map a => simp only [Rows.uptoBulk]; omega
  | held a => simp only [Rows.uptoBulk]; omega
theorem bulk_len : ∀ {ds : List (DataW H)}, ds.length ≤ Rows.uptoBulkAll ds
  | [] => Nat.zero_le _
  | x :: r => by
    have h1 := bulk_len (ds := r)
    have h2 := bulk_pos x
    rw [Rows.uptoBulkAll, List.length_cons]
    omega
/-- a list out of elements that are there -/
theorem list_of {α : Type} {P : Nat → α → Prop} : ∀ (n : Nat), (∀ i, i < n → ∃ x, P i x) → ∃ l : List α, l.length = n ∧ ∀ i x, l[i]? = some x → P i x
  | 0, _ => ⟨[], rfl, fun i x h => by cases h⟩
  | n + 1, h => by
    obtain ⟨l, hl, hp⟩ := list_of n (fun i hi => h i (by omega))
    obtain ⟨x, hx⟩ := h n (by omega)
    refine ⟨l ++ [x], by simp [hl], fun i y hy => ?_⟩
    rcases Nat.lt_or_ge i l.length with hi | hi
    · rw [List.getElem?_append_left hi] at hy
      exact hp i y hy
    · rw [List.getElem?_append_right hi] at hy
      have : i = n := by
        have := (List.getElem?_eq_some_iff.1 hy).1
        simp at this; omega
      subst this
      rw [hl, Nat.sub_self] at hy
      simp only [List.getElem?_cons_zero, Option.some.injEq] at hy
      rw [← hy]; exact hx
end
/-- the files of an argument -/
theorem open_files {H : Type} {enc : TypeId × Value → H} {W : World} {b0 base : Nat} {v : Value} {d : DataW H} {ps : List MemPlace} (hval : Value.okWide Tryz.prog W .any b0 22 v) (h : DataW.Trod enc Tryz.prog W base (fun _ => true) true 22 v d ps) (hb : Rows.uptoBulk d ≤ 1048576) :
    ∃ l : List FileD, Files W v l ∧ ∀ f ∈ l, f.path.size < 4294967280 ∧ okStamp f.stamp := by
  obtain ⟨n0, hn⟩ := h
  unfold Value.okWide Cell.okWide Cell.ok at hval
  rw [Tryz.underlying22] at hval
  cases v <;> simp only at hval
  rename_i A len0 cap0
  have hcells : (Value.slice A len0 cap0).cells.toList = [.slice A len0 cap0] := rfl
  rw [hcells] at hn
  rcases Deep.open_slice Tryz.underlying22 hn with ⟨e, _⟩ | ⟨a, len, cap, m, n, D, Pl, e, hbb, hlc, hcm, hm, hx, hel⟩
  · injection e with e _
    injection e with e1 e2 e3
    subst e1 e2 e3
    exact ⟨[], Sl.nil _ _ _, fun f hf => by cases hf⟩
  · injection e with e _
    injection e with e1 e2 e3
    subst e1 e2 e3
    have hsp : a.spot = none := by
      simp only at hval
      exact hval.2.2.2.1
    have hmc : m = cap0 := by simpa using hm
    subst hmc
    obtain ⟨ab, ao, asp⟩ := a
    simp only at hsp
    subst hsp
    injection hx with hd _
    rw [cells56] at hel
    have hbulk : ∀ i, i < len0 → Rows.uptoBulk (D i) ≤ 1048576 := by
      intro i hi
      rw [hd] at hb
      simp only [Rows.uptoBulk] at hb
      have := bulk_mem (d := D i) (ds := (List.range len0).map D) (List.mem_map.2 ⟨i, List.mem_range.2 hi, rfl⟩)
      omega
    have hlen : len0 ≤ 1048576 := by
      rw [hd] at hb
      simp only [Rows.uptoBulk] at hb
      have := bulk_len (ds := (List.range len0).map D)
      simp only [List.length_map, List.length_range] at this
      omega
    obtain ⟨l, hl, hp⟩ := list_of (P := fun i (f : FileD) => (∀ j u, (encF f)[j]? = some u → W.cell? ⟨ab, ao + i * 34 + j, none⟩ = some u) ∧ okStamp f.stamp ∧ f.path.size < 4294967280) len0 (by
      intro i hi
      obtain ⟨cs', hc, ht⟩ := hel i (by omega)
      obtain ⟨f, rfl, hst, hsz⟩ := trod_file ht
      obtain ⟨_, hcl, hcell⟩ := World.cells?_some hc
      refine ⟨f, fun j u hj => ?_, hst, ?_⟩
      · have hjl := (List.getElem?_eq_some_iff.1 hj).1
        rw [encF_length] at hjl
        have := hcell j hjl
        rw [Addr.add_mid, Addr.add_mid] at this
        rw [this]; exact hj
      · have := hbulk i hi
        simp only at hsz
        omega)
    subst hl
    refine ⟨l, ⟨by omega, _, _, rfl, ⟨hlc, by simp⟩, fun f _ => encF_length f, fun hp0 => ⟨ab, ao, rfl, ?_, fun i x hi j u hj => (hp i x hi).1 j u hj⟩⟩, fun f hf => ?_⟩
    · have hx0 : l[0]? = some l[0] := List.getElem?_eq_getElem hp0
      exact World.block_lt_of_cell? _ _ ((hp 0 _ hx0).1 0 _ (encF_0 _))
    · obtain ⟨i, hi⟩ := List.getElem?_of_mem hf
      exact ⟨(hp i f hi).2.2, (hp i f hi).2.1⟩
end Go.Proofs.YtaeleagkpgbmaaaGreatDoor
