/- Package lines: a text's lines. -/
import Derived.Test.YtaeleagkpgbmaaaGreatDoorOwn
import Derived.Test.YtaeleagkpgbmaaaGreatDoorQuiet
import Derived.Test.YtaeleagkpgbmaaaGreatDoorShelf
import Derived.Laws.BytesArg
namespace Go.Proofs.YtaeleagkpgbmaaaGreatDoor
open Go.RowKit
set_option linter.unusedSimpArgs false
set_option linter.unusedVariables false

def encB (b : UInt8) : List Value := [.int .u8 b.toNat]
abbrev Byt (w : World) (v : Value) (s : List UInt8) : Prop := Sl encB 1 w v s
theorem Byt.open_ {w : World} {v : Value} {s : List UInt8} (h : Byt w v s) :
    ∃ A c, v = .slice A s.length c ∧ (s.length ≤ c ∧ (A = none → c = 0)) ∧ s.length < 4294967296 ∧
      (0 < s.length → ∃ b off, A = some ⟨b, off, none⟩ ∧ b < w.heap.size ∧ ∀ i x, s[i]? = some x → w.cell? ⟨b, off + i, none⟩ = some (.int .u8 x.toNat)) := by
  obtain ⟨h0, A, c, hv, hc, hz, hx⟩ := h
  refine ⟨A, c, hv, hc, h0, fun hp => ?_⟩
  obtain ⟨b, off, ha, hb, hcells⟩ := hx hp
  exact ⟨b, off, ha, hb, fun i x hi => by simpa using hcells i x hi 0 _ rfl⟩

theorem bytesOf_nats (s : List UInt8) : Lib.bytesOf (s.map fun x => (x.toNat : Int)) = s := by
  unfold Lib.bytesOf
  rw [List.map_map]
  conv => rhs; rw [← List.map_id s]
  apply List.map_congr_left
  intro x _
  simp
theorem getD_nats {s : List UInt8} {i : Nat} (h : i < s.length) : (s.map fun x => (x.toNat : Int)).getD i 0 = (s[i].toNat : Int) := by
  simp [List.getD, h]

theorem c171 (v : Value) (s : List UInt8) (cv : Int) (w : World) (h : Byt w v s) :
    Calls Tryz.prog 171 #[v, .int .u8 cv] w fun e w' => e = .returned (.int .i64 (Lib.indexByte s cv.toNat.toUInt8)) ∧ w = w' := by
  obtain ⟨A, c, rfl, hc, hl, hx⟩ := h.open_
  by_cases h0 : 0 < s.length
  · obtain ⟨b, off, rfl, hb, hcell⟩ := hx h0
    have := Tryz.bytes_IndexByte b off s.length c (s.map fun x => (x.toNat : Int)) cv w (by simp) (fun i hi => by
      rw [getD_nats hi]; exact hcell i _ (List.getElem?_eq_getElem hi))
    rw [bytesOf_nats] at this
    exact this.mono fun e w' ⟨h1, h2⟩ => ⟨h1, h2.symm⟩
  · have hs : s = [] := List.length_eq_zero_iff.1 (by omega)
    subst hs
    cases A with
    | none =>
      obtain rfl := hc.2 rfl
      exact (Tryz.bytes_IndexByte_nil cv w).mono fun e w' ⟨h1, h2⟩ => ⟨h1, h2.symm⟩
    | some a =>
      have := Tryz.bytes_IndexByte_at a 0 c [] cv w rfl (fun i hi => by omega)
      exact this.mono fun e w' ⟨h1, h2⟩ => ⟨h1, h2.symm⟩

/-- lines.IsText -/
def isTextB (s : List UInt8) : Bool := decide (Lib.indexByte s 0 < 0)

set_option maxHeartbeats 400000 in
theorem c124 (v : Value) (s : List UInt8) (w : World) (h : Byt w v s) :
    Calls Tryz.prog 124 #[v] w fun e w' => e = .returned (.bool (isTextB s)) ∧ w = w' := by
  unfold isTextB
  have H := Lib.hid (c171 v s 0 w h)
  rw [show (0 : Int).toNat.toUInt8 = 0 from rfl] at H
  generalize Lib.indexByte s 0 = i at *
  obtain ⟨A, c, rfl, _⟩ := h.open_
  go_enter Tryz.func124, Tryz.ntmps124
  go_wp2_with fail
  refine H.out.mono ?_
  rintro e w' ⟨rfl, rfl⟩
  go_wp2_with fail
  go_ret
  exact ⟨rfl, rfl⟩

/-- where the first line ends -/
def lineEnd (s : List UInt8) : Nat := if Lib.indexByte s 10 < 0 then s.length else (Lib.indexByte s 10).toNat + 1
/-- a text's lines, each with its end -/
def linesOf : List UInt8 → List (List UInt8)
  | [] => []
  | b :: r => if b = 10 then [10] :: linesOf r else match linesOf r with
    | [] => [[b]]
    | x :: xs => (b :: x) :: xs
theorem indexByte_lt (s : List UInt8) (c : UInt8) : Lib.indexByte s c < s.length := by
  induction s with
  | nil => simp [Lib.indexByte]
  | cons b l ih => 
    unfold Lib.indexByte
    simp only [List.length_cons]
    split
    · omega
    · split
      · omega
      · omega
theorem lineEnd_pos {s : List UInt8} (h : 0 < s.length) : 0 < lineEnd s ∧ lineEnd s ≤ s.length := by
  unfold lineEnd
  have := indexByte_lt s 10
  split <;> omega
theorem linesOf_cut : ∀ (s : List UInt8), 0 < s.length → linesOf s = s.take (lineEnd s) :: linesOf (s.drop (lineEnd s))
  | [], h => by simp at h
  | b :: r, _ => by
    have hge := Lib.indexByte_ge r 10
    by_cases hb : b = 10
    · subst hb
      simp [linesOf, lineEnd, Lib.indexByte]
    · have hbb : (b == 10) = false := by simpa using hb
      by_cases hr : 0 < r.length
      · have ih := linesOf_cut r hr
        rw [linesOf, if_neg hb, ih]
        have e : lineEnd (b :: r) = lineEnd r + 1 := by
          unfold lineEnd
          simp only [Lib.indexByte, hbb, Bool.false_eq_true, if_false, List.length_cons]
          by_cases hm : Lib.indexByte r 10 = -1
          · simp [hm]
          · have h1 : (Lib.indexByte r 10 == -1) = false := by simpa using hm
            simp only [h1, Bool.false_eq_true, if_false]
            rw [if_neg (by omega), if_neg (by omega)]
            omega
        rw [e]
        rfl
      · have : r = [] := List.length_eq_zero_iff.1 (by omega)
        subst this
        simp [linesOf, hb, lineEnd, Lib.indexByte, hbb]
theorem linesOf_len (s : List UInt8) : (linesOf s).length ≤ s.length := by
  induction s with
  | nil => simp [linesOf]
  | cons b r ih =>
    unfold linesOf
    split
    · simp; omega
    · split
      · simp
      · rename_i x xs h; rw [h] at ih; simp at ih ⊢; omega
def mkS (l : List UInt8) : ByteArray := ⟨l.toArray⟩

end Go.Proofs.YtaeleagkpgbmaaaGreatDoor
