/- What law13.awake merges, by evaluation. -/
import Derived.Test.YtaeleagkpgbmaaaGreatDoorOuts
namespace Go.Proofs.YtaeleagkpgbmaaaGreatDoor
open Go.RowKit
set_option linter.unusedSimpArgs false
set_option linter.unusedVariables false

def idn (n : UInt8) : ID := ⟨n :: List.replicate 31 0, by simp⟩
def tA : ByteArray := ⟨#[97, 10, 98, 10, 99, 10]⟩
def tB : ByteArray := ⟨#[120, 10, 98, 10, 99, 10]⟩
def tC : ByteArray := ⟨#[97, 10, 98, 10, 121, 10]⟩
def blA : List BlobD := [⟨idn 1, tA, 0⟩, ⟨idn 2, tB, 0⟩, ⟨idn 3, tC, 0⟩]
def pP : ByteArray := ⟨#[112]⟩
def pQ : ByteArray := ⟨#[112, 47, 113]⟩
/-- the decision, where there is one -/
def decT (bl : List BlobD) (t : ThreeD) : DecR := (decideO bl t).getD ⟨3, t.id, none, true, 0⟩
theorem decT_some {bl : List BlobD} {t : ThreeD} (h : (decideO bl t).isSome = true) : decideO bl t = some (decT bl t) := by
  unfold decT
  cases hd : decideO bl t with
  | none => rw [hd] at h; cases h
  | some d => rfl
theorem sortP_one (p : ByteArray) : sortP [p] = [p] := by unfold sortP; rw [List.mergeSort_singleton]
def fA : List FileD := [⟨pP, idn 1, 0⟩]
def fB : List FileD := [⟨pP, idn 2, 4607182418800017408⟩]
def fC : List FileD := [⟨pP, idn 3, 4611686018427387904⟩]
def twA : ThreeD := ⟨pP, 0, zeroId, 0, .slice none 0 0, true, true, true, idn 1, idn 2, idn 3, 0, 4607182418800017408, 4611686018427387904⟩
theorem sA : (sK fA fB fC 3).ps = [pP] := by kernel_rfl
theorem mA : (sK fA fB fC 3).m pP = twA := by kernel_rfl
theorem dA : decideO blA twA = some ⟨2, zeroId, some [120, 10, 98, 10, 121, 10], true, 0⟩ := by kernel_rfl
def oA : OutR := ⟨pP, 2, zeroId, 4611686018427387904, [120, 10, 98, 10, 121, 10], true, true, true, idn 1, idn 2, idn 3⟩
theorem decA : decT blA twA = ⟨2, zeroId, some [120, 10, 98, 10, 121, 10], true, 0⟩ := by unfold decT; rw [dA]; rfl
theorem chkA : chk3 fA fB fC = 0 := by kernel_rfl
theorem evA : mergeF (decT blA) fA fB fC = ([oA], 0) := by
  unfold mergeF
  rw [chkA, sA, sortP_one]
  simp only [ne_eq, not_true_eq_false, if_false, errD, keepD, List.flatMap_cons, List.flatMap_nil, mA, decA, if_true, List.append_nil]
  kernel_rfl
theorem oksA : ∀ p, p ∈ (sK fA fB fC 3).ps → decideO blA ((sK fA fB fC 3).m p) = some (decT blA ((sK fA fB fC 3).m p)) ∧ (decT blA ((sK fA fB fC 3).m p)).kind ≠ 4 := by
  intro p hp
  rw [sA, List.mem_singleton] at hp
  subst hp
  rw [mA, decA, dA]
  exact ⟨rfl, by decide⟩
def fD : List FileD := [⟨pP, idn 2, 0⟩]
def fE : List FileD := [⟨pQ, idn 3, 0⟩]
def twD : ThreeD := ⟨pP, 0, zeroId, 0, .slice none 0 0, false, true, false, zeroId, idn 2, zeroId, 0, 0, 0⟩
def twE : ThreeD := ⟨pQ, 0, zeroId, 0, .slice none 0 0, false, false, true, zeroId, zeroId, idn 3, 0, 0, 0⟩
theorem sD : (sK [] fD fE 3).ps = [pP, pQ] := by kernel_rfl
theorem mD : (sK [] fD fE 3).m pP = twD := by kernel_rfl
theorem mE : (sK [] fD fE 3).m pQ = twE := by kernel_rfl
theorem dD : decideO blA twD = some ⟨1, idn 2, none, true, 0⟩ := by kernel_rfl
theorem dE : decideO blA twE = some ⟨1, idn 3, none, true, 0⟩ := by kernel_rfl
theorem decD : decT blA twD = ⟨1, idn 2, none, true, 0⟩ := by unfold decT; rw [dD]; rfl
theorem decE : decT blA twE = ⟨1, idn 3, none, true, 0⟩ := by unfold decT; rw [dE]; rfl
def oD : OutR := ⟨pP, 1, idn 2, 0, [], false, true, false, zeroId, idn 2, zeroId⟩
def oE : OutR := ⟨pQ, 4, idn 3, 0, [], false, false, true, zeroId, zeroId, idn 3⟩
theorem chkD : chk3 [] fD fE = 0 := by kernel_rfl
theorem sortPQ : sortP [pP, pQ] = [pP, pQ] := by
  unfold sortP
  apply List.mergeSort_of_pairwise
  rw [List.pairwise_cons]
  refine ⟨fun q hq => ?_, List.pairwise_singleton _ _⟩
  rw [List.mem_singleton] at hq
  subst hq
  kernel_rfl
theorem evD : mergeF (decT blA) [] fD fE = ([oD, oE], 0) := by
  unfold mergeF
  rw [chkD, sD, sortPQ]
  simp only [ne_eq, not_true_eq_false, if_false, errD, keepD, List.flatMap_cons, List.flatMap_nil, mD, mE, decD, decE, if_true, List.append_nil]
  kernel_rfl
theorem oksD : ∀ p, p ∈ (sK [] fD fE 3).ps → decideO blA ((sK [] fD fE 3).m p) = some (decT blA ((sK [] fD fE 3).m p)) ∧ (decT blA ((sK [] fD fE 3).m p)).kind ≠ 4 := by
  intro p hp
  rw [sD, List.mem_cons, List.mem_singleton] at hp
  rcases hp with rfl | rfl
  · rw [mD, decD, dD]
    exact ⟨rfl, by decide⟩
  · rw [mE, decE, dE]
    exact ⟨rfl, by decide⟩
end Go.Proofs.YtaeleagkpgbmaaaGreatDoor
