/-
  DERIVED. GIVEN WITH THE SEED: THE CARDS: each row of YtaeleagkpgbmaaaGreatDoorRows.lean that lists a variable, with what it lists TIED to the program's text (the seventh form; the later family's looks); each row that meets fmt, with fmt's text TOLD by the authors' own Lean function (tested against real Go, not proved from fmt's source: count such statements apart). THE CARD IS WHAT COUNTS. Prove the row's statement (the work); the ties are given (YtaeleagkpgbmaaaGreatDoorTie.lean); close each card by the builder's one call (the guide's Derived/Test/ToyasCard.lean, 'card_holds'). Laid BY PROGRAM, IN A SANDBOX (cutbox-door.mjs). By AI agents, Wed Nov 11 2026. No macro, syntax, notation, axiom, sorry.
-/
import Derived.Test.YtaeleagkpgbmaaaGreatDoorRows
import GoSem.ClaimSeven
namespace Go.Proofs.YtaeleagkpgbmaaaGreatDoor
namespace Rows

/-- THE TIED CARD OF 'towlinelaw13.JoinMerges'. -/
def joinMergesCard : Claim7 := { stood := { row := joinMergesRow, standIns := [], harness := (true, "292bfb9d769bbc339aa8edde80c6f62d4f2d5a51040bd933d4f15a8006862e89"), looks := true }, kinds := [], alts := [], laidByText := true, laidKinds := [.data, .pinned], laidTests := true, laidLooks := .later }
def JoinMergesCardSaid : Prop := Claim7.holds Tryz.pinned (.plain (OpenSpec.ofChange joinMergesSpec)) joinMergesCard

/-- THE TIED CARD OF 'towlinelaw13.JoinSides'. -/
def joinSidesCard : Claim7 := { stood := { row := joinSidesRow, standIns := [], harness := (true, "292bfb9d769bbc339aa8edde80c6f62d4f2d5a51040bd933d4f15a8006862e89"), looks := true }, kinds := [], alts := [], laidByText := true, laidKinds := [.data, .pinned], laidTests := true, laidLooks := .later }
def JoinSidesCardSaid : Prop := Claim7.holds Tryz.pinned (.plain (OpenSpec.ofChange joinSidesSpec)) joinSidesCard

/-- THE TIED CARD OF 'towlinelaw13.JoinKeeps'. -/
def joinKeepsCard : Claim7 := { stood := { row := joinKeepsRow, standIns := [], harness := (true, "292bfb9d769bbc339aa8edde80c6f62d4f2d5a51040bd933d4f15a8006862e89"), looks := true }, kinds := [], alts := [], laidByText := true, laidKinds := [.data, .pinned], laidTests := true, laidLooks := .later }
def JoinKeepsCardSaid : Prop := Claim7.holds Tryz.pinned (.plain (OpenSpec.ofChange joinKeepsSpec)) joinKeepsCard

/-- THE TIED CARD OF 'towlinelaw13.JoinAgain'. -/
def joinAgainCard : Claim7 := { stood := { row := joinAgainRow, standIns := [], harness := (true, "292bfb9d769bbc339aa8edde80c6f62d4f2d5a51040bd933d4f15a8006862e89"), looks := true }, kinds := [], alts := [], laidByText := true, laidKinds := [.data, .pinned], laidTests := true, laidLooks := .later }
def JoinAgainCardSaid : Prop := Claim7.holds Tryz.pinned (.plain (OpenSpec.ofChange joinAgainSpec)) joinAgainCard

/-- THE TIED CARD OF 'towlinelaw13.JoinTimes'. -/
def joinTimesCard : Claim7 := { stood := { row := joinTimesRow, standIns := [], harness := (true, "292bfb9d769bbc339aa8edde80c6f62d4f2d5a51040bd933d4f15a8006862e89"), looks := true }, kinds := [], alts := [], laidByText := true, laidKinds := [.data, .pinned], laidTests := true, laidLooks := .later }
def JoinTimesCardSaid : Prop := Claim7.holds Tryz.pinned (.plain (OpenSpec.ofChange joinTimesSpec)) joinTimesCard

/-- THE TIED CARD OF 'towlinelaw13.JoinSwap'. -/
def joinSwapCard : Claim7 := { stood := { row := joinSwapRow, standIns := [], harness := (true, "292bfb9d769bbc339aa8edde80c6f62d4f2d5a51040bd933d4f15a8006862e89"), looks := true }, kinds := [], alts := [], laidByText := true, laidKinds := [.data, .pinned], laidTests := true, laidLooks := .later }
def JoinSwapCardSaid : Prop := Claim7.holds Tryz.pinned (.plain (OpenSpec.ofChange joinSwapSpec)) joinSwapCard

/-- THE TIED CARD OF 'towlinelaw11.TreeBuilds'. -/
def treeBuildsCard : Claim7 := { stood := { row := treeBuildsRow, standIns := [], harness := (true, "292bfb9d769bbc339aa8edde80c6f62d4f2d5a51040bd933d4f15a8006862e89"), looks := true }, kinds := [], alts := [], laidByText := true, laidKinds := [.data, .pinned], laidTests := true, laidLooks := .later }
def TreeBuildsCardSaid : Prop := Claim7.holds Tryz.pinned (.plain (OpenSpec.ofChange treeBuildsSpec)) treeBuildsCard

/-- THE TIED CARD OF 'towlinelaw11.TreeBack'. -/
def treeBackCard : Claim7 := { stood := { row := treeBackRow, standIns := [], harness := (true, "292bfb9d769bbc339aa8edde80c6f62d4f2d5a51040bd933d4f15a8006862e89"), looks := true }, kinds := [], alts := [], laidByText := true, laidKinds := [.data, .pinned], laidTests := true, laidLooks := .later }
def TreeBackCardSaid : Prop := Claim7.holds Tryz.pinned (.plain (OpenSpec.ofChange treeBackSpec)) treeBackCard

/-- THE TIED CARD OF 'towlinelaw11.TreeSame'. -/
def treeSameCard : Claim7 := { stood := { row := treeSameRow, standIns := [], harness := (true, "292bfb9d769bbc339aa8edde80c6f62d4f2d5a51040bd933d4f15a8006862e89"), looks := true }, kinds := [], alts := [], laidByText := true, laidKinds := [.data, .pinned], laidTests := true, laidLooks := .later }
def TreeSameCardSaid : Prop := Claim7.holds Tryz.pinned (.plain (OpenSpec.ofChange treeSameSpec)) treeSameCard

/-- THE SECOND FORM's CARD OF 'towlinelaw13.JoinMerges'. -/
def joinMergesUptoCard : Claim7 := { stood := { row := joinMergesUptoRow, standIns := [], harness := (true, "292bfb9d769bbc339aa8edde80c6f62d4f2d5a51040bd933d4f15a8006862e89"), looks := true }, kinds := [], alts := [], laidByText := true, laidKinds := [.data, .pinned], laidTests := true, laidLooks := .later }
def JoinMergesUptoCardSaid : Prop := Claim7.holds Tryz.pinned (.plain (OpenSpec.upto joinMergesSpec)) joinMergesUptoCard

/-- THE SECOND FORM's CARD OF 'towlinelaw13.JoinSides'. -/
def joinSidesUptoCard : Claim7 := { stood := { row := joinSidesUptoRow, standIns := [], harness := (true, "292bfb9d769bbc339aa8edde80c6f62d4f2d5a51040bd933d4f15a8006862e89"), looks := true }, kinds := [], alts := [], laidByText := true, laidKinds := [.data, .pinned], laidTests := true, laidLooks := .later }
def JoinSidesUptoCardSaid : Prop := Claim7.holds Tryz.pinned (.plain (OpenSpec.upto joinSidesSpec)) joinSidesUptoCard

/-- THE SECOND FORM's CARD OF 'towlinelaw13.JoinKeeps'. -/
def joinKeepsUptoCard : Claim7 := { stood := { row := joinKeepsUptoRow, standIns := [], harness := (true, "292bfb9d769bbc339aa8edde80c6f62d4f2d5a51040bd933d4f15a8006862e89"), looks := true }, kinds := [], alts := [], laidByText := true, laidKinds := [.data, .pinned], laidTests := true, laidLooks := .later }
def JoinKeepsUptoCardSaid : Prop := Claim7.holds Tryz.pinned (.plain (OpenSpec.upto joinKeepsSpec)) joinKeepsUptoCard

/-- THE SECOND FORM's CARD OF 'towlinelaw13.JoinAgain'. -/
def joinAgainUptoCard : Claim7 := { stood := { row := joinAgainUptoRow, standIns := [], harness := (true, "292bfb9d769bbc339aa8edde80c6f62d4f2d5a51040bd933d4f15a8006862e89"), looks := true }, kinds := [], alts := [], laidByText := true, laidKinds := [.data, .pinned], laidTests := true, laidLooks := .later }
def JoinAgainUptoCardSaid : Prop := Claim7.holds Tryz.pinned (.plain (OpenSpec.upto joinAgainSpec)) joinAgainUptoCard

/-- THE SECOND FORM's CARD OF 'towlinelaw13.JoinTimes'. -/
def joinTimesUptoCard : Claim7 := { stood := { row := joinTimesUptoRow, standIns := [], harness := (true, "292bfb9d769bbc339aa8edde80c6f62d4f2d5a51040bd933d4f15a8006862e89"), looks := true }, kinds := [], alts := [], laidByText := true, laidKinds := [.data, .pinned], laidTests := true, laidLooks := .later }
def JoinTimesUptoCardSaid : Prop := Claim7.holds Tryz.pinned (.plain (OpenSpec.upto joinTimesSpec)) joinTimesUptoCard

/-- THE SECOND FORM's CARD OF 'towlinelaw13.JoinSwap'. -/
def joinSwapUptoCard : Claim7 := { stood := { row := joinSwapUptoRow, standIns := [], harness := (true, "292bfb9d769bbc339aa8edde80c6f62d4f2d5a51040bd933d4f15a8006862e89"), looks := true }, kinds := [], alts := [], laidByText := true, laidKinds := [.data, .pinned], laidTests := true, laidLooks := .later }
def JoinSwapUptoCardSaid : Prop := Claim7.holds Tryz.pinned (.plain (OpenSpec.upto joinSwapSpec)) joinSwapUptoCard

/-- THE SECOND FORM's CARD OF 'towlinelaw11.TreeBuilds'. -/
def treeBuildsUptoCard : Claim7 := { stood := { row := treeBuildsUptoRow, standIns := [], harness := (true, "292bfb9d769bbc339aa8edde80c6f62d4f2d5a51040bd933d4f15a8006862e89"), looks := true }, kinds := [], alts := [], laidByText := true, laidKinds := [.data, .pinned], laidTests := true, laidLooks := .later }
def TreeBuildsUptoCardSaid : Prop := Claim7.holds Tryz.pinned (.plain (OpenSpec.upto treeBuildsSpec)) treeBuildsUptoCard

/-- THE SECOND FORM's CARD OF 'towlinelaw11.TreeBack'. -/
def treeBackUptoCard : Claim7 := { stood := { row := treeBackUptoRow, standIns := [], harness := (true, "292bfb9d769bbc339aa8edde80c6f62d4f2d5a51040bd933d4f15a8006862e89"), looks := true }, kinds := [], alts := [], laidByText := true, laidKinds := [.data, .pinned], laidTests := true, laidLooks := .later }
def TreeBackUptoCardSaid : Prop := Claim7.holds Tryz.pinned (.plain (OpenSpec.upto treeBackSpec)) treeBackUptoCard

/-- THE SECOND FORM's CARD OF 'towlinelaw11.TreeSame'. -/
def treeSameUptoCard : Claim7 := { stood := { row := treeSameUptoRow, standIns := [], harness := (true, "292bfb9d769bbc339aa8edde80c6f62d4f2d5a51040bd933d4f15a8006862e89"), looks := true }, kinds := [], alts := [], laidByText := true, laidKinds := [.data, .pinned], laidTests := true, laidLooks := .later }
def TreeSameUptoCardSaid : Prop := Claim7.holds Tryz.pinned (.plain (OpenSpec.upto treeSameSpec)) treeSameUptoCard
end Rows
end Go.Proofs.YtaeleagkpgbmaaaGreatDoor
