/-
  NARROWER THAN 'FOR EVERY INPUT', by the rows' own cells (each row's printed sentence says how): JoinMerges: laid · JoinSides: laid · JoinKeeps: laid · JoinAgain: laid · JoinTimes: laid · JoinSwap: laid · TreeBuilds: laid · TreeBack: laid · TreeSame: laid.
  DERIVED. THE GIVEN ROWS OF THIS SEAT. 9 by the template 'for every input the law returns true; each argument reads behind the call as it read before'; 0 by the template 'total and deterministic' (their statements: YtaeleagkpgbmaaaGreatDoorTotals.lean).
  GIVEN WITH THE SEED: the statements are not yours to turn. If you find one false, say at which input.
  Laid BY PROGRAM, IN A SANDBOX (cutbox-rows.mjs): the forced cells as the released guide's own fill.sh prints them over the translation fc875a9991301d15… (all of the seat's roots in one cut). By AI agents, Wed Nov 11 2026. No macro, syntax, notation, axiom, sorry.
-/
import Derived.Test.YtaeleagkpgbmaaaGreatDoorChecked
import GoSem.PinnedTables
import GoSem.Claim
import GoSem.ClaimJoined
import GoSem.ClaimMapViews
import Derived.JoinedTies
import Derived.KernelRfl
namespace Go.Proofs.YtaeleagkpgbmaaaGreatDoor
/- THE CELL 'sum', in the pinned program and in every row, IS THE sha256 OF THE DUMP (.gsa) THAT YtaeleagkpgbmaaaGreatDoorProg.lean LOADS. Nothing in Lean hashes anything: it is a label: what it is worth is what the hold of that sum in a sandbox is worth. -/
noncomputable def Tryz.pinned : Pinned := { name := "ytaeleagkpgbmaaagreatdoor", sum := "fc875a9991301d1598501c5443b30e82b2aca580db2b42493492d548bd7487d2", checked := Tryz.checked }
namespace Rows
def none {H : Type} : Left H := { results := [], args := [] }

/- WHAT THE LISTED PACKAGE-LEVEL VARIABLES READ AS WHEN THE CALL BEGINS. Each datum BY PROGRAM (the guide's laid-datum.mjs) off the statement by which the dump's own 'gosem.cut.vars' lays the variable. In a bare row this is a premise. The card (YtaeleagkpgbmaaaGreatDoorCards.lean) ties it to the program's text. -/
def laid_unicode_utf8_acceptRanges {H : Type} : DataW H := .agg [.agg [.lit (.int .u8 128), .lit (.int .u8 191)], .agg [.lit (.int .u8 160), .lit (.int .u8 191)], .agg [.lit (.int .u8 128), .lit (.int .u8 159)], .agg [.lit (.int .u8 144), .lit (.int .u8 191)], .agg [.lit (.int .u8 128), .lit (.int .u8 143)], .agg [.lit (.int .u8 0), .lit (.int .u8 0)], .agg [.lit (.int .u8 0), .lit (.int .u8 0)], .agg [.lit (.int .u8 0), .lit (.int .u8 0)], .agg [.lit (.int .u8 0), .lit (.int .u8 0)], .agg [.lit (.int .u8 0), .lit (.int .u8 0)], .agg [.lit (.int .u8 0), .lit (.int .u8 0)], .agg [.lit (.int .u8 0), .lit (.int .u8 0)], .agg [.lit (.int .u8 0), .lit (.int .u8 0)], .agg [.lit (.int .u8 0), .lit (.int .u8 0)], .agg [.lit (.int .u8 0), .lit (.int .u8 0)], .agg [.lit (.int .u8 0), .lit (.int .u8 0)]]
/-- One of Go's own tables, pinned by name: the form's constant. -/
def laid_unicode_utf8_first : DataW Unit := Go.Pinned.utf8First

/-- 'towlinelaw13.JoinMerges': WHATEVER THE INPUT: true; the input reads as it did. -/
def joinMergesSpec : ChangeSpec := { name := "joinMerges", fn := fun _ => fun
  | [d1, d2] => { results := [.lit (.bool true)], args := [d1, d2] }
  | _ => none }
def joinMergesRow : OpenClaim := { program := "ytaeleagkpgbmaaagreatdoor", sum := "fc875a9991301d1598501c5443b30e82b2aca580db2b42493492d548bd7487d2", func := "towline/towlinelaw13.JoinMerges", spec := "joinMerges", inPlace := ["internal/bytealg.CountString", "internal/bytealg.IndexByteString", "internal/bytealg.IndexString", "math.Float64frombits", "math.Float64bits", "internal/bytealg.IndexByte", "internal/abi.NoEscape", "internal/bytealg.MakeNoZero"], unfollowed := true, recurses := true, named := ["unicode/utf8.first", "unicode/utf8.acceptRanges", "internal/bytealg.MaxLen"], apart := false, laid := [("unicode/utf8.acceptRanges", laid_unicode_utf8_acceptRanges), ("unicode/utf8.first", laid_unicode_utf8_first)] }
def JoinMergesSaid : Prop := joinMergesRow.holds Tryz.pinned (OpenSpec.ofChange joinMergesSpec)

/-- ITS FALSE NEIGHBOUR: 'it returns false'. Refute it at one input. -/
def joinMergesWrong : ChangeSpec := { name := "joinMerges", fn := fun _ => fun
  | [d1, d2] => { results := [.lit (.bool false)], args := [d1, d2] }
  | _ => none }
def JoinMergesWrongFalsely : Prop := joinMergesRow.holds Tryz.pinned (OpenSpec.ofChange joinMergesWrong)

/-- 'towlinelaw13.JoinSides': WHATEVER THE INPUT: true; the input reads as it did. -/
def joinSidesSpec : ChangeSpec := { name := "joinSides", fn := fun _ => fun
  | [d1, d2] => { results := [.lit (.bool true)], args := [d1, d2] }
  | _ => none }
def joinSidesRow : OpenClaim := { program := "ytaeleagkpgbmaaagreatdoor", sum := "fc875a9991301d1598501c5443b30e82b2aca580db2b42493492d548bd7487d2", func := "towline/towlinelaw13.JoinSides", spec := "joinSides", inPlace := ["internal/bytealg.CountString", "internal/bytealg.IndexByteString", "internal/bytealg.IndexString", "math.Float64frombits", "math.Float64bits", "internal/bytealg.IndexByte", "internal/abi.NoEscape", "internal/bytealg.MakeNoZero"], unfollowed := true, recurses := true, named := ["unicode/utf8.first", "unicode/utf8.acceptRanges", "internal/bytealg.MaxLen"], apart := false, laid := [("unicode/utf8.acceptRanges", laid_unicode_utf8_acceptRanges), ("unicode/utf8.first", laid_unicode_utf8_first)] }
def JoinSidesSaid : Prop := joinSidesRow.holds Tryz.pinned (OpenSpec.ofChange joinSidesSpec)

/-- ITS FALSE NEIGHBOUR: 'it returns false'. Refute it at one input. -/
def joinSidesWrong : ChangeSpec := { name := "joinSides", fn := fun _ => fun
  | [d1, d2] => { results := [.lit (.bool false)], args := [d1, d2] }
  | _ => none }
def JoinSidesWrongFalsely : Prop := joinSidesRow.holds Tryz.pinned (OpenSpec.ofChange joinSidesWrong)

/-- 'towlinelaw13.JoinKeeps': WHATEVER THE INPUT: true; the input reads as it did. -/
def joinKeepsSpec : ChangeSpec := { name := "joinKeeps", fn := fun _ => fun
  | [d1, d2] => { results := [.lit (.bool true)], args := [d1, d2] }
  | _ => none }
def joinKeepsRow : OpenClaim := { program := "ytaeleagkpgbmaaagreatdoor", sum := "fc875a9991301d1598501c5443b30e82b2aca580db2b42493492d548bd7487d2", func := "towline/towlinelaw13.JoinKeeps", spec := "joinKeeps", inPlace := ["internal/bytealg.CountString", "internal/bytealg.IndexByteString", "internal/bytealg.IndexString", "math.Float64frombits", "math.Float64bits", "internal/bytealg.IndexByte", "internal/abi.NoEscape", "internal/bytealg.MakeNoZero"], unfollowed := true, recurses := true, named := ["unicode/utf8.first", "unicode/utf8.acceptRanges", "internal/bytealg.MaxLen"], apart := false, laid := [("unicode/utf8.acceptRanges", laid_unicode_utf8_acceptRanges), ("unicode/utf8.first", laid_unicode_utf8_first)] }
def JoinKeepsSaid : Prop := joinKeepsRow.holds Tryz.pinned (OpenSpec.ofChange joinKeepsSpec)

/-- ITS FALSE NEIGHBOUR: 'it returns false'. Refute it at one input. -/
def joinKeepsWrong : ChangeSpec := { name := "joinKeeps", fn := fun _ => fun
  | [d1, d2] => { results := [.lit (.bool false)], args := [d1, d2] }
  | _ => none }
def JoinKeepsWrongFalsely : Prop := joinKeepsRow.holds Tryz.pinned (OpenSpec.ofChange joinKeepsWrong)

/-- 'towlinelaw13.JoinAgain': WHATEVER THE INPUT: true; the input reads as it did. -/
def joinAgainSpec : ChangeSpec := { name := "joinAgain", fn := fun _ => fun
  | [d] => { results := [.lit (.bool true)], args := [d] }
  | _ => none }
def joinAgainRow : OpenClaim := { program := "ytaeleagkpgbmaaagreatdoor", sum := "fc875a9991301d1598501c5443b30e82b2aca580db2b42493492d548bd7487d2", func := "towline/towlinelaw13.JoinAgain", spec := "joinAgain", inPlace := ["internal/bytealg.CountString", "internal/bytealg.IndexByteString", "internal/bytealg.IndexString", "math.Float64frombits", "math.Float64bits", "internal/bytealg.IndexByte", "internal/abi.NoEscape", "internal/bytealg.MakeNoZero"], unfollowed := true, recurses := true, named := ["unicode/utf8.first", "unicode/utf8.acceptRanges", "internal/bytealg.MaxLen"], apart := false, laid := [("unicode/utf8.acceptRanges", laid_unicode_utf8_acceptRanges), ("unicode/utf8.first", laid_unicode_utf8_first)] }
def JoinAgainSaid : Prop := joinAgainRow.holds Tryz.pinned (OpenSpec.ofChange joinAgainSpec)

/-- ITS FALSE NEIGHBOUR: 'it returns false'. Refute it at one input. -/
def joinAgainWrong : ChangeSpec := { name := "joinAgain", fn := fun _ => fun
  | [d] => { results := [.lit (.bool false)], args := [d] }
  | _ => none }
def JoinAgainWrongFalsely : Prop := joinAgainRow.holds Tryz.pinned (OpenSpec.ofChange joinAgainWrong)

/-- 'towlinelaw13.JoinTimes': WHATEVER THE INPUT: true; the input reads as it did. -/
def joinTimesSpec : ChangeSpec := { name := "joinTimes", fn := fun _ => fun
  | [d1, d2] => { results := [.lit (.bool true)], args := [d1, d2] }
  | _ => none }
def joinTimesRow : OpenClaim := { program := "ytaeleagkpgbmaaagreatdoor", sum := "fc875a9991301d1598501c5443b30e82b2aca580db2b42493492d548bd7487d2", func := "towline/towlinelaw13.JoinTimes", spec := "joinTimes", inPlace := ["internal/bytealg.CountString", "internal/bytealg.IndexByteString", "internal/bytealg.IndexString", "math.Float64frombits", "math.Float64bits", "internal/bytealg.IndexByte", "internal/abi.NoEscape", "internal/bytealg.MakeNoZero"], unfollowed := true, recurses := true, named := ["unicode/utf8.first", "unicode/utf8.acceptRanges", "internal/bytealg.MaxLen"], apart := false, laid := [("unicode/utf8.acceptRanges", laid_unicode_utf8_acceptRanges), ("unicode/utf8.first", laid_unicode_utf8_first)] }
def JoinTimesSaid : Prop := joinTimesRow.holds Tryz.pinned (OpenSpec.ofChange joinTimesSpec)

/-- ITS FALSE NEIGHBOUR: 'it returns false'. Refute it at one input. -/
def joinTimesWrong : ChangeSpec := { name := "joinTimes", fn := fun _ => fun
  | [d1, d2] => { results := [.lit (.bool false)], args := [d1, d2] }
  | _ => none }
def JoinTimesWrongFalsely : Prop := joinTimesRow.holds Tryz.pinned (OpenSpec.ofChange joinTimesWrong)

/-- 'towlinelaw13.JoinSwap': WHATEVER THE INPUT: true; the input reads as it did. -/
def joinSwapSpec : ChangeSpec := { name := "joinSwap", fn := fun _ => fun
  | [d1, d2] => { results := [.lit (.bool true)], args := [d1, d2] }
  | _ => none }
def joinSwapRow : OpenClaim := { program := "ytaeleagkpgbmaaagreatdoor", sum := "fc875a9991301d1598501c5443b30e82b2aca580db2b42493492d548bd7487d2", func := "towline/towlinelaw13.JoinSwap", spec := "joinSwap", inPlace := ["internal/bytealg.CountString", "internal/bytealg.IndexByteString", "internal/bytealg.IndexString", "math.Float64frombits", "math.Float64bits", "internal/bytealg.IndexByte", "internal/abi.NoEscape", "internal/bytealg.MakeNoZero"], unfollowed := true, recurses := true, named := ["unicode/utf8.first", "unicode/utf8.acceptRanges", "internal/bytealg.MaxLen"], apart := false, laid := [("unicode/utf8.acceptRanges", laid_unicode_utf8_acceptRanges), ("unicode/utf8.first", laid_unicode_utf8_first)] }
def JoinSwapSaid : Prop := joinSwapRow.holds Tryz.pinned (OpenSpec.ofChange joinSwapSpec)

/-- ITS FALSE NEIGHBOUR: 'it returns false'. Refute it at one input. -/
def joinSwapWrong : ChangeSpec := { name := "joinSwap", fn := fun _ => fun
  | [d1, d2] => { results := [.lit (.bool false)], args := [d1, d2] }
  | _ => none }
def JoinSwapWrongFalsely : Prop := joinSwapRow.holds Tryz.pinned (OpenSpec.ofChange joinSwapWrong)

/-- 'towlinelaw11.TreeBuilds': WHATEVER THE INPUT: true; the input reads as it did. -/
def treeBuildsSpec : ChangeSpec := { name := "treeBuilds", fn := fun _ => fun
  | [d] => { results := [.lit (.bool true)], args := [d] }
  | _ => none }
def treeBuildsRow : OpenClaim := { program := "ytaeleagkpgbmaaagreatdoor", sum := "fc875a9991301d1598501c5443b30e82b2aca580db2b42493492d548bd7487d2", func := "towline/towlinelaw11.TreeBuilds", spec := "treeBuilds", inPlace := ["internal/bytealg.CountString", "internal/bytealg.IndexByteString", "internal/bytealg.IndexString", "math.Float64frombits", "math.Float64bits"], unfollowed := true, recurses := true, named := ["unicode/utf8.first", "unicode/utf8.acceptRanges", "internal/bytealg.MaxLen"], apart := false, laid := [("unicode/utf8.acceptRanges", laid_unicode_utf8_acceptRanges), ("unicode/utf8.first", laid_unicode_utf8_first)] }
def TreeBuildsSaid : Prop := treeBuildsRow.holds Tryz.pinned (OpenSpec.ofChange treeBuildsSpec)

/-- ITS FALSE NEIGHBOUR: 'it returns false'. Refute it at one input. -/
def treeBuildsWrong : ChangeSpec := { name := "treeBuilds", fn := fun _ => fun
  | [d] => { results := [.lit (.bool false)], args := [d] }
  | _ => none }
def TreeBuildsWrongFalsely : Prop := treeBuildsRow.holds Tryz.pinned (OpenSpec.ofChange treeBuildsWrong)

/-- 'towlinelaw11.TreeBack': WHATEVER THE INPUT: true; the input reads as it did. -/
def treeBackSpec : ChangeSpec := { name := "treeBack", fn := fun _ => fun
  | [d1, d2] => { results := [.lit (.bool true)], args := [d1, d2] }
  | _ => none }
def treeBackRow : OpenClaim := { program := "ytaeleagkpgbmaaagreatdoor", sum := "fc875a9991301d1598501c5443b30e82b2aca580db2b42493492d548bd7487d2", func := "towline/towlinelaw11.TreeBack", spec := "treeBack", inPlace := ["internal/bytealg.CountString", "internal/bytealg.IndexByteString", "internal/bytealg.IndexString", "math.Float64frombits", "math.Float64bits"], unfollowed := true, recurses := true, named := ["unicode/utf8.first", "unicode/utf8.acceptRanges", "internal/bytealg.MaxLen"], apart := false, laid := [("unicode/utf8.acceptRanges", laid_unicode_utf8_acceptRanges), ("unicode/utf8.first", laid_unicode_utf8_first)] }
def TreeBackSaid : Prop := treeBackRow.holds Tryz.pinned (OpenSpec.ofChange treeBackSpec)

/-- ITS FALSE NEIGHBOUR: 'it returns false'. Refute it at one input. -/
def treeBackWrong : ChangeSpec := { name := "treeBack", fn := fun _ => fun
  | [d1, d2] => { results := [.lit (.bool false)], args := [d1, d2] }
  | _ => none }
def TreeBackWrongFalsely : Prop := treeBackRow.holds Tryz.pinned (OpenSpec.ofChange treeBackWrong)

/-- 'towlinelaw11.TreeSame': WHATEVER THE INPUT: true; the input reads as it did. -/
def treeSameSpec : ChangeSpec := { name := "treeSame", fn := fun _ => fun
  | [d1, d2] => { results := [.lit (.bool true)], args := [d1, d2] }
  | _ => none }
def treeSameRow : OpenClaim := { program := "ytaeleagkpgbmaaagreatdoor", sum := "fc875a9991301d1598501c5443b30e82b2aca580db2b42493492d548bd7487d2", func := "towline/towlinelaw11.TreeSame", spec := "treeSame", inPlace := ["internal/bytealg.CountString", "internal/bytealg.IndexByteString", "internal/bytealg.IndexString", "math.Float64frombits", "math.Float64bits"], unfollowed := true, recurses := true, named := ["unicode/utf8.first", "unicode/utf8.acceptRanges", "internal/bytealg.MaxLen"], apart := false, laid := [("unicode/utf8.acceptRanges", laid_unicode_utf8_acceptRanges), ("unicode/utf8.first", laid_unicode_utf8_first)] }
def TreeSameSaid : Prop := treeSameRow.holds Tryz.pinned (OpenSpec.ofChange treeSameSpec)

/-- ITS FALSE NEIGHBOUR: 'it returns false'. Refute it at one input. -/
def treeSameWrong : ChangeSpec := { name := "treeSame", fn := fun _ => fun
  | [d1, d2] => { results := [.lit (.bool false)], args := [d1, d2] }
  | _ => none }
def TreeSameWrongFalsely : Prop := treeSameRow.holds Tryz.pinned (OpenSpec.ofChange treeSameWrong)

/- THE SECOND FORM. 'bulk': how many values and letters a reading holds, each counted each time it is reached (what is shared counts as often as it is met; a slice's spare places count too). A statement '..UptoSaid' is the law's where the arguments, and the package variables that the reading takes, are together of bulk at most 1048576: NARROWER than '..Said'. Prove '..Said' where nothing that the law and all that it calls make is longer than what came in: it says more and counts as full. Else prove '..UptoSaid'. A law counts once. -/
mutual
def uptoBulk {H : Type} : DataW H → Nat
  | .lit (.string bytes) => bytes.length + 1
  | .lit _ => 1
  | .nil => 1
  | .ptr d => uptoBulk d + 1
  | .slice elems spare => uptoBulkAll elems + uptoBulkAll spare + 1
  | .agg parts => uptoBulkAll parts + 1
  | .iface _ d => uptoBulk d + 1
  | .map entries => uptoBulkEntries entries + 1
  | .held _ => 1
def uptoBulkAll {H : Type} : List (DataW H) → Nat
  | [] => 0
  | d :: r => uptoBulk d + uptoBulkAll r
def uptoBulkEntries {H : Type} : List (Lit × DataW H) → Nat
  | [] => 0
  | x :: r => uptoBulkEntry x + uptoBulkEntries r
def uptoBulkEntry {H : Type} : Lit × DataW H → Nat
  | (.string bytes, d) => bytes.length + uptoBulk d + 1
  | (_, d) => uptoBulk d + 1
 end
def uptoSmall : (H : Type) → List (DataW H) → Bool := fun _ ds => decide (uptoBulkAll ds ≤ 1048576)
def OpenSpec.upto (s : _root_.Go.ChangeSpec) : _root_.Go.OpenSpec := { _root_.Go.OpenSpec.ofChange s with cond := some uptoSmall }

/-- 'towlinelaw13.JoinMerges', WHERE WHAT IT READS IS OF BULK AT MOST 1048576: true; the input reads as it did. -/
def joinMergesUptoRow : OpenClaim := { program := "ytaeleagkpgbmaaagreatdoor", sum := "fc875a9991301d1598501c5443b30e82b2aca580db2b42493492d548bd7487d2", func := "towline/towlinelaw13.JoinMerges", spec := "joinMerges", inPlace := ["internal/bytealg.CountString", "internal/bytealg.IndexByteString", "internal/bytealg.IndexString", "math.Float64frombits", "math.Float64bits", "internal/bytealg.IndexByte", "internal/abi.NoEscape", "internal/bytealg.MakeNoZero"], unfollowed := true, recurses := true, named := ["unicode/utf8.first", "unicode/utf8.acceptRanges", "internal/bytealg.MaxLen"], apart := false, laid := [("unicode/utf8.acceptRanges", laid_unicode_utf8_acceptRanges), ("unicode/utf8.first", laid_unicode_utf8_first)], narrowed := true }
def JoinMergesUptoSaid : Prop := joinMergesUptoRow.holds Tryz.pinned (OpenSpec.upto joinMergesSpec)

/-- 'towlinelaw13.JoinSides', WHERE WHAT IT READS IS OF BULK AT MOST 1048576: true; the input reads as it did. -/
def joinSidesUptoRow : OpenClaim := { program := "ytaeleagkpgbmaaagreatdoor", sum := "fc875a9991301d1598501c5443b30e82b2aca580db2b42493492d548bd7487d2", func := "towline/towlinelaw13.JoinSides", spec := "joinSides", inPlace := ["internal/bytealg.CountString", "internal/bytealg.IndexByteString", "internal/bytealg.IndexString", "math.Float64frombits", "math.Float64bits", "internal/bytealg.IndexByte", "internal/abi.NoEscape", "internal/bytealg.MakeNoZero"], unfollowed := true, recurses := true, named := ["unicode/utf8.first", "unicode/utf8.acceptRanges", "internal/bytealg.MaxLen"], apart := false, laid := [("unicode/utf8.acceptRanges", laid_unicode_utf8_acceptRanges), ("unicode/utf8.first", laid_unicode_utf8_first)], narrowed := true }
def JoinSidesUptoSaid : Prop := joinSidesUptoRow.holds Tryz.pinned (OpenSpec.upto joinSidesSpec)

/-- 'towlinelaw13.JoinKeeps', WHERE WHAT IT READS IS OF BULK AT MOST 1048576: true; the input reads as it did. -/
def joinKeepsUptoRow : OpenClaim := { program := "ytaeleagkpgbmaaagreatdoor", sum := "fc875a9991301d1598501c5443b30e82b2aca580db2b42493492d548bd7487d2", func := "towline/towlinelaw13.JoinKeeps", spec := "joinKeeps", inPlace := ["internal/bytealg.CountString", "internal/bytealg.IndexByteString", "internal/bytealg.IndexString", "math.Float64frombits", "math.Float64bits", "internal/bytealg.IndexByte", "internal/abi.NoEscape", "internal/bytealg.MakeNoZero"], unfollowed := true, recurses := true, named := ["unicode/utf8.first", "unicode/utf8.acceptRanges", "internal/bytealg.MaxLen"], apart := false, laid := [("unicode/utf8.acceptRanges", laid_unicode_utf8_acceptRanges), ("unicode/utf8.first", laid_unicode_utf8_first)], narrowed := true }
def JoinKeepsUptoSaid : Prop := joinKeepsUptoRow.holds Tryz.pinned (OpenSpec.upto joinKeepsSpec)

/-- 'towlinelaw13.JoinAgain', WHERE WHAT IT READS IS OF BULK AT MOST 1048576: true; the input reads as it did. -/
def joinAgainUptoRow : OpenClaim := { program := "ytaeleagkpgbmaaagreatdoor", sum := "fc875a9991301d1598501c5443b30e82b2aca580db2b42493492d548bd7487d2", func := "towline/towlinelaw13.JoinAgain", spec := "joinAgain", inPlace := ["internal/bytealg.CountString", "internal/bytealg.IndexByteString", "internal/bytealg.IndexString", "math.Float64frombits", "math.Float64bits", "internal/bytealg.IndexByte", "internal/abi.NoEscape", "internal/bytealg.MakeNoZero"], unfollowed := true, recurses := true, named := ["unicode/utf8.first", "unicode/utf8.acceptRanges", "internal/bytealg.MaxLen"], apart := false, laid := [("unicode/utf8.acceptRanges", laid_unicode_utf8_acceptRanges), ("unicode/utf8.first", laid_unicode_utf8_first)], narrowed := true }
def JoinAgainUptoSaid : Prop := joinAgainUptoRow.holds Tryz.pinned (OpenSpec.upto joinAgainSpec)

/-- 'towlinelaw13.JoinTimes', WHERE WHAT IT READS IS OF BULK AT MOST 1048576: true; the input reads as it did. -/
def joinTimesUptoRow : OpenClaim := { program := "ytaeleagkpgbmaaagreatdoor", sum := "fc875a9991301d1598501c5443b30e82b2aca580db2b42493492d548bd7487d2", func := "towline/towlinelaw13.JoinTimes", spec := "joinTimes", inPlace := ["internal/bytealg.CountString", "internal/bytealg.IndexByteString", "internal/bytealg.IndexString", "math.Float64frombits", "math.Float64bits", "internal/bytealg.IndexByte", "internal/abi.NoEscape", "internal/bytealg.MakeNoZero"], unfollowed := true, recurses := true, named := ["unicode/utf8.first", "unicode/utf8.acceptRanges", "internal/bytealg.MaxLen"], apart := false, laid := [("unicode/utf8.acceptRanges", laid_unicode_utf8_acceptRanges), ("unicode/utf8.first", laid_unicode_utf8_first)], narrowed := true }
def JoinTimesUptoSaid : Prop := joinTimesUptoRow.holds Tryz.pinned (OpenSpec.upto joinTimesSpec)

/-- 'towlinelaw13.JoinSwap', WHERE WHAT IT READS IS OF BULK AT MOST 1048576: true; the input reads as it did. -/
def joinSwapUptoRow : OpenClaim := { program := "ytaeleagkpgbmaaagreatdoor", sum := "fc875a9991301d1598501c5443b30e82b2aca580db2b42493492d548bd7487d2", func := "towline/towlinelaw13.JoinSwap", spec := "joinSwap", inPlace := ["internal/bytealg.CountString", "internal/bytealg.IndexByteString", "internal/bytealg.IndexString", "math.Float64frombits", "math.Float64bits", "internal/bytealg.IndexByte", "internal/abi.NoEscape", "internal/bytealg.MakeNoZero"], unfollowed := true, recurses := true, named := ["unicode/utf8.first", "unicode/utf8.acceptRanges", "internal/bytealg.MaxLen"], apart := false, laid := [("unicode/utf8.acceptRanges", laid_unicode_utf8_acceptRanges), ("unicode/utf8.first", laid_unicode_utf8_first)], narrowed := true }
def JoinSwapUptoSaid : Prop := joinSwapUptoRow.holds Tryz.pinned (OpenSpec.upto joinSwapSpec)

/-- 'towlinelaw11.TreeBuilds', WHERE WHAT IT READS IS OF BULK AT MOST 1048576: true; the input reads as it did. -/
def treeBuildsUptoRow : OpenClaim := { program := "ytaeleagkpgbmaaagreatdoor", sum := "fc875a9991301d1598501c5443b30e82b2aca580db2b42493492d548bd7487d2", func := "towline/towlinelaw11.TreeBuilds", spec := "treeBuilds", inPlace := ["internal/bytealg.CountString", "internal/bytealg.IndexByteString", "internal/bytealg.IndexString", "math.Float64frombits", "math.Float64bits"], unfollowed := true, recurses := true, named := ["unicode/utf8.first", "unicode/utf8.acceptRanges", "internal/bytealg.MaxLen"], apart := false, laid := [("unicode/utf8.acceptRanges", laid_unicode_utf8_acceptRanges), ("unicode/utf8.first", laid_unicode_utf8_first)], narrowed := true }
def TreeBuildsUptoSaid : Prop := treeBuildsUptoRow.holds Tryz.pinned (OpenSpec.upto treeBuildsSpec)

/-- 'towlinelaw11.TreeBack', WHERE WHAT IT READS IS OF BULK AT MOST 1048576: true; the input reads as it did. -/
def treeBackUptoRow : OpenClaim := { program := "ytaeleagkpgbmaaagreatdoor", sum := "fc875a9991301d1598501c5443b30e82b2aca580db2b42493492d548bd7487d2", func := "towline/towlinelaw11.TreeBack", spec := "treeBack", inPlace := ["internal/bytealg.CountString", "internal/bytealg.IndexByteString", "internal/bytealg.IndexString", "math.Float64frombits", "math.Float64bits"], unfollowed := true, recurses := true, named := ["unicode/utf8.first", "unicode/utf8.acceptRanges", "internal/bytealg.MaxLen"], apart := false, laid := [("unicode/utf8.acceptRanges", laid_unicode_utf8_acceptRanges), ("unicode/utf8.first", laid_unicode_utf8_first)], narrowed := true }
def TreeBackUptoSaid : Prop := treeBackUptoRow.holds Tryz.pinned (OpenSpec.upto treeBackSpec)

/-- 'towlinelaw11.TreeSame', WHERE WHAT IT READS IS OF BULK AT MOST 1048576: true; the input reads as it did. -/
def treeSameUptoRow : OpenClaim := { program := "ytaeleagkpgbmaaagreatdoor", sum := "fc875a9991301d1598501c5443b30e82b2aca580db2b42493492d548bd7487d2", func := "towline/towlinelaw11.TreeSame", spec := "treeSame", inPlace := ["internal/bytealg.CountString", "internal/bytealg.IndexByteString", "internal/bytealg.IndexString", "math.Float64frombits", "math.Float64bits"], unfollowed := true, recurses := true, named := ["unicode/utf8.first", "unicode/utf8.acceptRanges", "internal/bytealg.MaxLen"], apart := false, laid := [("unicode/utf8.acceptRanges", laid_unicode_utf8_acceptRanges), ("unicode/utf8.first", laid_unicode_utf8_first)], narrowed := true }
def TreeSameUptoSaid : Prop := treeSameUptoRow.holds Tryz.pinned (OpenSpec.upto treeSameSpec)

end Rows
end Go.Proofs.YtaeleagkpgbmaaaGreatDoor
