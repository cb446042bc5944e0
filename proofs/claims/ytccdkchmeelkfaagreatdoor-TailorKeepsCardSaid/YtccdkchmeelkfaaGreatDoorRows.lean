/-
  NARROWER THAN 'FOR EVERY INPUT', by the rows' own cells (each row's printed sentence says how): TailorRows: laid · TailorFull: laid · TailorApplies: laid · TailorReads: laid · TailorKeeps: laid · TailorPlaces: laid · CollShifts: laid · CollBacks: laid · CollCases: laid · TailorSame: laid · TailorPairs: laid · CollChains: laid · CollLevels: laid · CollTells: laid · CollSorts: laid.
  DERIVED. THE GIVEN ROWS OF THIS SEAT. 15 by the template 'for every input the law returns true; each argument reads behind the call as it read before'; 0 by the template 'total and deterministic' (their statements: YtccdkchmeelkfaaGreatDoorTotals.lean).
  GIVEN WITH THE SEED: the statements are not yours to turn. If you find one false, say at which input.
  Laid BY PROGRAM, IN A SANDBOX (cutbox-rows.mjs): the forced cells as the released guide's own fill.sh prints them over the translation ff23f5b08470a0db… (all of the seat's roots in one cut). By AI agents, Wed Nov 11 2026. No macro, syntax, notation, axiom, sorry.
-/
import Derived.Test.YtccdkchmeelkfaaGreatDoorChecked
import GoSem.PinnedTables
import GoSem.Claim
import GoSem.ClaimJoined
import GoSem.ClaimMapViews
import Derived.JoinedTies
import Derived.KernelRfl
namespace Go.Proofs.YtccdkchmeelkfaaGreatDoor
/- THE CELL 'sum', in the pinned program and in every row, IS THE sha256 OF THE DUMP (.gsa) THAT YtccdkchmeelkfaaGreatDoorProg.lean LOADS. Nothing in Lean hashes anything: it is a label: what it is worth is what the hold of that sum in a sandbox is worth. -/
noncomputable def Tryz.pinned : Pinned := { name := "ytccdkchmeelkfaagreatdoor", sum := "ff23f5b08470a0db9f71620afbd67fa731d2fe8213a5874f4a31c9db1c23b8d0", checked := Tryz.checked }
namespace Rows
def none {H : Type} : Left H := { results := [], args := [] }

/- WHAT THE LISTED PACKAGE-LEVEL VARIABLES READ AS WHEN THE CALL BEGINS. Each datum BY PROGRAM (the guide's laid-datum.mjs) off the statement by which the dump's own 'gosem.cut.vars' lays the variable. In a bare row this is a premise. The card (YtccdkchmeelkfaaGreatDoorCards.lean) ties it to the program's text. -/
def laid_unicode_utf8_acceptRanges {H : Type} : DataW H := .agg [.agg [.lit (.int .u8 128), .lit (.int .u8 191)], .agg [.lit (.int .u8 160), .lit (.int .u8 191)], .agg [.lit (.int .u8 128), .lit (.int .u8 159)], .agg [.lit (.int .u8 144), .lit (.int .u8 191)], .agg [.lit (.int .u8 128), .lit (.int .u8 143)], .agg [.lit (.int .u8 0), .lit (.int .u8 0)], .agg [.lit (.int .u8 0), .lit (.int .u8 0)], .agg [.lit (.int .u8 0), .lit (.int .u8 0)], .agg [.lit (.int .u8 0), .lit (.int .u8 0)], .agg [.lit (.int .u8 0), .lit (.int .u8 0)], .agg [.lit (.int .u8 0), .lit (.int .u8 0)], .agg [.lit (.int .u8 0), .lit (.int .u8 0)], .agg [.lit (.int .u8 0), .lit (.int .u8 0)], .agg [.lit (.int .u8 0), .lit (.int .u8 0)], .agg [.lit (.int .u8 0), .lit (.int .u8 0)], .agg [.lit (.int .u8 0), .lit (.int .u8 0)]]
/-- One of Go's own tables, pinned by name: the form's constant. -/
def laid_unicode_utf8_first : DataW Unit := Go.Pinned.utf8First

/-- 'umlautlaw7.TailorRows': WHATEVER THE INPUT: true; the input reads as it did. -/
def tailorRowsSpec : ChangeSpec := { name := "tailorRows", fn := fun _ => fun
  | [d] => { results := [.lit (.bool true)], args := [d] }
  | _ => none }
def tailorRowsRow : OpenClaim := { program := "ytccdkchmeelkfaagreatdoor", sum := "ff23f5b08470a0db9f71620afbd67fa731d2fe8213a5874f4a31c9db1c23b8d0", func := "umlaut/umlautlaw7.TailorRows", spec := "tailorRows", inPlace := ["maps.clone"], unfollowed := true, recurses := true, named := ["unicode/utf8.first", "unicode/utf8.acceptRanges"], plainKeys := false, apart := false, laid := [("unicode/utf8.acceptRanges", laid_unicode_utf8_acceptRanges), ("unicode/utf8.first", laid_unicode_utf8_first)] }
def TailorRowsSaid : Prop := tailorRowsRow.holds Tryz.pinned (OpenSpec.ofChange tailorRowsSpec)

/-- ITS FALSE NEIGHBOUR: 'it returns false'. Refute it at one input. -/
def tailorRowsWrong : ChangeSpec := { name := "tailorRows", fn := fun _ => fun
  | [d] => { results := [.lit (.bool false)], args := [d] }
  | _ => none }
def TailorRowsWrongFalsely : Prop := tailorRowsRow.holds Tryz.pinned (OpenSpec.ofChange tailorRowsWrong)

/-- 'umlautlaw7.TailorFull': WHATEVER THE INPUT: true; the input reads as it did. -/
def tailorFullSpec : ChangeSpec := { name := "tailorFull", fn := fun _ => fun
  | [d] => { results := [.lit (.bool true)], args := [d] }
  | _ => none }
def tailorFullRow : OpenClaim := { program := "ytccdkchmeelkfaagreatdoor", sum := "ff23f5b08470a0db9f71620afbd67fa731d2fe8213a5874f4a31c9db1c23b8d0", func := "umlaut/umlautlaw7.TailorFull", spec := "tailorFull", inPlace := ["maps.clone"], unfollowed := true, recurses := true, named := ["unicode/utf8.first", "unicode/utf8.acceptRanges"], plainKeys := false, apart := false, laid := [("unicode/utf8.acceptRanges", laid_unicode_utf8_acceptRanges), ("unicode/utf8.first", laid_unicode_utf8_first)] }
def TailorFullSaid : Prop := tailorFullRow.holds Tryz.pinned (OpenSpec.ofChange tailorFullSpec)

/-- ITS FALSE NEIGHBOUR: 'it returns false'. Refute it at one input. -/
def tailorFullWrong : ChangeSpec := { name := "tailorFull", fn := fun _ => fun
  | [d] => { results := [.lit (.bool false)], args := [d] }
  | _ => none }
def TailorFullWrongFalsely : Prop := tailorFullRow.holds Tryz.pinned (OpenSpec.ofChange tailorFullWrong)

/-- 'umlautlaw7.TailorApplies': WHATEVER THE INPUT: true; the input reads as it did. -/
def tailorAppliesSpec : ChangeSpec := { name := "tailorApplies", fn := fun _ => fun
  | [d1, d2] => { results := [.lit (.bool true)], args := [d1, d2] }
  | _ => none }
def tailorAppliesRow : OpenClaim := { program := "ytccdkchmeelkfaagreatdoor", sum := "ff23f5b08470a0db9f71620afbd67fa731d2fe8213a5874f4a31c9db1c23b8d0", func := "umlaut/umlautlaw7.TailorApplies", spec := "tailorApplies", inPlace := ["maps.clone"], unfollowed := true, recurses := true, named := ["unicode/utf8.first", "unicode/utf8.acceptRanges"], plainKeys := false, apart := false, laid := [("unicode/utf8.acceptRanges", laid_unicode_utf8_acceptRanges), ("unicode/utf8.first", laid_unicode_utf8_first)] }
def TailorAppliesSaid : Prop := tailorAppliesRow.holds Tryz.pinned (OpenSpec.ofChange tailorAppliesSpec)

/-- ITS FALSE NEIGHBOUR: 'it returns false'. Refute it at one input. -/
def tailorAppliesWrong : ChangeSpec := { name := "tailorApplies", fn := fun _ => fun
  | [d1, d2] => { results := [.lit (.bool false)], args := [d1, d2] }
  | _ => none }
def TailorAppliesWrongFalsely : Prop := tailorAppliesRow.holds Tryz.pinned (OpenSpec.ofChange tailorAppliesWrong)

/-- 'umlautlaw7.TailorReads': WHATEVER THE INPUT: true; the input reads as it did. -/
def tailorReadsSpec : ChangeSpec := { name := "tailorReads", fn := fun _ => fun
  | [d] => { results := [.lit (.bool true)], args := [d] }
  | _ => none }
def tailorReadsRow : OpenClaim := { program := "ytccdkchmeelkfaagreatdoor", sum := "ff23f5b08470a0db9f71620afbd67fa731d2fe8213a5874f4a31c9db1c23b8d0", func := "umlaut/umlautlaw7.TailorReads", spec := "tailorReads", inPlace := ["maps.clone"], unfollowed := true, recurses := true, named := ["unicode/utf8.first", "unicode/utf8.acceptRanges"], plainKeys := false, apart := false, laid := [("unicode/utf8.acceptRanges", laid_unicode_utf8_acceptRanges), ("unicode/utf8.first", laid_unicode_utf8_first)] }
def TailorReadsSaid : Prop := tailorReadsRow.holds Tryz.pinned (OpenSpec.ofChange tailorReadsSpec)

/-- ITS FALSE NEIGHBOUR: 'it returns false'. Refute it at one input. -/
def tailorReadsWrong : ChangeSpec := { name := "tailorReads", fn := fun _ => fun
  | [d] => { results := [.lit (.bool false)], args := [d] }
  | _ => none }
def TailorReadsWrongFalsely : Prop := tailorReadsRow.holds Tryz.pinned (OpenSpec.ofChange tailorReadsWrong)

/-- 'umlautlaw7.TailorKeeps': WHATEVER THE INPUT: true; the input reads as it did. -/
def tailorKeepsSpec : ChangeSpec := { name := "tailorKeeps", fn := fun _ => fun
  | [d1, d2, d3] => { results := [.lit (.bool true)], args := [d1, d2, d3] }
  | _ => none }
def tailorKeepsRow : OpenClaim := { program := "ytccdkchmeelkfaagreatdoor", sum := "ff23f5b08470a0db9f71620afbd67fa731d2fe8213a5874f4a31c9db1c23b8d0", func := "umlaut/umlautlaw7.TailorKeeps", spec := "tailorKeeps", inPlace := ["maps.clone"], unfollowed := true, recurses := true, named := ["unicode/utf8.first", "unicode/utf8.acceptRanges"], plainKeys := false, apart := false, laid := [("unicode/utf8.acceptRanges", laid_unicode_utf8_acceptRanges), ("unicode/utf8.first", laid_unicode_utf8_first)] }
def TailorKeepsSaid : Prop := tailorKeepsRow.holds Tryz.pinned (OpenSpec.ofChange tailorKeepsSpec)

/-- ITS FALSE NEIGHBOUR: 'it returns false'. Refute it at one input. -/
def tailorKeepsWrong : ChangeSpec := { name := "tailorKeeps", fn := fun _ => fun
  | [d1, d2, d3] => { results := [.lit (.bool false)], args := [d1, d2, d3] }
  | _ => none }
def TailorKeepsWrongFalsely : Prop := tailorKeepsRow.holds Tryz.pinned (OpenSpec.ofChange tailorKeepsWrong)

/-- 'umlautlaw7.TailorPlaces': WHATEVER THE INPUT: true; the input reads as it did. -/
def tailorPlacesSpec : ChangeSpec := { name := "tailorPlaces", fn := fun _ => fun
  | [d1, d2, d3, d4] => { results := [.lit (.bool true)], args := [d1, d2, d3, d4] }
  | _ => none }
def tailorPlacesRow : OpenClaim := { program := "ytccdkchmeelkfaagreatdoor", sum := "ff23f5b08470a0db9f71620afbd67fa731d2fe8213a5874f4a31c9db1c23b8d0", func := "umlaut/umlautlaw7.TailorPlaces", spec := "tailorPlaces", inPlace := ["maps.clone"], unfollowed := true, recurses := true, named := ["unicode/utf8.first", "unicode/utf8.acceptRanges"], plainKeys := false, apart := false, laid := [("unicode/utf8.acceptRanges", laid_unicode_utf8_acceptRanges), ("unicode/utf8.first", laid_unicode_utf8_first)] }
def TailorPlacesSaid : Prop := tailorPlacesRow.holds Tryz.pinned (OpenSpec.ofChange tailorPlacesSpec)

/-- ITS FALSE NEIGHBOUR: 'it returns false'. Refute it at one input. -/
def tailorPlacesWrong : ChangeSpec := { name := "tailorPlaces", fn := fun _ => fun
  | [d1, d2, d3, d4] => { results := [.lit (.bool false)], args := [d1, d2, d3, d4] }
  | _ => none }
def TailorPlacesWrongFalsely : Prop := tailorPlacesRow.holds Tryz.pinned (OpenSpec.ofChange tailorPlacesWrong)

/-- 'umlautlaw8.CollShifts': WHATEVER THE INPUT: true; the input reads as it did. -/
def collShiftsSpec : ChangeSpec := { name := "collShifts", fn := fun _ => fun
  | [d1, d2, d3, d4] => { results := [.lit (.bool true)], args := [d1, d2, d3, d4] }
  | _ => none }
def collShiftsRow : OpenClaim := { program := "ytccdkchmeelkfaagreatdoor", sum := "ff23f5b08470a0db9f71620afbd67fa731d2fe8213a5874f4a31c9db1c23b8d0", func := "umlaut/umlautlaw8.CollShifts", spec := "collShifts", inPlace := ["maps.clone"], unfollowed := true, recurses := true, named := ["unicode/utf8.first", "unicode/utf8.acceptRanges"], plainKeys := false, apart := false, laid := [("unicode/utf8.acceptRanges", laid_unicode_utf8_acceptRanges), ("unicode/utf8.first", laid_unicode_utf8_first)] }
def CollShiftsSaid : Prop := collShiftsRow.holds Tryz.pinned (OpenSpec.ofChange collShiftsSpec)

/-- ITS FALSE NEIGHBOUR: 'it returns false'. Refute it at one input. -/
def collShiftsWrong : ChangeSpec := { name := "collShifts", fn := fun _ => fun
  | [d1, d2, d3, d4] => { results := [.lit (.bool false)], args := [d1, d2, d3, d4] }
  | _ => none }
def CollShiftsWrongFalsely : Prop := collShiftsRow.holds Tryz.pinned (OpenSpec.ofChange collShiftsWrong)

/-- 'umlautlaw8.CollBacks': WHATEVER THE INPUT: true; the input reads as it did. -/
def collBacksSpec : ChangeSpec := { name := "collBacks", fn := fun _ => fun
  | [d1, d2] => { results := [.lit (.bool true)], args := [d1, d2] }
  | _ => none }
def collBacksRow : OpenClaim := { program := "ytccdkchmeelkfaagreatdoor", sum := "ff23f5b08470a0db9f71620afbd67fa731d2fe8213a5874f4a31c9db1c23b8d0", func := "umlaut/umlautlaw8.CollBacks", spec := "collBacks", inPlace := ["maps.clone"], unfollowed := true, recurses := true, named := ["unicode/utf8.first", "unicode/utf8.acceptRanges"], plainKeys := false, apart := false, laid := [("unicode/utf8.acceptRanges", laid_unicode_utf8_acceptRanges), ("unicode/utf8.first", laid_unicode_utf8_first)] }
def CollBacksSaid : Prop := collBacksRow.holds Tryz.pinned (OpenSpec.ofChange collBacksSpec)

/-- ITS FALSE NEIGHBOUR: 'it returns false'. Refute it at one input. -/
def collBacksWrong : ChangeSpec := { name := "collBacks", fn := fun _ => fun
  | [d1, d2] => { results := [.lit (.bool false)], args := [d1, d2] }
  | _ => none }
def CollBacksWrongFalsely : Prop := collBacksRow.holds Tryz.pinned (OpenSpec.ofChange collBacksWrong)

/-- 'umlautlaw8.CollCases': WHATEVER THE INPUT: true; the input reads as it did. -/
def collCasesSpec : ChangeSpec := { name := "collCases", fn := fun _ => fun
  | [d1, d2, d3] => { results := [.lit (.bool true)], args := [d1, d2, d3] }
  | _ => none }
def collCasesRow : OpenClaim := { program := "ytccdkchmeelkfaagreatdoor", sum := "ff23f5b08470a0db9f71620afbd67fa731d2fe8213a5874f4a31c9db1c23b8d0", func := "umlaut/umlautlaw8.CollCases", spec := "collCases", inPlace := ["maps.clone"], unfollowed := true, recurses := true, named := ["unicode/utf8.first", "unicode/utf8.acceptRanges"], plainKeys := false, apart := false, laid := [("unicode/utf8.acceptRanges", laid_unicode_utf8_acceptRanges), ("unicode/utf8.first", laid_unicode_utf8_first)] }
def CollCasesSaid : Prop := collCasesRow.holds Tryz.pinned (OpenSpec.ofChange collCasesSpec)

/-- ITS FALSE NEIGHBOUR: 'it returns false'. Refute it at one input. -/
def collCasesWrong : ChangeSpec := { name := "collCases", fn := fun _ => fun
  | [d1, d2, d3] => { results := [.lit (.bool false)], args := [d1, d2, d3] }
  | _ => none }
def CollCasesWrongFalsely : Prop := collCasesRow.holds Tryz.pinned (OpenSpec.ofChange collCasesWrong)

/-- 'umlautlaw8.TailorSame': WHATEVER THE INPUT: true; the input reads as it did. -/
def tailorSameSpec : ChangeSpec := { name := "tailorSame", fn := fun _ => fun
  | [d1, d2, d3, d4] => { results := [.lit (.bool true)], args := [d1, d2, d3, d4] }
  | _ => none }
def tailorSameRow : OpenClaim := { program := "ytccdkchmeelkfaagreatdoor", sum := "ff23f5b08470a0db9f71620afbd67fa731d2fe8213a5874f4a31c9db1c23b8d0", func := "umlaut/umlautlaw8.TailorSame", spec := "tailorSame", inPlace := ["maps.clone"], unfollowed := true, recurses := true, named := ["unicode/utf8.first", "unicode/utf8.acceptRanges"], plainKeys := false, apart := false, laid := [("unicode/utf8.acceptRanges", laid_unicode_utf8_acceptRanges), ("unicode/utf8.first", laid_unicode_utf8_first)] }
def TailorSameSaid : Prop := tailorSameRow.holds Tryz.pinned (OpenSpec.ofChange tailorSameSpec)

/-- ITS FALSE NEIGHBOUR: 'it returns false'. Refute it at one input. -/
def tailorSameWrong : ChangeSpec := { name := "tailorSame", fn := fun _ => fun
  | [d1, d2, d3, d4] => { results := [.lit (.bool false)], args := [d1, d2, d3, d4] }
  | _ => none }
def TailorSameWrongFalsely : Prop := tailorSameRow.holds Tryz.pinned (OpenSpec.ofChange tailorSameWrong)

/-- 'umlautlaw8.TailorPairs': WHATEVER THE INPUT: true; the input reads as it did. -/
def tailorPairsSpec : ChangeSpec := { name := "tailorPairs", fn := fun _ => fun
  | [d1, d2, d3, d4] => { results := [.lit (.bool true)], args := [d1, d2, d3, d4] }
  | _ => none }
def tailorPairsRow : OpenClaim := { program := "ytccdkchmeelkfaagreatdoor", sum := "ff23f5b08470a0db9f71620afbd67fa731d2fe8213a5874f4a31c9db1c23b8d0", func := "umlaut/umlautlaw8.TailorPairs", spec := "tailorPairs", inPlace := ["maps.clone"], unfollowed := true, recurses := true, named := ["unicode/utf8.first", "unicode/utf8.acceptRanges"], plainKeys := false, apart := false, laid := [("unicode/utf8.acceptRanges", laid_unicode_utf8_acceptRanges), ("unicode/utf8.first", laid_unicode_utf8_first)] }
def TailorPairsSaid : Prop := tailorPairsRow.holds Tryz.pinned (OpenSpec.ofChange tailorPairsSpec)

/-- ITS FALSE NEIGHBOUR: 'it returns false'. Refute it at one input. -/
def tailorPairsWrong : ChangeSpec := { name := "tailorPairs", fn := fun _ => fun
  | [d1, d2, d3, d4] => { results := [.lit (.bool false)], args := [d1, d2, d3, d4] }
  | _ => none }
def TailorPairsWrongFalsely : Prop := tailorPairsRow.holds Tryz.pinned (OpenSpec.ofChange tailorPairsWrong)

/-- 'umlautlaw8.CollChains': WHATEVER THE INPUT: true; the input reads as it did. -/
def collChainsSpec : ChangeSpec := { name := "collChains", fn := fun _ => fun
  | [d1, d2, d3, d4, d5, d6, d7, d8] => { results := [.lit (.bool true)], args := [d1, d2, d3, d4, d5, d6, d7, d8] }
  | _ => none }
def collChainsRow : OpenClaim := { program := "ytccdkchmeelkfaagreatdoor", sum := "ff23f5b08470a0db9f71620afbd67fa731d2fe8213a5874f4a31c9db1c23b8d0", func := "umlaut/umlautlaw8.CollChains", spec := "collChains", inPlace := ["maps.clone"], unfollowed := true, recurses := true, named := ["unicode/utf8.first", "unicode/utf8.acceptRanges"], plainKeys := false, apart := false, laid := [("unicode/utf8.acceptRanges", laid_unicode_utf8_acceptRanges), ("unicode/utf8.first", laid_unicode_utf8_first)] }
def CollChainsSaid : Prop := collChainsRow.holds Tryz.pinned (OpenSpec.ofChange collChainsSpec)

/-- ITS FALSE NEIGHBOUR: 'it returns false'. Refute it at one input. -/
def collChainsWrong : ChangeSpec := { name := "collChains", fn := fun _ => fun
  | [d1, d2, d3, d4, d5, d6, d7, d8] => { results := [.lit (.bool false)], args := [d1, d2, d3, d4, d5, d6, d7, d8] }
  | _ => none }
def CollChainsWrongFalsely : Prop := collChainsRow.holds Tryz.pinned (OpenSpec.ofChange collChainsWrong)

/-- 'umlautlaw8.CollLevels': WHATEVER THE INPUT: true; the input reads as it did. -/
def collLevelsSpec : ChangeSpec := { name := "collLevels", fn := fun _ => fun
  | [d1, d2, d3, d4] => { results := [.lit (.bool true)], args := [d1, d2, d3, d4] }
  | _ => none }
def collLevelsRow : OpenClaim := { program := "ytccdkchmeelkfaagreatdoor", sum := "ff23f5b08470a0db9f71620afbd67fa731d2fe8213a5874f4a31c9db1c23b8d0", func := "umlaut/umlautlaw8.CollLevels", spec := "collLevels", inPlace := ["maps.clone"], unfollowed := true, recurses := true, named := ["unicode/utf8.first", "unicode/utf8.acceptRanges"], plainKeys := false, apart := false, laid := [("unicode/utf8.acceptRanges", laid_unicode_utf8_acceptRanges), ("unicode/utf8.first", laid_unicode_utf8_first)] }
def CollLevelsSaid : Prop := collLevelsRow.holds Tryz.pinned (OpenSpec.ofChange collLevelsSpec)

/-- ITS FALSE NEIGHBOUR: 'it returns false'. Refute it at one input. -/
def collLevelsWrong : ChangeSpec := { name := "collLevels", fn := fun _ => fun
  | [d1, d2, d3, d4] => { results := [.lit (.bool false)], args := [d1, d2, d3, d4] }
  | _ => none }
def CollLevelsWrongFalsely : Prop := collLevelsRow.holds Tryz.pinned (OpenSpec.ofChange collLevelsWrong)

/-- 'umlautlaw8.CollTells': WHATEVER THE INPUT: true; the input reads as it did. -/
def collTellsSpec : ChangeSpec := { name := "collTells", fn := fun _ => fun
  | [d1, d2, d3, d4, d5, d6, d7, d8] => { results := [.lit (.bool true)], args := [d1, d2, d3, d4, d5, d6, d7, d8] }
  | _ => none }
def collTellsRow : OpenClaim := { program := "ytccdkchmeelkfaagreatdoor", sum := "ff23f5b08470a0db9f71620afbd67fa731d2fe8213a5874f4a31c9db1c23b8d0", func := "umlaut/umlautlaw8.CollTells", spec := "collTells", inPlace := ["maps.clone"], unfollowed := true, recurses := true, named := ["unicode/utf8.first", "unicode/utf8.acceptRanges"], plainKeys := false, apart := false, laid := [("unicode/utf8.acceptRanges", laid_unicode_utf8_acceptRanges), ("unicode/utf8.first", laid_unicode_utf8_first)] }
def CollTellsSaid : Prop := collTellsRow.holds Tryz.pinned (OpenSpec.ofChange collTellsSpec)

/-- ITS FALSE NEIGHBOUR: 'it returns false'. Refute it at one input. -/
def collTellsWrong : ChangeSpec := { name := "collTells", fn := fun _ => fun
  | [d1, d2, d3, d4, d5, d6, d7, d8] => { results := [.lit (.bool false)], args := [d1, d2, d3, d4, d5, d6, d7, d8] }
  | _ => none }
def CollTellsWrongFalsely : Prop := collTellsRow.holds Tryz.pinned (OpenSpec.ofChange collTellsWrong)

/-- 'umlautlaw8.CollSorts': WHATEVER THE INPUT: true; the input reads as it did. -/
def collSortsSpec : ChangeSpec := { name := "collSorts", fn := fun _ => fun
  | [d1, d2, d3, d4] => { results := [.lit (.bool true)], args := [d1, d2, d3, d4] }
  | _ => none }
def collSortsRow : OpenClaim := { program := "ytccdkchmeelkfaagreatdoor", sum := "ff23f5b08470a0db9f71620afbd67fa731d2fe8213a5874f4a31c9db1c23b8d0", func := "umlaut/umlautlaw8.CollSorts", spec := "collSorts", inPlace := ["maps.clone"], unfollowed := true, recurses := true, named := ["unicode/utf8.first", "unicode/utf8.acceptRanges"], plainKeys := false, apart := false, laid := [("unicode/utf8.acceptRanges", laid_unicode_utf8_acceptRanges), ("unicode/utf8.first", laid_unicode_utf8_first)] }
def CollSortsSaid : Prop := collSortsRow.holds Tryz.pinned (OpenSpec.ofChange collSortsSpec)

/-- ITS FALSE NEIGHBOUR: 'it returns false'. Refute it at one input. -/
def collSortsWrong : ChangeSpec := { name := "collSorts", fn := fun _ => fun
  | [d1, d2, d3, d4] => { results := [.lit (.bool false)], args := [d1, d2, d3, d4] }
  | _ => none }
def CollSortsWrongFalsely : Prop := collSortsRow.holds Tryz.pinned (OpenSpec.ofChange collSortsWrong)

/- THE SECOND FORM. 'bulk': how many values and letters a reading holds, each counted each time it is reached (what is shared counts as often as it is met; a slice's spare places count too). A statement '..UptoSaid' is the law's where the arguments, and the package variables that the reading takes, are together of bulk at most 1048576: NARROWER than '..Said'. Prove '..Said' where nothing that the law and all that it calls make is longer than what came in: it says more and counts as full. Else prove '..UptoSaid'. A law counts once. -/
mutual
def uptoBulk {H : Type} : DataW H → Nat
  | .lit (.string bytes) => bytes.length + 1
  | .lit _ => 1
  | .nil => 1
  | .ptr d => uptoBulk d + 1
  | .slice elems spare => uptoBulkAll elems + uptoBulkAll spare + 1
  | .agg parts => uptoBulkAll parts + 1
  | .iface _ d => uptoBulk d + 1
  | .map entries => uptoBulkEntries entries + 1
  | .held _ => 1
def uptoBulkAll {H : Type} : List (DataW H) → Nat
  | [] => 0
  | d :: r => uptoBulk d + uptoBulkAll r
def uptoBulkEntries {H : Type} : List (Lit × DataW H) → Nat
  | [] => 0
  | x :: r => uptoBulkEntry x + uptoBulkEntries r
def uptoBulkEntry {H : Type} : Lit × DataW H → Nat
  | (.string bytes, d) => bytes.length + uptoBulk d + 1
  | (_, d) => uptoBulk d + 1
 end
def uptoSmall : (H : Type) → List (DataW H) → Bool := fun _ ds => decide (uptoBulkAll ds ≤ 1048576)
def OpenSpec.upto (s : _root_.Go.ChangeSpec) : _root_.Go.OpenSpec := { _root_.Go.OpenSpec.ofChange s with cond := some uptoSmall }

/-- 'umlautlaw7.TailorRows', WHERE WHAT IT READS IS OF BULK AT MOST 1048576: true; the input reads as it did. -/
def tailorRowsUptoRow : OpenClaim := { program := "ytccdkchmeelkfaagreatdoor", sum := "ff23f5b08470a0db9f71620afbd67fa731d2fe8213a5874f4a31c9db1c23b8d0", func := "umlaut/umlautlaw7.TailorRows", spec := "tailorRows", inPlace := ["maps.clone"], unfollowed := true, recurses := true, named := ["unicode/utf8.first", "unicode/utf8.acceptRanges"], plainKeys := false, apart := false, laid := [("unicode/utf8.acceptRanges", laid_unicode_utf8_acceptRanges), ("unicode/utf8.first", laid_unicode_utf8_first)], narrowed := true }
def TailorRowsUptoSaid : Prop := tailorRowsUptoRow.holds Tryz.pinned (OpenSpec.upto tailorRowsSpec)

/-- 'umlautlaw7.TailorFull', WHERE WHAT IT READS IS OF BULK AT MOST 1048576: true; the input reads as it did. -/
def tailorFullUptoRow : OpenClaim := { program := "ytccdkchmeelkfaagreatdoor", sum := "ff23f5b08470a0db9f71620afbd67fa731d2fe8213a5874f4a31c9db1c23b8d0", func := "umlaut/umlautlaw7.TailorFull", spec := "tailorFull", inPlace := ["maps.clone"], unfollowed := true, recurses := true, named := ["unicode/utf8.first", "unicode/utf8.acceptRanges"], plainKeys := false, apart := false, laid := [("unicode/utf8.acceptRanges", laid_unicode_utf8_acceptRanges), ("unicode/utf8.first", laid_unicode_utf8_first)], narrowed := true }
def TailorFullUptoSaid : Prop := tailorFullUptoRow.holds Tryz.pinned (OpenSpec.upto tailorFullSpec)

/-- 'umlautlaw7.TailorApplies', WHERE WHAT IT READS IS OF BULK AT MOST 1048576: true; the input reads as it did. -/
def tailorAppliesUptoRow : OpenClaim := { program := "ytccdkchmeelkfaagreatdoor", sum := "ff23f5b08470a0db9f71620afbd67fa731d2fe8213a5874f4a31c9db1c23b8d0", func := "umlaut/umlautlaw7.TailorApplies", spec := "tailorApplies", inPlace := ["maps.clone"], unfollowed := true, recurses := true, named := ["unicode/utf8.first", "unicode/utf8.acceptRanges"], plainKeys := false, apart := false, laid := [("unicode/utf8.acceptRanges", laid_unicode_utf8_acceptRanges), ("unicode/utf8.first", laid_unicode_utf8_first)], narrowed := true }
def TailorAppliesUptoSaid : Prop := tailorAppliesUptoRow.holds Tryz.pinned (OpenSpec.upto tailorAppliesSpec)

/-- 'umlautlaw7.TailorReads', WHERE WHAT IT READS IS OF BULK AT MOST 1048576: true; the input reads as it did. -/
def tailorReadsUptoRow : OpenClaim := { program := "ytccdkchmeelkfaagreatdoor", sum := "ff23f5b08470a0db9f71620afbd67fa731d2fe8213a5874f4a31c9db1c23b8d0", func := "umlaut/umlautlaw7.TailorReads", spec := "tailorReads", inPlace := ["maps.clone"], unfollowed := true, recurses := true, named := ["unicode/utf8.first", "unicode/utf8.acceptRanges"], plainKeys := false, apart := false, laid := [("unicode/utf8.acceptRanges", laid_unicode_utf8_acceptRanges), ("unicode/utf8.first", laid_unicode_utf8_first)], narrowed := true }
def TailorReadsUptoSaid : Prop := tailorReadsUptoRow.holds Tryz.pinned (OpenSpec.upto tailorReadsSpec)

/-- 'umlautlaw7.TailorKeeps', WHERE WHAT IT READS IS OF BULK AT MOST 1048576: true; the input reads as it did. -/
def tailorKeepsUptoRow : OpenClaim := { program := "ytccdkchmeelkfaagreatdoor", sum := "ff23f5b08470a0db9f71620afbd67fa731d2fe8213a5874f4a31c9db1c23b8d0", func := "umlaut/umlautlaw7.TailorKeeps", spec := "tailorKeeps", inPlace := ["maps.clone"], unfollowed := true, recurses := true, named := ["unicode/utf8.first", "unicode/utf8.acceptRanges"], plainKeys := false, apart := false, laid := [("unicode/utf8.acceptRanges", laid_unicode_utf8_acceptRanges), ("unicode/utf8.first", laid_unicode_utf8_first)], narrowed := true }
def TailorKeepsUptoSaid : Prop := tailorKeepsUptoRow.holds Tryz.pinned (OpenSpec.upto tailorKeepsSpec)

/-- 'umlautlaw7.TailorPlaces', WHERE WHAT IT READS IS OF BULK AT MOST 1048576: true; the input reads as it did. -/
def tailorPlacesUptoRow : OpenClaim := { program := "ytccdkchmeelkfaagreatdoor", sum := "ff23f5b08470a0db9f71620afbd67fa731d2fe8213a5874f4a31c9db1c23b8d0", func := "umlaut/umlautlaw7.TailorPlaces", spec := "tailorPlaces", inPlace := ["maps.clone"], unfollowed := true, recurses := true, named := ["unicode/utf8.first", "unicode/utf8.acceptRanges"], plainKeys := false, apart := false, laid := [("unicode/utf8.acceptRanges", laid_unicode_utf8_acceptRanges), ("unicode/utf8.first", laid_unicode_utf8_first)], narrowed := true }
def TailorPlacesUptoSaid : Prop := tailorPlacesUptoRow.holds Tryz.pinned (OpenSpec.upto tailorPlacesSpec)

/-- 'umlautlaw8.CollShifts', WHERE WHAT IT READS IS OF BULK AT MOST 1048576: true; the input reads as it did. -/
def collShiftsUptoRow : OpenClaim := { program := "ytccdkchmeelkfaagreatdoor", sum := "ff23f5b08470a0db9f71620afbd67fa731d2fe8213a5874f4a31c9db1c23b8d0", func := "umlaut/umlautlaw8.CollShifts", spec := "collShifts", inPlace := ["maps.clone"], unfollowed := true, recurses := true, named := ["unicode/utf8.first", "unicode/utf8.acceptRanges"], plainKeys := false, apart := false, laid := [("unicode/utf8.acceptRanges", laid_unicode_utf8_acceptRanges), ("unicode/utf8.first", laid_unicode_utf8_first)], narrowed := true }
def CollShiftsUptoSaid : Prop := collShiftsUptoRow.holds Tryz.pinned (OpenSpec.upto collShiftsSpec)

/-- 'umlautlaw8.CollBacks', WHERE WHAT IT READS IS OF BULK AT MOST 1048576: true; the input reads as it did. -/
def collBacksUptoRow : OpenClaim := { program := "ytccdkchmeelkfaagreatdoor", sum := "ff23f5b08470a0db9f71620afbd67fa731d2fe8213a5874f4a31c9db1c23b8d0", func := "umlaut/umlautlaw8.CollBacks", spec := "collBacks", inPlace := ["maps.clone"], unfollowed := true, recurses := true, named := ["unicode/utf8.first", "unicode/utf8.acceptRanges"], plainKeys := false, apart := false, laid := [("unicode/utf8.acceptRanges", laid_unicode_utf8_acceptRanges), ("unicode/utf8.first", laid_unicode_utf8_first)], narrowed := true }
def CollBacksUptoSaid : Prop := collBacksUptoRow.holds Tryz.pinned (OpenSpec.upto collBacksSpec)

/-- 'umlautlaw8.CollCases', WHERE WHAT IT READS IS OF BULK AT MOST 1048576: true; the input reads as it did. -/
def collCasesUptoRow : OpenClaim := { program := "ytccdkchmeelkfaagreatdoor", sum := "ff23f5b08470a0db9f71620afbd67fa731d2fe8213a5874f4a31c9db1c23b8d0", func := "umlaut/umlautlaw8.CollCases", spec := "collCases", inPlace := ["maps.clone"], unfollowed := true, recurses := true, named := ["unicode/utf8.first", "unicode/utf8.acceptRanges"], plainKeys := false, apart := false, laid := [("unicode/utf8.acceptRanges", laid_unicode_utf8_acceptRanges), ("unicode/utf8.first", laid_unicode_utf8_first)], narrowed := true }
def CollCasesUptoSaid : Prop := collCasesUptoRow.holds Tryz.pinned (OpenSpec.upto collCasesSpec)

/-- 'umlautlaw8.TailorSame', WHERE WHAT IT READS IS OF BULK AT MOST 1048576: true; the input reads as it did. -/
def tailorSameUptoRow : OpenClaim := { program := "ytccdkchmeelkfaagreatdoor", sum := "ff23f5b08470a0db9f71620afbd67fa731d2fe8213a5874f4a31c9db1c23b8d0", func := "umlaut/umlautlaw8.TailorSame", spec := "tailorSame", inPlace := ["maps.clone"], unfollowed := true, recurses := true, named := ["unicode/utf8.first", "unicode/utf8.acceptRanges"], plainKeys := false, apart := false, laid := [("unicode/utf8.acceptRanges", laid_unicode_utf8_acceptRanges), ("unicode/utf8.first", laid_unicode_utf8_first)], narrowed := true }
def TailorSameUptoSaid : Prop := tailorSameUptoRow.holds Tryz.pinned (OpenSpec.upto tailorSameSpec)

/-- 'umlautlaw8.TailorPairs', WHERE WHAT IT READS IS OF BULK AT MOST 1048576: true; the input reads as it did. -/
def tailorPairsUptoRow : OpenClaim := { program := "ytccdkchmeelkfaagreatdoor", sum := "ff23f5b08470a0db9f71620afbd67fa731d2fe8213a5874f4a31c9db1c23b8d0", func := "umlaut/umlautlaw8.TailorPairs", spec := "tailorPairs", inPlace := ["maps.clone"], unfollowed := true, recurses := true, named := ["unicode/utf8.first", "unicode/utf8.acceptRanges"], plainKeys := false, apart := false, laid := [("unicode/utf8.acceptRanges", laid_unicode_utf8_acceptRanges), ("unicode/utf8.first", laid_unicode_utf8_first)], narrowed := true }
def TailorPairsUptoSaid : Prop := tailorPairsUptoRow.holds Tryz.pinned (OpenSpec.upto tailorPairsSpec)

/-- 'umlautlaw8.CollChains', WHERE WHAT IT READS IS OF BULK AT MOST 1048576: true; the input reads as it did. -/
def collChainsUptoRow : OpenClaim := { program := "ytccdkchmeelkfaagreatdoor", sum := "ff23f5b08470a0db9f71620afbd67fa731d2fe8213a5874f4a31c9db1c23b8d0", func := "umlaut/umlautlaw8.CollChains", spec := "collChains", inPlace := ["maps.clone"], unfollowed := true, recurses := true, named := ["unicode/utf8.first", "unicode/utf8.acceptRanges"], plainKeys := false, apart := false, laid := [("unicode/utf8.acceptRanges", laid_unicode_utf8_acceptRanges), ("unicode/utf8.first", laid_unicode_utf8_first)], narrowed := true }
def CollChainsUptoSaid : Prop := collChainsUptoRow.holds Tryz.pinned (OpenSpec.upto collChainsSpec)

/-- 'umlautlaw8.CollLevels', WHERE WHAT IT READS IS OF BULK AT MOST 1048576: true; the input reads as it did. -/
def collLevelsUptoRow : OpenClaim := { program := "ytccdkchmeelkfaagreatdoor", sum := "ff23f5b08470a0db9f71620afbd67fa731d2fe8213a5874f4a31c9db1c23b8d0", func := "umlaut/umlautlaw8.CollLevels", spec := "collLevels", inPlace := ["maps.clone"], unfollowed := true, recurses := true, named := ["unicode/utf8.first", "unicode/utf8.acceptRanges"], plainKeys := false, apart := false, laid := [("unicode/utf8.acceptRanges", laid_unicode_utf8_acceptRanges), ("unicode/utf8.first", laid_unicode_utf8_first)], narrowed := true }
def CollLevelsUptoSaid : Prop := collLevelsUptoRow.holds Tryz.pinned (OpenSpec.upto collLevelsSpec)

/-- 'umlautlaw8.CollTells', WHERE WHAT IT READS IS OF BULK AT MOST 1048576: true; the input reads as it did. -/
def collTellsUptoRow : OpenClaim := { program := "ytccdkchmeelkfaagreatdoor", sum := "ff23f5b08470a0db9f71620afbd67fa731d2fe8213a5874f4a31c9db1c23b8d0", func := "umlaut/umlautlaw8.CollTells", spec := "collTells", inPlace := ["maps.clone"], unfollowed := true, recurses := true, named := ["unicode/utf8.first", "unicode/utf8.acceptRanges"], plainKeys := false, apart := false, laid := [("unicode/utf8.acceptRanges", laid_unicode_utf8_acceptRanges), ("unicode/utf8.first", laid_unicode_utf8_first)], narrowed := true }
def CollTellsUptoSaid : Prop := collTellsUptoRow.holds Tryz.pinned (OpenSpec.upto collTellsSpec)

/-- 'umlautlaw8.CollSorts', WHERE WHAT IT READS IS OF BULK AT MOST 1048576: true; the input reads as it did. -/
def collSortsUptoRow : OpenClaim := { program := "ytccdkchmeelkfaagreatdoor", sum := "ff23f5b08470a0db9f71620afbd67fa731d2fe8213a5874f4a31c9db1c23b8d0", func := "umlaut/umlautlaw8.CollSorts", spec := "collSorts", inPlace := ["maps.clone"], unfollowed := true, recurses := true, named := ["unicode/utf8.first", "unicode/utf8.acceptRanges"], plainKeys := false, apart := false, laid := [("unicode/utf8.acceptRanges", laid_unicode_utf8_acceptRanges), ("unicode/utf8.first", laid_unicode_utf8_first)], narrowed := true }
def CollSortsUptoSaid : Prop := collSortsUptoRow.holds Tryz.pinned (OpenSpec.upto collSortsSpec)

end Rows
end Go.Proofs.YtccdkchmeelkfaaGreatDoor
