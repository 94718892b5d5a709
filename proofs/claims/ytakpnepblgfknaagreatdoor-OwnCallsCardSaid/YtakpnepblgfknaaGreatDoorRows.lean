/-
  NARROWER THAN 'FOR EVERY INPUT', by the rows' own cells (each row's printed sentence says how): WalkMore: laid · WalkAsked: laid · OwnCalls: laid · RunGoes: laid · RunCuts: laid · OwnRuns: laid · RunApart: laid · RunSound: laid · RunBack: laid · RunWalks: laid · ShotGoes: laid.
  DERIVED. THE GIVEN ROWS OF THIS SEAT. 11 by the template 'for every input the law returns true; each argument reads behind the call as it read before'; 0 by the template 'total and deterministic' (their statements: YtakpnepblgfknaaGreatDoorTotals.lean).
  GIVEN WITH THE SEED: the statements are not yours to turn. If you find one false, say at which input.
  Laid BY PROGRAM, IN A SANDBOX (cutbox-rows.mjs): the forced cells as the released guide's own fill.sh prints them over the translation 1e20dfb1783bf565… (all of the seat's roots in one cut). By AI agents, Wed Nov 11 2026. No macro, syntax, notation, axiom, sorry.
-/
import Derived.Test.YtakpnepblgfknaaGreatDoorChecked
import GoSem.PinnedTables
import GoSem.Claim
import GoSem.ClaimJoined
import GoSem.ClaimMapViews
import Derived.JoinedTies
import Derived.KernelRfl
namespace Go.Proofs.YtakpnepblgfknaaGreatDoor
/- THE CELL 'sum', in the pinned program and in every row, IS THE sha256 OF THE DUMP (.gsa) THAT YtakpnepblgfknaaGreatDoorProg.lean LOADS. Nothing in Lean hashes anything: it is a label: what it is worth is what the hold of that sum in a sandbox is worth. -/
noncomputable def Tryz.pinned : Pinned := { name := "ytakpnepblgfknaagreatdoor", sum := "1e20dfb1783bf565214331eb54cfbfb3dd911479042a5cf8732e9cba3746710b", checked := Tryz.checked }
namespace Rows
def none {H : Type} : Left H := { results := [], args := [] }

/- WHAT THE LISTED PACKAGE-LEVEL VARIABLES READ AS WHEN THE CALL BEGINS. Each datum BY PROGRAM (the guide's laid-datum.mjs) off the statement by which the dump's own 'gosem.cut.vars' lays the variable. In a bare row this is a premise. The card (YtakpnepblgfknaaGreatDoorCards.lean) ties it to the program's text. -/
def laid_math_bits_deBruijn32tab {H : Type} : DataW H := .agg [.lit (.int .u8 0), .lit (.int .u8 1), .lit (.int .u8 28), .lit (.int .u8 2), .lit (.int .u8 29), .lit (.int .u8 14), .lit (.int .u8 24), .lit (.int .u8 3), .lit (.int .u8 30), .lit (.int .u8 22), .lit (.int .u8 20), .lit (.int .u8 15), .lit (.int .u8 25), .lit (.int .u8 17), .lit (.int .u8 4), .lit (.int .u8 8), .lit (.int .u8 31), .lit (.int .u8 27), .lit (.int .u8 13), .lit (.int .u8 23), .lit (.int .u8 21), .lit (.int .u8 19), .lit (.int .u8 16), .lit (.int .u8 7), .lit (.int .u8 26), .lit (.int .u8 12), .lit (.int .u8 18), .lit (.int .u8 6), .lit (.int .u8 11), .lit (.int .u8 5), .lit (.int .u8 10), .lit (.int .u8 9)]
def laid_math_bits_deBruijn64tab {H : Type} : DataW H := .agg [.lit (.int .u8 0), .lit (.int .u8 1), .lit (.int .u8 56), .lit (.int .u8 2), .lit (.int .u8 57), .lit (.int .u8 49), .lit (.int .u8 28), .lit (.int .u8 3), .lit (.int .u8 61), .lit (.int .u8 58), .lit (.int .u8 42), .lit (.int .u8 50), .lit (.int .u8 38), .lit (.int .u8 29), .lit (.int .u8 17), .lit (.int .u8 4), .lit (.int .u8 62), .lit (.int .u8 47), .lit (.int .u8 59), .lit (.int .u8 36), .lit (.int .u8 45), .lit (.int .u8 43), .lit (.int .u8 51), .lit (.int .u8 22), .lit (.int .u8 53), .lit (.int .u8 39), .lit (.int .u8 33), .lit (.int .u8 30), .lit (.int .u8 24), .lit (.int .u8 18), .lit (.int .u8 12), .lit (.int .u8 5), .lit (.int .u8 63), .lit (.int .u8 55), .lit (.int .u8 48), .lit (.int .u8 27), .lit (.int .u8 60), .lit (.int .u8 41), .lit (.int .u8 37), .lit (.int .u8 16), .lit (.int .u8 46), .lit (.int .u8 35), .lit (.int .u8 44), .lit (.int .u8 21), .lit (.int .u8 52), .lit (.int .u8 32), .lit (.int .u8 23), .lit (.int .u8 11), .lit (.int .u8 54), .lit (.int .u8 26), .lit (.int .u8 40), .lit (.int .u8 15), .lit (.int .u8 34), .lit (.int .u8 20), .lit (.int .u8 31), .lit (.int .u8 10), .lit (.int .u8 25), .lit (.int .u8 14), .lit (.int .u8 19), .lit (.int .u8 9), .lit (.int .u8 13), .lit (.int .u8 8), .lit (.int .u8 7), .lit (.int .u8 6)]
def laid_unicode_utf8_acceptRanges {H : Type} : DataW H := .agg [.agg [.lit (.int .u8 128), .lit (.int .u8 191)], .agg [.lit (.int .u8 160), .lit (.int .u8 191)], .agg [.lit (.int .u8 128), .lit (.int .u8 159)], .agg [.lit (.int .u8 144), .lit (.int .u8 191)], .agg [.lit (.int .u8 128), .lit (.int .u8 143)], .agg [.lit (.int .u8 0), .lit (.int .u8 0)], .agg [.lit (.int .u8 0), .lit (.int .u8 0)], .agg [.lit (.int .u8 0), .lit (.int .u8 0)], .agg [.lit (.int .u8 0), .lit (.int .u8 0)], .agg [.lit (.int .u8 0), .lit (.int .u8 0)], .agg [.lit (.int .u8 0), .lit (.int .u8 0)], .agg [.lit (.int .u8 0), .lit (.int .u8 0)], .agg [.lit (.int .u8 0), .lit (.int .u8 0)], .agg [.lit (.int .u8 0), .lit (.int .u8 0)], .agg [.lit (.int .u8 0), .lit (.int .u8 0)], .agg [.lit (.int .u8 0), .lit (.int .u8 0)]]
/-- One of Go's own tables, pinned by name: the form's constant. -/
def laid_unicode_utf8_first : DataW Unit := Go.Pinned.utf8First

/-- 'troupekeep.WalkMore': WHATEVER THE INPUT: true; the input reads as it did. -/
def walkMoreSpec : ChangeSpec := { name := "walkMore", fn := fun _ => fun
  | [d1, d2, d3, d4, d5, d6] => { results := [.lit (.bool true)], args := [d1, d2, d3, d4, d5, d6] }
  | _ => none }
def walkMoreRow : OpenClaim := { program := "ytakpnepblgfknaagreatdoor", sum := "1e20dfb1783bf565214331eb54cfbfb3dd911479042a5cf8732e9cba3746710b", func := "troupe/troupekeep.WalkMore", spec := "walkMore", unfollowed := true, recurses := true, named := ["unicode/utf8.first", "unicode/utf8.acceptRanges", "math/bits.deBruijn32tab", "math/bits.deBruijn64tab"], apart := false, laid := [("math/bits.deBruijn32tab", laid_math_bits_deBruijn32tab), ("math/bits.deBruijn64tab", laid_math_bits_deBruijn64tab), ("unicode/utf8.acceptRanges", laid_unicode_utf8_acceptRanges), ("unicode/utf8.first", laid_unicode_utf8_first)] }
def WalkMoreSaid : Prop := walkMoreRow.holds Tryz.pinned (OpenSpec.ofChange walkMoreSpec)

/-- ITS FALSE NEIGHBOUR: 'it returns false'. Refute it at one input. -/
def walkMoreWrong : ChangeSpec := { name := "walkMore", fn := fun _ => fun
  | [d1, d2, d3, d4, d5, d6] => { results := [.lit (.bool false)], args := [d1, d2, d3, d4, d5, d6] }
  | _ => none }
def WalkMoreWrongFalsely : Prop := walkMoreRow.holds Tryz.pinned (OpenSpec.ofChange walkMoreWrong)

/-- 'troupekeep.WalkAsked': WHATEVER THE INPUT: true; the input reads as it did. -/
def walkAskedSpec : ChangeSpec := { name := "walkAsked", fn := fun _ => fun
  | [d1, d2, d3, d4, d5, d6] => { results := [.lit (.bool true)], args := [d1, d2, d3, d4, d5, d6] }
  | _ => none }
def walkAskedRow : OpenClaim := { program := "ytakpnepblgfknaagreatdoor", sum := "1e20dfb1783bf565214331eb54cfbfb3dd911479042a5cf8732e9cba3746710b", func := "troupe/troupekeep.WalkAsked", spec := "walkAsked", unfollowed := true, recurses := true, named := ["unicode/utf8.first", "unicode/utf8.acceptRanges", "math/bits.deBruijn32tab", "math/bits.deBruijn64tab"], apart := false, laid := [("math/bits.deBruijn32tab", laid_math_bits_deBruijn32tab), ("math/bits.deBruijn64tab", laid_math_bits_deBruijn64tab), ("unicode/utf8.acceptRanges", laid_unicode_utf8_acceptRanges), ("unicode/utf8.first", laid_unicode_utf8_first)] }
def WalkAskedSaid : Prop := walkAskedRow.holds Tryz.pinned (OpenSpec.ofChange walkAskedSpec)

/-- ITS FALSE NEIGHBOUR: 'it returns false'. Refute it at one input. -/
def walkAskedWrong : ChangeSpec := { name := "walkAsked", fn := fun _ => fun
  | [d1, d2, d3, d4, d5, d6] => { results := [.lit (.bool false)], args := [d1, d2, d3, d4, d5, d6] }
  | _ => none }
def WalkAskedWrongFalsely : Prop := walkAskedRow.holds Tryz.pinned (OpenSpec.ofChange walkAskedWrong)

/-- 'troupekeep.OwnCalls': WHATEVER THE INPUT: true; the input reads as it did. -/
def ownCallsSpec : ChangeSpec := { name := "ownCalls", fn := fun _ => fun
  | [d1, d2, d3, d4, d5] => { results := [.lit (.bool true)], args := [d1, d2, d3, d4, d5] }
  | _ => none }
def ownCallsRow : OpenClaim := { program := "ytakpnepblgfknaagreatdoor", sum := "1e20dfb1783bf565214331eb54cfbfb3dd911479042a5cf8732e9cba3746710b", func := "troupe/troupekeep.OwnCalls", spec := "ownCalls", unfollowed := true, recurses := true, named := ["unicode/utf8.first", "unicode/utf8.acceptRanges", "math/bits.deBruijn32tab", "math/bits.deBruijn64tab"], apart := false, laid := [("math/bits.deBruijn32tab", laid_math_bits_deBruijn32tab), ("math/bits.deBruijn64tab", laid_math_bits_deBruijn64tab), ("unicode/utf8.acceptRanges", laid_unicode_utf8_acceptRanges), ("unicode/utf8.first", laid_unicode_utf8_first)] }
def OwnCallsSaid : Prop := ownCallsRow.holds Tryz.pinned (OpenSpec.ofChange ownCallsSpec)

/-- ITS FALSE NEIGHBOUR: 'it returns false'. Refute it at one input. -/
def ownCallsWrong : ChangeSpec := { name := "ownCalls", fn := fun _ => fun
  | [d1, d2, d3, d4, d5] => { results := [.lit (.bool false)], args := [d1, d2, d3, d4, d5] }
  | _ => none }
def OwnCallsWrongFalsely : Prop := ownCallsRow.holds Tryz.pinned (OpenSpec.ofChange ownCallsWrong)

/-- 'troupekeep.RunGoes': WHATEVER THE INPUT: true; the input reads as it did. -/
def runGoesSpec : ChangeSpec := { name := "runGoes", fn := fun _ => fun
  | [d1, d2, d3, d4] => { results := [.lit (.bool true)], args := [d1, d2, d3, d4] }
  | _ => none }
def runGoesRow : OpenClaim := { program := "ytakpnepblgfknaagreatdoor", sum := "1e20dfb1783bf565214331eb54cfbfb3dd911479042a5cf8732e9cba3746710b", func := "troupe/troupekeep.RunGoes", spec := "runGoes", unfollowed := true, recurses := true, named := ["unicode/utf8.first", "unicode/utf8.acceptRanges", "math/bits.deBruijn32tab", "math/bits.deBruijn64tab"], apart := false, laid := [("math/bits.deBruijn32tab", laid_math_bits_deBruijn32tab), ("math/bits.deBruijn64tab", laid_math_bits_deBruijn64tab), ("unicode/utf8.acceptRanges", laid_unicode_utf8_acceptRanges), ("unicode/utf8.first", laid_unicode_utf8_first)] }
def RunGoesSaid : Prop := runGoesRow.holds Tryz.pinned (OpenSpec.ofChange runGoesSpec)

/-- ITS FALSE NEIGHBOUR: 'it returns false'. Refute it at one input. -/
def runGoesWrong : ChangeSpec := { name := "runGoes", fn := fun _ => fun
  | [d1, d2, d3, d4] => { results := [.lit (.bool false)], args := [d1, d2, d3, d4] }
  | _ => none }
def RunGoesWrongFalsely : Prop := runGoesRow.holds Tryz.pinned (OpenSpec.ofChange runGoesWrong)

/-- 'troupekeep.RunCuts': WHATEVER THE INPUT: true; the input reads as it did. -/
def runCutsSpec : ChangeSpec := { name := "runCuts", fn := fun _ => fun
  | [d1, d2, d3, d4, d5, d6, d7] => { results := [.lit (.bool true)], args := [d1, d2, d3, d4, d5, d6, d7] }
  | _ => none }
def runCutsRow : OpenClaim := { program := "ytakpnepblgfknaagreatdoor", sum := "1e20dfb1783bf565214331eb54cfbfb3dd911479042a5cf8732e9cba3746710b", func := "troupe/troupekeep.RunCuts", spec := "runCuts", unfollowed := true, recurses := true, named := ["unicode/utf8.first", "unicode/utf8.acceptRanges", "math/bits.deBruijn32tab", "math/bits.deBruijn64tab"], apart := false, laid := [("math/bits.deBruijn32tab", laid_math_bits_deBruijn32tab), ("math/bits.deBruijn64tab", laid_math_bits_deBruijn64tab), ("unicode/utf8.acceptRanges", laid_unicode_utf8_acceptRanges), ("unicode/utf8.first", laid_unicode_utf8_first)] }
def RunCutsSaid : Prop := runCutsRow.holds Tryz.pinned (OpenSpec.ofChange runCutsSpec)

/-- ITS FALSE NEIGHBOUR: 'it returns false'. Refute it at one input. -/
def runCutsWrong : ChangeSpec := { name := "runCuts", fn := fun _ => fun
  | [d1, d2, d3, d4, d5, d6, d7] => { results := [.lit (.bool false)], args := [d1, d2, d3, d4, d5, d6, d7] }
  | _ => none }
def RunCutsWrongFalsely : Prop := runCutsRow.holds Tryz.pinned (OpenSpec.ofChange runCutsWrong)

/-- 'troupekeep.OwnRuns': WHATEVER THE INPUT: true; the input reads as it did. -/
def ownRunsSpec : ChangeSpec := { name := "ownRuns", fn := fun _ => fun
  | [d1, d2, d3, d4, d5] => { results := [.lit (.bool true)], args := [d1, d2, d3, d4, d5] }
  | _ => none }
def ownRunsRow : OpenClaim := { program := "ytakpnepblgfknaagreatdoor", sum := "1e20dfb1783bf565214331eb54cfbfb3dd911479042a5cf8732e9cba3746710b", func := "troupe/troupekeep.OwnRuns", spec := "ownRuns", unfollowed := true, recurses := true, named := ["unicode/utf8.first", "unicode/utf8.acceptRanges", "math/bits.deBruijn32tab", "math/bits.deBruijn64tab"], apart := false, laid := [("math/bits.deBruijn32tab", laid_math_bits_deBruijn32tab), ("math/bits.deBruijn64tab", laid_math_bits_deBruijn64tab), ("unicode/utf8.acceptRanges", laid_unicode_utf8_acceptRanges), ("unicode/utf8.first", laid_unicode_utf8_first)] }
def OwnRunsSaid : Prop := ownRunsRow.holds Tryz.pinned (OpenSpec.ofChange ownRunsSpec)

/-- ITS FALSE NEIGHBOUR: 'it returns false'. Refute it at one input. -/
def ownRunsWrong : ChangeSpec := { name := "ownRuns", fn := fun _ => fun
  | [d1, d2, d3, d4, d5] => { results := [.lit (.bool false)], args := [d1, d2, d3, d4, d5] }
  | _ => none }
def OwnRunsWrongFalsely : Prop := ownRunsRow.holds Tryz.pinned (OpenSpec.ofChange ownRunsWrong)

/-- 'troupekeep.RunApart': WHATEVER THE INPUT: true; the input reads as it did. -/
def runApartSpec : ChangeSpec := { name := "runApart", fn := fun _ => fun
  | [d1, d2, d3, d4, d5, d6, d7] => { results := [.lit (.bool true)], args := [d1, d2, d3, d4, d5, d6, d7] }
  | _ => none }
def runApartRow : OpenClaim := { program := "ytakpnepblgfknaagreatdoor", sum := "1e20dfb1783bf565214331eb54cfbfb3dd911479042a5cf8732e9cba3746710b", func := "troupe/troupekeep.RunApart", spec := "runApart", unfollowed := true, recurses := true, named := ["unicode/utf8.first", "unicode/utf8.acceptRanges", "math/bits.deBruijn32tab", "math/bits.deBruijn64tab"], apart := false, laid := [("math/bits.deBruijn32tab", laid_math_bits_deBruijn32tab), ("math/bits.deBruijn64tab", laid_math_bits_deBruijn64tab), ("unicode/utf8.acceptRanges", laid_unicode_utf8_acceptRanges), ("unicode/utf8.first", laid_unicode_utf8_first)] }
def RunApartSaid : Prop := runApartRow.holds Tryz.pinned (OpenSpec.ofChange runApartSpec)

/-- ITS FALSE NEIGHBOUR: 'it returns false'. Refute it at one input. -/
def runApartWrong : ChangeSpec := { name := "runApart", fn := fun _ => fun
  | [d1, d2, d3, d4, d5, d6, d7] => { results := [.lit (.bool false)], args := [d1, d2, d3, d4, d5, d6, d7] }
  | _ => none }
def RunApartWrongFalsely : Prop := runApartRow.holds Tryz.pinned (OpenSpec.ofChange runApartWrong)

/-- 'troupekeep.RunSound': WHATEVER THE INPUT: true; the input reads as it did. -/
def runSoundSpec : ChangeSpec := { name := "runSound", fn := fun _ => fun
  | [d1, d2, d3, d4, d5, d6] => { results := [.lit (.bool true)], args := [d1, d2, d3, d4, d5, d6] }
  | _ => none }
def runSoundRow : OpenClaim := { program := "ytakpnepblgfknaagreatdoor", sum := "1e20dfb1783bf565214331eb54cfbfb3dd911479042a5cf8732e9cba3746710b", func := "troupe/troupekeep.RunSound", spec := "runSound", unfollowed := true, recurses := true, named := ["unicode/utf8.first", "unicode/utf8.acceptRanges", "math/bits.deBruijn32tab", "math/bits.deBruijn64tab"], apart := false, laid := [("math/bits.deBruijn32tab", laid_math_bits_deBruijn32tab), ("math/bits.deBruijn64tab", laid_math_bits_deBruijn64tab), ("unicode/utf8.acceptRanges", laid_unicode_utf8_acceptRanges), ("unicode/utf8.first", laid_unicode_utf8_first)] }
def RunSoundSaid : Prop := runSoundRow.holds Tryz.pinned (OpenSpec.ofChange runSoundSpec)

/-- ITS FALSE NEIGHBOUR: 'it returns false'. Refute it at one input. -/
def runSoundWrong : ChangeSpec := { name := "runSound", fn := fun _ => fun
  | [d1, d2, d3, d4, d5, d6] => { results := [.lit (.bool false)], args := [d1, d2, d3, d4, d5, d6] }
  | _ => none }
def RunSoundWrongFalsely : Prop := runSoundRow.holds Tryz.pinned (OpenSpec.ofChange runSoundWrong)

/-- 'troupekeep.RunBack': WHATEVER THE INPUT: true; the input reads as it did. -/
def runBackSpec : ChangeSpec := { name := "runBack", fn := fun _ => fun
  | [d1, d2, d3, d4, d5, d6, d7] => { results := [.lit (.bool true)], args := [d1, d2, d3, d4, d5, d6, d7] }
  | _ => none }
def runBackRow : OpenClaim := { program := "ytakpnepblgfknaagreatdoor", sum := "1e20dfb1783bf565214331eb54cfbfb3dd911479042a5cf8732e9cba3746710b", func := "troupe/troupekeep.RunBack", spec := "runBack", unfollowed := true, recurses := true, named := ["unicode/utf8.first", "unicode/utf8.acceptRanges", "math/bits.deBruijn32tab", "math/bits.deBruijn64tab"], apart := false, laid := [("math/bits.deBruijn32tab", laid_math_bits_deBruijn32tab), ("math/bits.deBruijn64tab", laid_math_bits_deBruijn64tab), ("unicode/utf8.acceptRanges", laid_unicode_utf8_acceptRanges), ("unicode/utf8.first", laid_unicode_utf8_first)] }
def RunBackSaid : Prop := runBackRow.holds Tryz.pinned (OpenSpec.ofChange runBackSpec)

/-- ITS FALSE NEIGHBOUR: 'it returns false'. Refute it at one input. -/
def runBackWrong : ChangeSpec := { name := "runBack", fn := fun _ => fun
  | [d1, d2, d3, d4, d5, d6, d7] => { results := [.lit (.bool false)], args := [d1, d2, d3, d4, d5, d6, d7] }
  | _ => none }
def RunBackWrongFalsely : Prop := runBackRow.holds Tryz.pinned (OpenSpec.ofChange runBackWrong)

/-- 'troupekeep.RunWalks': WHATEVER THE INPUT: true; the input reads as it did. -/
def runWalksSpec : ChangeSpec := { name := "runWalks", fn := fun _ => fun
  | [d1, d2, d3, d4, d5, d6] => { results := [.lit (.bool true)], args := [d1, d2, d3, d4, d5, d6] }
  | _ => none }
def runWalksRow : OpenClaim := { program := "ytakpnepblgfknaagreatdoor", sum := "1e20dfb1783bf565214331eb54cfbfb3dd911479042a5cf8732e9cba3746710b", func := "troupe/troupekeep.RunWalks", spec := "runWalks", unfollowed := true, recurses := true, named := ["unicode/utf8.first", "unicode/utf8.acceptRanges", "math/bits.deBruijn32tab", "math/bits.deBruijn64tab"], apart := false, laid := [("math/bits.deBruijn32tab", laid_math_bits_deBruijn32tab), ("math/bits.deBruijn64tab", laid_math_bits_deBruijn64tab), ("unicode/utf8.acceptRanges", laid_unicode_utf8_acceptRanges), ("unicode/utf8.first", laid_unicode_utf8_first)] }
def RunWalksSaid : Prop := runWalksRow.holds Tryz.pinned (OpenSpec.ofChange runWalksSpec)

/-- ITS FALSE NEIGHBOUR: 'it returns false'. Refute it at one input. -/
def runWalksWrong : ChangeSpec := { name := "runWalks", fn := fun _ => fun
  | [d1, d2, d3, d4, d5, d6] => { results := [.lit (.bool false)], args := [d1, d2, d3, d4, d5, d6] }
  | _ => none }
def RunWalksWrongFalsely : Prop := runWalksRow.holds Tryz.pinned (OpenSpec.ofChange runWalksWrong)

/-- 'troupekeep.ShotGoes': WHATEVER THE INPUT: true; the input reads as it did. -/
def shotGoesSpec : ChangeSpec := { name := "shotGoes", fn := fun _ => fun
  | [d1, d2, d3, d4, d5, d6] => { results := [.lit (.bool true)], args := [d1, d2, d3, d4, d5, d6] }
  | _ => none }
def shotGoesRow : OpenClaim := { program := "ytakpnepblgfknaagreatdoor", sum := "1e20dfb1783bf565214331eb54cfbfb3dd911479042a5cf8732e9cba3746710b", func := "troupe/troupekeep.ShotGoes", spec := "shotGoes", unfollowed := true, recurses := true, named := ["unicode/utf8.first", "unicode/utf8.acceptRanges", "math/bits.deBruijn32tab", "math/bits.deBruijn64tab"], apart := false, laid := [("math/bits.deBruijn32tab", laid_math_bits_deBruijn32tab), ("math/bits.deBruijn64tab", laid_math_bits_deBruijn64tab), ("unicode/utf8.acceptRanges", laid_unicode_utf8_acceptRanges), ("unicode/utf8.first", laid_unicode_utf8_first)] }
def ShotGoesSaid : Prop := shotGoesRow.holds Tryz.pinned (OpenSpec.ofChange shotGoesSpec)

/-- ITS FALSE NEIGHBOUR: 'it returns false'. Refute it at one input. -/
def shotGoesWrong : ChangeSpec := { name := "shotGoes", fn := fun _ => fun
  | [d1, d2, d3, d4, d5, d6] => { results := [.lit (.bool false)], args := [d1, d2, d3, d4, d5, d6] }
  | _ => none }
def ShotGoesWrongFalsely : Prop := shotGoesRow.holds Tryz.pinned (OpenSpec.ofChange shotGoesWrong)

/- THE SECOND FORM. 'bulk': how many values and letters a reading holds, each counted each time it is reached (what is shared counts as often as it is met; a slice's spare places count too). A statement '..UptoSaid' is the law's where the arguments, and the package variables that the reading takes, are together of bulk at most 1048576: NARROWER than '..Said'. Prove '..Said' where nothing that the law and all that it calls make is longer than what came in: it says more and counts as full. Else prove '..UptoSaid'. A law counts once. -/
mutual
def uptoBulk {H : Type} : DataW H → Nat
  | .lit (.string bytes) => bytes.length + 1
  | .lit _ => 1
  | .nil => 1
  | .ptr d => uptoBulk d + 1
  | .slice elems spare => uptoBulkAll elems + uptoBulkAll spare + 1
  | .agg parts => uptoBulkAll parts + 1
  | .iface _ d => uptoBulk d + 1
  | .map entries => uptoBulkEntries entries + 1
  | .held _ => 1
def uptoBulkAll {H : Type} : List (DataW H) → Nat
  | [] => 0
  | d :: r => uptoBulk d + uptoBulkAll r
def uptoBulkEntries {H : Type} : List (Lit × DataW H) → Nat
  | [] => 0
  | x :: r => uptoBulkEntry x + uptoBulkEntries r
def uptoBulkEntry {H : Type} : Lit × DataW H → Nat
  | (.string bytes, d) => bytes.length + uptoBulk d + 1
  | (_, d) => uptoBulk d + 1
 end
def uptoSmall : (H : Type) → List (DataW H) → Bool := fun _ ds => decide (uptoBulkAll ds ≤ 1048576)
def OpenSpec.upto (s : _root_.Go.ChangeSpec) : _root_.Go.OpenSpec := { _root_.Go.OpenSpec.ofChange s with cond := some uptoSmall }

/-- 'troupekeep.WalkMore', WHERE WHAT IT READS IS OF BULK AT MOST 1048576: true; the input reads as it did. -/
def walkMoreUptoRow : OpenClaim := { program := "ytakpnepblgfknaagreatdoor", sum := "1e20dfb1783bf565214331eb54cfbfb3dd911479042a5cf8732e9cba3746710b", func := "troupe/troupekeep.WalkMore", spec := "walkMore", unfollowed := true, recurses := true, named := ["unicode/utf8.first", "unicode/utf8.acceptRanges", "math/bits.deBruijn32tab", "math/bits.deBruijn64tab"], apart := false, laid := [("math/bits.deBruijn32tab", laid_math_bits_deBruijn32tab), ("math/bits.deBruijn64tab", laid_math_bits_deBruijn64tab), ("unicode/utf8.acceptRanges", laid_unicode_utf8_acceptRanges), ("unicode/utf8.first", laid_unicode_utf8_first)], narrowed := true }
def WalkMoreUptoSaid : Prop := walkMoreUptoRow.holds Tryz.pinned (OpenSpec.upto walkMoreSpec)

/-- 'troupekeep.WalkAsked', WHERE WHAT IT READS IS OF BULK AT MOST 1048576: true; the input reads as it did. -/
def walkAskedUptoRow : OpenClaim := { program := "ytakpnepblgfknaagreatdoor", sum := "1e20dfb1783bf565214331eb54cfbfb3dd911479042a5cf8732e9cba3746710b", func := "troupe/troupekeep.WalkAsked", spec := "walkAsked", unfollowed := true, recurses := true, named := ["unicode/utf8.first", "unicode/utf8.acceptRanges", "math/bits.deBruijn32tab", "math/bits.deBruijn64tab"], apart := false, laid := [("math/bits.deBruijn32tab", laid_math_bits_deBruijn32tab), ("math/bits.deBruijn64tab", laid_math_bits_deBruijn64tab), ("unicode/utf8.acceptRanges", laid_unicode_utf8_acceptRanges), ("unicode/utf8.first", laid_unicode_utf8_first)], narrowed := true }
def WalkAskedUptoSaid : Prop := walkAskedUptoRow.holds Tryz.pinned (OpenSpec.upto walkAskedSpec)

/-- 'troupekeep.OwnCalls', WHERE WHAT IT READS IS OF BULK AT MOST 1048576: true; the input reads as it did. -/
def ownCallsUptoRow : OpenClaim := { program := "ytakpnepblgfknaagreatdoor", sum := "1e20dfb1783bf565214331eb54cfbfb3dd911479042a5cf8732e9cba3746710b", func := "troupe/troupekeep.OwnCalls", spec := "ownCalls", unfollowed := true, recurses := true, named := ["unicode/utf8.first", "unicode/utf8.acceptRanges", "math/bits.deBruijn32tab", "math/bits.deBruijn64tab"], apart := false, laid := [("math/bits.deBruijn32tab", laid_math_bits_deBruijn32tab), ("math/bits.deBruijn64tab", laid_math_bits_deBruijn64tab), ("unicode/utf8.acceptRanges", laid_unicode_utf8_acceptRanges), ("unicode/utf8.first", laid_unicode_utf8_first)], narrowed := true }
def OwnCallsUptoSaid : Prop := ownCallsUptoRow.holds Tryz.pinned (OpenSpec.upto ownCallsSpec)

/-- 'troupekeep.RunGoes', WHERE WHAT IT READS IS OF BULK AT MOST 1048576: true; the input reads as it did. -/
def runGoesUptoRow : OpenClaim := { program := "ytakpnepblgfknaagreatdoor", sum := "1e20dfb1783bf565214331eb54cfbfb3dd911479042a5cf8732e9cba3746710b", func := "troupe/troupekeep.RunGoes", spec := "runGoes", unfollowed := true, recurses := true, named := ["unicode/utf8.first", "unicode/utf8.acceptRanges", "math/bits.deBruijn32tab", "math/bits.deBruijn64tab"], apart := false, laid := [("math/bits.deBruijn32tab", laid_math_bits_deBruijn32tab), ("math/bits.deBruijn64tab", laid_math_bits_deBruijn64tab), ("unicode/utf8.acceptRanges", laid_unicode_utf8_acceptRanges), ("unicode/utf8.first", laid_unicode_utf8_first)], narrowed := true }
def RunGoesUptoSaid : Prop := runGoesUptoRow.holds Tryz.pinned (OpenSpec.upto runGoesSpec)

/-- 'troupekeep.RunCuts', WHERE WHAT IT READS IS OF BULK AT MOST 1048576: true; the input reads as it did. -/
def runCutsUptoRow : OpenClaim := { program := "ytakpnepblgfknaagreatdoor", sum := "1e20dfb1783bf565214331eb54cfbfb3dd911479042a5cf8732e9cba3746710b", func := "troupe/troupekeep.RunCuts", spec := "runCuts", unfollowed := true, recurses := true, named := ["unicode/utf8.first", "unicode/utf8.acceptRanges", "math/bits.deBruijn32tab", "math/bits.deBruijn64tab"], apart := false, laid := [("math/bits.deBruijn32tab", laid_math_bits_deBruijn32tab), ("math/bits.deBruijn64tab", laid_math_bits_deBruijn64tab), ("unicode/utf8.acceptRanges", laid_unicode_utf8_acceptRanges), ("unicode/utf8.first", laid_unicode_utf8_first)], narrowed := true }
def RunCutsUptoSaid : Prop := runCutsUptoRow.holds Tryz.pinned (OpenSpec.upto runCutsSpec)

/-- 'troupekeep.OwnRuns', WHERE WHAT IT READS IS OF BULK AT MOST 1048576: true; the input reads as it did. -/
def ownRunsUptoRow : OpenClaim := { program := "ytakpnepblgfknaagreatdoor", sum := "1e20dfb1783bf565214331eb54cfbfb3dd911479042a5cf8732e9cba3746710b", func := "troupe/troupekeep.OwnRuns", spec := "ownRuns", unfollowed := true, recurses := true, named := ["unicode/utf8.first", "unicode/utf8.acceptRanges", "math/bits.deBruijn32tab", "math/bits.deBruijn64tab"], apart := false, laid := [("math/bits.deBruijn32tab", laid_math_bits_deBruijn32tab), ("math/bits.deBruijn64tab", laid_math_bits_deBruijn64tab), ("unicode/utf8.acceptRanges", laid_unicode_utf8_acceptRanges), ("unicode/utf8.first", laid_unicode_utf8_first)], narrowed := true }
def OwnRunsUptoSaid : Prop := ownRunsUptoRow.holds Tryz.pinned (OpenSpec.upto ownRunsSpec)

/-- 'troupekeep.RunApart', WHERE WHAT IT READS IS OF BULK AT MOST 1048576: true; the input reads as it did. -/
def runApartUptoRow : OpenClaim := { program := "ytakpnepblgfknaagreatdoor", sum := "1e20dfb1783bf565214331eb54cfbfb3dd911479042a5cf8732e9cba3746710b", func := "troupe/troupekeep.RunApart", spec := "runApart", unfollowed := true, recurses := true, named := ["unicode/utf8.first", "unicode/utf8.acceptRanges", "math/bits.deBruijn32tab", "math/bits.deBruijn64tab"], apart := false, laid := [("math/bits.deBruijn32tab", laid_math_bits_deBruijn32tab), ("math/bits.deBruijn64tab", laid_math_bits_deBruijn64tab), ("unicode/utf8.acceptRanges", laid_unicode_utf8_acceptRanges), ("unicode/utf8.first", laid_unicode_utf8_first)], narrowed := true }
def RunApartUptoSaid : Prop := runApartUptoRow.holds Tryz.pinned (OpenSpec.upto runApartSpec)

/-- 'troupekeep.RunSound', WHERE WHAT IT READS IS OF BULK AT MOST 1048576: true; the input reads as it did. -/
def runSoundUptoRow : OpenClaim := { program := "ytakpnepblgfknaagreatdoor", sum := "1e20dfb1783bf565214331eb54cfbfb3dd911479042a5cf8732e9cba3746710b", func := "troupe/troupekeep.RunSound", spec := "runSound", unfollowed := true, recurses := true, named := ["unicode/utf8.first", "unicode/utf8.acceptRanges", "math/bits.deBruijn32tab", "math/bits.deBruijn64tab"], apart := false, laid := [("math/bits.deBruijn32tab", laid_math_bits_deBruijn32tab), ("math/bits.deBruijn64tab", laid_math_bits_deBruijn64tab), ("unicode/utf8.acceptRanges", laid_unicode_utf8_acceptRanges), ("unicode/utf8.first", laid_unicode_utf8_first)], narrowed := true }
def RunSoundUptoSaid : Prop := runSoundUptoRow.holds Tryz.pinned (OpenSpec.upto runSoundSpec)

/-- 'troupekeep.RunBack', WHERE WHAT IT READS IS OF BULK AT MOST 1048576: true; the input reads as it did. -/
def runBackUptoRow : OpenClaim := { program := "ytakpnepblgfknaagreatdoor", sum := "1e20dfb1783bf565214331eb54cfbfb3dd911479042a5cf8732e9cba3746710b", func := "troupe/troupekeep.RunBack", spec := "runBack", unfollowed := true, recurses := true, named := ["unicode/utf8.first", "unicode/utf8.acceptRanges", "math/bits.deBruijn32tab", "math/bits.deBruijn64tab"], apart := false, laid := [("math/bits.deBruijn32tab", laid_math_bits_deBruijn32tab), ("math/bits.deBruijn64tab", laid_math_bits_deBruijn64tab), ("unicode/utf8.acceptRanges", laid_unicode_utf8_acceptRanges), ("unicode/utf8.first", laid_unicode_utf8_first)], narrowed := true }
def RunBackUptoSaid : Prop := runBackUptoRow.holds Tryz.pinned (OpenSpec.upto runBackSpec)

/-- 'troupekeep.RunWalks', WHERE WHAT IT READS IS OF BULK AT MOST 1048576: true; the input reads as it did. -/
def runWalksUptoRow : OpenClaim := { program := "ytakpnepblgfknaagreatdoor", sum := "1e20dfb1783bf565214331eb54cfbfb3dd911479042a5cf8732e9cba3746710b", func := "troupe/troupekeep.RunWalks", spec := "runWalks", unfollowed := true, recurses := true, named := ["unicode/utf8.first", "unicode/utf8.acceptRanges", "math/bits.deBruijn32tab", "math/bits.deBruijn64tab"], apart := false, laid := [("math/bits.deBruijn32tab", laid_math_bits_deBruijn32tab), ("math/bits.deBruijn64tab", laid_math_bits_deBruijn64tab), ("unicode/utf8.acceptRanges", laid_unicode_utf8_acceptRanges), ("unicode/utf8.first", laid_unicode_utf8_first)], narrowed := true }
def RunWalksUptoSaid : Prop := runWalksUptoRow.holds Tryz.pinned (OpenSpec.upto runWalksSpec)

/-- 'troupekeep.ShotGoes', WHERE WHAT IT READS IS OF BULK AT MOST 1048576: true; the input reads as it did. -/
def shotGoesUptoRow : OpenClaim := { program := "ytakpnepblgfknaagreatdoor", sum := "1e20dfb1783bf565214331eb54cfbfb3dd911479042a5cf8732e9cba3746710b", func := "troupe/troupekeep.ShotGoes", spec := "shotGoes", unfollowed := true, recurses := true, named := ["unicode/utf8.first", "unicode/utf8.acceptRanges", "math/bits.deBruijn32tab", "math/bits.deBruijn64tab"], apart := false, laid := [("math/bits.deBruijn32tab", laid_math_bits_deBruijn32tab), ("math/bits.deBruijn64tab", laid_math_bits_deBruijn64tab), ("unicode/utf8.acceptRanges", laid_unicode_utf8_acceptRanges), ("unicode/utf8.first", laid_unicode_utf8_first)], narrowed := true }
def ShotGoesUptoSaid : Prop := shotGoesUptoRow.holds Tryz.pinned (OpenSpec.upto shotGoesSpec)

end Rows
end Go.Proofs.YtakpnepblgfknaaGreatDoor
