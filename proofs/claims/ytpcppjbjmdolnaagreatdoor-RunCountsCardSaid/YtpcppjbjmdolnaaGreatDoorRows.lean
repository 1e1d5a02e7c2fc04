/-
  NARROWER THAN 'FOR EVERY INPUT', by the rows' own cells (each row's printed sentence says how): MachValues: laid · MachNumbers: laid · MachFits: laid · MachLoops: laid · MachCalls: laid · MachNobody: laid · RunOrder: laid · RunCounts: laid · RunFails: laid · RunInputs: laid.
  DERIVED. THE GIVEN ROWS OF THIS SEAT. 10 by the template 'for every input the law returns true; each argument reads behind the call as it read before'; 0 by the template 'total and deterministic' (their statements: YtpcppjbjmdolnaaGreatDoorTotals.lean).
  GIVEN WITH THE SEED: the statements are not yours to turn. If you find one false, say at which input.
  Laid BY PROGRAM, IN A SANDBOX (cutbox-rows.mjs): the forced cells as the released guide's own fill.sh prints them over the translation 911c086b10fbe733… (all of the seat's roots in one cut). By AI agents, Wed Nov 11 2026. No macro, syntax, notation, axiom, sorry.
-/
import Derived.Test.YtpcppjbjmdolnaaGreatDoorChecked
import GoSem.Claim
import GoSem.ClaimJoined
import GoSem.ClaimMapViews
import Derived.JoinedTies
import Derived.KernelRfl
namespace Go.Proofs.YtpcppjbjmdolnaaGreatDoor
/- THE CELL 'sum', in the pinned program and in every row, IS THE sha256 OF THE DUMP (.gsa) THAT YtpcppjbjmdolnaaGreatDoorProg.lean LOADS. Nothing in Lean hashes anything: it is a label: what it is worth is what the hold of that sum in a sandbox is worth. -/
noncomputable def Tryz.pinned : Pinned := { name := "ytpcppjbjmdolnaagreatdoor", sum := "911c086b10fbe733ae3e41af99e735d57ef6e90e36cef1c2a3c7e6514761b234", checked := Tryz.checked }
namespace Rows
def none {H : Type} : Left H := { results := [], args := [] }

/- WHAT THE LISTED PACKAGE-LEVEL VARIABLES READ AS WHEN THE CALL BEGINS. Each datum BY PROGRAM (the guide's laid-datum.mjs) off the statement by which the dump's own 'gosem.cut.vars' lays the variable. In a bare row this is a premise. The card (YtpcppjbjmdolnaaGreatDoorCards.lean) ties it to the program's text. -/
def laid_unicode_White_Space {H : Type} : DataW H := .ptr (.agg [.slice [.agg [.lit (.int .u16 9), .lit (.int .u16 13), .lit (.int .u16 1)], .agg [.lit (.int .u16 32), .lit (.int .u16 133), .lit (.int .u16 101)], .agg [.lit (.int .u16 160), .lit (.int .u16 5760), .lit (.int .u16 5600)], .agg [.lit (.int .u16 8192), .lit (.int .u16 8202), .lit (.int .u16 1)], .agg [.lit (.int .u16 8232), .lit (.int .u16 8233), .lit (.int .u16 1)], .agg [.lit (.int .u16 8239), .lit (.int .u16 8287), .lit (.int .u16 48)], .agg [.lit (.int .u16 12288), .lit (.int .u16 12288), .lit (.int .u16 1)]] [], .nil, .lit (.int .i64 2)])
def laid_strings_asciiSpace {H : Type} : DataW H := .agg [.lit (.int .u8 0), .lit (.int .u8 0), .lit (.int .u8 0), .lit (.int .u8 0), .lit (.int .u8 0), .lit (.int .u8 0), .lit (.int .u8 0), .lit (.int .u8 0), .lit (.int .u8 0), .lit (.int .u8 1), .lit (.int .u8 1), .lit (.int .u8 1), .lit (.int .u8 1), .lit (.int .u8 1), .lit (.int .u8 0), .lit (.int .u8 0), .lit (.int .u8 0), .lit (.int .u8 0), .lit (.int .u8 0), .lit (.int .u8 0), .lit (.int .u8 0), .lit (.int .u8 0), .lit (.int .u8 0), .lit (.int .u8 0), .lit (.int .u8 0), .lit (.int .u8 0), .lit (.int .u8 0), .lit (.int .u8 0), .lit (.int .u8 0), .lit (.int .u8 0), .lit (.int .u8 0), .lit (.int .u8 0), .lit (.int .u8 1), .lit (.int .u8 0), .lit (.int .u8 0), .lit (.int .u8 0), .lit (.int .u8 0), .lit (.int .u8 0), .lit (.int .u8 0), .lit (.int .u8 0), .lit (.int .u8 0), .lit (.int .u8 0), .lit (.int .u8 0), .lit (.int .u8 0), .lit (.int .u8 0), .lit (.int .u8 0), .lit (.int .u8 0), .lit (.int .u8 0), .lit (.int .u8 0), .lit (.int .u8 0), .lit (.int .u8 0), .lit (.int .u8 0), .lit (.int .u8 0), .lit (.int .u8 0), .lit (.int .u8 0), .lit (.int .u8 0), .lit (.int .u8 0), .lit (.int .u8 0), .lit (.int .u8 0), .lit (.int .u8 0), .lit (.int .u8 0), .lit (.int .u8 0), .lit (.int .u8 0), .lit (.int .u8 0), .lit (.int .u8 0), .lit (.int .u8 0), .lit (.int .u8 0), .lit (.int .u8 0), .lit (.int .u8 0), .lit (.int .u8 0), .lit (.int .u8 0), .lit (.int .u8 0), .lit (.int .u8 0), .lit (.int .u8 0), .lit (.int .u8 0), .lit (.int .u8 0), .lit (.int .u8 0), .lit (.int .u8 0), .lit (.int .u8 0), .lit (.int .u8 0), .lit (.int .u8 0), .lit (.int .u8 0), .lit (.int .u8 0), .lit (.int .u8 0), .lit (.int .u8 0), .lit (.int .u8 0), .lit (.int .u8 0), .lit (.int .u8 0), .lit (.int .u8 0), .lit (.int .u8 0), .lit (.int .u8 0), .lit (.int .u8 0), .lit (.int .u8 0), .lit (.int .u8 0), .lit (.int .u8 0), .lit (.int .u8 0), .lit (.int .u8 0), .lit (.int .u8 0), .lit (.int .u8 0), .lit (.int .u8 0), .lit (.int .u8 0), .lit (.int .u8 0), .lit (.int .u8 0), .lit (.int .u8 0), .lit (.int .u8 0), .lit (.int .u8 0), .lit (.int .u8 0), .lit (.int .u8 0), .lit (.int .u8 0), .lit (.int .u8 0), .lit (.int .u8 0), .lit (.int .u8 0), .lit (.int .u8 0), .lit (.int .u8 0), .lit (.int .u8 0), .lit (.int .u8 0), .lit (.int .u8 0), .lit (.int .u8 0), .lit (.int .u8 0), .lit (.int .u8 0), .lit (.int .u8 0), .lit (.int .u8 0), .lit (.int .u8 0), .lit (.int .u8 0), .lit (.int .u8 0), .lit (.int .u8 0), .lit (.int .u8 0), .lit (.int .u8 0), .lit (.int .u8 0), .lit (.int .u8 0), .lit (.int .u8 0), .lit (.int .u8 0), .lit (.int .u8 0), .lit (.int .u8 0), .lit (.int .u8 0), .lit (.int .u8 0), .lit (.int .u8 0), .lit (.int .u8 0), .lit (.int .u8 0), .lit (.int .u8 0), .lit (.int .u8 0), .lit (.int .u8 0), .lit (.int .u8 0), .lit (.int .u8 0), .lit (.int .u8 0), .lit (.int .u8 0), .lit (.int .u8 0), .lit (.int .u8 0), .lit (.int .u8 0), .lit (.int .u8 0), .lit (.int .u8 0), .lit (.int .u8 0), .lit (.int .u8 0), .lit (.int .u8 0), .lit (.int .u8 0), .lit (.int .u8 0), .lit (.int .u8 0), .lit (.int .u8 0), .lit (.int .u8 0), .lit (.int .u8 0), .lit (.int .u8 0), .lit (.int .u8 0), .lit (.int .u8 0), .lit (.int .u8 0), .lit (.int .u8 0), .lit (.int .u8 0), .lit (.int .u8 0), .lit (.int .u8 0), .lit (.int .u8 0), .lit (.int .u8 0), .lit (.int .u8 0), .lit (.int .u8 0), .lit (.int .u8 0), .lit (.int .u8 0), .lit (.int .u8 0), .lit (.int .u8 0), .lit (.int .u8 0), .lit (.int .u8 0), .lit (.int .u8 0), .lit (.int .u8 0), .lit (.int .u8 0), .lit (.int .u8 0), .lit (.int .u8 0), .lit (.int .u8 0), .lit (.int .u8 0), .lit (.int .u8 0), .lit (.int .u8 0), .lit (.int .u8 0), .lit (.int .u8 0), .lit (.int .u8 0), .lit (.int .u8 0), .lit (.int .u8 0), .lit (.int .u8 0), .lit (.int .u8 0), .lit (.int .u8 0), .lit (.int .u8 0), .lit (.int .u8 0), .lit (.int .u8 0), .lit (.int .u8 0), .lit (.int .u8 0), .lit (.int .u8 0), .lit (.int .u8 0), .lit (.int .u8 0), .lit (.int .u8 0), .lit (.int .u8 0), .lit (.int .u8 0), .lit (.int .u8 0), .lit (.int .u8 0), .lit (.int .u8 0), .lit (.int .u8 0), .lit (.int .u8 0), .lit (.int .u8 0), .lit (.int .u8 0), .lit (.int .u8 0), .lit (.int .u8 0), .lit (.int .u8 0), .lit (.int .u8 0), .lit (.int .u8 0), .lit (.int .u8 0), .lit (.int .u8 0), .lit (.int .u8 0), .lit (.int .u8 0), .lit (.int .u8 0), .lit (.int .u8 0), .lit (.int .u8 0), .lit (.int .u8 0), .lit (.int .u8 0), .lit (.int .u8 0), .lit (.int .u8 0), .lit (.int .u8 0), .lit (.int .u8 0), .lit (.int .u8 0), .lit (.int .u8 0), .lit (.int .u8 0), .lit (.int .u8 0), .lit (.int .u8 0), .lit (.int .u8 0), .lit (.int .u8 0), .lit (.int .u8 0), .lit (.int .u8 0), .lit (.int .u8 0), .lit (.int .u8 0), .lit (.int .u8 0), .lit (.int .u8 0), .lit (.int .u8 0), .lit (.int .u8 0), .lit (.int .u8 0), .lit (.int .u8 0), .lit (.int .u8 0), .lit (.int .u8 0), .lit (.int .u8 0), .lit (.int .u8 0), .lit (.int .u8 0), .lit (.int .u8 0), .lit (.int .u8 0), .lit (.int .u8 0)]

/-- 'crosstreelaw11.MachValues': WHATEVER THE INPUT: true; the input reads as it did. -/
def machValuesSpec : ChangeSpec := { name := "machValues", fn := fun _ => fun
  | [d1, d2, d3, d4] => { results := [.lit (.bool true)], args := [d1, d2, d3, d4] }
  | _ => none }
def machValuesRow : OpenClaim := { program := "ytpcppjbjmdolnaagreatdoor", sum := "911c086b10fbe733ae3e41af99e735d57ef6e90e36cef1c2a3c7e6514761b234", func := "crosstree/crosstreelaw11.MachValues", spec := "machValues", inPlace := ["internal/bytealg.IndexByteString", "internal/bytealg.IndexString"], unfollowed := true, recurses := true, named := ["internal/bytealg.MaxLen", "strings.asciiSpace", "unicode.White_Space"], plainKeys := false, apart := false, laid := [("unicode.White_Space", laid_unicode_White_Space), ("strings.asciiSpace", laid_strings_asciiSpace)] }
def MachValuesSaid : Prop := machValuesRow.holds Tryz.pinned (OpenSpec.ofChange machValuesSpec)

/-- ITS FALSE NEIGHBOUR: 'it returns false'. Refute it at one input. -/
def machValuesWrong : ChangeSpec := { name := "machValues", fn := fun _ => fun
  | [d1, d2, d3, d4] => { results := [.lit (.bool false)], args := [d1, d2, d3, d4] }
  | _ => none }
def MachValuesWrongFalsely : Prop := machValuesRow.holds Tryz.pinned (OpenSpec.ofChange machValuesWrong)

/-- 'crosstreelaw11.MachNumbers': WHATEVER THE INPUT: true; the input reads as it did. -/
def machNumbersSpec : ChangeSpec := { name := "machNumbers", fn := fun _ => fun
  | [d1, d2, d3] => { results := [.lit (.bool true)], args := [d1, d2, d3] }
  | _ => none }
def machNumbersRow : OpenClaim := { program := "ytpcppjbjmdolnaagreatdoor", sum := "911c086b10fbe733ae3e41af99e735d57ef6e90e36cef1c2a3c7e6514761b234", func := "crosstree/crosstreelaw11.MachNumbers", spec := "machNumbers", inPlace := ["internal/bytealg.IndexByteString", "internal/bytealg.IndexString"], unfollowed := true, recurses := true, named := ["internal/bytealg.MaxLen", "strings.asciiSpace", "unicode.White_Space"], plainKeys := false, apart := false, laid := [("unicode.White_Space", laid_unicode_White_Space), ("strings.asciiSpace", laid_strings_asciiSpace)] }
def MachNumbersSaid : Prop := machNumbersRow.holds Tryz.pinned (OpenSpec.ofChange machNumbersSpec)

/-- ITS FALSE NEIGHBOUR: 'it returns false'. Refute it at one input. -/
def machNumbersWrong : ChangeSpec := { name := "machNumbers", fn := fun _ => fun
  | [d1, d2, d3] => { results := [.lit (.bool false)], args := [d1, d2, d3] }
  | _ => none }
def MachNumbersWrongFalsely : Prop := machNumbersRow.holds Tryz.pinned (OpenSpec.ofChange machNumbersWrong)

/-- 'crosstreelaw11.MachFits': WHATEVER THE INPUT: true; the input reads as it did. -/
def machFitsSpec : ChangeSpec := { name := "machFits", fn := fun _ => fun
  | [d] => { results := [.lit (.bool true)], args := [d] }
  | _ => none }
def machFitsRow : OpenClaim := { program := "ytpcppjbjmdolnaagreatdoor", sum := "911c086b10fbe733ae3e41af99e735d57ef6e90e36cef1c2a3c7e6514761b234", func := "crosstree/crosstreelaw11.MachFits", spec := "machFits", inPlace := ["internal/bytealg.IndexByteString", "internal/bytealg.IndexString"], unfollowed := true, recurses := true, named := ["internal/bytealg.MaxLen", "strings.asciiSpace", "unicode.White_Space"], plainKeys := false, apart := false, laid := [("unicode.White_Space", laid_unicode_White_Space), ("strings.asciiSpace", laid_strings_asciiSpace)] }
def MachFitsSaid : Prop := machFitsRow.holds Tryz.pinned (OpenSpec.ofChange machFitsSpec)

/-- ITS FALSE NEIGHBOUR: 'it returns false'. Refute it at one input. -/
def machFitsWrong : ChangeSpec := { name := "machFits", fn := fun _ => fun
  | [d] => { results := [.lit (.bool false)], args := [d] }
  | _ => none }
def MachFitsWrongFalsely : Prop := machFitsRow.holds Tryz.pinned (OpenSpec.ofChange machFitsWrong)

/-- 'crosstreelaw11.MachLoops': WHATEVER THE INPUT: true; the input reads as it did. -/
def machLoopsSpec : ChangeSpec := { name := "machLoops", fn := fun _ => fun
  | [d1, d2] => { results := [.lit (.bool true)], args := [d1, d2] }
  | _ => none }
def machLoopsRow : OpenClaim := { program := "ytpcppjbjmdolnaagreatdoor", sum := "911c086b10fbe733ae3e41af99e735d57ef6e90e36cef1c2a3c7e6514761b234", func := "crosstree/crosstreelaw11.MachLoops", spec := "machLoops", inPlace := ["internal/bytealg.IndexByteString", "internal/bytealg.IndexString"], unfollowed := true, recurses := true, named := ["internal/bytealg.MaxLen", "strings.asciiSpace", "unicode.White_Space"], plainKeys := false, apart := false, laid := [("unicode.White_Space", laid_unicode_White_Space), ("strings.asciiSpace", laid_strings_asciiSpace)] }
def MachLoopsSaid : Prop := machLoopsRow.holds Tryz.pinned (OpenSpec.ofChange machLoopsSpec)

/-- ITS FALSE NEIGHBOUR: 'it returns false'. Refute it at one input. -/
def machLoopsWrong : ChangeSpec := { name := "machLoops", fn := fun _ => fun
  | [d1, d2] => { results := [.lit (.bool false)], args := [d1, d2] }
  | _ => none }
def MachLoopsWrongFalsely : Prop := machLoopsRow.holds Tryz.pinned (OpenSpec.ofChange machLoopsWrong)

/-- 'crosstreelaw11.MachCalls': WHATEVER THE INPUT: true; the input reads as it did. -/
def machCallsSpec : ChangeSpec := { name := "machCalls", fn := fun _ => fun
  | [d] => { results := [.lit (.bool true)], args := [d] }
  | _ => none }
def machCallsRow : OpenClaim := { program := "ytpcppjbjmdolnaagreatdoor", sum := "911c086b10fbe733ae3e41af99e735d57ef6e90e36cef1c2a3c7e6514761b234", func := "crosstree/crosstreelaw11.MachCalls", spec := "machCalls", inPlace := ["internal/bytealg.IndexByteString", "internal/bytealg.IndexString"], unfollowed := true, recurses := true, named := ["internal/bytealg.MaxLen", "strings.asciiSpace", "unicode.White_Space"], plainKeys := false, apart := false, laid := [("unicode.White_Space", laid_unicode_White_Space), ("strings.asciiSpace", laid_strings_asciiSpace)] }
def MachCallsSaid : Prop := machCallsRow.holds Tryz.pinned (OpenSpec.ofChange machCallsSpec)

/-- ITS FALSE NEIGHBOUR: 'it returns false'. Refute it at one input. -/
def machCallsWrong : ChangeSpec := { name := "machCalls", fn := fun _ => fun
  | [d] => { results := [.lit (.bool false)], args := [d] }
  | _ => none }
def MachCallsWrongFalsely : Prop := machCallsRow.holds Tryz.pinned (OpenSpec.ofChange machCallsWrong)

/-- 'crosstreelaw11.MachNobody': WHATEVER THE INPUT: true; the input reads as it did. -/
def machNobodySpec : ChangeSpec := { name := "machNobody", fn := fun _ => fun
  | [d] => { results := [.lit (.bool true)], args := [d] }
  | _ => none }
def machNobodyRow : OpenClaim := { program := "ytpcppjbjmdolnaagreatdoor", sum := "911c086b10fbe733ae3e41af99e735d57ef6e90e36cef1c2a3c7e6514761b234", func := "crosstree/crosstreelaw11.MachNobody", spec := "machNobody", inPlace := ["internal/bytealg.IndexByteString", "internal/bytealg.IndexString"], unfollowed := true, recurses := true, named := ["internal/bytealg.MaxLen", "strings.asciiSpace", "unicode.White_Space"], plainKeys := false, apart := false, laid := [("unicode.White_Space", laid_unicode_White_Space), ("strings.asciiSpace", laid_strings_asciiSpace)] }
def MachNobodySaid : Prop := machNobodyRow.holds Tryz.pinned (OpenSpec.ofChange machNobodySpec)

/-- ITS FALSE NEIGHBOUR: 'it returns false'. Refute it at one input. -/
def machNobodyWrong : ChangeSpec := { name := "machNobody", fn := fun _ => fun
  | [d] => { results := [.lit (.bool false)], args := [d] }
  | _ => none }
def MachNobodyWrongFalsely : Prop := machNobodyRow.holds Tryz.pinned (OpenSpec.ofChange machNobodyWrong)

/-- 'crosstreelaw12.RunOrder': WHATEVER THE INPUT: true; the input reads as it did. -/
def runOrderSpec : ChangeSpec := { name := "runOrder", fn := fun _ => fun
  | [d1, d2, d3] => { results := [.lit (.bool true)], args := [d1, d2, d3] }
  | _ => none }
def runOrderRow : OpenClaim := { program := "ytpcppjbjmdolnaagreatdoor", sum := "911c086b10fbe733ae3e41af99e735d57ef6e90e36cef1c2a3c7e6514761b234", func := "crosstree/crosstreelaw12.RunOrder", spec := "runOrder", inPlace := ["internal/bytealg.IndexByteString", "internal/bytealg.IndexString"], unfollowed := true, recurses := true, named := ["internal/bytealg.MaxLen", "strings.asciiSpace", "unicode.White_Space"], plainKeys := false, apart := false, laid := [("unicode.White_Space", laid_unicode_White_Space), ("strings.asciiSpace", laid_strings_asciiSpace)] }
def RunOrderSaid : Prop := runOrderRow.holds Tryz.pinned (OpenSpec.ofChange runOrderSpec)

/-- ITS FALSE NEIGHBOUR: 'it returns false'. Refute it at one input. -/
def runOrderWrong : ChangeSpec := { name := "runOrder", fn := fun _ => fun
  | [d1, d2, d3] => { results := [.lit (.bool false)], args := [d1, d2, d3] }
  | _ => none }
def RunOrderWrongFalsely : Prop := runOrderRow.holds Tryz.pinned (OpenSpec.ofChange runOrderWrong)

/-- 'crosstreelaw12.RunCounts': WHATEVER THE INPUT: true; the input reads as it did. -/
def runCountsSpec : ChangeSpec := { name := "runCounts", fn := fun _ => fun
  | [d] => { results := [.lit (.bool true)], args := [d] }
  | _ => none }
def runCountsRow : OpenClaim := { program := "ytpcppjbjmdolnaagreatdoor", sum := "911c086b10fbe733ae3e41af99e735d57ef6e90e36cef1c2a3c7e6514761b234", func := "crosstree/crosstreelaw12.RunCounts", spec := "runCounts", inPlace := ["internal/bytealg.IndexByteString", "internal/bytealg.IndexString"], unfollowed := true, recurses := true, named := ["internal/bytealg.MaxLen", "strings.asciiSpace", "unicode.White_Space"], plainKeys := false, apart := false, laid := [("unicode.White_Space", laid_unicode_White_Space), ("strings.asciiSpace", laid_strings_asciiSpace)] }
def RunCountsSaid : Prop := runCountsRow.holds Tryz.pinned (OpenSpec.ofChange runCountsSpec)

/-- ITS FALSE NEIGHBOUR: 'it returns false'. Refute it at one input. -/
def runCountsWrong : ChangeSpec := { name := "runCounts", fn := fun _ => fun
  | [d] => { results := [.lit (.bool false)], args := [d] }
  | _ => none }
def RunCountsWrongFalsely : Prop := runCountsRow.holds Tryz.pinned (OpenSpec.ofChange runCountsWrong)

/-- 'crosstreelaw12.RunFails': WHATEVER THE INPUT: true; the input reads as it did. -/
def runFailsSpec : ChangeSpec := { name := "runFails", fn := fun _ => fun
  | [d1, d2] => { results := [.lit (.bool true)], args := [d1, d2] }
  | _ => none }
def runFailsRow : OpenClaim := { program := "ytpcppjbjmdolnaagreatdoor", sum := "911c086b10fbe733ae3e41af99e735d57ef6e90e36cef1c2a3c7e6514761b234", func := "crosstree/crosstreelaw12.RunFails", spec := "runFails", inPlace := ["internal/bytealg.IndexByteString", "internal/bytealg.IndexString"], unfollowed := true, recurses := true, named := ["internal/bytealg.MaxLen", "strings.asciiSpace", "unicode.White_Space"], plainKeys := false, apart := false, laid := [("unicode.White_Space", laid_unicode_White_Space), ("strings.asciiSpace", laid_strings_asciiSpace)] }
def RunFailsSaid : Prop := runFailsRow.holds Tryz.pinned (OpenSpec.ofChange runFailsSpec)

/-- ITS FALSE NEIGHBOUR: 'it returns false'. Refute it at one input. -/
def runFailsWrong : ChangeSpec := { name := "runFails", fn := fun _ => fun
  | [d1, d2] => { results := [.lit (.bool false)], args := [d1, d2] }
  | _ => none }
def RunFailsWrongFalsely : Prop := runFailsRow.holds Tryz.pinned (OpenSpec.ofChange runFailsWrong)

/-- 'crosstreelaw12.RunInputs': WHATEVER THE INPUT: true; the input reads as it did. -/
def runInputsSpec : ChangeSpec := { name := "runInputs", fn := fun _ => fun
  | [d] => { results := [.lit (.bool true)], args := [d] }
  | _ => none }
def runInputsRow : OpenClaim := { program := "ytpcppjbjmdolnaagreatdoor", sum := "911c086b10fbe733ae3e41af99e735d57ef6e90e36cef1c2a3c7e6514761b234", func := "crosstree/crosstreelaw12.RunInputs", spec := "runInputs", inPlace := ["internal/bytealg.IndexByteString", "internal/bytealg.IndexString"], unfollowed := true, recurses := true, named := ["internal/bytealg.MaxLen", "strings.asciiSpace", "unicode.White_Space"], plainKeys := false, apart := false, laid := [("unicode.White_Space", laid_unicode_White_Space), ("strings.asciiSpace", laid_strings_asciiSpace)] }
def RunInputsSaid : Prop := runInputsRow.holds Tryz.pinned (OpenSpec.ofChange runInputsSpec)

/-- ITS FALSE NEIGHBOUR: 'it returns false'. Refute it at one input. -/
def runInputsWrong : ChangeSpec := { name := "runInputs", fn := fun _ => fun
  | [d] => { results := [.lit (.bool false)], args := [d] }
  | _ => none }
def RunInputsWrongFalsely : Prop := runInputsRow.holds Tryz.pinned (OpenSpec.ofChange runInputsWrong)

/- THE SECOND FORM. 'bulk': how many values and letters a reading holds, each counted each time it is reached (what is shared counts as often as it is met; a slice's spare places count too). A statement '..UptoSaid' is the law's where the arguments, and the package variables that the reading takes, are together of bulk at most 1048576: NARROWER than '..Said'. Prove '..Said' where nothing that the law and all that it calls make is longer than what came in: it says more and counts as full. Else prove '..UptoSaid'. A law counts once. -/
mutual
def uptoBulk {H : Type} : DataW H → Nat
  | .lit (.string bytes) => bytes.length + 1
  | .lit _ => 1
  | .nil => 1
  | .ptr d => uptoBulk d + 1
  | .slice elems spare => uptoBulkAll elems + uptoBulkAll spare + 1
  | .agg parts => uptoBulkAll parts + 1
  | .iface _ d => uptoBulk d + 1
  | .map entries => uptoBulkEntries entries + 1
  | .held _ => 1
def uptoBulkAll {H : Type} : List (DataW H) → Nat
  | [] => 0
  | d :: r => uptoBulk d + uptoBulkAll r
def uptoBulkEntries {H : Type} : List (Lit × DataW H) → Nat
  | [] => 0
  | x :: r => uptoBulkEntry x + uptoBulkEntries r
def uptoBulkEntry {H : Type} : Lit × DataW H → Nat
  | (.string bytes, d) => bytes.length + uptoBulk d + 1
  | (_, d) => uptoBulk d + 1
 end
def uptoSmall : (H : Type) → List (DataW H) → Bool := fun _ ds => decide (uptoBulkAll ds ≤ 1048576)
def OpenSpec.upto (s : _root_.Go.ChangeSpec) : _root_.Go.OpenSpec := { _root_.Go.OpenSpec.ofChange s with cond := some uptoSmall }

/-- 'crosstreelaw11.MachValues', WHERE WHAT IT READS IS OF BULK AT MOST 1048576: true; the input reads as it did. -/
def machValuesUptoRow : OpenClaim := { program := "ytpcppjbjmdolnaagreatdoor", sum := "911c086b10fbe733ae3e41af99e735d57ef6e90e36cef1c2a3c7e6514761b234", func := "crosstree/crosstreelaw11.MachValues", spec := "machValues", inPlace := ["internal/bytealg.IndexByteString", "internal/bytealg.IndexString"], unfollowed := true, recurses := true, named := ["internal/bytealg.MaxLen", "strings.asciiSpace", "unicode.White_Space"], plainKeys := false, apart := false, laid := [("unicode.White_Space", laid_unicode_White_Space), ("strings.asciiSpace", laid_strings_asciiSpace)], narrowed := true }
def MachValuesUptoSaid : Prop := machValuesUptoRow.holds Tryz.pinned (OpenSpec.upto machValuesSpec)

/-- 'crosstreelaw11.MachNumbers', WHERE WHAT IT READS IS OF BULK AT MOST 1048576: true; the input reads as it did. -/
def machNumbersUptoRow : OpenClaim := { program := "ytpcppjbjmdolnaagreatdoor", sum := "911c086b10fbe733ae3e41af99e735d57ef6e90e36cef1c2a3c7e6514761b234", func := "crosstree/crosstreelaw11.MachNumbers", spec := "machNumbers", inPlace := ["internal/bytealg.IndexByteString", "internal/bytealg.IndexString"], unfollowed := true, recurses := true, named := ["internal/bytealg.MaxLen", "strings.asciiSpace", "unicode.White_Space"], plainKeys := false, apart := false, laid := [("unicode.White_Space", laid_unicode_White_Space), ("strings.asciiSpace", laid_strings_asciiSpace)], narrowed := true }
def MachNumbersUptoSaid : Prop := machNumbersUptoRow.holds Tryz.pinned (OpenSpec.upto machNumbersSpec)

/-- 'crosstreelaw11.MachFits', WHERE WHAT IT READS IS OF BULK AT MOST 1048576: true; the input reads as it did. -/
def machFitsUptoRow : OpenClaim := { program := "ytpcppjbjmdolnaagreatdoor", sum := "911c086b10fbe733ae3e41af99e735d57ef6e90e36cef1c2a3c7e6514761b234", func := "crosstree/crosstreelaw11.MachFits", spec := "machFits", inPlace := ["internal/bytealg.IndexByteString", "internal/bytealg.IndexString"], unfollowed := true, recurses := true, named := ["internal/bytealg.MaxLen", "strings.asciiSpace", "unicode.White_Space"], plainKeys := false, apart := false, laid := [("unicode.White_Space", laid_unicode_White_Space), ("strings.asciiSpace", laid_strings_asciiSpace)], narrowed := true }
def MachFitsUptoSaid : Prop := machFitsUptoRow.holds Tryz.pinned (OpenSpec.upto machFitsSpec)

/-- 'crosstreelaw11.MachLoops', WHERE WHAT IT READS IS OF BULK AT MOST 1048576: true; the input reads as it did. -/
def machLoopsUptoRow : OpenClaim := { program := "ytpcppjbjmdolnaagreatdoor", sum := "911c086b10fbe733ae3e41af99e735d57ef6e90e36cef1c2a3c7e6514761b234", func := "crosstree/crosstreelaw11.MachLoops", spec := "machLoops", inPlace := ["internal/bytealg.IndexByteString", "internal/bytealg.IndexString"], unfollowed := true, recurses := true, named := ["internal/bytealg.MaxLen", "strings.asciiSpace", "unicode.White_Space"], plainKeys := false, apart := false, laid := [("unicode.White_Space", laid_unicode_White_Space), ("strings.asciiSpace", laid_strings_asciiSpace)], narrowed := true }
def MachLoopsUptoSaid : Prop := machLoopsUptoRow.holds Tryz.pinned (OpenSpec.upto machLoopsSpec)

/-- 'crosstreelaw11.MachCalls', WHERE WHAT IT READS IS OF BULK AT MOST 1048576: true; the input reads as it did. -/
def machCallsUptoRow : OpenClaim := { program := "ytpcppjbjmdolnaagreatdoor", sum := "911c086b10fbe733ae3e41af99e735d57ef6e90e36cef1c2a3c7e6514761b234", func := "crosstree/crosstreelaw11.MachCalls", spec := "machCalls", inPlace := ["internal/bytealg.IndexByteString", "internal/bytealg.IndexString"], unfollowed := true, recurses := true, named := ["internal/bytealg.MaxLen", "strings.asciiSpace", "unicode.White_Space"], plainKeys := false, apart := false, laid := [("unicode.White_Space", laid_unicode_White_Space), ("strings.asciiSpace", laid_strings_asciiSpace)], narrowed := true }
def MachCallsUptoSaid : Prop := machCallsUptoRow.holds Tryz.pinned (OpenSpec.upto machCallsSpec)

/-- 'crosstreelaw11.MachNobody', WHERE WHAT IT READS IS OF BULK AT MOST 1048576: true; the input reads as it did. -/
def machNobodyUptoRow : OpenClaim := { program := "ytpcppjbjmdolnaagreatdoor", sum := "911c086b10fbe733ae3e41af99e735d57ef6e90e36cef1c2a3c7e6514761b234", func := "crosstree/crosstreelaw11.MachNobody", spec := "machNobody", inPlace := ["internal/bytealg.IndexByteString", "internal/bytealg.IndexString"], unfollowed := true, recurses := true, named := ["internal/bytealg.MaxLen", "strings.asciiSpace", "unicode.White_Space"], plainKeys := false, apart := false, laid := [("unicode.White_Space", laid_unicode_White_Space), ("strings.asciiSpace", laid_strings_asciiSpace)], narrowed := true }
def MachNobodyUptoSaid : Prop := machNobodyUptoRow.holds Tryz.pinned (OpenSpec.upto machNobodySpec)

/-- 'crosstreelaw12.RunOrder', WHERE WHAT IT READS IS OF BULK AT MOST 1048576: true; the input reads as it did. -/
def runOrderUptoRow : OpenClaim := { program := "ytpcppjbjmdolnaagreatdoor", sum := "911c086b10fbe733ae3e41af99e735d57ef6e90e36cef1c2a3c7e6514761b234", func := "crosstree/crosstreelaw12.RunOrder", spec := "runOrder", inPlace := ["internal/bytealg.IndexByteString", "internal/bytealg.IndexString"], unfollowed := true, recurses := true, named := ["internal/bytealg.MaxLen", "strings.asciiSpace", "unicode.White_Space"], plainKeys := false, apart := false, laid := [("unicode.White_Space", laid_unicode_White_Space), ("strings.asciiSpace", laid_strings_asciiSpace)], narrowed := true }
def RunOrderUptoSaid : Prop := runOrderUptoRow.holds Tryz.pinned (OpenSpec.upto runOrderSpec)

/-- 'crosstreelaw12.RunCounts', WHERE WHAT IT READS IS OF BULK AT MOST 1048576: true; the input reads as it did. -/
def runCountsUptoRow : OpenClaim := { program := "ytpcppjbjmdolnaagreatdoor", sum := "911c086b10fbe733ae3e41af99e735d57ef6e90e36cef1c2a3c7e6514761b234", func := "crosstree/crosstreelaw12.RunCounts", spec := "runCounts", inPlace := ["internal/bytealg.IndexByteString", "internal/bytealg.IndexString"], unfollowed := true, recurses := true, named := ["internal/bytealg.MaxLen", "strings.asciiSpace", "unicode.White_Space"], plainKeys := false, apart := false, laid := [("unicode.White_Space", laid_unicode_White_Space), ("strings.asciiSpace", laid_strings_asciiSpace)], narrowed := true }
def RunCountsUptoSaid : Prop := runCountsUptoRow.holds Tryz.pinned (OpenSpec.upto runCountsSpec)

/-- 'crosstreelaw12.RunFails', WHERE WHAT IT READS IS OF BULK AT MOST 1048576: true; the input reads as it did. -/
def runFailsUptoRow : OpenClaim := { program := "ytpcppjbjmdolnaagreatdoor", sum := "911c086b10fbe733ae3e41af99e735d57ef6e90e36cef1c2a3c7e6514761b234", func := "crosstree/crosstreelaw12.RunFails", spec := "runFails", inPlace := ["internal/bytealg.IndexByteString", "internal/bytealg.IndexString"], unfollowed := true, recurses := true, named := ["internal/bytealg.MaxLen", "strings.asciiSpace", "unicode.White_Space"], plainKeys := false, apart := false, laid := [("unicode.White_Space", laid_unicode_White_Space), ("strings.asciiSpace", laid_strings_asciiSpace)], narrowed := true }
def RunFailsUptoSaid : Prop := runFailsUptoRow.holds Tryz.pinned (OpenSpec.upto runFailsSpec)

/-- 'crosstreelaw12.RunInputs', WHERE WHAT IT READS IS OF BULK AT MOST 1048576: true; the input reads as it did. -/
def runInputsUptoRow : OpenClaim := { program := "ytpcppjbjmdolnaagreatdoor", sum := "911c086b10fbe733ae3e41af99e735d57ef6e90e36cef1c2a3c7e6514761b234", func := "crosstree/crosstreelaw12.RunInputs", spec := "runInputs", inPlace := ["internal/bytealg.IndexByteString", "internal/bytealg.IndexString"], unfollowed := true, recurses := true, named := ["internal/bytealg.MaxLen", "strings.asciiSpace", "unicode.White_Space"], plainKeys := false, apart := false, laid := [("unicode.White_Space", laid_unicode_White_Space), ("strings.asciiSpace", laid_strings_asciiSpace)], narrowed := true }
def RunInputsUptoSaid : Prop := runInputsUptoRow.holds Tryz.pinned (OpenSpec.upto runInputsSpec)

end Rows
end Go.Proofs.YtpcppjbjmdolnaaGreatDoor
