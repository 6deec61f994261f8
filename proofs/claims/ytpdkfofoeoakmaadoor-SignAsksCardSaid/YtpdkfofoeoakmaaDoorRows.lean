/-
  NARROWER THAN 'FOR EVERY INPUT', by the rows' own cells (each row's printed sentence says how): SignWhole: laid · SignKeys: laid · SignEscapes: laid · SignOpers: laid · SignNumbers: laid · SignAsks: laid · SignBytes: laid · LexFirst: laid · LexNotes: laid · LexDeep: laid · LexSplit: laid · LexText: laid · LexLong: laid · LexBack: laid.
  DERIVED. THE GIVEN ROWS OF THIS SEAT. 14 by the template 'for every input the law returns true; each argument reads behind the call as it read before'; 0 by the template 'total and deterministic' (their statements: YtpdkfofoeoakmaaDoorTotals.lean).
  GIVEN WITH THE SEED: the statements are not yours to turn. If you find one false, say at which input.
  Laid BY PROGRAM, IN A SANDBOX (cutbox-rows.mjs): the forced cells as the released guide's own fill.sh prints them over the translation 029c374c1f295918… (all of the seat's roots in one cut). By AI agents, Wed Nov 11 2026. No macro, syntax, notation, axiom, sorry.
-/
import Derived.Test.YtpdkfofoeoakmaaDoorChecked
import GoSem.PinnedTables
import GoSem.Claim
import GoSem.ClaimJoined
import GoSem.ClaimMapViews
import Derived.JoinedTies
import Derived.KernelRfl
namespace Go.Proofs.YtpdkfofoeoakmaaDoor
/- THE CELL 'sum', in the pinned program and in every row, IS THE sha256 OF THE DUMP (.gsa) THAT YtpdkfofoeoakmaaDoorProg.lean LOADS. Nothing in Lean hashes anything: it is a label: what it is worth is what the hold of that sum in a sandbox is worth. -/
noncomputable def Tryd.pinned : Pinned := { name := "ytpdkfofoeoakmaadoor", sum := "029c374c1f29591830f83a63d4b6d6f1333cf38a2b63ee5da008cd22c38acac9", checked := Tryd.checked }
namespace Rows
def none {H : Type} : Left H := { results := [], args := [] }

/- WHAT THE LISTED PACKAGE-LEVEL VARIABLES READ AS WHEN THE CALL BEGINS. Each datum BY PROGRAM (the guide's laid-datum.mjs) off the statement by which the dump's own 'gosem.cut.vars' lays the variable. In a bare row this is a premise. The card (YtpdkfofoeoakmaaDoorCards.lean) ties it to the program's text. -/
def laid_unicode_utf8_acceptRanges {H : Type} : DataW H := .agg [.agg [.lit (.int .u8 128), .lit (.int .u8 191)], .agg [.lit (.int .u8 160), .lit (.int .u8 191)], .agg [.lit (.int .u8 128), .lit (.int .u8 159)], .agg [.lit (.int .u8 144), .lit (.int .u8 191)], .agg [.lit (.int .u8 128), .lit (.int .u8 143)], .agg [.lit (.int .u8 0), .lit (.int .u8 0)], .agg [.lit (.int .u8 0), .lit (.int .u8 0)], .agg [.lit (.int .u8 0), .lit (.int .u8 0)], .agg [.lit (.int .u8 0), .lit (.int .u8 0)], .agg [.lit (.int .u8 0), .lit (.int .u8 0)], .agg [.lit (.int .u8 0), .lit (.int .u8 0)], .agg [.lit (.int .u8 0), .lit (.int .u8 0)], .agg [.lit (.int .u8 0), .lit (.int .u8 0)], .agg [.lit (.int .u8 0), .lit (.int .u8 0)], .agg [.lit (.int .u8 0), .lit (.int .u8 0)], .agg [.lit (.int .u8 0), .lit (.int .u8 0)]]
def laid_unicode_White_Space {H : Type} : DataW H := .ptr (.agg [.slice [.agg [.lit (.int .u16 9), .lit (.int .u16 13), .lit (.int .u16 1)], .agg [.lit (.int .u16 32), .lit (.int .u16 133), .lit (.int .u16 101)], .agg [.lit (.int .u16 160), .lit (.int .u16 5760), .lit (.int .u16 5600)], .agg [.lit (.int .u16 8192), .lit (.int .u16 8202), .lit (.int .u16 1)], .agg [.lit (.int .u16 8232), .lit (.int .u16 8233), .lit (.int .u16 1)], .agg [.lit (.int .u16 8239), .lit (.int .u16 8287), .lit (.int .u16 48)], .agg [.lit (.int .u16 12288), .lit (.int .u16 12288), .lit (.int .u16 1)]] [], .nil, .lit (.int .i64 2)])
def laid_strings_asciiSpace {H : Type} : DataW H := .agg [.lit (.int .u8 0), .lit (.int .u8 0), .lit (.int .u8 0), .lit (.int .u8 0), .lit (.int .u8 0), .lit (.int .u8 0), .lit (.int .u8 0), .lit (.int .u8 0), .lit (.int .u8 0), .lit (.int .u8 1), .lit (.int .u8 1), .lit (.int .u8 1), .lit (.int .u8 1), .lit (.int .u8 1), .lit (.int .u8 0), .lit (.int .u8 0), .lit (.int .u8 0), .lit (.int .u8 0), .lit (.int .u8 0), .lit (.int .u8 0), .lit (.int .u8 0), .lit (.int .u8 0), .lit (.int .u8 0), .lit (.int .u8 0), .lit (.int .u8 0), .lit (.int .u8 0), .lit (.int .u8 0), .lit (.int .u8 0), .lit (.int .u8 0), .lit (.int .u8 0), .lit (.int .u8 0), .lit (.int .u8 0), .lit (.int .u8 1), .lit (.int .u8 0), .lit (.int .u8 0), .lit (.int .u8 0), .lit (.int .u8 0), .lit (.int .u8 0), .lit (.int .u8 0), .lit (.int .u8 0), .lit (.int .u8 0), .lit (.int .u8 0), .lit (.int .u8 0), .lit (.int .u8 0), .lit (.int .u8 0), .lit (.int .u8 0), .lit (.int .u8 0), .lit (.int .u8 0), .lit (.int .u8 0), .lit (.int .u8 0), .lit (.int .u8 0), .lit (.int .u8 0), .lit (.int .u8 0), .lit (.int .u8 0), .lit (.int .u8 0), .lit (.int .u8 0), .lit (.int .u8 0), .lit (.int .u8 0), .lit (.int .u8 0), .lit (.int .u8 0), .lit (.int .u8 0), .lit (.int .u8 0), .lit (.int .u8 0), .lit (.int .u8 0), .lit (.int .u8 0), .lit (.int .u8 0), .lit (.int .u8 0), .lit (.int .u8 0), .lit (.int .u8 0), .lit (.int .u8 0), .lit (.int .u8 0), .lit (.int .u8 0), .lit (.int .u8 0), .lit (.int .u8 0), .lit (.int .u8 0), .lit (.int .u8 0), .lit (.int .u8 0), .lit (.int .u8 0), .lit (.int .u8 0), .lit (.int .u8 0), .lit (.int .u8 0), .lit (.int .u8 0), .lit (.int .u8 0), .lit (.int .u8 0), .lit (.int .u8 0), .lit (.int .u8 0), .lit (.int .u8 0), .lit (.int .u8 0), .lit (.int .u8 0), .lit (.int .u8 0), .lit (.int .u8 0), .lit (.int .u8 0), .lit (.int .u8 0), .lit (.int .u8 0), .lit (.int .u8 0), .lit (.int .u8 0), .lit (.int .u8 0), .lit (.int .u8 0), .lit (.int .u8 0), .lit (.int .u8 0), .lit (.int .u8 0), .lit (.int .u8 0), .lit (.int .u8 0), .lit (.int .u8 0), .lit (.int .u8 0), .lit (.int .u8 0), .lit (.int .u8 0), .lit (.int .u8 0), .lit (.int .u8 0), .lit (.int .u8 0), .lit (.int .u8 0), .lit (.int .u8 0), .lit (.int .u8 0), .lit (.int .u8 0), .lit (.int .u8 0), .lit (.int .u8 0), .lit (.int .u8 0), .lit (.int .u8 0), .lit (.int .u8 0), .lit (.int .u8 0), .lit (.int .u8 0), .lit (.int .u8 0), .lit (.int .u8 0), .lit (.int .u8 0), .lit (.int .u8 0), .lit (.int .u8 0), .lit (.int .u8 0), .lit (.int .u8 0), .lit (.int .u8 0), .lit (.int .u8 0), .lit (.int .u8 0), .lit (.int .u8 0), .lit (.int .u8 0), .lit (.int .u8 0), .lit (.int .u8 0), .lit (.int .u8 0), .lit (.int .u8 0), .lit (.int .u8 0), .lit (.int .u8 0), .lit (.int .u8 0), .lit (.int .u8 0), .lit (.int .u8 0), .lit (.int .u8 0), .lit (.int .u8 0), .lit (.int .u8 0), .lit (.int .u8 0), .lit (.int .u8 0), .lit (.int .u8 0), .lit (.int .u8 0), .lit (.int .u8 0), .lit (.int .u8 0), .lit (.int .u8 0), .lit (.int .u8 0), .lit (.int .u8 0), .lit (.int .u8 0), .lit (.int .u8 0), .lit (.int .u8 0), .lit (.int .u8 0), .lit (.int .u8 0), .lit (.int .u8 0), .lit (.int .u8 0), .lit (.int .u8 0), .lit (.int .u8 0), .lit (.int .u8 0), .lit (.int .u8 0), .lit (.int .u8 0), .lit (.int .u8 0), .lit (.int .u8 0), .lit (.int .u8 0), .lit (.int .u8 0), .lit (.int .u8 0), .lit (.int .u8 0), .lit (.int .u8 0), .lit (.int .u8 0), .lit (.int .u8 0), .lit (.int .u8 0), .lit (.int .u8 0), .lit (.int .u8 0), .lit (.int .u8 0), .lit (.int .u8 0), .lit (.int .u8 0), .lit (.int .u8 0), .lit (.int .u8 0), .lit (.int .u8 0), .lit (.int .u8 0), .lit (.int .u8 0), .lit (.int .u8 0), .lit (.int .u8 0), .lit (.int .u8 0), .lit (.int .u8 0), .lit (.int .u8 0), .lit (.int .u8 0), .lit (.int .u8 0), .lit (.int .u8 0), .lit (.int .u8 0), .lit (.int .u8 0), .lit (.int .u8 0), .lit (.int .u8 0), .lit (.int .u8 0), .lit (.int .u8 0), .lit (.int .u8 0), .lit (.int .u8 0), .lit (.int .u8 0), .lit (.int .u8 0), .lit (.int .u8 0), .lit (.int .u8 0), .lit (.int .u8 0), .lit (.int .u8 0), .lit (.int .u8 0), .lit (.int .u8 0), .lit (.int .u8 0), .lit (.int .u8 0), .lit (.int .u8 0), .lit (.int .u8 0), .lit (.int .u8 0), .lit (.int .u8 0), .lit (.int .u8 0), .lit (.int .u8 0), .lit (.int .u8 0), .lit (.int .u8 0), .lit (.int .u8 0), .lit (.int .u8 0), .lit (.int .u8 0), .lit (.int .u8 0), .lit (.int .u8 0), .lit (.int .u8 0), .lit (.int .u8 0), .lit (.int .u8 0), .lit (.int .u8 0), .lit (.int .u8 0), .lit (.int .u8 0), .lit (.int .u8 0), .lit (.int .u8 0), .lit (.int .u8 0), .lit (.int .u8 0), .lit (.int .u8 0), .lit (.int .u8 0), .lit (.int .u8 0), .lit (.int .u8 0), .lit (.int .u8 0), .lit (.int .u8 0), .lit (.int .u8 0), .lit (.int .u8 0), .lit (.int .u8 0), .lit (.int .u8 0), .lit (.int .u8 0), .lit (.int .u8 0), .lit (.int .u8 0), .lit (.int .u8 0), .lit (.int .u8 0), .lit (.int .u8 0), .lit (.int .u8 0), .lit (.int .u8 0), .lit (.int .u8 0), .lit (.int .u8 0), .lit (.int .u8 0)]
/-- One of Go's own tables, pinned by name: the form's constant. -/
def laid_unicode_utf8_first : DataW Unit := Go.Pinned.utf8First

/-- 'subeditorlaw03.SignWhole': WHATEVER THE INPUT: true; the input reads as it did. -/
def signWholeSpec : ChangeSpec := { name := "signWhole", fn := fun _ => fun
  | [d] => { results := [.lit (.bool true)], args := [d] }
  | _ => none }
def signWholeRow : OpenClaim := { program := "ytpdkfofoeoakmaadoor", sum := "029c374c1f29591830f83a63d4b6d6f1333cf38a2b63ee5da008cd22c38acac9", func := "subeditor/subeditorlaw03.SignWhole", spec := "signWhole", inPlace := ["internal/bytealg.IndexByteString", "internal/bytealg.IndexString"], unfollowed := true, recurses := true, named := ["unicode/utf8.first", "unicode/utf8.acceptRanges", "internal/bytealg.MaxLen", "strings.asciiSpace", "unicode.White_Space"], apart := false, laid := [("unicode/utf8.acceptRanges", laid_unicode_utf8_acceptRanges), ("unicode.White_Space", laid_unicode_White_Space), ("strings.asciiSpace", laid_strings_asciiSpace), ("unicode/utf8.first", laid_unicode_utf8_first)] }
def SignWholeSaid : Prop := signWholeRow.holds Tryd.pinned (OpenSpec.ofChange signWholeSpec)

/-- ITS FALSE NEIGHBOUR: 'it returns false'. Refute it at one input. -/
def signWholeWrong : ChangeSpec := { name := "signWhole", fn := fun _ => fun
  | [d] => { results := [.lit (.bool false)], args := [d] }
  | _ => none }
def SignWholeWrongFalsely : Prop := signWholeRow.holds Tryd.pinned (OpenSpec.ofChange signWholeWrong)

/-- 'subeditorlaw03.SignKeys': WHATEVER THE INPUT: true; the input reads as it did. -/
def signKeysSpec : ChangeSpec := { name := "signKeys", fn := fun _ => fun
  | [d1, d2] => { results := [.lit (.bool true)], args := [d1, d2] }
  | _ => none }
def signKeysRow : OpenClaim := { program := "ytpdkfofoeoakmaadoor", sum := "029c374c1f29591830f83a63d4b6d6f1333cf38a2b63ee5da008cd22c38acac9", func := "subeditor/subeditorlaw03.SignKeys", spec := "signKeys", inPlace := ["internal/bytealg.IndexByteString", "internal/bytealg.IndexString"], unfollowed := true, recurses := true, named := ["unicode/utf8.first", "unicode/utf8.acceptRanges", "internal/bytealg.MaxLen", "strings.asciiSpace", "unicode.White_Space"], apart := false, laid := [("unicode/utf8.acceptRanges", laid_unicode_utf8_acceptRanges), ("unicode.White_Space", laid_unicode_White_Space), ("strings.asciiSpace", laid_strings_asciiSpace), ("unicode/utf8.first", laid_unicode_utf8_first)] }
def SignKeysSaid : Prop := signKeysRow.holds Tryd.pinned (OpenSpec.ofChange signKeysSpec)

/-- ITS FALSE NEIGHBOUR: 'it returns false'. Refute it at one input. -/
def signKeysWrong : ChangeSpec := { name := "signKeys", fn := fun _ => fun
  | [d1, d2] => { results := [.lit (.bool false)], args := [d1, d2] }
  | _ => none }
def SignKeysWrongFalsely : Prop := signKeysRow.holds Tryd.pinned (OpenSpec.ofChange signKeysWrong)

/-- 'subeditorlaw03.SignEscapes': WHATEVER THE INPUT: true; the input reads as it did. -/
def signEscapesSpec : ChangeSpec := { name := "signEscapes", fn := fun _ => fun
  | [d1, d2, d3, d4] => { results := [.lit (.bool true)], args := [d1, d2, d3, d4] }
  | _ => none }
def signEscapesRow : OpenClaim := { program := "ytpdkfofoeoakmaadoor", sum := "029c374c1f29591830f83a63d4b6d6f1333cf38a2b63ee5da008cd22c38acac9", func := "subeditor/subeditorlaw03.SignEscapes", spec := "signEscapes", inPlace := ["internal/bytealg.IndexByteString", "internal/bytealg.IndexString"], unfollowed := true, recurses := true, named := ["unicode/utf8.first", "unicode/utf8.acceptRanges", "internal/bytealg.MaxLen", "strings.asciiSpace", "unicode.White_Space"], apart := false, laid := [("unicode/utf8.acceptRanges", laid_unicode_utf8_acceptRanges), ("unicode.White_Space", laid_unicode_White_Space), ("strings.asciiSpace", laid_strings_asciiSpace), ("unicode/utf8.first", laid_unicode_utf8_first)] }
def SignEscapesSaid : Prop := signEscapesRow.holds Tryd.pinned (OpenSpec.ofChange signEscapesSpec)

/-- ITS FALSE NEIGHBOUR: 'it returns false'. Refute it at one input. -/
def signEscapesWrong : ChangeSpec := { name := "signEscapes", fn := fun _ => fun
  | [d1, d2, d3, d4] => { results := [.lit (.bool false)], args := [d1, d2, d3, d4] }
  | _ => none }
def SignEscapesWrongFalsely : Prop := signEscapesRow.holds Tryd.pinned (OpenSpec.ofChange signEscapesWrong)

/-- 'subeditorlaw03.SignOpers': WHATEVER THE INPUT: true; the input reads as it did. -/
def signOpersSpec : ChangeSpec := { name := "signOpers", fn := fun _ => fun
  | [d] => { results := [.lit (.bool true)], args := [d] }
  | _ => none }
def signOpersRow : OpenClaim := { program := "ytpdkfofoeoakmaadoor", sum := "029c374c1f29591830f83a63d4b6d6f1333cf38a2b63ee5da008cd22c38acac9", func := "subeditor/subeditorlaw03.SignOpers", spec := "signOpers", inPlace := ["internal/bytealg.IndexByteString", "internal/bytealg.IndexString"], unfollowed := true, recurses := true, named := ["unicode/utf8.first", "unicode/utf8.acceptRanges", "internal/bytealg.MaxLen", "strings.asciiSpace", "unicode.White_Space"], apart := false, laid := [("unicode/utf8.acceptRanges", laid_unicode_utf8_acceptRanges), ("unicode.White_Space", laid_unicode_White_Space), ("strings.asciiSpace", laid_strings_asciiSpace), ("unicode/utf8.first", laid_unicode_utf8_first)] }
def SignOpersSaid : Prop := signOpersRow.holds Tryd.pinned (OpenSpec.ofChange signOpersSpec)

/-- ITS FALSE NEIGHBOUR: 'it returns false'. Refute it at one input. -/
def signOpersWrong : ChangeSpec := { name := "signOpers", fn := fun _ => fun
  | [d] => { results := [.lit (.bool false)], args := [d] }
  | _ => none }
def SignOpersWrongFalsely : Prop := signOpersRow.holds Tryd.pinned (OpenSpec.ofChange signOpersWrong)

/-- 'subeditorlaw03.SignNumbers': WHATEVER THE INPUT: true; the input reads as it did. -/
def signNumbersSpec : ChangeSpec := { name := "signNumbers", fn := fun _ => fun
  | [d1, d2, d3, d4, d5, d6] => { results := [.lit (.bool true)], args := [d1, d2, d3, d4, d5, d6] }
  | _ => none }
def signNumbersRow : OpenClaim := { program := "ytpdkfofoeoakmaadoor", sum := "029c374c1f29591830f83a63d4b6d6f1333cf38a2b63ee5da008cd22c38acac9", func := "subeditor/subeditorlaw03.SignNumbers", spec := "signNumbers", inPlace := ["internal/bytealg.IndexByteString", "internal/bytealg.IndexString"], unfollowed := true, recurses := true, named := ["unicode/utf8.first", "unicode/utf8.acceptRanges", "internal/bytealg.MaxLen", "strings.asciiSpace", "unicode.White_Space"], apart := false, laid := [("unicode/utf8.acceptRanges", laid_unicode_utf8_acceptRanges), ("unicode.White_Space", laid_unicode_White_Space), ("strings.asciiSpace", laid_strings_asciiSpace), ("unicode/utf8.first", laid_unicode_utf8_first)] }
def SignNumbersSaid : Prop := signNumbersRow.holds Tryd.pinned (OpenSpec.ofChange signNumbersSpec)

/-- ITS FALSE NEIGHBOUR: 'it returns false'. Refute it at one input. -/
def signNumbersWrong : ChangeSpec := { name := "signNumbers", fn := fun _ => fun
  | [d1, d2, d3, d4, d5, d6] => { results := [.lit (.bool false)], args := [d1, d2, d3, d4, d5, d6] }
  | _ => none }
def SignNumbersWrongFalsely : Prop := signNumbersRow.holds Tryd.pinned (OpenSpec.ofChange signNumbersWrong)

/-- 'subeditorlaw03.SignAsks': WHATEVER THE INPUT: true; the input reads as it did. -/
def signAsksSpec : ChangeSpec := { name := "signAsks", fn := fun _ => fun
  | [d1, d2, d3] => { results := [.lit (.bool true)], args := [d1, d2, d3] }
  | _ => none }
def signAsksRow : OpenClaim := { program := "ytpdkfofoeoakmaadoor", sum := "029c374c1f29591830f83a63d4b6d6f1333cf38a2b63ee5da008cd22c38acac9", func := "subeditor/subeditorlaw03.SignAsks", spec := "signAsks", inPlace := ["internal/bytealg.IndexByteString", "internal/bytealg.IndexString"], unfollowed := true, recurses := true, named := ["unicode/utf8.first", "unicode/utf8.acceptRanges", "internal/bytealg.MaxLen", "strings.asciiSpace", "unicode.White_Space"], apart := false, laid := [("unicode/utf8.acceptRanges", laid_unicode_utf8_acceptRanges), ("unicode.White_Space", laid_unicode_White_Space), ("strings.asciiSpace", laid_strings_asciiSpace), ("unicode/utf8.first", laid_unicode_utf8_first)] }
def SignAsksSaid : Prop := signAsksRow.holds Tryd.pinned (OpenSpec.ofChange signAsksSpec)

/-- ITS FALSE NEIGHBOUR: 'it returns false'. Refute it at one input. -/
def signAsksWrong : ChangeSpec := { name := "signAsks", fn := fun _ => fun
  | [d1, d2, d3] => { results := [.lit (.bool false)], args := [d1, d2, d3] }
  | _ => none }
def SignAsksWrongFalsely : Prop := signAsksRow.holds Tryd.pinned (OpenSpec.ofChange signAsksWrong)

/-- 'subeditorlaw03.SignBytes': WHATEVER THE INPUT: true; the input reads as it did. -/
def signBytesSpec : ChangeSpec := { name := "signBytes", fn := fun _ => fun
  | [d1, d2] => { results := [.lit (.bool true)], args := [d1, d2] }
  | _ => none }
def signBytesRow : OpenClaim := { program := "ytpdkfofoeoakmaadoor", sum := "029c374c1f29591830f83a63d4b6d6f1333cf38a2b63ee5da008cd22c38acac9", func := "subeditor/subeditorlaw03.SignBytes", spec := "signBytes", inPlace := ["internal/bytealg.IndexByteString", "internal/bytealg.IndexString"], unfollowed := true, recurses := true, named := ["unicode/utf8.first", "unicode/utf8.acceptRanges", "internal/bytealg.MaxLen", "strings.asciiSpace", "unicode.White_Space"], apart := false, laid := [("unicode/utf8.acceptRanges", laid_unicode_utf8_acceptRanges), ("unicode.White_Space", laid_unicode_White_Space), ("strings.asciiSpace", laid_strings_asciiSpace), ("unicode/utf8.first", laid_unicode_utf8_first)] }
def SignBytesSaid : Prop := signBytesRow.holds Tryd.pinned (OpenSpec.ofChange signBytesSpec)

/-- ITS FALSE NEIGHBOUR: 'it returns false'. Refute it at one input. -/
def signBytesWrong : ChangeSpec := { name := "signBytes", fn := fun _ => fun
  | [d1, d2] => { results := [.lit (.bool false)], args := [d1, d2] }
  | _ => none }
def SignBytesWrongFalsely : Prop := signBytesRow.holds Tryd.pinned (OpenSpec.ofChange signBytesWrong)

/-- 'subeditorlaw04.LexFirst': WHATEVER THE INPUT: true; the input reads as it did. -/
def lexFirstSpec : ChangeSpec := { name := "lexFirst", fn := fun _ => fun
  | [d] => { results := [.lit (.bool true)], args := [d] }
  | _ => none }
def lexFirstRow : OpenClaim := { program := "ytpdkfofoeoakmaadoor", sum := "029c374c1f29591830f83a63d4b6d6f1333cf38a2b63ee5da008cd22c38acac9", func := "subeditor/subeditorlaw04.LexFirst", spec := "lexFirst", inPlace := ["internal/bytealg.IndexByteString", "internal/bytealg.IndexString"], unfollowed := true, recurses := true, named := ["unicode/utf8.first", "unicode/utf8.acceptRanges", "internal/bytealg.MaxLen"], apart := false, laid := [("unicode/utf8.acceptRanges", laid_unicode_utf8_acceptRanges), ("unicode/utf8.first", laid_unicode_utf8_first)] }
def LexFirstSaid : Prop := lexFirstRow.holds Tryd.pinned (OpenSpec.ofChange lexFirstSpec)

/-- ITS FALSE NEIGHBOUR: 'it returns false'. Refute it at one input. -/
def lexFirstWrong : ChangeSpec := { name := "lexFirst", fn := fun _ => fun
  | [d] => { results := [.lit (.bool false)], args := [d] }
  | _ => none }
def LexFirstWrongFalsely : Prop := lexFirstRow.holds Tryd.pinned (OpenSpec.ofChange lexFirstWrong)

/-- 'subeditorlaw04.LexNotes': WHATEVER THE INPUT: true; the input reads as it did. -/
def lexNotesSpec : ChangeSpec := { name := "lexNotes", fn := fun _ => fun
  | [d1, d2, d3] => { results := [.lit (.bool true)], args := [d1, d2, d3] }
  | _ => none }
def lexNotesRow : OpenClaim := { program := "ytpdkfofoeoakmaadoor", sum := "029c374c1f29591830f83a63d4b6d6f1333cf38a2b63ee5da008cd22c38acac9", func := "subeditor/subeditorlaw04.LexNotes", spec := "lexNotes", inPlace := ["internal/bytealg.IndexByteString", "internal/bytealg.IndexString"], unfollowed := true, recurses := true, named := ["unicode/utf8.first", "unicode/utf8.acceptRanges", "internal/bytealg.MaxLen"], apart := false, laid := [("unicode/utf8.acceptRanges", laid_unicode_utf8_acceptRanges), ("unicode/utf8.first", laid_unicode_utf8_first)] }
def LexNotesSaid : Prop := lexNotesRow.holds Tryd.pinned (OpenSpec.ofChange lexNotesSpec)

/-- ITS FALSE NEIGHBOUR: 'it returns false'. Refute it at one input. -/
def lexNotesWrong : ChangeSpec := { name := "lexNotes", fn := fun _ => fun
  | [d1, d2, d3] => { results := [.lit (.bool false)], args := [d1, d2, d3] }
  | _ => none }
def LexNotesWrongFalsely : Prop := lexNotesRow.holds Tryd.pinned (OpenSpec.ofChange lexNotesWrong)

/-- 'subeditorlaw04.LexDeep': WHATEVER THE INPUT: true; the input reads as it did. -/
def lexDeepSpec : ChangeSpec := { name := "lexDeep", fn := fun _ => fun
  | [d] => { results := [.lit (.bool true)], args := [d] }
  | _ => none }
def lexDeepRow : OpenClaim := { program := "ytpdkfofoeoakmaadoor", sum := "029c374c1f29591830f83a63d4b6d6f1333cf38a2b63ee5da008cd22c38acac9", func := "subeditor/subeditorlaw04.LexDeep", spec := "lexDeep", inPlace := ["internal/bytealg.IndexByteString", "internal/bytealg.IndexString"], unfollowed := true, recurses := true, named := ["unicode/utf8.first", "unicode/utf8.acceptRanges", "internal/bytealg.MaxLen"], apart := false, laid := [("unicode/utf8.acceptRanges", laid_unicode_utf8_acceptRanges), ("unicode/utf8.first", laid_unicode_utf8_first)] }
def LexDeepSaid : Prop := lexDeepRow.holds Tryd.pinned (OpenSpec.ofChange lexDeepSpec)

/-- ITS FALSE NEIGHBOUR: 'it returns false'. Refute it at one input. -/
def lexDeepWrong : ChangeSpec := { name := "lexDeep", fn := fun _ => fun
  | [d] => { results := [.lit (.bool false)], args := [d] }
  | _ => none }
def LexDeepWrongFalsely : Prop := lexDeepRow.holds Tryd.pinned (OpenSpec.ofChange lexDeepWrong)

/-- 'subeditorlaw04.LexSplit': WHATEVER THE INPUT: true; the input reads as it did. -/
def lexSplitSpec : ChangeSpec := { name := "lexSplit", fn := fun _ => fun
  | [d1, d2] => { results := [.lit (.bool true)], args := [d1, d2] }
  | _ => none }
def lexSplitRow : OpenClaim := { program := "ytpdkfofoeoakmaadoor", sum := "029c374c1f29591830f83a63d4b6d6f1333cf38a2b63ee5da008cd22c38acac9", func := "subeditor/subeditorlaw04.LexSplit", spec := "lexSplit", inPlace := ["internal/bytealg.IndexByteString", "internal/bytealg.IndexString"], unfollowed := true, recurses := true, named := ["unicode/utf8.first", "unicode/utf8.acceptRanges", "internal/bytealg.MaxLen"], apart := false, laid := [("unicode/utf8.acceptRanges", laid_unicode_utf8_acceptRanges), ("unicode/utf8.first", laid_unicode_utf8_first)] }
def LexSplitSaid : Prop := lexSplitRow.holds Tryd.pinned (OpenSpec.ofChange lexSplitSpec)

/-- ITS FALSE NEIGHBOUR: 'it returns false'. Refute it at one input. -/
def lexSplitWrong : ChangeSpec := { name := "lexSplit", fn := fun _ => fun
  | [d1, d2] => { results := [.lit (.bool false)], args := [d1, d2] }
  | _ => none }
def LexSplitWrongFalsely : Prop := lexSplitRow.holds Tryd.pinned (OpenSpec.ofChange lexSplitWrong)

/-- 'subeditorlaw04.LexText': WHATEVER THE INPUT: true; the input reads as it did. -/
def lexTextSpec : ChangeSpec := { name := "lexText", fn := fun _ => fun
  | [d] => { results := [.lit (.bool true)], args := [d] }
  | _ => none }
def lexTextRow : OpenClaim := { program := "ytpdkfofoeoakmaadoor", sum := "029c374c1f29591830f83a63d4b6d6f1333cf38a2b63ee5da008cd22c38acac9", func := "subeditor/subeditorlaw04.LexText", spec := "lexText", inPlace := ["internal/bytealg.IndexByteString", "internal/bytealg.IndexString"], unfollowed := true, recurses := true, named := ["unicode/utf8.first", "unicode/utf8.acceptRanges", "internal/bytealg.MaxLen"], apart := false, laid := [("unicode/utf8.acceptRanges", laid_unicode_utf8_acceptRanges), ("unicode/utf8.first", laid_unicode_utf8_first)] }
def LexTextSaid : Prop := lexTextRow.holds Tryd.pinned (OpenSpec.ofChange lexTextSpec)

/-- ITS FALSE NEIGHBOUR: 'it returns false'. Refute it at one input. -/
def lexTextWrong : ChangeSpec := { name := "lexText", fn := fun _ => fun
  | [d] => { results := [.lit (.bool false)], args := [d] }
  | _ => none }
def LexTextWrongFalsely : Prop := lexTextRow.holds Tryd.pinned (OpenSpec.ofChange lexTextWrong)

/-- 'subeditorlaw04.LexLong': WHATEVER THE INPUT: true; the input reads as it did. -/
def lexLongSpec : ChangeSpec := { name := "lexLong", fn := fun _ => fun
  | [d] => { results := [.lit (.bool true)], args := [d] }
  | _ => none }
def lexLongRow : OpenClaim := { program := "ytpdkfofoeoakmaadoor", sum := "029c374c1f29591830f83a63d4b6d6f1333cf38a2b63ee5da008cd22c38acac9", func := "subeditor/subeditorlaw04.LexLong", spec := "lexLong", inPlace := ["internal/bytealg.IndexByteString", "internal/bytealg.IndexString"], unfollowed := true, recurses := true, named := ["unicode/utf8.first", "unicode/utf8.acceptRanges", "internal/bytealg.MaxLen"], apart := false, laid := [("unicode/utf8.acceptRanges", laid_unicode_utf8_acceptRanges), ("unicode/utf8.first", laid_unicode_utf8_first)] }
def LexLongSaid : Prop := lexLongRow.holds Tryd.pinned (OpenSpec.ofChange lexLongSpec)

/-- ITS FALSE NEIGHBOUR: 'it returns false'. Refute it at one input. -/
def lexLongWrong : ChangeSpec := { name := "lexLong", fn := fun _ => fun
  | [d] => { results := [.lit (.bool false)], args := [d] }
  | _ => none }
def LexLongWrongFalsely : Prop := lexLongRow.holds Tryd.pinned (OpenSpec.ofChange lexLongWrong)

/-- 'subeditorlaw04.LexBack': WHATEVER THE INPUT: true; the input reads as it did. -/
def lexBackSpec : ChangeSpec := { name := "lexBack", fn := fun _ => fun
  | [d1, d2] => { results := [.lit (.bool true)], args := [d1, d2] }
  | _ => none }
def lexBackRow : OpenClaim := { program := "ytpdkfofoeoakmaadoor", sum := "029c374c1f29591830f83a63d4b6d6f1333cf38a2b63ee5da008cd22c38acac9", func := "subeditor/subeditorlaw04.LexBack", spec := "lexBack", inPlace := ["internal/bytealg.IndexByteString", "internal/bytealg.IndexString", "internal/abi.NoEscape"], unfollowed := true, recurses := true, named := ["unicode/utf8.first", "unicode/utf8.acceptRanges", "internal/bytealg.MaxLen"], apart := false, laid := [("unicode/utf8.acceptRanges", laid_unicode_utf8_acceptRanges), ("unicode/utf8.first", laid_unicode_utf8_first)] }
def LexBackSaid : Prop := lexBackRow.holds Tryd.pinned (OpenSpec.ofChange lexBackSpec)

/-- ITS FALSE NEIGHBOUR: 'it returns false'. Refute it at one input. -/
def lexBackWrong : ChangeSpec := { name := "lexBack", fn := fun _ => fun
  | [d1, d2] => { results := [.lit (.bool false)], args := [d1, d2] }
  | _ => none }
def LexBackWrongFalsely : Prop := lexBackRow.holds Tryd.pinned (OpenSpec.ofChange lexBackWrong)

/- THE SECOND FORM. 'bulk': how many values and letters a reading holds, each counted each time it is reached (what is shared counts as often as it is met; a slice's spare places count too). A statement '..UptoSaid' is the law's where the arguments, and the package variables that the reading takes, are together of bulk at most 1048576: NARROWER than '..Said'. Prove '..Said' where nothing that the law and all that it calls make is longer than what came in: it says more and counts as full. Else prove '..UptoSaid'. A law counts once. -/
mutual
def uptoBulk {H : Type} : DataW H → Nat
  | .lit (.string bytes) => bytes.length + 1
  | .lit _ => 1
  | .nil => 1
  | .ptr d => uptoBulk d + 1
  | .slice elems spare => uptoBulkAll elems + uptoBulkAll spare + 1
  | .agg parts => uptoBulkAll parts + 1
  | .iface _ d => uptoBulk d + 1
  | .map entries => uptoBulkEntries entries + 1
  | .held _ => 1
def uptoBulkAll {H : Type} : List (DataW H) → Nat
  | [] => 0
  | d :: r => uptoBulk d + uptoBulkAll r
def uptoBulkEntries {H : Type} : List (Lit × DataW H) → Nat
  | [] => 0
  | x :: r => uptoBulkEntry x + uptoBulkEntries r
def uptoBulkEntry {H : Type} : Lit × DataW H → Nat
  | (.string bytes, d) => bytes.length + uptoBulk d + 1
  | (_, d) => uptoBulk d + 1
 end
def uptoSmall : (H : Type) → List (DataW H) → Bool := fun _ ds => decide (uptoBulkAll ds ≤ 1048576)
def OpenSpec.upto (s : _root_.Go.ChangeSpec) : _root_.Go.OpenSpec := { _root_.Go.OpenSpec.ofChange s with cond := some uptoSmall }

/-- 'subeditorlaw03.SignWhole', WHERE WHAT IT READS IS OF BULK AT MOST 1048576: true; the input reads as it did. -/
def signWholeUptoRow : OpenClaim := { program := "ytpdkfofoeoakmaadoor", sum := "029c374c1f29591830f83a63d4b6d6f1333cf38a2b63ee5da008cd22c38acac9", func := "subeditor/subeditorlaw03.SignWhole", spec := "signWhole", inPlace := ["internal/bytealg.IndexByteString", "internal/bytealg.IndexString"], unfollowed := true, recurses := true, named := ["unicode/utf8.first", "unicode/utf8.acceptRanges", "internal/bytealg.MaxLen", "strings.asciiSpace", "unicode.White_Space"], apart := false, laid := [("unicode/utf8.acceptRanges", laid_unicode_utf8_acceptRanges), ("unicode.White_Space", laid_unicode_White_Space), ("strings.asciiSpace", laid_strings_asciiSpace), ("unicode/utf8.first", laid_unicode_utf8_first)], narrowed := true }
def SignWholeUptoSaid : Prop := signWholeUptoRow.holds Tryd.pinned (OpenSpec.upto signWholeSpec)

/-- 'subeditorlaw03.SignKeys', WHERE WHAT IT READS IS OF BULK AT MOST 1048576: true; the input reads as it did. -/
def signKeysUptoRow : OpenClaim := { program := "ytpdkfofoeoakmaadoor", sum := "029c374c1f29591830f83a63d4b6d6f1333cf38a2b63ee5da008cd22c38acac9", func := "subeditor/subeditorlaw03.SignKeys", spec := "signKeys", inPlace := ["internal/bytealg.IndexByteString", "internal/bytealg.IndexString"], unfollowed := true, recurses := true, named := ["unicode/utf8.first", "unicode/utf8.acceptRanges", "internal/bytealg.MaxLen", "strings.asciiSpace", "unicode.White_Space"], apart := false, laid := [("unicode/utf8.acceptRanges", laid_unicode_utf8_acceptRanges), ("unicode.White_Space", laid_unicode_White_Space), ("strings.asciiSpace", laid_strings_asciiSpace), ("unicode/utf8.first", laid_unicode_utf8_first)], narrowed := true }
def SignKeysUptoSaid : Prop := signKeysUptoRow.holds Tryd.pinned (OpenSpec.upto signKeysSpec)

/-- 'subeditorlaw03.SignEscapes', WHERE WHAT IT READS IS OF BULK AT MOST 1048576: true; the input reads as it did. -/
def signEscapesUptoRow : OpenClaim := { program := "ytpdkfofoeoakmaadoor", sum := "029c374c1f29591830f83a63d4b6d6f1333cf38a2b63ee5da008cd22c38acac9", func := "subeditor/subeditorlaw03.SignEscapes", spec := "signEscapes", inPlace := ["internal/bytealg.IndexByteString", "internal/bytealg.IndexString"], unfollowed := true, recurses := true, named := ["unicode/utf8.first", "unicode/utf8.acceptRanges", "internal/bytealg.MaxLen", "strings.asciiSpace", "unicode.White_Space"], apart := false, laid := [("unicode/utf8.acceptRanges", laid_unicode_utf8_acceptRanges), ("unicode.White_Space", laid_unicode_White_Space), ("strings.asciiSpace", laid_strings_asciiSpace), ("unicode/utf8.first", laid_unicode_utf8_first)], narrowed := true }
def SignEscapesUptoSaid : Prop := signEscapesUptoRow.holds Tryd.pinned (OpenSpec.upto signEscapesSpec)

/-- 'subeditorlaw03.SignOpers', WHERE WHAT IT READS IS OF BULK AT MOST 1048576: true; the input reads as it did. -/
def signOpersUptoRow : OpenClaim := { program := "ytpdkfofoeoakmaadoor", sum := "029c374c1f29591830f83a63d4b6d6f1333cf38a2b63ee5da008cd22c38acac9", func := "subeditor/subeditorlaw03.SignOpers", spec := "signOpers", inPlace := ["internal/bytealg.IndexByteString", "internal/bytealg.IndexString"], unfollowed := true, recurses := true, named := ["unicode/utf8.first", "unicode/utf8.acceptRanges", "internal/bytealg.MaxLen", "strings.asciiSpace", "unicode.White_Space"], apart := false, laid := [("unicode/utf8.acceptRanges", laid_unicode_utf8_acceptRanges), ("unicode.White_Space", laid_unicode_White_Space), ("strings.asciiSpace", laid_strings_asciiSpace), ("unicode/utf8.first", laid_unicode_utf8_first)], narrowed := true }
def SignOpersUptoSaid : Prop := signOpersUptoRow.holds Tryd.pinned (OpenSpec.upto signOpersSpec)

/-- 'subeditorlaw03.SignNumbers', WHERE WHAT IT READS IS OF BULK AT MOST 1048576: true; the input reads as it did. -/
def signNumbersUptoRow : OpenClaim := { program := "ytpdkfofoeoakmaadoor", sum := "029c374c1f29591830f83a63d4b6d6f1333cf38a2b63ee5da008cd22c38acac9", func := "subeditor/subeditorlaw03.SignNumbers", spec := "signNumbers", inPlace := ["internal/bytealg.IndexByteString", "internal/bytealg.IndexString"], unfollowed := true, recurses := true, named := ["unicode/utf8.first", "unicode/utf8.acceptRanges", "internal/bytealg.MaxLen", "strings.asciiSpace", "unicode.White_Space"], apart := false, laid := [("unicode/utf8.acceptRanges", laid_unicode_utf8_acceptRanges), ("unicode.White_Space", laid_unicode_White_Space), ("strings.asciiSpace", laid_strings_asciiSpace), ("unicode/utf8.first", laid_unicode_utf8_first)], narrowed := true }
def SignNumbersUptoSaid : Prop := signNumbersUptoRow.holds Tryd.pinned (OpenSpec.upto signNumbersSpec)

/-- 'subeditorlaw03.SignAsks', WHERE WHAT IT READS IS OF BULK AT MOST 1048576: true; the input reads as it did. -/
def signAsksUptoRow : OpenClaim := { program := "ytpdkfofoeoakmaadoor", sum := "029c374c1f29591830f83a63d4b6d6f1333cf38a2b63ee5da008cd22c38acac9", func := "subeditor/subeditorlaw03.SignAsks", spec := "signAsks", inPlace := ["internal/bytealg.IndexByteString", "internal/bytealg.IndexString"], unfollowed := true, recurses := true, named := ["unicode/utf8.first", "unicode/utf8.acceptRanges", "internal/bytealg.MaxLen", "strings.asciiSpace", "unicode.White_Space"], apart := false, laid := [("unicode/utf8.acceptRanges", laid_unicode_utf8_acceptRanges), ("unicode.White_Space", laid_unicode_White_Space), ("strings.asciiSpace", laid_strings_asciiSpace), ("unicode/utf8.first", laid_unicode_utf8_first)], narrowed := true }
def SignAsksUptoSaid : Prop := signAsksUptoRow.holds Tryd.pinned (OpenSpec.upto signAsksSpec)

/-- 'subeditorlaw03.SignBytes', WHERE WHAT IT READS IS OF BULK AT MOST 1048576: true; the input reads as it did. -/
def signBytesUptoRow : OpenClaim := { program := "ytpdkfofoeoakmaadoor", sum := "029c374c1f29591830f83a63d4b6d6f1333cf38a2b63ee5da008cd22c38acac9", func := "subeditor/subeditorlaw03.SignBytes", spec := "signBytes", inPlace := ["internal/bytealg.IndexByteString", "internal/bytealg.IndexString"], unfollowed := true, recurses := true, named := ["unicode/utf8.first", "unicode/utf8.acceptRanges", "internal/bytealg.MaxLen", "strings.asciiSpace", "unicode.White_Space"], apart := false, laid := [("unicode/utf8.acceptRanges", laid_unicode_utf8_acceptRanges), ("unicode.White_Space", laid_unicode_White_Space), ("strings.asciiSpace", laid_strings_asciiSpace), ("unicode/utf8.first", laid_unicode_utf8_first)], narrowed := true }
def SignBytesUptoSaid : Prop := signBytesUptoRow.holds Tryd.pinned (OpenSpec.upto signBytesSpec)

/-- 'subeditorlaw04.LexFirst', WHERE WHAT IT READS IS OF BULK AT MOST 1048576: true; the input reads as it did. -/
def lexFirstUptoRow : OpenClaim := { program := "ytpdkfofoeoakmaadoor", sum := "029c374c1f29591830f83a63d4b6d6f1333cf38a2b63ee5da008cd22c38acac9", func := "subeditor/subeditorlaw04.LexFirst", spec := "lexFirst", inPlace := ["internal/bytealg.IndexByteString", "internal/bytealg.IndexString"], unfollowed := true, recurses := true, named := ["unicode/utf8.first", "unicode/utf8.acceptRanges", "internal/bytealg.MaxLen"], apart := false, laid := [("unicode/utf8.acceptRanges", laid_unicode_utf8_acceptRanges), ("unicode/utf8.first", laid_unicode_utf8_first)], narrowed := true }
def LexFirstUptoSaid : Prop := lexFirstUptoRow.holds Tryd.pinned (OpenSpec.upto lexFirstSpec)

/-- 'subeditorlaw04.LexNotes', WHERE WHAT IT READS IS OF BULK AT MOST 1048576: true; the input reads as it did. -/
def lexNotesUptoRow : OpenClaim := { program := "ytpdkfofoeoakmaadoor", sum := "029c374c1f29591830f83a63d4b6d6f1333cf38a2b63ee5da008cd22c38acac9", func := "subeditor/subeditorlaw04.LexNotes", spec := "lexNotes", inPlace := ["internal/bytealg.IndexByteString", "internal/bytealg.IndexString"], unfollowed := true, recurses := true, named := ["unicode/utf8.first", "unicode/utf8.acceptRanges", "internal/bytealg.MaxLen"], apart := false, laid := [("unicode/utf8.acceptRanges", laid_unicode_utf8_acceptRanges), ("unicode/utf8.first", laid_unicode_utf8_first)], narrowed := true }
def LexNotesUptoSaid : Prop := lexNotesUptoRow.holds Tryd.pinned (OpenSpec.upto lexNotesSpec)

/-- 'subeditorlaw04.LexDeep', WHERE WHAT IT READS IS OF BULK AT MOST 1048576: true; the input reads as it did. -/
def lexDeepUptoRow : OpenClaim := { program := "ytpdkfofoeoakmaadoor", sum := "029c374c1f29591830f83a63d4b6d6f1333cf38a2b63ee5da008cd22c38acac9", func := "subeditor/subeditorlaw04.LexDeep", spec := "lexDeep", inPlace := ["internal/bytealg.IndexByteString", "internal/bytealg.IndexString"], unfollowed := true, recurses := true, named := ["unicode/utf8.first", "unicode/utf8.acceptRanges", "internal/bytealg.MaxLen"], apart := false, laid := [("unicode/utf8.acceptRanges", laid_unicode_utf8_acceptRanges), ("unicode/utf8.first", laid_unicode_utf8_first)], narrowed := true }
def LexDeepUptoSaid : Prop := lexDeepUptoRow.holds Tryd.pinned (OpenSpec.upto lexDeepSpec)

/-- 'subeditorlaw04.LexSplit', WHERE WHAT IT READS IS OF BULK AT MOST 1048576: true; the input reads as it did. -/
def lexSplitUptoRow : OpenClaim := { program := "ytpdkfofoeoakmaadoor", sum := "029c374c1f29591830f83a63d4b6d6f1333cf38a2b63ee5da008cd22c38acac9", func := "subeditor/subeditorlaw04.LexSplit", spec := "lexSplit", inPlace := ["internal/bytealg.IndexByteString", "internal/bytealg.IndexString"], unfollowed := true, recurses := true, named := ["unicode/utf8.first", "unicode/utf8.acceptRanges", "internal/bytealg.MaxLen"], apart := false, laid := [("unicode/utf8.acceptRanges", laid_unicode_utf8_acceptRanges), ("unicode/utf8.first", laid_unicode_utf8_first)], narrowed := true }
def LexSplitUptoSaid : Prop := lexSplitUptoRow.holds Tryd.pinned (OpenSpec.upto lexSplitSpec)

/-- 'subeditorlaw04.LexText', WHERE WHAT IT READS IS OF BULK AT MOST 1048576: true; the input reads as it did. -/
def lexTextUptoRow : OpenClaim := { program := "ytpdkfofoeoakmaadoor", sum := "029c374c1f29591830f83a63d4b6d6f1333cf38a2b63ee5da008cd22c38acac9", func := "subeditor/subeditorlaw04.LexText", spec := "lexText", inPlace := ["internal/bytealg.IndexByteString", "internal/bytealg.IndexString"], unfollowed := true, recurses := true, named := ["unicode/utf8.first", "unicode/utf8.acceptRanges", "internal/bytealg.MaxLen"], apart := false, laid := [("unicode/utf8.acceptRanges", laid_unicode_utf8_acceptRanges), ("unicode/utf8.first", laid_unicode_utf8_first)], narrowed := true }
def LexTextUptoSaid : Prop := lexTextUptoRow.holds Tryd.pinned (OpenSpec.upto lexTextSpec)

/-- 'subeditorlaw04.LexLong', WHERE WHAT IT READS IS OF BULK AT MOST 1048576: true; the input reads as it did. -/
def lexLongUptoRow : OpenClaim := { program := "ytpdkfofoeoakmaadoor", sum := "029c374c1f29591830f83a63d4b6d6f1333cf38a2b63ee5da008cd22c38acac9", func := "subeditor/subeditorlaw04.LexLong", spec := "lexLong", inPlace := ["internal/bytealg.IndexByteString", "internal/bytealg.IndexString"], unfollowed := true, recurses := true, named := ["unicode/utf8.first", "unicode/utf8.acceptRanges", "internal/bytealg.MaxLen"], apart := false, laid := [("unicode/utf8.acceptRanges", laid_unicode_utf8_acceptRanges), ("unicode/utf8.first", laid_unicode_utf8_first)], narrowed := true }
def LexLongUptoSaid : Prop := lexLongUptoRow.holds Tryd.pinned (OpenSpec.upto lexLongSpec)

/-- 'subeditorlaw04.LexBack', WHERE WHAT IT READS IS OF BULK AT MOST 1048576: true; the input reads as it did. -/
def lexBackUptoRow : OpenClaim := { program := "ytpdkfofoeoakmaadoor", sum := "029c374c1f29591830f83a63d4b6d6f1333cf38a2b63ee5da008cd22c38acac9", func := "subeditor/subeditorlaw04.LexBack", spec := "lexBack", inPlace := ["internal/bytealg.IndexByteString", "internal/bytealg.IndexString", "internal/abi.NoEscape"], unfollowed := true, recurses := true, named := ["unicode/utf8.first", "unicode/utf8.acceptRanges", "internal/bytealg.MaxLen"], apart := false, laid := [("unicode/utf8.acceptRanges", laid_unicode_utf8_acceptRanges), ("unicode/utf8.first", laid_unicode_utf8_first)], narrowed := true }
def LexBackUptoSaid : Prop := lexBackUptoRow.holds Tryd.pinned (OpenSpec.upto lexBackSpec)

end Rows
end Go.Proofs.YtpdkfofoeoakmaaDoor
