/-
  NARROWER THAN 'FOR EVERY INPUT', by the rows' own cells (each row's printed sentence says how): ItemsTight: laid · ItemsPairs: laid · ItemsAsks: laid · ItemsLine: laid · ItemsNotes: laid · ItemsFew: laid.
  DERIVED. THE GIVEN ROWS OF THIS SEAT. 6 by the template 'for every input the law returns true; each argument reads behind the call as it read before'; 0 by the template 'total and deterministic' (their statements: YtiinhkfbgecbjaaGreatDoorTotals.lean).
  GIVEN WITH THE SEED: the statements are not yours to turn. If you find one false, say at which input.
  Laid BY PROGRAM, IN A SANDBOX (cutbox-rows.mjs): the forced cells as the released guide's own fill.sh prints them over the translation 87247d2420519154… (all of the seat's roots in one cut). By AI agents, Wed Nov 11 2026. No macro, syntax, notation, axiom, sorry.
-/
import Derived.Test.YtiinhkfbgecbjaaGreatDoorChecked
import GoSem.PinnedTables
import GoSem.Claim
import GoSem.ClaimJoined
import GoSem.ClaimMapViews
import Derived.JoinedTies
import Derived.KernelRfl
namespace Go.Proofs.YtiinhkfbgecbjaaGreatDoor
/- THE CELL 'sum', in the pinned program and in every row, IS THE sha256 OF THE DUMP (.gsa) THAT YtiinhkfbgecbjaaGreatDoorProg.lean LOADS. Nothing in Lean hashes anything: it is a label: what it is worth is what the hold of that sum in a sandbox is worth. -/
noncomputable def Tryz.pinned : Pinned := { name := "ytiinhkfbgecbjaagreatdoor", sum := "87247d2420519154d947d9b9ed806ae3a942ffa751f0078dba3a36eb084eacee", checked := Tryz.checked }
namespace Rows
def none {H : Type} : Left H := { results := [], args := [] }

/- WHAT THE LISTED PACKAGE-LEVEL VARIABLES READ AS WHEN THE CALL BEGINS. Each datum BY PROGRAM (the guide's laid-datum.mjs) off the statement by which the dump's own 'gosem.cut.vars' lays the variable. In a bare row this is a premise. The card (YtiinhkfbgecbjaaGreatDoorCards.lean) ties it to the program's text. -/
def laid_unicode_utf8_acceptRanges {H : Type} : DataW H := .agg [.agg [.lit (.int .u8 128), .lit (.int .u8 191)], .agg [.lit (.int .u8 160), .lit (.int .u8 191)], .agg [.lit (.int .u8 128), .lit (.int .u8 159)], .agg [.lit (.int .u8 144), .lit (.int .u8 191)], .agg [.lit (.int .u8 128), .lit (.int .u8 143)], .agg [.lit (.int .u8 0), .lit (.int .u8 0)], .agg [.lit (.int .u8 0), .lit (.int .u8 0)], .agg [.lit (.int .u8 0), .lit (.int .u8 0)], .agg [.lit (.int .u8 0), .lit (.int .u8 0)], .agg [.lit (.int .u8 0), .lit (.int .u8 0)], .agg [.lit (.int .u8 0), .lit (.int .u8 0)], .agg [.lit (.int .u8 0), .lit (.int .u8 0)], .agg [.lit (.int .u8 0), .lit (.int .u8 0)], .agg [.lit (.int .u8 0), .lit (.int .u8 0)], .agg [.lit (.int .u8 0), .lit (.int .u8 0)], .agg [.lit (.int .u8 0), .lit (.int .u8 0)]]
/-- One of Go's own tables, pinned by name: the form's constant. -/
def laid_unicode_utf8_first : DataW Unit := Go.Pinned.utf8First

/-- 'subeditorlaw05.ItemsTight': WHATEVER THE INPUT: true; the input reads as it did. -/
def itemsTightSpec : ChangeSpec := { name := "itemsTight", fn := fun _ => fun
  | [d1, d2] => { results := [.lit (.bool true)], args := [d1, d2] }
  | _ => none }
def itemsTightRow : OpenClaim := { program := "ytiinhkfbgecbjaagreatdoor", sum := "87247d2420519154d947d9b9ed806ae3a942ffa751f0078dba3a36eb084eacee", func := "subeditor/subeditorlaw05.ItemsTight", spec := "itemsTight", inPlace := ["internal/bytealg.IndexByteString", "internal/bytealg.IndexString", "internal/abi.NoEscape"], unfollowed := true, recurses := true, named := ["unicode/utf8.first", "unicode/utf8.acceptRanges", "internal/bytealg.MaxLen"], plainKeys := false, apart := false, laid := [("unicode/utf8.acceptRanges", laid_unicode_utf8_acceptRanges), ("unicode/utf8.first", laid_unicode_utf8_first)] }
def ItemsTightSaid : Prop := itemsTightRow.holds Tryz.pinned (OpenSpec.ofChange itemsTightSpec)

/-- ITS FALSE NEIGHBOUR: 'it returns false'. Refute it at one input. -/
def itemsTightWrong : ChangeSpec := { name := "itemsTight", fn := fun _ => fun
  | [d1, d2] => { results := [.lit (.bool false)], args := [d1, d2] }
  | _ => none }
def ItemsTightWrongFalsely : Prop := itemsTightRow.holds Tryz.pinned (OpenSpec.ofChange itemsTightWrong)

/-- 'subeditorlaw05.ItemsPairs': WHATEVER THE INPUT: true; the input reads as it did. -/
def itemsPairsSpec : ChangeSpec := { name := "itemsPairs", fn := fun _ => fun
  | [d1, d2] => { results := [.lit (.bool true)], args := [d1, d2] }
  | _ => none }
def itemsPairsRow : OpenClaim := { program := "ytiinhkfbgecbjaagreatdoor", sum := "87247d2420519154d947d9b9ed806ae3a942ffa751f0078dba3a36eb084eacee", func := "subeditor/subeditorlaw05.ItemsPairs", spec := "itemsPairs", inPlace := ["internal/bytealg.IndexByteString", "internal/bytealg.IndexString", "internal/abi.NoEscape"], unfollowed := true, recurses := true, named := ["unicode/utf8.first", "unicode/utf8.acceptRanges", "internal/bytealg.MaxLen"], plainKeys := false, apart := false, laid := [("unicode/utf8.acceptRanges", laid_unicode_utf8_acceptRanges), ("unicode/utf8.first", laid_unicode_utf8_first)] }
def ItemsPairsSaid : Prop := itemsPairsRow.holds Tryz.pinned (OpenSpec.ofChange itemsPairsSpec)

/-- ITS FALSE NEIGHBOUR: 'it returns false'. Refute it at one input. -/
def itemsPairsWrong : ChangeSpec := { name := "itemsPairs", fn := fun _ => fun
  | [d1, d2] => { results := [.lit (.bool false)], args := [d1, d2] }
  | _ => none }
def ItemsPairsWrongFalsely : Prop := itemsPairsRow.holds Tryz.pinned (OpenSpec.ofChange itemsPairsWrong)

/-- 'subeditorlaw05.ItemsAsks': WHATEVER THE INPUT: true; the input reads as it did. -/
def itemsAsksSpec : ChangeSpec := { name := "itemsAsks", fn := fun _ => fun
  | [d1, d2, d3, d4, d5] => { results := [.lit (.bool true)], args := [d1, d2, d3, d4, d5] }
  | _ => none }
def itemsAsksRow : OpenClaim := { program := "ytiinhkfbgecbjaagreatdoor", sum := "87247d2420519154d947d9b9ed806ae3a942ffa751f0078dba3a36eb084eacee", func := "subeditor/subeditorlaw05.ItemsAsks", spec := "itemsAsks", inPlace := ["internal/bytealg.IndexByteString", "internal/bytealg.IndexString", "internal/abi.NoEscape"], unfollowed := true, recurses := true, named := ["unicode/utf8.first", "unicode/utf8.acceptRanges", "internal/bytealg.MaxLen"], plainKeys := false, apart := false, laid := [("unicode/utf8.acceptRanges", laid_unicode_utf8_acceptRanges), ("unicode/utf8.first", laid_unicode_utf8_first)] }
def ItemsAsksSaid : Prop := itemsAsksRow.holds Tryz.pinned (OpenSpec.ofChange itemsAsksSpec)

/-- ITS FALSE NEIGHBOUR: 'it returns false'. Refute it at one input. -/
def itemsAsksWrong : ChangeSpec := { name := "itemsAsks", fn := fun _ => fun
  | [d1, d2, d3, d4, d5] => { results := [.lit (.bool false)], args := [d1, d2, d3, d4, d5] }
  | _ => none }
def ItemsAsksWrongFalsely : Prop := itemsAsksRow.holds Tryz.pinned (OpenSpec.ofChange itemsAsksWrong)

/-- 'subeditorlaw05.ItemsLine': WHATEVER THE INPUT: true; the input reads as it did. -/
def itemsLineSpec : ChangeSpec := { name := "itemsLine", fn := fun _ => fun
  | [d] => { results := [.lit (.bool true)], args := [d] }
  | _ => none }
def itemsLineRow : OpenClaim := { program := "ytiinhkfbgecbjaagreatdoor", sum := "87247d2420519154d947d9b9ed806ae3a942ffa751f0078dba3a36eb084eacee", func := "subeditor/subeditorlaw05.ItemsLine", spec := "itemsLine", inPlace := ["internal/bytealg.IndexByteString", "internal/bytealg.IndexString", "internal/abi.NoEscape"], unfollowed := true, recurses := true, named := ["unicode/utf8.first", "unicode/utf8.acceptRanges", "internal/bytealg.MaxLen"], plainKeys := false, apart := false, laid := [("unicode/utf8.acceptRanges", laid_unicode_utf8_acceptRanges), ("unicode/utf8.first", laid_unicode_utf8_first)] }
def ItemsLineSaid : Prop := itemsLineRow.holds Tryz.pinned (OpenSpec.ofChange itemsLineSpec)

/-- ITS FALSE NEIGHBOUR: 'it returns false'. Refute it at one input. -/
def itemsLineWrong : ChangeSpec := { name := "itemsLine", fn := fun _ => fun
  | [d] => { results := [.lit (.bool false)], args := [d] }
  | _ => none }
def ItemsLineWrongFalsely : Prop := itemsLineRow.holds Tryz.pinned (OpenSpec.ofChange itemsLineWrong)

/-- 'subeditorlaw05.ItemsNotes': WHATEVER THE INPUT: true; the input reads as it did. -/
def itemsNotesSpec : ChangeSpec := { name := "itemsNotes", fn := fun _ => fun
  | [d] => { results := [.lit (.bool true)], args := [d] }
  | _ => none }
def itemsNotesRow : OpenClaim := { program := "ytiinhkfbgecbjaagreatdoor", sum := "87247d2420519154d947d9b9ed806ae3a942ffa751f0078dba3a36eb084eacee", func := "subeditor/subeditorlaw05.ItemsNotes", spec := "itemsNotes", inPlace := ["internal/bytealg.IndexByteString", "internal/bytealg.IndexString", "internal/abi.NoEscape"], unfollowed := true, recurses := true, named := ["unicode/utf8.first", "unicode/utf8.acceptRanges", "internal/bytealg.MaxLen"], plainKeys := false, apart := false, laid := [("unicode/utf8.acceptRanges", laid_unicode_utf8_acceptRanges), ("unicode/utf8.first", laid_unicode_utf8_first)] }
def ItemsNotesSaid : Prop := itemsNotesRow.holds Tryz.pinned (OpenSpec.ofChange itemsNotesSpec)

/-- ITS FALSE NEIGHBOUR: 'it returns false'. Refute it at one input. -/
def itemsNotesWrong : ChangeSpec := { name := "itemsNotes", fn := fun _ => fun
  | [d] => { results := [.lit (.bool false)], args := [d] }
  | _ => none }
def ItemsNotesWrongFalsely : Prop := itemsNotesRow.holds Tryz.pinned (OpenSpec.ofChange itemsNotesWrong)

/-- 'subeditorlaw05.ItemsFew': WHATEVER THE INPUT: true; the input reads as it did. -/
def itemsFewSpec : ChangeSpec := { name := "itemsFew", fn := fun _ => fun
  | [d] => { results := [.lit (.bool true)], args := [d] }
  | _ => none }
def itemsFewRow : OpenClaim := { program := "ytiinhkfbgecbjaagreatdoor", sum := "87247d2420519154d947d9b9ed806ae3a942ffa751f0078dba3a36eb084eacee", func := "subeditor/subeditorlaw05.ItemsFew", spec := "itemsFew", inPlace := ["internal/bytealg.IndexByteString", "internal/bytealg.IndexString", "internal/abi.NoEscape"], unfollowed := true, recurses := true, named := ["unicode/utf8.first", "unicode/utf8.acceptRanges", "internal/bytealg.MaxLen"], plainKeys := false, apart := false, laid := [("unicode/utf8.acceptRanges", laid_unicode_utf8_acceptRanges), ("unicode/utf8.first", laid_unicode_utf8_first)] }
def ItemsFewSaid : Prop := itemsFewRow.holds Tryz.pinned (OpenSpec.ofChange itemsFewSpec)

/-- ITS FALSE NEIGHBOUR: 'it returns false'. Refute it at one input. -/
def itemsFewWrong : ChangeSpec := { name := "itemsFew", fn := fun _ => fun
  | [d] => { results := [.lit (.bool false)], args := [d] }
  | _ => none }
def ItemsFewWrongFalsely : Prop := itemsFewRow.holds Tryz.pinned (OpenSpec.ofChange itemsFewWrong)

/- THE SECOND FORM. 'bulk': how many values and letters a reading holds, each counted each time it is reached (what is shared counts as often as it is met; a slice's spare places count too). A statement '..UptoSaid' is the law's where the arguments, and the package variables that the reading takes, are together of bulk at most 1048576: NARROWER than '..Said'. Prove '..Said' where nothing that the law and all that it calls make is longer than what came in: it says more and counts as full. Else prove '..UptoSaid'. A law counts once. -/
mutual
def uptoBulk {H : Type} : DataW H → Nat
  | .lit (.string bytes) => bytes.length + 1
  | .lit _ => 1
  | .nil => 1
  | .ptr d => uptoBulk d + 1
  | .slice elems spare => uptoBulkAll elems + uptoBulkAll spare + 1
  | .agg parts => uptoBulkAll parts + 1
  | .iface _ d => uptoBulk d + 1
  | .map entries => uptoBulkEntries entries + 1
  | .held _ => 1
def uptoBulkAll {H : Type} : List (DataW H) → Nat
  | [] => 0
  | d :: r => uptoBulk d + uptoBulkAll r
def uptoBulkEntries {H : Type} : List (Lit × DataW H) → Nat
  | [] => 0
  | x :: r => uptoBulkEntry x + uptoBulkEntries r
def uptoBulkEntry {H : Type} : Lit × DataW H → Nat
  | (.string bytes, d) => bytes.length + uptoBulk d + 1
  | (_, d) => uptoBulk d + 1
 end
def uptoSmall : (H : Type) → List (DataW H) → Bool := fun _ ds => decide (uptoBulkAll ds ≤ 1048576)
def OpenSpec.upto (s : _root_.Go.ChangeSpec) : _root_.Go.OpenSpec := { _root_.Go.OpenSpec.ofChange s with cond := some uptoSmall }

/-- 'subeditorlaw05.ItemsTight', WHERE WHAT IT READS IS OF BULK AT MOST 1048576: true; the input reads as it did. -/
def itemsTightUptoRow : OpenClaim := { program := "ytiinhkfbgecbjaagreatdoor", sum := "87247d2420519154d947d9b9ed806ae3a942ffa751f0078dba3a36eb084eacee", func := "subeditor/subeditorlaw05.ItemsTight", spec := "itemsTight", inPlace := ["internal/bytealg.IndexByteString", "internal/bytealg.IndexString", "internal/abi.NoEscape"], unfollowed := true, recurses := true, named := ["unicode/utf8.first", "unicode/utf8.acceptRanges", "internal/bytealg.MaxLen"], plainKeys := false, apart := false, laid := [("unicode/utf8.acceptRanges", laid_unicode_utf8_acceptRanges), ("unicode/utf8.first", laid_unicode_utf8_first)], narrowed := true }
def ItemsTightUptoSaid : Prop := itemsTightUptoRow.holds Tryz.pinned (OpenSpec.upto itemsTightSpec)

/-- 'subeditorlaw05.ItemsPairs', WHERE WHAT IT READS IS OF BULK AT MOST 1048576: true; the input reads as it did. -/
def itemsPairsUptoRow : OpenClaim := { program := "ytiinhkfbgecbjaagreatdoor", sum := "87247d2420519154d947d9b9ed806ae3a942ffa751f0078dba3a36eb084eacee", func := "subeditor/subeditorlaw05.ItemsPairs", spec := "itemsPairs", inPlace := ["internal/bytealg.IndexByteString", "internal/bytealg.IndexString", "internal/abi.NoEscape"], unfollowed := true, recurses := true, named := ["unicode/utf8.first", "unicode/utf8.acceptRanges", "internal/bytealg.MaxLen"], plainKeys := false, apart := false, laid := [("unicode/utf8.acceptRanges", laid_unicode_utf8_acceptRanges), ("unicode/utf8.first", laid_unicode_utf8_first)], narrowed := true }
def ItemsPairsUptoSaid : Prop := itemsPairsUptoRow.holds Tryz.pinned (OpenSpec.upto itemsPairsSpec)

/-- 'subeditorlaw05.ItemsAsks', WHERE WHAT IT READS IS OF BULK AT MOST 1048576: true; the input reads as it did. -/
def itemsAsksUptoRow : OpenClaim := { program := "ytiinhkfbgecbjaagreatdoor", sum := "87247d2420519154d947d9b9ed806ae3a942ffa751f0078dba3a36eb084eacee", func := "subeditor/subeditorlaw05.ItemsAsks", spec := "itemsAsks", inPlace := ["internal/bytealg.IndexByteString", "internal/bytealg.IndexString", "internal/abi.NoEscape"], unfollowed := true, recurses := true, named := ["unicode/utf8.first", "unicode/utf8.acceptRanges", "internal/bytealg.MaxLen"], plainKeys := false, apart := false, laid := [("unicode/utf8.acceptRanges", laid_unicode_utf8_acceptRanges), ("unicode/utf8.first", laid_unicode_utf8_first)], narrowed := true }
def ItemsAsksUptoSaid : Prop := itemsAsksUptoRow.holds Tryz.pinned (OpenSpec.upto itemsAsksSpec)

/-- 'subeditorlaw05.ItemsLine', WHERE WHAT IT READS IS OF BULK AT MOST 1048576: true; the input reads as it did. -/
def itemsLineUptoRow : OpenClaim := { program := "ytiinhkfbgecbjaagreatdoor", sum := "87247d2420519154d947d9b9ed806ae3a942ffa751f0078dba3a36eb084eacee", func := "subeditor/subeditorlaw05.ItemsLine", spec := "itemsLine", inPlace := ["internal/bytealg.IndexByteString", "internal/bytealg.IndexString", "internal/abi.NoEscape"], unfollowed := true, recurses := true, named := ["unicode/utf8.first", "unicode/utf8.acceptRanges", "internal/bytealg.MaxLen"], plainKeys := false, apart := false, laid := [("unicode/utf8.acceptRanges", laid_unicode_utf8_acceptRanges), ("unicode/utf8.first", laid_unicode_utf8_first)], narrowed := true }
def ItemsLineUptoSaid : Prop := itemsLineUptoRow.holds Tryz.pinned (OpenSpec.upto itemsLineSpec)

/-- 'subeditorlaw05.ItemsNotes', WHERE WHAT IT READS IS OF BULK AT MOST 1048576: true; the input reads as it did. -/
def itemsNotesUptoRow : OpenClaim := { program := "ytiinhkfbgecbjaagreatdoor", sum := "87247d2420519154d947d9b9ed806ae3a942ffa751f0078dba3a36eb084eacee", func := "subeditor/subeditorlaw05.ItemsNotes", spec := "itemsNotes", inPlace := ["internal/bytealg.IndexByteString", "internal/bytealg.IndexString", "internal/abi.NoEscape"], unfollowed := true, recurses := true, named := ["unicode/utf8.first", "unicode/utf8.acceptRanges", "internal/bytealg.MaxLen"], plainKeys := false, apart := false, laid := [("unicode/utf8.acceptRanges", laid_unicode_utf8_acceptRanges), ("unicode/utf8.first", laid_unicode_utf8_first)], narrowed := true }
def ItemsNotesUptoSaid : Prop := itemsNotesUptoRow.holds Tryz.pinned (OpenSpec.upto itemsNotesSpec)

/-- 'subeditorlaw05.ItemsFew', WHERE WHAT IT READS IS OF BULK AT MOST 1048576: true; the input reads as it did. -/
def itemsFewUptoRow : OpenClaim := { program := "ytiinhkfbgecbjaagreatdoor", sum := "87247d2420519154d947d9b9ed806ae3a942ffa751f0078dba3a36eb084eacee", func := "subeditor/subeditorlaw05.ItemsFew", spec := "itemsFew", inPlace := ["internal/bytealg.IndexByteString", "internal/bytealg.IndexString", "internal/abi.NoEscape"], unfollowed := true, recurses := true, named := ["unicode/utf8.first", "unicode/utf8.acceptRanges", "internal/bytealg.MaxLen"], plainKeys := false, apart := false, laid := [("unicode/utf8.acceptRanges", laid_unicode_utf8_acceptRanges), ("unicode/utf8.first", laid_unicode_utf8_first)], narrowed := true }
def ItemsFewUptoSaid : Prop := itemsFewUptoRow.holds Tryz.pinned (OpenSpec.upto itemsFewSpec)

end Rows
end Go.Proofs.YtiinhkfbgecbjaaGreatDoor
