/-
  NARROWER THAN 'FOR EVERY INPUT', by the rows' own cells (each row's printed sentence says how): OpNames: laid · LogTrims: laid · LogPlays: laid · LogOf: laid · OpBytes: laid · OpReads: laid · LogAsks: laid · OpReplies: laid · NameMails: laid · NameParts: laid · NameTells: laid · NameOrder: laid.
  DERIVED. THE GIVEN ROWS OF THIS SEAT. 12 by the template 'for every input the law returns true; each argument reads behind the call as it read before'; 0 by the template 'total and deterministic' (their statements: YtcaihinenfnekaaDoorTotals.lean).
  GIVEN WITH THE SEED: the statements are not yours to turn. If you find one false, say at which input.
  Laid BY PROGRAM, IN A SANDBOX (cutbox-rows.mjs): the forced cells as the released guide's own fill.sh prints them over the translation db8a8ab1ef133d91… (all of the seat's roots in one cut). By AI agents, Wed Nov 11 2026. No macro, syntax, notation, axiom, sorry.
-/
import Derived.Test.YtcaihinenfnekaaDoorChecked
import GoSem.PinnedTables
import GoSem.Claim
import GoSem.ClaimJoined
import GoSem.ClaimMapViews
import Derived.JoinedTies
import Derived.KernelRfl
namespace Go.Proofs.YtcaihinenfnekaaDoor
/- THE CELL 'sum', in the pinned program and in every row, IS THE sha256 OF THE DUMP (.gsa) THAT YtcaihinenfnekaaDoorProg.lean LOADS. Nothing in Lean hashes anything: it is a label: what it is worth is what the hold of that sum in a sandbox is worth. -/
noncomputable def Tryd.pinned : Pinned := { name := "ytcaihinenfnekaadoor", sum := "db8a8ab1ef133d9174a0552ea4c43b8d7ab2ba4dc95d8a2f02d374dd7c15277c", checked := Tryd.checked }
namespace Rows
def none {H : Type} : Left H := { results := [], args := [] }

/- WHAT THE LISTED PACKAGE-LEVEL VARIABLES READ AS WHEN THE CALL BEGINS. Each datum BY PROGRAM (the guide's laid-datum.mjs) off the statement by which the dump's own 'gosem.cut.vars' lays the variable. In a bare row this is a premise. The card (YtcaihinenfnekaaDoorCards.lean) ties it to the program's text. -/
def laid_interrex_op_names {H : Type} : DataW H := .agg [.lit (.string [99, 114, 101, 97, 116, 101]), .lit (.string [100, 101, 108, 101, 116, 101]), .lit (.string [115, 101, 116, 104, 97, 115, 104]), .lit (.string [108, 111, 111, 107, 117, 112]), .lit (.string [108, 105, 115, 116]), .lit (.string [115, 101, 116, 109, 97, 105, 108]), .lit (.string [100, 105, 115, 97, 98, 108, 101]), .lit (.string [101, 110, 97, 98, 108, 101]), .lit (.string [114, 101, 110, 97, 109, 101]), .lit (.string [109, 97, 107, 101]), .lit (.string [100, 114, 111, 112]), .lit (.string [106, 111, 105, 110]), .lit (.string [108, 101, 97, 118, 101]), .lit (.string [102, 105, 110, 100]), .lit (.string [109, 101, 109, 98, 101, 114, 115]), .lit (.string [117, 112, 103, 114, 97, 100, 101]), .lit (.string [97, 100, 118, 101, 114, 116, 105, 115, 101])]
def laid_interrex_op_signs {H : Type} : DataW H := .agg [.lit (.string [97, 98]), .lit (.string [97]), .lit (.string [97, 98]), .lit (.string [97]), .lit (.string [97]), .lit (.string [97, 98]), .lit (.string [97]), .lit (.string [97]), .lit (.string [97, 98]), .lit (.string [97]), .lit (.string [97]), .lit (.string [97, 98]), .lit (.string [97, 98]), .lit (.string [97]), .lit (.string [97]), .lit (.string []), .lit (.string [110, 114])]
def laid_unicode_utf8_acceptRanges {H : Type} : DataW H := .agg [.agg [.lit (.int .u8 128), .lit (.int .u8 191)], .agg [.lit (.int .u8 160), .lit (.int .u8 191)], .agg [.lit (.int .u8 128), .lit (.int .u8 159)], .agg [.lit (.int .u8 144), .lit (.int .u8 191)], .agg [.lit (.int .u8 128), .lit (.int .u8 143)], .agg [.lit (.int .u8 0), .lit (.int .u8 0)], .agg [.lit (.int .u8 0), .lit (.int .u8 0)], .agg [.lit (.int .u8 0), .lit (.int .u8 0)], .agg [.lit (.int .u8 0), .lit (.int .u8 0)], .agg [.lit (.int .u8 0), .lit (.int .u8 0)], .agg [.lit (.int .u8 0), .lit (.int .u8 0)], .agg [.lit (.int .u8 0), .lit (.int .u8 0)], .agg [.lit (.int .u8 0), .lit (.int .u8 0)], .agg [.lit (.int .u8 0), .lit (.int .u8 0)], .agg [.lit (.int .u8 0), .lit (.int .u8 0)], .agg [.lit (.int .u8 0), .lit (.int .u8 0)]]
/-- One of Go's own tables, pinned by name: the form's constant. -/
def laid_unicode_utf8_first : DataW Unit := Go.Pinned.utf8First

/-- 'interrexlaw14.OpNames': WHATEVER THE INPUT: true; the input reads as it did. -/
def opNamesSpec : ChangeSpec := { name := "opNames", fn := fun _ => fun
  | [d1, d2, d3, d4, d5, d6] => { results := [.lit (.bool true)], args := [d1, d2, d3, d4, d5, d6] }
  | _ => none }
def opNamesRow : OpenClaim := { program := "ytcaihinenfnekaadoor", sum := "db8a8ab1ef133d9174a0552ea4c43b8d7ab2ba4dc95d8a2f02d374dd7c15277c", func := "interrex/interrexlaw14.OpNames", spec := "opNames", named := ["interrex/op.signs", "interrex/op.names"], apart := false, laid := [("interrex/op.names", laid_interrex_op_names), ("interrex/op.signs", laid_interrex_op_signs)] }
def OpNamesSaid : Prop := opNamesRow.holds Tryd.pinned (OpenSpec.ofChange opNamesSpec)

/-- ITS FALSE NEIGHBOUR: 'it returns false'. Refute it at one input. -/
def opNamesWrong : ChangeSpec := { name := "opNames", fn := fun _ => fun
  | [d1, d2, d3, d4, d5, d6] => { results := [.lit (.bool false)], args := [d1, d2, d3, d4, d5, d6] }
  | _ => none }
def OpNamesWrongFalsely : Prop := opNamesRow.holds Tryd.pinned (OpenSpec.ofChange opNamesWrong)

/-- 'interrexlaw20.LogTrims': WHATEVER THE INPUT: true; the input reads as it did. -/
def logTrimsSpec : ChangeSpec := { name := "logTrims", fn := fun _ => fun
  | [d1, d2, d3] => { results := [.lit (.bool true)], args := [d1, d2, d3] }
  | _ => none }
def logTrimsRow : OpenClaim := { program := "ytcaihinenfnekaadoor", sum := "db8a8ab1ef133d9174a0552ea4c43b8d7ab2ba4dc95d8a2f02d374dd7c15277c", func := "interrex/interrexlaw20.LogTrims", spec := "logTrims", named := ["interrex/op.signs"], apart := false, laid := [("interrex/op.signs", laid_interrex_op_signs)] }
def LogTrimsSaid : Prop := logTrimsRow.holds Tryd.pinned (OpenSpec.ofChange logTrimsSpec)

/-- ITS FALSE NEIGHBOUR: 'it returns false'. Refute it at one input. -/
def logTrimsWrong : ChangeSpec := { name := "logTrims", fn := fun _ => fun
  | [d1, d2, d3] => { results := [.lit (.bool false)], args := [d1, d2, d3] }
  | _ => none }
def LogTrimsWrongFalsely : Prop := logTrimsRow.holds Tryd.pinned (OpenSpec.ofChange logTrimsWrong)

/-- 'interrexlaw20.LogPlays': WHATEVER THE INPUT: true; the input reads as it did. -/
def logPlaysSpec : ChangeSpec := { name := "logPlays", fn := fun _ => fun
  | [d1, d2] => { results := [.lit (.bool true)], args := [d1, d2] }
  | _ => none }
def logPlaysRow : OpenClaim := { program := "ytcaihinenfnekaadoor", sum := "db8a8ab1ef133d9174a0552ea4c43b8d7ab2ba4dc95d8a2f02d374dd7c15277c", func := "interrex/interrexlaw20.LogPlays", spec := "logPlays", named := ["interrex/op.signs"], apart := false, laid := [("interrex/op.signs", laid_interrex_op_signs)] }
def LogPlaysSaid : Prop := logPlaysRow.holds Tryd.pinned (OpenSpec.ofChange logPlaysSpec)

/-- ITS FALSE NEIGHBOUR: 'it returns false'. Refute it at one input. -/
def logPlaysWrong : ChangeSpec := { name := "logPlays", fn := fun _ => fun
  | [d1, d2] => { results := [.lit (.bool false)], args := [d1, d2] }
  | _ => none }
def LogPlaysWrongFalsely : Prop := logPlaysRow.holds Tryd.pinned (OpenSpec.ofChange logPlaysWrong)

/-- 'interrexlaw20.LogOf': WHATEVER THE INPUT: true; the input reads as it did. -/
def logOfSpec : ChangeSpec := { name := "logOf", fn := fun _ => fun
  | [d1, d2, d3] => { results := [.lit (.bool true)], args := [d1, d2, d3] }
  | _ => none }
def logOfRow : OpenClaim := { program := "ytcaihinenfnekaadoor", sum := "db8a8ab1ef133d9174a0552ea4c43b8d7ab2ba4dc95d8a2f02d374dd7c15277c", func := "interrex/interrexlaw20.LogOf", spec := "logOf", unfollowed := true, recurses := true, named := ["interrex/op.signs"], apart := false, laid := [("interrex/op.signs", laid_interrex_op_signs)] }
def LogOfSaid : Prop := logOfRow.holds Tryd.pinned (OpenSpec.ofChange logOfSpec)

/-- ITS FALSE NEIGHBOUR: 'it returns false'. Refute it at one input. -/
def logOfWrong : ChangeSpec := { name := "logOf", fn := fun _ => fun
  | [d1, d2, d3] => { results := [.lit (.bool false)], args := [d1, d2, d3] }
  | _ => none }
def LogOfWrongFalsely : Prop := logOfRow.holds Tryd.pinned (OpenSpec.ofChange logOfWrong)

/-- 'interrexlaw14.OpBytes': WHATEVER THE INPUT: true; the input reads as it did. -/
def opBytesSpec : ChangeSpec := { name := "opBytes", fn := fun _ => fun
  | [d] => { results := [.lit (.bool true)], args := [d] }
  | _ => none }
def opBytesRow : OpenClaim := { program := "ytcaihinenfnekaadoor", sum := "db8a8ab1ef133d9174a0552ea4c43b8d7ab2ba4dc95d8a2f02d374dd7c15277c", func := "interrex/interrexlaw14.OpBytes", spec := "opBytes", named := ["interrex/op.signs"], apart := false, laid := [("interrex/op.signs", laid_interrex_op_signs)] }
def OpBytesSaid : Prop := opBytesRow.holds Tryd.pinned (OpenSpec.ofChange opBytesSpec)

/-- ITS FALSE NEIGHBOUR: 'it returns false'. Refute it at one input. -/
def opBytesWrong : ChangeSpec := { name := "opBytes", fn := fun _ => fun
  | [d] => { results := [.lit (.bool false)], args := [d] }
  | _ => none }
def OpBytesWrongFalsely : Prop := opBytesRow.holds Tryd.pinned (OpenSpec.ofChange opBytesWrong)

/-- 'interrexlaw14.OpReads': WHATEVER THE INPUT: true; the input reads as it did. -/
def opReadsSpec : ChangeSpec := { name := "opReads", fn := fun _ => fun
  | [d] => { results := [.lit (.bool true)], args := [d] }
  | _ => none }
def opReadsRow : OpenClaim := { program := "ytcaihinenfnekaadoor", sum := "db8a8ab1ef133d9174a0552ea4c43b8d7ab2ba4dc95d8a2f02d374dd7c15277c", func := "interrex/interrexlaw14.OpReads", spec := "opReads", named := ["interrex/op.signs"], apart := false, laid := [("interrex/op.signs", laid_interrex_op_signs)] }
def OpReadsSaid : Prop := opReadsRow.holds Tryd.pinned (OpenSpec.ofChange opReadsSpec)

/-- ITS FALSE NEIGHBOUR: 'it returns false'. Refute it at one input. -/
def opReadsWrong : ChangeSpec := { name := "opReads", fn := fun _ => fun
  | [d] => { results := [.lit (.bool false)], args := [d] }
  | _ => none }
def OpReadsWrongFalsely : Prop := opReadsRow.holds Tryd.pinned (OpenSpec.ofChange opReadsWrong)

/-- 'interrexlaw20.LogAsks': WHATEVER THE INPUT: true; the input reads as it did. -/
def logAsksSpec : ChangeSpec := { name := "logAsks", fn := fun _ => fun
  | [d1, d2, d3, d4, d5, d6] => { results := [.lit (.bool true)], args := [d1, d2, d3, d4, d5, d6] }
  | _ => none }
def logAsksRow : OpenClaim := { program := "ytcaihinenfnekaadoor", sum := "db8a8ab1ef133d9174a0552ea4c43b8d7ab2ba4dc95d8a2f02d374dd7c15277c", func := "interrex/interrexlaw20.LogAsks", spec := "logAsks", unfollowed := true, recurses := true, named := ["interrex/op.signs"], apart := false, laid := [("interrex/op.signs", laid_interrex_op_signs)] }
def LogAsksSaid : Prop := logAsksRow.holds Tryd.pinned (OpenSpec.ofChange logAsksSpec)

/-- ITS FALSE NEIGHBOUR: 'it returns false'. Refute it at one input. -/
def logAsksWrong : ChangeSpec := { name := "logAsks", fn := fun _ => fun
  | [d1, d2, d3, d4, d5, d6] => { results := [.lit (.bool false)], args := [d1, d2, d3, d4, d5, d6] }
  | _ => none }
def LogAsksWrongFalsely : Prop := logAsksRow.holds Tryd.pinned (OpenSpec.ofChange logAsksWrong)

/-- 'interrexlaw14.OpReplies': WHATEVER THE INPUT: true; the input reads as it did. -/
def opRepliesSpec : ChangeSpec := { name := "opReplies", fn := fun _ => fun
  | [d1, d2, d3] => { results := [.lit (.bool true)], args := [d1, d2, d3] }
  | _ => none }
def opRepliesRow : OpenClaim := { program := "ytcaihinenfnekaadoor", sum := "db8a8ab1ef133d9174a0552ea4c43b8d7ab2ba4dc95d8a2f02d374dd7c15277c", func := "interrex/interrexlaw14.OpReplies", spec := "opReplies", named := ["interrex/op.signs"], apart := false, laid := [("interrex/op.signs", laid_interrex_op_signs)] }
def OpRepliesSaid : Prop := opRepliesRow.holds Tryd.pinned (OpenSpec.ofChange opRepliesSpec)

/-- ITS FALSE NEIGHBOUR: 'it returns false'. Refute it at one input. -/
def opRepliesWrong : ChangeSpec := { name := "opReplies", fn := fun _ => fun
  | [d1, d2, d3] => { results := [.lit (.bool false)], args := [d1, d2, d3] }
  | _ => none }
def OpRepliesWrongFalsely : Prop := opRepliesRow.holds Tryd.pinned (OpenSpec.ofChange opRepliesWrong)

/-- 'interrexlaw05.NameMails': WHATEVER THE INPUT: true; the input reads as it did. -/
def nameMailsSpec : ChangeSpec := { name := "nameMails", fn := fun _ => fun
  | [d] => { results := [.lit (.bool true)], args := [d] }
  | _ => none }
def nameMailsRow : OpenClaim := { program := "ytcaihinenfnekaadoor", sum := "db8a8ab1ef133d9174a0552ea4c43b8d7ab2ba4dc95d8a2f02d374dd7c15277c", func := "interrex/interrexlaw05.NameMails", spec := "nameMails", inPlace := ["internal/bytealg.IndexByteString", "internal/bytealg.IndexString", "internal/bytealg.CountString"], unfollowed := true, recurses := true, named := ["internal/bytealg.MaxLen", "unicode/utf8.first", "unicode/utf8.acceptRanges"], apart := false, laid := [("unicode/utf8.acceptRanges", laid_unicode_utf8_acceptRanges), ("unicode/utf8.first", laid_unicode_utf8_first)] }
def NameMailsSaid : Prop := nameMailsRow.holds Tryd.pinned (OpenSpec.ofChange nameMailsSpec)

/-- ITS FALSE NEIGHBOUR: 'it returns false'. Refute it at one input. -/
def nameMailsWrong : ChangeSpec := { name := "nameMails", fn := fun _ => fun
  | [d] => { results := [.lit (.bool false)], args := [d] }
  | _ => none }
def NameMailsWrongFalsely : Prop := nameMailsRow.holds Tryd.pinned (OpenSpec.ofChange nameMailsWrong)

/-- 'interrexlaw05.NameParts': WHATEVER THE INPUT: true; the input reads as it did. -/
def namePartsSpec : ChangeSpec := { name := "nameParts", fn := fun _ => fun
  | [d] => { results := [.lit (.bool true)], args := [d] }
  | _ => none }
def namePartsRow : OpenClaim := { program := "ytcaihinenfnekaadoor", sum := "db8a8ab1ef133d9174a0552ea4c43b8d7ab2ba4dc95d8a2f02d374dd7c15277c", func := "interrex/interrexlaw05.NameParts", spec := "nameParts", inPlace := ["internal/bytealg.IndexByteString", "internal/bytealg.IndexString", "internal/bytealg.CountString"], unfollowed := true, recurses := true, named := ["internal/bytealg.MaxLen", "unicode/utf8.first", "unicode/utf8.acceptRanges"], apart := false, laid := [("unicode/utf8.acceptRanges", laid_unicode_utf8_acceptRanges), ("unicode/utf8.first", laid_unicode_utf8_first)] }
def NamePartsSaid : Prop := namePartsRow.holds Tryd.pinned (OpenSpec.ofChange namePartsSpec)

/-- ITS FALSE NEIGHBOUR: 'it returns false'. Refute it at one input. -/
def namePartsWrong : ChangeSpec := { name := "nameParts", fn := fun _ => fun
  | [d] => { results := [.lit (.bool false)], args := [d] }
  | _ => none }
def NamePartsWrongFalsely : Prop := namePartsRow.holds Tryd.pinned (OpenSpec.ofChange namePartsWrong)

/-- 'interrexlaw05.NameTells': WHATEVER THE INPUT: true; the input reads as it did. -/
def nameTellsSpec : ChangeSpec := { name := "nameTells", fn := fun _ => fun
  | [d] => { results := [.lit (.bool true)], args := [d] }
  | _ => none }
def nameTellsRow : OpenClaim := { program := "ytcaihinenfnekaadoor", sum := "db8a8ab1ef133d9174a0552ea4c43b8d7ab2ba4dc95d8a2f02d374dd7c15277c", func := "interrex/interrexlaw05.NameTells", spec := "nameTells", inPlace := ["internal/bytealg.IndexByteString", "internal/bytealg.IndexString", "internal/bytealg.CountString"], unfollowed := true, recurses := true, named := ["internal/bytealg.MaxLen", "unicode/utf8.first", "unicode/utf8.acceptRanges"], apart := false, laid := [("unicode/utf8.acceptRanges", laid_unicode_utf8_acceptRanges), ("unicode/utf8.first", laid_unicode_utf8_first)] }
def NameTellsSaid : Prop := nameTellsRow.holds Tryd.pinned (OpenSpec.ofChange nameTellsSpec)

/-- ITS FALSE NEIGHBOUR: 'it returns false'. Refute it at one input. -/
def nameTellsWrong : ChangeSpec := { name := "nameTells", fn := fun _ => fun
  | [d] => { results := [.lit (.bool false)], args := [d] }
  | _ => none }
def NameTellsWrongFalsely : Prop := nameTellsRow.holds Tryd.pinned (OpenSpec.ofChange nameTellsWrong)

/-- 'interrexlaw05.NameOrder': WHATEVER THE INPUT: true; the input reads as it did. -/
def nameOrderSpec : ChangeSpec := { name := "nameOrder", fn := fun _ => fun
  | [d1, d2, d3] => { results := [.lit (.bool true)], args := [d1, d2, d3] }
  | _ => none }
def nameOrderRow : OpenClaim := { program := "ytcaihinenfnekaadoor", sum := "db8a8ab1ef133d9174a0552ea4c43b8d7ab2ba4dc95d8a2f02d374dd7c15277c", func := "interrex/interrexlaw05.NameOrder", spec := "nameOrder", inPlace := ["internal/bytealg.IndexByteString", "internal/bytealg.IndexString", "internal/bytealg.CountString"], unfollowed := true, recurses := true, named := ["internal/bytealg.MaxLen", "unicode/utf8.first", "unicode/utf8.acceptRanges"], apart := false, laid := [("unicode/utf8.acceptRanges", laid_unicode_utf8_acceptRanges), ("unicode/utf8.first", laid_unicode_utf8_first)] }
def NameOrderSaid : Prop := nameOrderRow.holds Tryd.pinned (OpenSpec.ofChange nameOrderSpec)

/-- ITS FALSE NEIGHBOUR: 'it returns false'. Refute it at one input. -/
def nameOrderWrong : ChangeSpec := { name := "nameOrder", fn := fun _ => fun
  | [d1, d2, d3] => { results := [.lit (.bool false)], args := [d1, d2, d3] }
  | _ => none }
def NameOrderWrongFalsely : Prop := nameOrderRow.holds Tryd.pinned (OpenSpec.ofChange nameOrderWrong)

/- THE SECOND FORM. 'bulk': how many values and letters a reading holds, each counted each time it is reached (what is shared counts as often as it is met; a slice's spare places count too). A statement '..UptoSaid' is the law's where the arguments, and the package variables that the reading takes, are together of bulk at most 1048576: NARROWER than '..Said'. Prove '..Said' where nothing that the law and all that it calls make is longer than what came in: it says more and counts as full. Else prove '..UptoSaid'. A law counts once. -/
mutual
def uptoBulk {H : Type} : DataW H → Nat
  | .lit (.string bytes) => bytes.length + 1
  | .lit _ => 1
  | .nil => 1
  | .ptr d => uptoBulk d + 1
  | .slice elems spare => uptoBulkAll elems + uptoBulkAll spare + 1
  | .agg parts => uptoBulkAll parts + 1
  | .iface _ d => uptoBulk d + 1
  | .map entries => uptoBulkEntries entries + 1
  | .held _ => 1
def uptoBulkAll {H : Type} : List (DataW H) → Nat
  | [] => 0
  | d :: r => uptoBulk d + uptoBulkAll r
def uptoBulkEntries {H : Type} : List (Lit × DataW H) → Nat
  | [] => 0
  | x :: r => uptoBulkEntry x + uptoBulkEntries r
def uptoBulkEntry {H : Type} : Lit × DataW H → Nat
  | (.string bytes, d) => bytes.length + uptoBulk d + 1
  | (_, d) => uptoBulk d + 1
 end
def uptoSmall : (H : Type) → List (DataW H) → Bool := fun _ ds => decide (uptoBulkAll ds ≤ 1048576)
def OpenSpec.upto (s : _root_.Go.ChangeSpec) : _root_.Go.OpenSpec := { _root_.Go.OpenSpec.ofChange s with cond := some uptoSmall }

/-- 'interrexlaw14.OpNames', WHERE WHAT IT READS IS OF BULK AT MOST 1048576: true; the input reads as it did. -/
def opNamesUptoRow : OpenClaim := { program := "ytcaihinenfnekaadoor", sum := "db8a8ab1ef133d9174a0552ea4c43b8d7ab2ba4dc95d8a2f02d374dd7c15277c", func := "interrex/interrexlaw14.OpNames", spec := "opNames", named := ["interrex/op.signs", "interrex/op.names"], apart := false, laid := [("interrex/op.names", laid_interrex_op_names), ("interrex/op.signs", laid_interrex_op_signs)], narrowed := true }
def OpNamesUptoSaid : Prop := opNamesUptoRow.holds Tryd.pinned (OpenSpec.upto opNamesSpec)

/-- 'interrexlaw20.LogTrims', WHERE WHAT IT READS IS OF BULK AT MOST 1048576: true; the input reads as it did. -/
def logTrimsUptoRow : OpenClaim := { program := "ytcaihinenfnekaadoor", sum := "db8a8ab1ef133d9174a0552ea4c43b8d7ab2ba4dc95d8a2f02d374dd7c15277c", func := "interrex/interrexlaw20.LogTrims", spec := "logTrims", named := ["interrex/op.signs"], apart := false, laid := [("interrex/op.signs", laid_interrex_op_signs)], narrowed := true }
def LogTrimsUptoSaid : Prop := logTrimsUptoRow.holds Tryd.pinned (OpenSpec.upto logTrimsSpec)

/-- 'interrexlaw20.LogPlays', WHERE WHAT IT READS IS OF BULK AT MOST 1048576: true; the input reads as it did. -/
def logPlaysUptoRow : OpenClaim := { program := "ytcaihinenfnekaadoor", sum := "db8a8ab1ef133d9174a0552ea4c43b8d7ab2ba4dc95d8a2f02d374dd7c15277c", func := "interrex/interrexlaw20.LogPlays", spec := "logPlays", named := ["interrex/op.signs"], apart := false, laid := [("interrex/op.signs", laid_interrex_op_signs)], narrowed := true }
def LogPlaysUptoSaid : Prop := logPlaysUptoRow.holds Tryd.pinned (OpenSpec.upto logPlaysSpec)

/-- 'interrexlaw20.LogOf', WHERE WHAT IT READS IS OF BULK AT MOST 1048576: true; the input reads as it did. -/
def logOfUptoRow : OpenClaim := { program := "ytcaihinenfnekaadoor", sum := "db8a8ab1ef133d9174a0552ea4c43b8d7ab2ba4dc95d8a2f02d374dd7c15277c", func := "interrex/interrexlaw20.LogOf", spec := "logOf", unfollowed := true, recurses := true, named := ["interrex/op.signs"], apart := false, laid := [("interrex/op.signs", laid_interrex_op_signs)], narrowed := true }
def LogOfUptoSaid : Prop := logOfUptoRow.holds Tryd.pinned (OpenSpec.upto logOfSpec)

/-- 'interrexlaw14.OpBytes', WHERE WHAT IT READS IS OF BULK AT MOST 1048576: true; the input reads as it did. -/
def opBytesUptoRow : OpenClaim := { program := "ytcaihinenfnekaadoor", sum := "db8a8ab1ef133d9174a0552ea4c43b8d7ab2ba4dc95d8a2f02d374dd7c15277c", func := "interrex/interrexlaw14.OpBytes", spec := "opBytes", named := ["interrex/op.signs"], apart := false, laid := [("interrex/op.signs", laid_interrex_op_signs)], narrowed := true }
def OpBytesUptoSaid : Prop := opBytesUptoRow.holds Tryd.pinned (OpenSpec.upto opBytesSpec)

/-- 'interrexlaw14.OpReads', WHERE WHAT IT READS IS OF BULK AT MOST 1048576: true; the input reads as it did. -/
def opReadsUptoRow : OpenClaim := { program := "ytcaihinenfnekaadoor", sum := "db8a8ab1ef133d9174a0552ea4c43b8d7ab2ba4dc95d8a2f02d374dd7c15277c", func := "interrex/interrexlaw14.OpReads", spec := "opReads", named := ["interrex/op.signs"], apart := false, laid := [("interrex/op.signs", laid_interrex_op_signs)], narrowed := true }
def OpReadsUptoSaid : Prop := opReadsUptoRow.holds Tryd.pinned (OpenSpec.upto opReadsSpec)

/-- 'interrexlaw20.LogAsks', WHERE WHAT IT READS IS OF BULK AT MOST 1048576: true; the input reads as it did. -/
def logAsksUptoRow : OpenClaim := { program := "ytcaihinenfnekaadoor", sum := "db8a8ab1ef133d9174a0552ea4c43b8d7ab2ba4dc95d8a2f02d374dd7c15277c", func := "interrex/interrexlaw20.LogAsks", spec := "logAsks", unfollowed := true, recurses := true, named := ["interrex/op.signs"], apart := false, laid := [("interrex/op.signs", laid_interrex_op_signs)], narrowed := true }
def LogAsksUptoSaid : Prop := logAsksUptoRow.holds Tryd.pinned (OpenSpec.upto logAsksSpec)

/-- 'interrexlaw14.OpReplies', WHERE WHAT IT READS IS OF BULK AT MOST 1048576: true; the input reads as it did. -/
def opRepliesUptoRow : OpenClaim := { program := "ytcaihinenfnekaadoor", sum := "db8a8ab1ef133d9174a0552ea4c43b8d7ab2ba4dc95d8a2f02d374dd7c15277c", func := "interrex/interrexlaw14.OpReplies", spec := "opReplies", named := ["interrex/op.signs"], apart := false, laid := [("interrex/op.signs", laid_interrex_op_signs)], narrowed := true }
def OpRepliesUptoSaid : Prop := opRepliesUptoRow.holds Tryd.pinned (OpenSpec.upto opRepliesSpec)

/-- 'interrexlaw05.NameMails', WHERE WHAT IT READS IS OF BULK AT MOST 1048576: true; the input reads as it did. -/
def nameMailsUptoRow : OpenClaim := { program := "ytcaihinenfnekaadoor", sum := "db8a8ab1ef133d9174a0552ea4c43b8d7ab2ba4dc95d8a2f02d374dd7c15277c", func := "interrex/interrexlaw05.NameMails", spec := "nameMails", inPlace := ["internal/bytealg.IndexByteString", "internal/bytealg.IndexString", "internal/bytealg.CountString"], unfollowed := true, recurses := true, named := ["internal/bytealg.MaxLen", "unicode/utf8.first", "unicode/utf8.acceptRanges"], apart := false, laid := [("unicode/utf8.acceptRanges", laid_unicode_utf8_acceptRanges), ("unicode/utf8.first", laid_unicode_utf8_first)], narrowed := true }
def NameMailsUptoSaid : Prop := nameMailsUptoRow.holds Tryd.pinned (OpenSpec.upto nameMailsSpec)

/-- 'interrexlaw05.NameParts', WHERE WHAT IT READS IS OF BULK AT MOST 1048576: true; the input reads as it did. -/
def namePartsUptoRow : OpenClaim := { program := "ytcaihinenfnekaadoor", sum := "db8a8ab1ef133d9174a0552ea4c43b8d7ab2ba4dc95d8a2f02d374dd7c15277c", func := "interrex/interrexlaw05.NameParts", spec := "nameParts", inPlace := ["internal/bytealg.IndexByteString", "internal/bytealg.IndexString", "internal/bytealg.CountString"], unfollowed := true, recurses := true, named := ["internal/bytealg.MaxLen", "unicode/utf8.first", "unicode/utf8.acceptRanges"], apart := false, laid := [("unicode/utf8.acceptRanges", laid_unicode_utf8_acceptRanges), ("unicode/utf8.first", laid_unicode_utf8_first)], narrowed := true }
def NamePartsUptoSaid : Prop := namePartsUptoRow.holds Tryd.pinned (OpenSpec.upto namePartsSpec)

/-- 'interrexlaw05.NameTells', WHERE WHAT IT READS IS OF BULK AT MOST 1048576: true; the input reads as it did. -/
def nameTellsUptoRow : OpenClaim := { program := "ytcaihinenfnekaadoor", sum := "db8a8ab1ef133d9174a0552ea4c43b8d7ab2ba4dc95d8a2f02d374dd7c15277c", func := "interrex/interrexlaw05.NameTells", spec := "nameTells", inPlace := ["internal/bytealg.IndexByteString", "internal/bytealg.IndexString", "internal/bytealg.CountString"], unfollowed := true, recurses := true, named := ["internal/bytealg.MaxLen", "unicode/utf8.first", "unicode/utf8.acceptRanges"], apart := false, laid := [("unicode/utf8.acceptRanges", laid_unicode_utf8_acceptRanges), ("unicode/utf8.first", laid_unicode_utf8_first)], narrowed := true }
def NameTellsUptoSaid : Prop := nameTellsUptoRow.holds Tryd.pinned (OpenSpec.upto nameTellsSpec)

/-- 'interrexlaw05.NameOrder', WHERE WHAT IT READS IS OF BULK AT MOST 1048576: true; the input reads as it did. -/
def nameOrderUptoRow : OpenClaim := { program := "ytcaihinenfnekaadoor", sum := "db8a8ab1ef133d9174a0552ea4c43b8d7ab2ba4dc95d8a2f02d374dd7c15277c", func := "interrex/interrexlaw05.NameOrder", spec := "nameOrder", inPlace := ["internal/bytealg.IndexByteString", "internal/bytealg.IndexString", "internal/bytealg.CountString"], unfollowed := true, recurses := true, named := ["internal/bytealg.MaxLen", "unicode/utf8.first", "unicode/utf8.acceptRanges"], apart := false, laid := [("unicode/utf8.acceptRanges", laid_unicode_utf8_acceptRanges), ("unicode/utf8.first", laid_unicode_utf8_first)], narrowed := true }
def NameOrderUptoSaid : Prop := nameOrderUptoRow.holds Tryd.pinned (OpenSpec.upto nameOrderSpec)

end Rows
end Go.Proofs.YtcaihinenfnekaaDoor
