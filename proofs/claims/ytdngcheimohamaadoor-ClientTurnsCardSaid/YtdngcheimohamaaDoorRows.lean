/-
  NARROWER THAN 'FOR EVERY INPUT', by the rows' own cells (each row's printed sentence says how): ClientTurns: laid · EntryBytes: laid · EntryReads: laid · EntryGets: laid · EntryRows: laid.
  DERIVED. THE GIVEN ROWS OF THIS SEAT. 5 by the template 'for every input the law returns true; each argument reads behind the call as it read before'; 0 by the template 'total and deterministic' (their statements: YtdngcheimohamaaDoorTotals.lean).
  GIVEN WITH THE SEED: the statements are not yours to turn. If you find one false, say at which input.
  Laid BY PROGRAM, IN A SANDBOX (cutbox-rows.mjs): the forced cells as the released guide's own fill.sh prints them over the translation 3599951d3a2a2ae5… (all of the seat's roots in one cut). By AI agents, Wed Nov 11 2026. No macro, syntax, notation, axiom, sorry.
-/
import Derived.Test.YtdngcheimohamaaDoorChecked
import GoSem.Claim
import GoSem.ClaimJoined
import GoSem.ClaimMapViews
import Derived.JoinedTies
import Derived.KernelRfl
namespace Go.Proofs.YtdngcheimohamaaDoor
/- THE CELL 'sum', in the pinned program and in every row, IS THE sha256 OF THE DUMP (.gsa) THAT YtdngcheimohamaaDoorProg.lean LOADS. Nothing in Lean hashes anything: it is a label: what it is worth is what the hold of that sum in a sandbox is worth. -/
noncomputable def Tryd.pinned : Pinned := { name := "ytdngcheimohamaadoor", sum := "3599951d3a2a2ae553df386e7122a8b527cef822d43d72484228386fe298c710", checked := Tryd.checked }
namespace Rows
def none {H : Type} : Left H := { results := [], args := [] }

/- WHAT THE LISTED PACKAGE-LEVEL VARIABLES READ AS WHEN THE CALL BEGINS. Each datum BY PROGRAM (the guide's laid-datum.mjs) off the statement by which the dump's own 'gosem.cut.vars' lays the variable. In a bare row this is a premise. The card (YtdngcheimohamaaDoorCards.lean) ties it to the program's text. -/
def laid_interrex_op_signs {H : Type} : DataW H := .agg [.lit (.string [97, 98]), .lit (.string [97]), .lit (.string [97, 98]), .lit (.string [97]), .lit (.string [97]), .lit (.string [97, 98]), .lit (.string [97]), .lit (.string [97]), .lit (.string [97, 98]), .lit (.string [97]), .lit (.string [97]), .lit (.string [97, 98]), .lit (.string [97, 98]), .lit (.string [97]), .lit (.string [97]), .lit (.string []), .lit (.string [110, 114])]

/-- 'interrexlaw31.ClientTurns': WHATEVER THE INPUT: true; the input reads as it did. -/
def clientTurnsSpec : ChangeSpec := { name := "clientTurns", fn := fun _ => fun
  | [d1, d2, d3] => { results := [.lit (.bool true)], args := [d1, d2, d3] }
  | _ => none }
def clientTurnsRow : OpenClaim := { program := "ytdngcheimohamaadoor", sum := "3599951d3a2a2ae553df386e7122a8b527cef822d43d72484228386fe298c710", func := "interrex/interrexlaw31.ClientTurns", spec := "clientTurns", named := ["interrex/op.signs"], apart := false, laid := [("interrex/op.signs", laid_interrex_op_signs)] }
def ClientTurnsSaid : Prop := clientTurnsRow.holds Tryd.pinned (OpenSpec.ofChange clientTurnsSpec)

/-- ITS FALSE NEIGHBOUR: 'it returns false'. Refute it at one input. -/
def clientTurnsWrong : ChangeSpec := { name := "clientTurns", fn := fun _ => fun
  | [d1, d2, d3] => { results := [.lit (.bool false)], args := [d1, d2, d3] }
  | _ => none }
def ClientTurnsWrongFalsely : Prop := clientTurnsRow.holds Tryd.pinned (OpenSpec.ofChange clientTurnsWrong)

/-- 'interrexlaw19.EntryBytes': WHATEVER THE INPUT: true; the input reads as it did. -/
def entryBytesSpec : ChangeSpec := { name := "entryBytes", fn := fun _ => fun
  | [d] => { results := [.lit (.bool true)], args := [d] }
  | _ => none }
def entryBytesRow : OpenClaim := { program := "ytdngcheimohamaadoor", sum := "3599951d3a2a2ae553df386e7122a8b527cef822d43d72484228386fe298c710", func := "interrex/interrexlaw19.EntryBytes", spec := "entryBytes", named := ["interrex/op.signs"], apart := false, laid := [("interrex/op.signs", laid_interrex_op_signs)] }
def EntryBytesSaid : Prop := entryBytesRow.holds Tryd.pinned (OpenSpec.ofChange entryBytesSpec)

/-- ITS FALSE NEIGHBOUR: 'it returns false'. Refute it at one input. -/
def entryBytesWrong : ChangeSpec := { name := "entryBytes", fn := fun _ => fun
  | [d] => { results := [.lit (.bool false)], args := [d] }
  | _ => none }
def EntryBytesWrongFalsely : Prop := entryBytesRow.holds Tryd.pinned (OpenSpec.ofChange entryBytesWrong)

/-- 'interrexlaw19.EntryReads': WHATEVER THE INPUT: true; the input reads as it did. -/
def entryReadsSpec : ChangeSpec := { name := "entryReads", fn := fun _ => fun
  | [d] => { results := [.lit (.bool true)], args := [d] }
  | _ => none }
def entryReadsRow : OpenClaim := { program := "ytdngcheimohamaadoor", sum := "3599951d3a2a2ae553df386e7122a8b527cef822d43d72484228386fe298c710", func := "interrex/interrexlaw19.EntryReads", spec := "entryReads", named := ["interrex/op.signs"], apart := false, laid := [("interrex/op.signs", laid_interrex_op_signs)] }
def EntryReadsSaid : Prop := entryReadsRow.holds Tryd.pinned (OpenSpec.ofChange entryReadsSpec)

/-- ITS FALSE NEIGHBOUR: 'it returns false'. Refute it at one input. -/
def entryReadsWrong : ChangeSpec := { name := "entryReads", fn := fun _ => fun
  | [d] => { results := [.lit (.bool false)], args := [d] }
  | _ => none }
def EntryReadsWrongFalsely : Prop := entryReadsRow.holds Tryd.pinned (OpenSpec.ofChange entryReadsWrong)

/-- 'interrexlaw19.EntryGets': WHATEVER THE INPUT: true; the input reads as it did. -/
def entryGetsSpec : ChangeSpec := { name := "entryGets", fn := fun _ => fun
  | [d] => { results := [.lit (.bool true)], args := [d] }
  | _ => none }
def entryGetsRow : OpenClaim := { program := "ytdngcheimohamaadoor", sum := "3599951d3a2a2ae553df386e7122a8b527cef822d43d72484228386fe298c710", func := "interrex/interrexlaw19.EntryGets", spec := "entryGets", named := ["interrex/op.signs"], apart := false, laid := [("interrex/op.signs", laid_interrex_op_signs)] }
def EntryGetsSaid : Prop := entryGetsRow.holds Tryd.pinned (OpenSpec.ofChange entryGetsSpec)

/-- ITS FALSE NEIGHBOUR: 'it returns false'. Refute it at one input. -/
def entryGetsWrong : ChangeSpec := { name := "entryGets", fn := fun _ => fun
  | [d] => { results := [.lit (.bool false)], args := [d] }
  | _ => none }
def EntryGetsWrongFalsely : Prop := entryGetsRow.holds Tryd.pinned (OpenSpec.ofChange entryGetsWrong)

/-- 'interrexlaw19.EntryRows': WHATEVER THE INPUT: true; the input reads as it did. -/
def entryRowsSpec : ChangeSpec := { name := "entryRows", fn := fun _ => fun
  | [d] => { results := [.lit (.bool true)], args := [d] }
  | _ => none }
def entryRowsRow : OpenClaim := { program := "ytdngcheimohamaadoor", sum := "3599951d3a2a2ae553df386e7122a8b527cef822d43d72484228386fe298c710", func := "interrex/interrexlaw19.EntryRows", spec := "entryRows", named := ["interrex/op.signs"], apart := false, laid := [("interrex/op.signs", laid_interrex_op_signs)] }
def EntryRowsSaid : Prop := entryRowsRow.holds Tryd.pinned (OpenSpec.ofChange entryRowsSpec)

/-- ITS FALSE NEIGHBOUR: 'it returns false'. Refute it at one input. -/
def entryRowsWrong : ChangeSpec := { name := "entryRows", fn := fun _ => fun
  | [d] => { results := [.lit (.bool false)], args := [d] }
  | _ => none }
def EntryRowsWrongFalsely : Prop := entryRowsRow.holds Tryd.pinned (OpenSpec.ofChange entryRowsWrong)

/- THE SECOND FORM. 'bulk': how many values and letters a reading holds, each counted each time it is reached (what is shared counts as often as it is met; a slice's spare places count too). A statement '..UptoSaid' is the law's where the arguments, and the package variables that the reading takes, are together of bulk at most 1048576: NARROWER than '..Said'. Prove '..Said' where nothing that the law and all that it calls make is longer than what came in: it says more and counts as full. Else prove '..UptoSaid'. A law counts once. -/
mutual
def uptoBulk {H : Type} : DataW H → Nat
  | .lit (.string bytes) => bytes.length + 1
  | .lit _ => 1
  | .nil => 1
  | .ptr d => uptoBulk d + 1
  | .slice elems spare => uptoBulkAll elems + uptoBulkAll spare + 1
  | .agg parts => uptoBulkAll parts + 1
  | .iface _ d => uptoBulk d + 1
  | .map entries => uptoBulkEntries entries + 1
  | .held _ => 1
def uptoBulkAll {H : Type} : List (DataW H) → Nat
  | [] => 0
  | d :: r => uptoBulk d + uptoBulkAll r
def uptoBulkEntries {H : Type} : List (Lit × DataW H) → Nat
  | [] => 0
  | x :: r => uptoBulkEntry x + uptoBulkEntries r
def uptoBulkEntry {H : Type} : Lit × DataW H → Nat
  | (.string bytes, d) => bytes.length + uptoBulk d + 1
  | (_, d) => uptoBulk d + 1
 end
def uptoSmall : (H : Type) → List (DataW H) → Bool := fun _ ds => decide (uptoBulkAll ds ≤ 1048576)
def OpenSpec.upto (s : _root_.Go.ChangeSpec) : _root_.Go.OpenSpec := { _root_.Go.OpenSpec.ofChange s with cond := some uptoSmall }

/-- 'interrexlaw31.ClientTurns', WHERE WHAT IT READS IS OF BULK AT MOST 1048576: true; the input reads as it did. -/
def clientTurnsUptoRow : OpenClaim := { program := "ytdngcheimohamaadoor", sum := "3599951d3a2a2ae553df386e7122a8b527cef822d43d72484228386fe298c710", func := "interrex/interrexlaw31.ClientTurns", spec := "clientTurns", named := ["interrex/op.signs"], apart := false, laid := [("interrex/op.signs", laid_interrex_op_signs)], narrowed := true }
def ClientTurnsUptoSaid : Prop := clientTurnsUptoRow.holds Tryd.pinned (OpenSpec.upto clientTurnsSpec)

/-- 'interrexlaw19.EntryBytes', WHERE WHAT IT READS IS OF BULK AT MOST 1048576: true; the input reads as it did. -/
def entryBytesUptoRow : OpenClaim := { program := "ytdngcheimohamaadoor", sum := "3599951d3a2a2ae553df386e7122a8b527cef822d43d72484228386fe298c710", func := "interrex/interrexlaw19.EntryBytes", spec := "entryBytes", named := ["interrex/op.signs"], apart := false, laid := [("interrex/op.signs", laid_interrex_op_signs)], narrowed := true }
def EntryBytesUptoSaid : Prop := entryBytesUptoRow.holds Tryd.pinned (OpenSpec.upto entryBytesSpec)

/-- 'interrexlaw19.EntryReads', WHERE WHAT IT READS IS OF BULK AT MOST 1048576: true; the input reads as it did. -/
def entryReadsUptoRow : OpenClaim := { program := "ytdngcheimohamaadoor", sum := "3599951d3a2a2ae553df386e7122a8b527cef822d43d72484228386fe298c710", func := "interrex/interrexlaw19.EntryReads", spec := "entryReads", named := ["interrex/op.signs"], apart := false, laid := [("interrex/op.signs", laid_interrex_op_signs)], narrowed := true }
def EntryReadsUptoSaid : Prop := entryReadsUptoRow.holds Tryd.pinned (OpenSpec.upto entryReadsSpec)

/-- 'interrexlaw19.EntryGets', WHERE WHAT IT READS IS OF BULK AT MOST 1048576: true; the input reads as it did. -/
def entryGetsUptoRow : OpenClaim := { program := "ytdngcheimohamaadoor", sum := "3599951d3a2a2ae553df386e7122a8b527cef822d43d72484228386fe298c710", func := "interrex/interrexlaw19.EntryGets", spec := "entryGets", named := ["interrex/op.signs"], apart := false, laid := [("interrex/op.signs", laid_interrex_op_signs)], narrowed := true }
def EntryGetsUptoSaid : Prop := entryGetsUptoRow.holds Tryd.pinned (OpenSpec.upto entryGetsSpec)

/-- 'interrexlaw19.EntryRows', WHERE WHAT IT READS IS OF BULK AT MOST 1048576: true; the input reads as it did. -/
def entryRowsUptoRow : OpenClaim := { program := "ytdngcheimohamaadoor", sum := "3599951d3a2a2ae553df386e7122a8b527cef822d43d72484228386fe298c710", func := "interrex/interrexlaw19.EntryRows", spec := "entryRows", named := ["interrex/op.signs"], apart := false, laid := [("interrex/op.signs", laid_interrex_op_signs)], narrowed := true }
def EntryRowsUptoSaid : Prop := entryRowsUptoRow.holds Tryd.pinned (OpenSpec.upto entryRowsSpec)

end Rows
end Go.Proofs.YtdngcheimohamaaDoor
