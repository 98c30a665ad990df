/- interrexlaw01.lives. -/
import Derived.Test.YtnkdlmmdaagonaaWr4
import Derived.Test.YtnkdlmmdaagonaaConv
import Derived.LaidEqlPtr
namespace Go.Proofs.Ytnkdlmmdaagonaa
open Go.RowKit

theorem WrAt.new (w : World) : WrAt (w.alloc (.cells #[.slice none 0 0] 113)) (upB w.heap.size) w.heap.size [] :=
  ⟨none, 0, _, by decide, heap_alloc_new w _, World.ownsRow_nil _ _ _ _, Nat.le_refl _, fun k h => by simp [Value.ownBlock] at h⟩
theorem WrAt.up {w : World} {n : Nat} {p : Nat} {bs : List UInt8} (h : WrAt w (andNew (upB n) w) p bs) (hn : n ≤ w.heap.size) : WrAt w (upB n) p bs :=
  h.mono fun k _ hk => hk.elim id fun q => Nat.le_trans hn q
theorem WrAt.up' {w0 w : World} {n : Nat} {p : Nat} {bs : List UInt8} (h : WrAt w (andNew (upB n) w0) p bs) (hn : n ≤ w0.heap.size) : WrAt w (upB n) p bs :=
  h.mono fun k _ hk => hk.elim id fun q => Nat.le_trans hn q

theorem Try.eqlW (w : World) (a : Addr) : (binOp .eql 111 (.pointer (some a)) (.pointer (some a))).run Try.prog w = .ok (.bool true) w :=
  run_eql_ptr_same w (te := 113) a Try.underlying111 (show Try.prog.info? 113 = some Try.t113 by kernel_rfl)

end Go.Proofs.Ytnkdlmmdaagonaa
