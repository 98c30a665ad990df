/- interrexlaw01.lives. -/
import Derived.Test.YtcpcmcdfncjnaaaWr4
import Derived.Test.YtcpcmcdfncjnaaaConv
import Derived.LaidEqlPtr
namespace Go.Proofs.Ytcpcmcdfncjnaaa
open Go.RowKit

theorem WrAt.new (w : World) : WrAt (w.alloc (.cells #[.slice none 0 0] 32)) (upB w.heap.size) w.heap.size [] :=
  ⟨none, 0, _, by decide, heap_alloc_new w _, World.ownsRow_nil _ _ _ _, Nat.le_refl _, fun k h => by simp [Value.ownBlock] at h⟩
theorem WrAt.up {w : World} {n : Nat} {p : Nat} {bs : List UInt8} (h : WrAt w (andNew (upB n) w) p bs) (hn : n ≤ w.heap.size) : WrAt w (upB n) p bs :=
  h.mono fun k _ hk => hk.elim id fun q => Nat.le_trans hn q
theorem WrAt.up' {w0 w : World} {n : Nat} {p : Nat} {bs : List UInt8} (h : WrAt w (andNew (upB n) w0) p bs) (hn : n ≤ w0.heap.size) : WrAt w (upB n) p bs :=
  h.mono fun k _ hk => hk.elim id fun q => Nat.le_trans hn q

theorem Try.eqlW (w : World) (a : Addr) : (binOp .eql 29 (.pointer (some a)) (.pointer (some a))).run Try.prog w = .ok (.bool true) w :=
  run_eql_ptr_same w (te := 32) a Try.underlying29 (show Try.prog.info? 32 = some Try.t32 by kernel_rfl)

set_option maxRecDepth 100000 in
set_option maxHeartbeats 1600000 in
theorem lives1_calls (w : World) : Calls Try.prog 14 #[] w fun e w' => e = .returned (.bool true) ∧ Fr noB w w' := by
  have hw := WrAt.new w
  have heq := Try.eqlW
  go_enter Try.func14, Try.ntmps14
  go_wp2_with fail
  refine (four_calls _ _ _ _ 258 hw (by omega) (by simp)).mono ?_
  rintro e w1 ⟨rfl, h1, f1⟩
  have H1 := hid (h1.up' (by simp))
  have F1 := hid f1
  clear h1 f1 hw
  go_wp2_with fail
  refine (text_calls w1 _ _ _ ⟨#[97]⟩ H1.out (by decide) (by decide)).mono ?_
  rintro e w2 ⟨rfl, h2, f2⟩
  have hs : w.heap.size < w1.heap.size := by have := F1.out.size; simp at this; omega
  have H2 := hid (h2.up' (by omega))
  have F2 := hid f2
  clear h2 f2
  go_wp2_with fail
  refine (bytes_calls w2 _ _ _ H2.out (by decide)).mono ?_
  rintro e w3 ⟨A, c, rfl, h3, f3⟩
  have R3 := Try.toStr (own_row h3) (show _ = 7 by decide) c
  have e7 : (([] : List UInt8) ++ leB 4 258 ++ textB ⟨#[97]⟩).length = 7 := by decide
  rw [e7]
  clear e7
  have hk : mkS ([] ++ leB 4 258 ++ textB ⟨#[97]⟩) = ⟨#[2, 1, 0, 0, 1, 0, 97]⟩ := by decide
  rw [hk] at R3
  have F3 := hid f3
  clear h3 f3 hk
  go_wp2_with fail
  go_ret
  refine ⟨rfl, ?_⟩
  refine Fr.trans (T := upB w.heap.size) ((Fr.refl noB w).alloc _) ((F1.out.then' F2.out).trans F3.out (fun _ _ h => h.elim)) (fun i hi h => absurd h (by unfold upB; omega))
end Go.Proofs.Ytcpcmcdfncjnaaa
