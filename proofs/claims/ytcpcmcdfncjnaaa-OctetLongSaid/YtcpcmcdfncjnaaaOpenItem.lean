/- A slice of Items among the arguments. -/
import Derived.Test.YtcpcmcdfncjnaaaOpen
import Derived.Test.YtcpcmcdfncjnaaaWrites
namespace Go.Proofs.Ytcpcmcdfncjnaaa
open Go.RowKit Go.ChangeShapes Go.WideShapes
instance : Inhabited Item := ⟨⟨0, 0, false, ByteArray.empty, none, 0, [], 0, 0, 0⟩⟩
theorem u8_nat {n : Int} (h : (Lit.int .u8 n).wf = true) : 0 ≤ n ∧ n < 256 := by
  simp [Lit.wf, IntKind.min, IntKind.max, IntKind.bits, IntKind.signed] at h; omega
theorem i64_int {n : Int} (h : (Lit.int .i64 n).wf = true) : -9223372036854775808 ≤ n ∧ n ≤ 9223372036854775807 := by
  simp [Lit.wf, IntKind.min, IntKind.max, IntKind.bits, IntKind.signed] at h; omega
theorem u64_nat {n : Int} (h : (Lit.int .u64 n).wf = true) : 0 ≤ n ∧ n ≤ 18446744073709551615 := by
  simp [Lit.wf, IntKind.min, IntKind.max, IntKind.bits, IntKind.signed] at h; omega
section
variable {H : Type} {enc : TypeId × Value → H} {w : World}
theorem open_item (n : Nat) (cs : List Value) (y : DataW H × List MemPlace) (h : DataW.trod enc Try.prog w 0 (fun _ => true) true n 27 cs = some y) :
    ∃ i : Item, cs = i.cells ∧ (ItemOK i ∧ RowAt w i.LA (strs i.L)) := by
  obtain ⟨xs, m, _, rfl, hl, hlen, hf⟩ := DataW.trod_struct Try.underlying27 h
  have c8 : Try.prog.cellsOf 27 = 8 := by kernel_rfl
  have k5 : Try.prog.cellsOf 5 = 1 := by kernel_rfl
  have k25 : Try.prog.cellsOf 25 = 1 := by kernel_rfl
  have k4 : Try.prog.cellsOf 4 = 1 := by kernel_rfl
  have k9 : Try.prog.cellsOf 9 = 1 := by kernel_rfl
  have k22 : Try.prog.cellsOf 22 = 1 := by kernel_rfl
  have k3 : Try.prog.cellsOf 3 = 1 := by kernel_rfl
  rw [c8] at hl
  obtain ⟨v0, v1, v2, v3, v4, v5, v6, v7, rfl⟩ := list8 hl
  obtain ⟨x0, x1, x2, x3, x4, x5, x6, x7, rfl⟩ := list8 (show xs.length = 8 from hlen)
  have g0 : DataW.trod enc Try.prog w 0 (fun _ => true) true m 5 (([v0, v1, v2, v3, v4, v5, v6, v7].drop 0).take (Try.prog.cellsOf 5)) = some x0 := hf 0 _ rfl
  rw [k5] at g0
  have f0 : DataW.trod enc Try.prog w 0 (fun _ => true) true m 5 [v0] = some x0 := g0
  have g1 : DataW.trod enc Try.prog w 0 (fun _ => true) true m 25 (([v0, v1, v2, v3, v4, v5, v6, v7].drop 1).take (Try.prog.cellsOf 25)) = some x1 := hf 1 _ rfl
  rw [k25] at g1
  have f1 : DataW.trod enc Try.prog w 0 (fun _ => true) true m 25 [v1] = some x1 := g1
  have g2 : DataW.trod enc Try.prog w 0 (fun _ => true) true m 4 (([v0, v1, v2, v3, v4, v5, v6, v7].drop 2).take (Try.prog.cellsOf 4)) = some x2 := hf 2 _ rfl
  rw [k4] at g2
  have f2 : DataW.trod enc Try.prog w 0 (fun _ => true) true m 4 [v2] = some x2 := g2
  have g3 : DataW.trod enc Try.prog w 0 (fun _ => true) true m 9 (([v0, v1, v2, v3, v4, v5, v6, v7].drop 3).take (Try.prog.cellsOf 9)) = some x3 := hf 3 _ rfl
  rw [k9] at g3
  have f3 : DataW.trod enc Try.prog w 0 (fun _ => true) true m 9 [v3] = some x3 := g3
  have g4 : DataW.trod enc Try.prog w 0 (fun _ => true) true m 22 (([v0, v1, v2, v3, v4, v5, v6, v7].drop 4).take (Try.prog.cellsOf 22)) = some x4 := hf 4 _ rfl
  rw [k22] at g4
  have f4 : DataW.trod enc Try.prog w 0 (fun _ => true) true m 22 [v4] = some x4 := g4
  have g5 : DataW.trod enc Try.prog w 0 (fun _ => true) true m 3 (([v0, v1, v2, v3, v4, v5, v6, v7].drop 5).take (Try.prog.cellsOf 3)) = some x5 := hf 5 _ rfl
  rw [k3] at g5
  have f5 : DataW.trod enc Try.prog w 0 (fun _ => true) true m 3 [v5] = some x5 := g5
  have g6 : DataW.trod enc Try.prog w 0 (fun _ => true) true m 3 (([v0, v1, v2, v3, v4, v5, v6, v7].drop 6).take (Try.prog.cellsOf 3)) = some x6 := hf 6 _ rfl
  rw [k3] at g6
  have f6 : DataW.trod enc Try.prog w 0 (fun _ => true) true m 3 [v6] = some x6 := g6
  have g7 : DataW.trod enc Try.prog w 0 (fun _ => true) true m 3 (([v0, v1, v2, v3, v4, v5, v6, v7].drop 7).take (Try.prog.cellsOf 3)) = some x7 := hf 7 _ rfl
  rw [k3] at g7
  have f7 : DataW.trod enc Try.prog w 0 (fun _ => true) true m 3 [v7] = some x7 := g7
  obtain ⟨n0, e0, _, w0⟩ := DataW.trod_int Try.underlying5 f0
  obtain ⟨n1, e1, _, w1⟩ := DataW.trod_int Try.underlying25 f1
  obtain ⟨n2, e2, _⟩ := DataW.trod_bool Try.underlying4 f2
  obtain ⟨n3, e3, _, _⟩ := DataW.trod_string Try.underlying9 f3
  obtain ⟨n5, e5, _, w5⟩ := DataW.trod_int Try.underlying3 f5
  obtain ⟨n6, e6, _, w6⟩ := DataW.trod_int Try.underlying3 f6
  obtain ⟨n7, e7, _, w7⟩ := DataW.trod_int Try.underlying3 f7
  simp only [List.cons.injEq, and_true] at e0 e1 e2 e3 e5 e6 e7
  subst e0 e1 e2 e3 e5 e6 e7
  obtain ⟨u0, u1⟩ := u8_nat w0
  obtain ⟨u2, u3⟩ := u64_nat w1
  obtain ⟨m0, rfl⟩ := Int.eq_ofNat_of_zero_le u0
  obtain ⟨m1, rfl⟩ := Int.eq_ofNat_of_zero_le u2
  obtain ⟨A, len, cap, rfl⟩ : ∃ A len cap, v4 = .slice A len cap := by
    rcases DataW.trod_slice Try.underlying22 f4 with ⟨e, _⟩ | ⟨a, len, cap, _, _, _, _, e, _⟩
    · simp only [List.cons.injEq, and_true] at e; exact ⟨_, _, _, e⟩
    · simp only [List.cons.injEq, and_true] at e; exact ⟨_, _, _, e⟩
  obtain ⟨ss, r1, rfl, r3, r4, r5, _⟩ := open_strs (P := Try.prog) (w := w) (enc := enc) (d := x4.1) (ps := x4.2) Try.underlying22 Try.underlying9 k9 ⟨m, by simpa [Value.cells] using f4⟩
  exact ⟨⟨m0, m1, n2, n3, A, cap, ss, n5, n6, n7⟩, rfl, ⟨Int.ofNat_lt.1 u1, Int.ofNat_le.1 u3, r3, Nat.le_trans r3 r4, ⟨(i64_int w5).1, (i64_int w5).2, (i64_int w6).1, (i64_int w6).2, (i64_int w7).1, (i64_int w7).2⟩⟩, r1⟩
theorem open_items {A : Option Addr} {len cap : Nat} {d : DataW H} {ps : List MemPlace} (h : DataW.Trod enc Try.prog w 0 (fun _ => true) true 28 (.slice A len cap) d ps) :
    ∃ l : List Item, ItemsAt w A l ∧ l.length = len ∧ len ≤ cap ∧ cap ≤ maxLen ∧ (∀ i ∈ l, ItemOK i) ∧ (A = none → len = 0 ∧ cap = 0) := by
  obtain ⟨l, h1, h2, h3, h4, h5, h6⟩ := open_rows Item.cells (fun i => ItemOK i ∧ RowAt w i.LA (strs i.L)) Try.underlying28 open_item h
  exact ⟨l, ⟨h1, fun i hi => (h5 i hi).2⟩, h2, h3, h4, fun i hi => (h5 i hi).1, h6⟩
end
theorem writes_law (w : World) (A : Option Addr) (n c : Nat) (l : List Item) (o : ItemsAt w A l ∧ l.length = n ∧ n ≤ c ∧ c ≤ maxLen ∧ (∀ i ∈ l, ItemOK i) ∧ (A = none → n = 0 ∧ c = 0)) :
    Calls Try.prog 5 #[.slice A n c] w (BoolPost w true) :=
  writes_walk w A n c l o.1 o.2.1 (Nat.le_trans o.2.2.1 o.2.2.2.1) o.2.2.2.2.1
end Go.Proofs.Ytcpcmcdfncjnaaa
