/- Acts of chapter 24 among the arguments. -/
import Derived.Test.YtnkdlmmdaagonaaSlot7
import Derived.Test.YtnkdlmmdaagonaaOpenBytes
import Derived.WalkKit
import Derived.ProofKit
namespace Go.Proofs.Ytnkdlmmdaagonaa
open Go.RowKit Go.ChangeShapes Go.WideShapes
theorem u8_natK {n : Int} (h : (Lit.int .u8 n).wf = true) : 0 ≤ n ∧ n < 256 := by
  simp [Lit.wf, IntKind.min, IntKind.max, IntKind.bits, IntKind.signed] at h; omega
theorem u64_natK {n : Int} (h : (Lit.int .u64 n).wf = true) : 0 ≤ n ∧ n < 18446744073709551616 := by
  simp [Lit.wf, IntKind.min, IntKind.max, IntKind.bits, IntKind.signed] at h; omega
theorem i64_okK {n : Int} (h : (Lit.int .i64 n).wf = true) : -9223372036854775808 ≤ n ∧ n ≤ 9223372036854775807 := by
  simp [Lit.wf, IntKind.min, IntKind.max, IntKind.bits, IntKind.signed] at h; omega
theorem listK_5 {α : Type} : ∀ {l : List α}, l.length = 5 → ∃ x0 x1 x2 x3 x4, l = [x0, x1, x2, x3, x4]
  | [x0, x1, x2, x3, x4], _ => ⟨x0, x1, x2, x3, x4, rfl⟩
instance : Inhabited ActK := ⟨⟨0, 0, 0, none, 0, 0, [], 0⟩⟩
section
variable {H : Type} {enc : TypeId × Value → H} {w : World}
set_option maxRecDepth 100000 in
theorem open_actK (n : Nat) (cs : List Value) (y : DataW H × List MemPlace) (h : DataW.trod enc Try.prog w 0 (fun _ => true) true n 25 cs = some y) :
    ∃ a : ActK, cs = a.C ∧ a.ok w := by
  obtain ⟨xs, m, _, rfl, hl, hlen, hf⟩ := DataW.trod_struct Try.underlying25 h
  have ct : Try.prog.cellsOf 25 = 5 := by kernel_rfl
  have k0 : Try.prog.cellsOf 5 = 1 := by kernel_rfl
  have k1 : Try.prog.cellsOf 3 = 1 := by kernel_rfl
  have k2 : Try.prog.cellsOf 22 = 1 := by kernel_rfl
  have k3 : Try.prog.cellsOf 23 = 1 := by kernel_rfl
  rw [ct] at hl
  obtain ⟨v0, v1, v2, v3, v4, rfl⟩ := listK_5 hl
  obtain ⟨x0, x1, x2, x3, x4, rfl⟩ := listK_5 (show xs.length = 5 from hlen)
  have g0 : DataW.trod enc Try.prog w 0 (fun _ => true) true m 5 (([v0, v1, v2, v3, v4].drop 0).take (Try.prog.cellsOf 5)) = some x0 := by
    have := hf 0 _ rfl
    exact this
  rw [k0] at g0
  have f0 : DataW.trod enc Try.prog w 0 (fun _ => true) true m 5 [v0] = some x0 := g0
  have g1 : DataW.trod enc Try.prog w 0 (fun _ => true) true m 5 (([v0, v1, v2, v3, v4].drop 1).take (Try.prog.cellsOf 5)) = some x1 := by
    have := hf 1 _ rfl
    exact this
  rw [k0] at g1
  have f1 : DataW.trod enc Try.prog w 0 (fun _ => true) true m 5 [v1] = some x1 := g1
  have g2 : DataW.trod enc Try.prog w 0 (fun _ => true) true m 3 (([v0, v1, v2, v3, v4].drop 2).take (Try.prog.cellsOf 3)) = some x2 := by
    have := hf 2 _ rfl
    exact this
  rw [k1] at g2
  have f2 : DataW.trod enc Try.prog w 0 (fun _ => true) true m 3 [v2] = some x2 := g2
  have g3 : DataW.trod enc Try.prog w 0 (fun _ => true) true m 22 (([v0, v1, v2, v3, v4].drop 3).take (Try.prog.cellsOf 22)) = some x3 := by
    have := hf 3 _ rfl
    exact this
  rw [k2] at g3
  have f3 : DataW.trod enc Try.prog w 0 (fun _ => true) true m 22 [v3] = some x3 := g3
  have g4 : DataW.trod enc Try.prog w 0 (fun _ => true) true m 23 (([v0, v1, v2, v3, v4].drop 4).take (Try.prog.cellsOf 23)) = some x4 := by
    have := hf 4 _ rfl
    exact this
  rw [k3] at g4
  have f4 : DataW.trod enc Try.prog w 0 (fun _ => true) true m 23 [v4] = some x4 := g4
  obtain ⟨n0, e0, _, w0⟩ := DataW.trod_int Try.underlying5 f0
  simp only [List.cons.injEq, and_true] at e0
  subst e0
  obtain ⟨u0, hu0⟩ := u8_natK w0
  obtain ⟨m0, rfl⟩ := Int.eq_ofNat_of_zero_le u0
  obtain ⟨n1, e1, _, w1⟩ := DataW.trod_int Try.underlying5 f1
  simp only [List.cons.injEq, and_true] at e1
  subst e1
  obtain ⟨u1, hu1⟩ := u8_natK w1
  obtain ⟨m1, rfl⟩ := Int.eq_ofNat_of_zero_le u1
  obtain ⟨n2, e2, _, w2⟩ := DataW.trod_int Try.underlying3 f2
  simp only [List.cons.injEq, and_true] at e2
  subst e2
  obtain ⟨A3, len3, cap3, rfl⟩ : ∃ A len cap, v3 = .slice A len cap := by
    rcases DataW.trod_slice Try.underlying22 f3 with ⟨e, _⟩ | ⟨a, len, cap, _, _, _, _, e, _⟩
    · simp only [List.cons.injEq, and_true] at e; exact ⟨_, _, _, e⟩
    · simp only [List.cons.injEq, and_true] at e; exact ⟨_, _, _, e⟩
  obtain ⟨ss3, sr3, sl3, sc3, sm3, sn3⟩ := open_bytes (w := w) (enc := enc) (d := x3.1) (ps := x3.2) ⟨m, by simpa [Value.cells] using f3⟩
  obtain ⟨n4, e4, _, w4⟩ := DataW.trod_int Try.underlying23 f4
  simp only [List.cons.injEq, and_true] at e4
  subst e4
  obtain ⟨u4, hu4⟩ := u64_natK w4
  obtain ⟨m4, rfl⟩ := Int.eq_ofNat_of_zero_le u4
  exact ⟨⟨m0, m1, n2, A3, len3, cap3, ss3, m4⟩, rfl, ⟨by simp only []; omega, by simp only []; omega, i64_okK w2, sr3, sl3, sc3, by have := sm3; unfold maxLen at this; simp only []; omega, sn3, by simp only []; omega⟩⟩
theorem open_actsK {A : Option Addr} {len cap : Nat} {d : DataW H} {ps : List MemPlace} (h : DataW.Trod enc Try.prog w 0 (fun _ => true) true 28 (.slice A len cap) d ps) :
    ∃ L : List ActK, RowAt w A (L.flatMap ActK.C) ∧ L.length = len ∧ len ≤ cap ∧ cap ≤ maxLen ∧ (∀ e ∈ L, e.ok w) ∧ (A = none → len = 0 ∧ cap = 0) := by
  obtain ⟨l, h1, h2, h3, h4, h5, h6⟩ := open_rows ActK.C (ActK.ok w) Try.underlying28 open_actK h
  exact ⟨l, h1, h2, h3, h4, h5, h6⟩
set_option maxRecDepth 100000 in
theorem open_actV {v : Value} {d : DataW H} {ps : List MemPlace} {r : Reach} {b0 : Nat} {W : World} (hv : Value.okWide Try.prog W r b0 25 v) (h : DataW.Trod enc Try.prog w 0 (fun _ => true) true 25 v d ps) :
    ∃ e : ActK, v = .agg e.C.toArray ∧ e.ok w := by
  obtain ⟨cs, rfl, _⟩ := okWide_struct Try.underlying25 hv
  obtain ⟨m, hm⟩ := h
  obtain ⟨o, e, ho⟩ := open_actK m _ _ hm
  refine ⟨o, ?_, ho⟩
  have : cs.toList = o.C := e
  rw [← this]
end
end Go.Proofs.Ytnkdlmmdaagonaa
