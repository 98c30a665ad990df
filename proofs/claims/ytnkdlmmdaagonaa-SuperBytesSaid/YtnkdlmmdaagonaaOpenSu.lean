/- Super blocks and rows of ints among the arguments. -/
import Derived.Test.YtnkdlmmdaagonaaOpen
import Derived.Test.YtnkdlmmdaagonaaSupR1
import Derived.WalkKit
import Derived.ProofKit
namespace Go.Proofs.Ytnkdlmmdaagonaa
open Go.RowKit Go.ChangeShapes Go.WideShapes
theorem u8_natU {n : Int} (h : (Lit.int .u8 n).wf = true) : 0 ≤ n ∧ n < 256 := by
  simp [Lit.wf, IntKind.min, IntKind.max, IntKind.bits, IntKind.signed] at h; omega
theorem u32_natU {n : Int} (h : (Lit.int .u32 n).wf = true) : 0 ≤ n ∧ n < 4294967296 := by
  simp [Lit.wf, IntKind.min, IntKind.max, IntKind.bits, IntKind.signed] at h; omega
theorem u64_natU {n : Int} (h : (Lit.int .u64 n).wf = true) : 0 ≤ n ∧ n < 18446744073709551616 := by
  simp [Lit.wf, IntKind.min, IntKind.max, IntKind.bits, IntKind.signed] at h; omega
theorem listU_9 {α : Type} : ∀ {l : List α}, l.length = 9 → ∃ x0 x1 x2 x3 x4 x5 x6 x7 x8, l = [x0, x1, x2, x3, x4, x5, x6, x7, x8]
  | [x0, x1, x2, x3, x4, x5, x6, x7, x8], _ => ⟨x0, x1, x2, x3, x4, x5, x6, x7, x8, rfl⟩
instance : Inhabited SuV := ⟨zeroS⟩
section
variable {H : Type} {enc : TypeId × Value → H} {w : World}
set_option maxRecDepth 100000 in
theorem open_suC (n : Nat) (cs : List Value) (y : DataW H × List MemPlace) (h : DataW.trod enc Try.prog w 0 (fun _ => true) true n 61 cs = some y) :
    ∃ s : SuV, cs = s.C ∧ s.wf := by
  obtain ⟨xs, m, _, rfl, hl, hlen, hf⟩ := DataW.trod_struct Try.underlying61 h
  have ct : Try.prog.cellsOf 61 = 9 := by kernel_rfl
  have k0 : Try.prog.cellsOf 23 = 1 := by kernel_rfl
  have k1 : Try.prog.cellsOf 5 = 1 := by kernel_rfl
  have k2 : Try.prog.cellsOf 34 = 1 := by kernel_rfl
  rw [ct] at hl
  obtain ⟨v0, v1, v2, v3, v4, v5, v6, v7, v8, rfl⟩ := listU_9 hl
  obtain ⟨x0, x1, x2, x3, x4, x5, x6, x7, x8, rfl⟩ := listU_9 (show xs.length = 9 from hlen)
  have g0 : DataW.trod enc Try.prog w 0 (fun _ => true) true m 23 (([v0, v1, v2, v3, v4, v5, v6, v7, v8].drop 0).take (Try.prog.cellsOf 23)) = some x0 := by
    have := hf 0 _ rfl
    exact this
  rw [k0] at g0
  have f0 : DataW.trod enc Try.prog w 0 (fun _ => true) true m 23 [v0] = some x0 := g0
  have g1 : DataW.trod enc Try.prog w 0 (fun _ => true) true m 23 (([v0, v1, v2, v3, v4, v5, v6, v7, v8].drop 1).take (Try.prog.cellsOf 23)) = some x1 := by
    have := hf 1 _ rfl
    exact this
  rw [k0] at g1
  have f1 : DataW.trod enc Try.prog w 0 (fun _ => true) true m 23 [v1] = some x1 := g1
  have g2 : DataW.trod enc Try.prog w 0 (fun _ => true) true m 23 (([v0, v1, v2, v3, v4, v5, v6, v7, v8].drop 2).take (Try.prog.cellsOf 23)) = some x2 := by
    have := hf 2 _ rfl
    exact this
  rw [k0] at g2
  have f2 : DataW.trod enc Try.prog w 0 (fun _ => true) true m 23 [v2] = some x2 := g2
  have g3 : DataW.trod enc Try.prog w 0 (fun _ => true) true m 23 (([v0, v1, v2, v3, v4, v5, v6, v7, v8].drop 3).take (Try.prog.cellsOf 23)) = some x3 := by
    have := hf 3 _ rfl
    exact this
  rw [k0] at g3
  have f3 : DataW.trod enc Try.prog w 0 (fun _ => true) true m 23 [v3] = some x3 := g3
  have g4 : DataW.trod enc Try.prog w 0 (fun _ => true) true m 5 (([v0, v1, v2, v3, v4, v5, v6, v7, v8].drop 4).take (Try.prog.cellsOf 5)) = some x4 := by
    have := hf 4 _ rfl
    exact this
  rw [k1] at g4
  have f4 : DataW.trod enc Try.prog w 0 (fun _ => true) true m 5 [v4] = some x4 := g4
  have g5 : DataW.trod enc Try.prog w 0 (fun _ => true) true m 5 (([v0, v1, v2, v3, v4, v5, v6, v7, v8].drop 5).take (Try.prog.cellsOf 5)) = some x5 := by
    have := hf 5 _ rfl
    exact this
  rw [k1] at g5
  have f5 : DataW.trod enc Try.prog w 0 (fun _ => true) true m 5 [v5] = some x5 := g5
  have g6 : DataW.trod enc Try.prog w 0 (fun _ => true) true m 23 (([v0, v1, v2, v3, v4, v5, v6, v7, v8].drop 6).take (Try.prog.cellsOf 23)) = some x6 := by
    have := hf 6 _ rfl
    exact this
  rw [k0] at g6
  have f6 : DataW.trod enc Try.prog w 0 (fun _ => true) true m 23 [v6] = some x6 := g6
  have g7 : DataW.trod enc Try.prog w 0 (fun _ => true) true m 34 (([v0, v1, v2, v3, v4, v5, v6, v7, v8].drop 7).take (Try.prog.cellsOf 34)) = some x7 := by
    have := hf 7 _ rfl
    exact this
  rw [k2] at g7
  have f7 : DataW.trod enc Try.prog w 0 (fun _ => true) true m 34 [v7] = some x7 := g7
  have g8 : DataW.trod enc Try.prog w 0 (fun _ => true) true m 34 (([v0, v1, v2, v3, v4, v5, v6, v7, v8].drop 8).take (Try.prog.cellsOf 34)) = some x8 := by
    have := hf 8 _ rfl
    exact this
  rw [k2] at g8
  have f8 : DataW.trod enc Try.prog w 0 (fun _ => true) true m 34 [v8] = some x8 := g8
  obtain ⟨n0, e0, _, w0⟩ := DataW.trod_int Try.underlying23 f0
  simp only [List.cons.injEq, and_true] at e0
  subst e0
  obtain ⟨u0, hu0⟩ := u64_natU w0
  obtain ⟨m0, rfl⟩ := Int.eq_ofNat_of_zero_le u0
  obtain ⟨n1, e1, _, w1⟩ := DataW.trod_int Try.underlying23 f1
  simp only [List.cons.injEq, and_true] at e1
  subst e1
  obtain ⟨u1, hu1⟩ := u64_natU w1
  obtain ⟨m1, rfl⟩ := Int.eq_ofNat_of_zero_le u1
  obtain ⟨n2, e2, _, w2⟩ := DataW.trod_int Try.underlying23 f2
  simp only [List.cons.injEq, and_true] at e2
  subst e2
  obtain ⟨u2, hu2⟩ := u64_natU w2
  obtain ⟨m2, rfl⟩ := Int.eq_ofNat_of_zero_le u2
  obtain ⟨n3, e3, _, w3⟩ := DataW.trod_int Try.underlying23 f3
  simp only [List.cons.injEq, and_true] at e3
  subst e3
  obtain ⟨u3, hu3⟩ := u64_natU w3
  obtain ⟨m3, rfl⟩ := Int.eq_ofNat_of_zero_le u3
  obtain ⟨n4, e4, _, w4⟩ := DataW.trod_int Try.underlying5 f4
  simp only [List.cons.injEq, and_true] at e4
  subst e4
  obtain ⟨u4, hu4⟩ := u8_natU w4
  obtain ⟨m4, rfl⟩ := Int.eq_ofNat_of_zero_le u4
  obtain ⟨n5, e5, _, w5⟩ := DataW.trod_int Try.underlying5 f5
  simp only [List.cons.injEq, and_true] at e5
  subst e5
  obtain ⟨u5, hu5⟩ := u8_natU w5
  obtain ⟨m5, rfl⟩ := Int.eq_ofNat_of_zero_le u5
  obtain ⟨n6, e6, _, w6⟩ := DataW.trod_int Try.underlying23 f6
  simp only [List.cons.injEq, and_true] at e6
  subst e6
  obtain ⟨u6, hu6⟩ := u64_natU w6
  obtain ⟨m6, rfl⟩ := Int.eq_ofNat_of_zero_le u6
  obtain ⟨n7, e7, _, w7⟩ := DataW.trod_int Try.underlying34 f7
  simp only [List.cons.injEq, and_true] at e7
  subst e7
  obtain ⟨u7, hu7⟩ := u32_natU w7
  obtain ⟨m7, rfl⟩ := Int.eq_ofNat_of_zero_le u7
  obtain ⟨n8, e8, _, w8⟩ := DataW.trod_int Try.underlying34 f8
  simp only [List.cons.injEq, and_true] at e8
  subst e8
  obtain ⟨u8, hu8⟩ := u32_natU w8
  obtain ⟨m8, rfl⟩ := Int.eq_ofNat_of_zero_le u8
  exact ⟨⟨m0, m1, m2, m3, m4, m5, m6, m7, m8⟩, rfl, ⟨by simp only []; omega, by simp only []; omega, by simp only []; omega, by simp only []; omega, by simp only []; omega, by simp only []; omega, by simp only []; omega, by simp only []; omega, by simp only []; omega⟩⟩
theorem open_sus {A : Option Addr} {len cap : Nat} {d : DataW H} {ps : List MemPlace} (h : DataW.Trod enc Try.prog w 0 (fun _ => true) true 81 (.slice A len cap) d ps) :
    ∃ L : List SuV, RowAt w A (L.flatMap SuV.C) ∧ L.length = len ∧ len ≤ cap ∧ cap ≤ maxLen ∧ (∀ e ∈ L, e.wf) ∧ (A = none → len = 0 ∧ cap = 0) := by
  obtain ⟨l, h1, h2, h3, h4, h5, h6⟩ := open_rows SuV.C SuV.wf Try.underlying81 open_suC h
  exact ⟨l, h1, h2, h3, h4, h5, h6⟩
set_option maxRecDepth 100000 in
theorem open_su {v : Value} {d : DataW H} {ps : List MemPlace} {r : Reach} {b0 : Nat} {W : World} (hv : Value.okWide Try.prog W r b0 61 v) (h : DataW.Trod enc Try.prog w 0 (fun _ => true) true 61 v d ps) :
    ∃ e : SuV, v = e.v ∧ e.wf := by
  obtain ⟨cs, rfl, _⟩ := okWide_struct Try.underlying61 hv
  obtain ⟨m, hm⟩ := h
  obtain ⟨o, e, ho⟩ := open_suC m _ _ hm
  refine ⟨o, ?_, ho⟩
  have : cs.toList = o.C := e
  unfold SuV.v
  rw [← this]
end
end Go.Proofs.Ytnkdlmmdaagonaa
