/- Contracts, several texts in one. -/
import Derived.Test.YtnkdlmmdaagonaaOpen
import Derived.Test.YtnkdlmmdaagonaaSupR1
import Derived.WalkKit
import Derived.ProofKit
import Derived.Test.YtnkdlmmdaagonaaWr
import Derived.Test.YtnkdlmmdaagonaaOpenBytes
/- Super blocks and rows of ints among the arguments. -/
namespace Go.Proofs.Ytnkdlmmdaagonaa
open Go.RowKit Go.ChangeShapes Go.WideShapes
theorem u8_natU {n : Int} (h : (Lit.int .u8 n).wf = true) : 0 ≤ n ∧ n < 256 := by
  simp [Lit.wf, IntKind.min, IntKind.max, IntKind.bits, IntKind.signed] at h; omega
theorem u32_natU {n : Int} (h : (Lit.int .u32 n).wf = true) : 0 ≤ n ∧ n < 4294967296 := by
  simp [Lit.wf, IntKind.min, IntKind.max, IntKind.bits, IntKind.signed] at h; omega
theorem u64_natU {n : Int} (h : (Lit.int .u64 n).wf = true) : 0 ≤ n ∧ n < 18446744073709551616 := by
  simp [Lit.wf, IntKind.min, IntKind.max, IntKind.bits, IntKind.signed] at h; omega
theorem listU_9 {α : Type} : ∀ {l : List α}, l.length = 9 → ∃ x0 x1 x2 x3 x4 x5 x6 x7 x8, l = [x0, x1, x2, x3, x4, x5, x6, x7, x8]
  | [x0, x1, x2, x3, x4, x5, x6, x7, x8], _ => ⟨x0, x1, x2, x3, x4, x5, x6, x7, x8, rfl⟩
instance : Inhabited SuV := ⟨zeroS⟩
section
variable {H : Type} {enc : TypeId × Value → H} {w : World}
set_option maxRecDepth 100000 in
theorem open_suC (n : Nat) (cs : List Value) (y : DataW H × List MemPlace) (h : DataW.trod enc Try.prog w 0 (fun _ => true) true n 61 cs = some y) :
    ∃ s : SuV, cs = s.C ∧ s.wf := by
  obtain ⟨xs, m, _, rfl, hl, hlen, hf⟩ := DataW.trod_struct Try.underlying61 h
  have ct : Try.prog.cellsOf 61 = 9 := by kernel_rfl
  have k0 : Try.prog.cellsOf 23 = 1 := by kernel_rfl
  have k1 : Try.prog.cellsOf 5 = 1 := by kernel_rfl
  have k2 : Try.prog.cellsOf 34 = 1 := by kernel_rfl
  rw [ct] at hl
  obtain ⟨v0, v1, v2, v3, v4, v5, v6, v7, v8, rfl⟩ := listU_9 hl
  obtain ⟨x0, x1, x2, x3, x4, x5, x6, x7, x8, rfl⟩ := listU_9 (show xs.length = 9 from hlen)
  have g0 : DataW.trod enc Try.prog w 0 (fun _ => true) true m 23 (([v0, v1, v2, v3, v4, v5, v6, v7, v8].drop 0).take (Try.prog.cellsOf 23)) = some x0 := by
    have := hf 0 _ rfl
    exact this
  rw [k0] at g0
  have f0 : DataW.trod enc Try.prog w 0 (fun _ => true) true m 23 [v0] = some x0 := g0
  have g1 : DataW.trod enc Try.prog w 0 (fun _ => true) true m 23 (([v0, v1, v2, v3, v4, v5, v6, v7, v8].drop 1).take (Try.prog.cellsOf 23)) = some x1 := by
    have := hf 1 _ rfl
    exact this
  rw [k0] at g1
  have f1 : DataW.trod enc Try.prog w 0 (fun _ => true) true m 23 [v1] = some x1 := g1
  have g2 : DataW.trod enc Try.prog w 0 (fun _ => true) true m 23 (([v0, v1, v2, v3, v4, v5, v6, v7, v8].drop 2).take (Try.prog.cellsOf 23)) = some x2 := by
    have := hf 2 _ rfl
    exact this
  rw [k0] at g2
  have f2 : DataW.trod enc Try.prog w 0 (fun _ => true) true m 23 [v2] = some x2 := g2
  have g3 : DataW.trod enc Try.prog w 0 (fun _ => true) true m 23 (([v0, v1, v2, v3, v4, v5, v6, v7, v8].drop 3).take (Try.prog.cellsOf 23)) = some x3 := by
    have := hf 3 _ rfl
    exact this
  rw [k0] at g3
  have f3 : DataW.trod enc Try.prog w 0 (fun _ => true) true m 23 [v3] = some x3 := g3
  have g4 : DataW.trod enc Try.prog w 0 (fun _ => true) true m 5 (([v0, v1, v2, v3, v4, v5, v6, v7, v8].drop 4).take (Try.prog.cellsOf 5)) = some x4 := by
    have := hf 4 _ rfl
    exact this
  rw [k1] at g4
  have f4 : DataW.trod enc Try.prog w 0 (fun _ => true) true m 5 [v4] = some x4 := g4
  have g5 : DataW.trod enc Try.prog w 0 (fun _ => true) true m 5 (([v0, v1, v2, v3, v4, v5, v6, v7, v8].drop 5).take (Try.prog.cellsOf 5)) = some x5 := by
    have := hf 5 _ rfl
    exact this
  rw [k1] at g5
  have f5 : DataW.trod enc Try.prog w 0 (fun _ => true) true m 5 [v5] = some x5 := g5
  have g6 : DataW.trod enc Try.prog w 0 (fun _ => true) true m 23 (([v0, v1, v2, v3, v4, v5, v6, v7, v8].drop 6).take (Try.prog.cellsOf 23)) = some x6 := by
    have := hf 6 _ rfl
    exact this
  rw [k0] at g6
  have f6 : DataW.trod enc Try.prog w 0 (fun _ => true) true m 23 [v6] = some x6 := g6
  have g7 : DataW.trod enc Try.prog w 0 (fun _ => true) true m 34 (([v0, v1, v2, v3, v4, v5, v6, v7, v8].drop 7).take (Try.prog.cellsOf 34)) = some x7 := by
    have := hf 7 _ rfl
    exact this
  rw [k2] at g7
  have f7 : DataW.trod enc Try.prog w 0 (fun _ => true) true m 34 [v7] = some x7 := g7
  have g8 : DataW.trod enc Try.prog w 0 (fun _ => true) true m 34 (([v0, v1, v2, v3, v4, v5, v6, v7, v8].drop 8).take (Try.prog.cellsOf 34)) = some x8 := by
    have := hf 8 _ rfl
    exact this
  rw [k2] at g8
  have f8 : DataW.trod enc Try.prog w 0 (fun _ => true) true m 34 [v8] = some x8 := g8
  obtain ⟨n0, e0, _, w0⟩ := DataW.trod_int Try.underlying23 f0
  simp only [List.cons.injEq, and_true] at e0
  subst e0
  obtain ⟨u0, hu0⟩ := u64_natU w0
  obtain ⟨m0, rfl⟩ := Int.eq_ofNat_of_zero_le u0
  obtain ⟨n1, e1, _, w1⟩ := DataW.trod_int Try.underlying23 f1
  simp only [List.cons.injEq, and_true] at e1
  subst e1
  obtain ⟨u1, hu1⟩ := u64_natU w1
  obtain ⟨m1, rfl⟩ := Int.eq_ofNat_of_zero_le u1
  obtain ⟨n2, e2, _, w2⟩ := DataW.trod_int Try.underlying23 f2
  simp only [List.cons.injEq, and_true] at e2
  subst e2
  obtain ⟨u2, hu2⟩ := u64_natU w2
  obtain ⟨m2, rfl⟩ := Int.eq_ofNat_of_zero_le u2
  obtain ⟨n3, e3, _, w3⟩ := DataW.trod_int Try.underlying23 f3
  simp only [List.cons.injEq, and_true] at e3
  subst e3
  obtain ⟨u3, hu3⟩ := u64_natU w3
  obtain ⟨m3, rfl⟩ := Int.eq_ofNat_of_zero_le u3
  obtain ⟨n4, e4, _, w4⟩ := DataW.trod_int Try.underlying5 f4
  simp only [List.cons.injEq, and_true] at e4
  subst e4
  obtain ⟨u4, hu4⟩ := u8_natU w4
  obtain ⟨m4, rfl⟩ := Int.eq_ofNat_of_zero_le u4
  obtain ⟨n5, e5, _, w5⟩ := DataW.trod_int Try.underlying5 f5
  simp only [List.cons.injEq, and_true] at e5
  subst e5
  obtain ⟨u5, hu5⟩ := u8_natU w5
  obtain ⟨m5, rfl⟩ := Int.eq_ofNat_of_zero_le u5
  obtain ⟨n6, e6, _, w6⟩ := DataW.trod_int Try.underlying23 f6
  simp only [List.cons.injEq, and_true] at e6
  subst e6
  obtain ⟨u6, hu6⟩ := u64_natU w6
  obtain ⟨m6, rfl⟩ := Int.eq_ofNat_of_zero_le u6
  obtain ⟨n7, e7, _, w7⟩ := DataW.trod_int Try.underlying34 f7
  simp only [List.cons.injEq, and_true] at e7
  subst e7
  obtain ⟨u7, hu7⟩ := u32_natU w7
  obtain ⟨m7, rfl⟩ := Int.eq_ofNat_of_zero_le u7
  obtain ⟨n8, e8, _, w8⟩ := DataW.trod_int Try.underlying34 f8
  simp only [List.cons.injEq, and_true] at e8
  subst e8
  obtain ⟨u8, hu8⟩ := u32_natU w8
  obtain ⟨m8, rfl⟩ := Int.eq_ofNat_of_zero_le u8
  exact ⟨⟨m0, m1, m2, m3, m4, m5, m6, m7, m8⟩, rfl, ⟨by simp only []; omega, by simp only []; omega, by simp only []; omega, by simp only []; omega, by simp only []; omega, by simp only []; omega, by simp only []; omega, by simp only []; omega, by simp only []; omega⟩⟩
theorem open_sus {A : Option Addr} {len cap : Nat} {d : DataW H} {ps : List MemPlace} (h : DataW.Trod enc Try.prog w 0 (fun _ => true) true 81 (.slice A len cap) d ps) :
    ∃ L : List SuV, RowAt w A (L.flatMap SuV.C) ∧ L.length = len ∧ len ≤ cap ∧ cap ≤ maxLen ∧ (∀ e ∈ L, e.wf) ∧ (A = none → len = 0 ∧ cap = 0) := by
  obtain ⟨l, h1, h2, h3, h4, h5, h6⟩ := open_rows SuV.C SuV.wf Try.underlying81 open_suC h
  exact ⟨l, h1, h2, h3, h4, h5, h6⟩
set_option maxRecDepth 100000 in
theorem open_su {v : Value} {d : DataW H} {ps : List MemPlace} {r : Reach} {b0 : Nat} {W : World} (hv : Value.okWide Try.prog W r b0 61 v) (h : DataW.Trod enc Try.prog w 0 (fun _ => true) true 61 v d ps) :
    ∃ e : SuV, v = e.v ∧ e.wf := by
  obtain ⟨cs, rfl, _⟩ := okWide_struct Try.underlying61 hv
  obtain ⟨m, hm⟩ := h
  obtain ⟨o, e, ho⟩ := open_suC m _ _ hm
  refine ⟨o, ?_, ho⟩
  have : cs.toList = o.C := e
  unfold SuV.v
  rw [← this]
end
end Go.Proofs.Ytnkdlmmdaagonaa
/- Rows of ints among the arguments. -/
namespace Go.Proofs.Ytnkdlmmdaagonaa
open Go.RowKit Go.ChangeShapes Go.WideShapes
def iCell (x : Int) : List Value := [.int .i64 x]
def iOK (x : Int) : Prop := -9223372036854775808 ≤ x ∧ x ≤ 9223372036854775807
section
variable {H : Type} {enc : TypeId × Value → H} {w : World}
theorem open_intC (n : Nat) (cs : List Value) (y : DataW H × List MemPlace) (h : DataW.trod enc Try.prog w 0 (fun _ => true) true n 3 cs = some y) :
    ∃ b : Int, cs = iCell b ∧ iOK b := by
  obtain ⟨n0, e0, _, w0⟩ := DataW.trod_int Try.underlying3 h
  simp [Lit.wf, IntKind.min, IntKind.max, IntKind.bits, IntKind.signed] at w0
  exact ⟨n0, e0, by unfold iOK; omega⟩
theorem open_ints {A : Option Addr} {len cap : Nat} {d : DataW H} {ps : List MemPlace} (h : DataW.Trod enc Try.prog w 0 (fun _ => true) true 82 (.slice A len cap) d ps) :
    ∃ L : List Int, RowAt w A (L.flatMap iCell) ∧ L.length = len ∧ len ≤ cap ∧ cap ≤ maxLen ∧ (∀ e ∈ L, iOK e) ∧ (A = none → len = 0 ∧ cap = 0) := by
  obtain ⟨l, h1, h2, h3, h4, h5, h6⟩ := open_rows iCell iOK Try.underlying82 open_intC h
  exact ⟨l, h1, h2, h3, h4, h5, h6⟩
end
end Go.Proofs.Ytnkdlmmdaagonaa
/- SuperPlays' acts among the arguments. -/
namespace Go.Proofs.Ytnkdlmmdaagonaa
open Go.RowKit Go.ChangeShapes Go.WideShapes
theorem listS_13 {α : Type} : ∀ {l : List α}, l.length = 13 → ∃ x0 x1 x2 x3 x4 x5 x6 x7 x8 x9 x10 x11 x12, l = [x0, x1, x2, x3, x4, x5, x6, x7, x8, x9, x10, x11, x12]
  | [x0, x1, x2, x3, x4, x5, x6, x7, x8, x9, x10, x11, x12], _ => ⟨x0, x1, x2, x3, x4, x5, x6, x7, x8, x9, x10, x11, x12, rfl⟩
theorem listS_5 {α : Type} : ∀ {l : List α}, l.length = 5 → ∃ x0 x1 x2 x3 x4, l = [x0, x1, x2, x3, x4]
  | [x0, x1, x2, x3, x4], _ => ⟨x0, x1, x2, x3, x4, rfl⟩
structure ActS where
  kind : Nat
  s : SuV
  i : Int
  A : Option Addr
  n : Nat
  c : Nat
  b : List UInt8
  mask : Nat
instance : Inhabited ActS := ⟨⟨0, zeroS, 0, none, 0, 0, [], 0⟩⟩
def ActS.C (a : ActS) : List Value := [.int .u8 a.kind, .int .u64 a.s.seq, .int .u64 a.s.view, .int .u64 a.s.normal, .int .u64 a.s.gen, .int .u8 a.s.half, .int .u8 a.s.slot, .int .u64 a.s.base, .int .u32 a.s.size, .int .u32 a.s.sum, .int .i64 a.i, .slice a.A a.n a.c, .int .u64 a.mask]
structure ActS.ok (w : World) (a : ActS) : Prop where
  kind : a.kind < 256
  s : a.s.wf
  i : iOK a.i
  row : RowAt w a.A (bcells a.b)
  len : a.b.length = a.n
  cap : a.n ≤ a.c
  max : a.c ≤ maxLen
  nil : a.A = none → a.n = 0 ∧ a.c = 0
  mask : a.mask < 18446744073709551616
theorem i64_okS {n : Int} (h : (Lit.int .i64 n).wf = true) : iOK n := by
  simp [Lit.wf, IntKind.min, IntKind.max, IntKind.bits, IntKind.signed] at h; unfold iOK; omega
section
variable {H : Type} {enc : TypeId × Value → H} {w : World}
theorem open_suE (n : Nat) (cs : List Value) (y : DataW H × List MemPlace) (h : DataW.trod enc Try.prog w 0 (fun _ => true) true n 61 cs = some y) :
    ∃ s : SuV, cs = [.int .u64 s.seq, .int .u64 s.view, .int .u64 s.normal, .int .u64 s.gen, .int .u8 s.half, .int .u8 s.slot, .int .u64 s.base, .int .u32 s.size, .int .u32 s.sum] ∧ s.wf := open_suC n cs y h
set_option maxRecDepth 100000 in
set_option maxHeartbeats 1600000 in
theorem open_actS (n : Nat) (cs : List Value) (y : DataW H × List MemPlace) (h : DataW.trod enc Try.prog w 0 (fun _ => true) true n 75 cs = some y) :
    ∃ a : ActS, cs = a.C ∧ a.ok w := by
  obtain ⟨xs, m, _, rfl, hl, hlen, hf⟩ := DataW.trod_struct Try.underlying75 h
  have ct : Try.prog.cellsOf 75 = 13 := by kernel_rfl
  have k0 : Try.prog.cellsOf 5 = 1 := by kernel_rfl
  have k1 : Try.prog.cellsOf 61 = 9 := by kernel_rfl
  have k2 : Try.prog.cellsOf 3 = 1 := by kernel_rfl
  have k3 : Try.prog.cellsOf 22 = 1 := by kernel_rfl
  have k4 : Try.prog.cellsOf 23 = 1 := by kernel_rfl
  rw [ct] at hl
  obtain ⟨v0, v1, v2, v3, v4, v5, v6, v7, v8, v9, v10, v11, v12, rfl⟩ := listS_13 hl
  obtain ⟨x0, x1, x2, x3, x4, rfl⟩ := listS_5 (show xs.length = 5 from hlen)
  have g0 : DataW.trod enc Try.prog w 0 (fun _ => true) true m 5 (([v0, v1, v2, v3, v4, v5, v6, v7, v8, v9, v10, v11, v12].drop 0).take (Try.prog.cellsOf 5)) = some x0 := by
    have := hf 0 _ rfl
    exact this
  rw [k0] at g0
  have f0 : DataW.trod enc Try.prog w 0 (fun _ => true) true m 5 [v0] = some x0 := g0
  have g1 : DataW.trod enc Try.prog w 0 (fun _ => true) true m 61 (([v0, v1, v2, v3, v4, v5, v6, v7, v8, v9, v10, v11, v12].drop 1).take (Try.prog.cellsOf 61)) = some x1 := by
    have := hf 1 _ rfl
    exact this
  rw [k1] at g1
  have f1 : DataW.trod enc Try.prog w 0 (fun _ => true) true m 61 [v1, v2, v3, v4, v5, v6, v7, v8, v9] = some x1 := g1
  have g2 : DataW.trod enc Try.prog w 0 (fun _ => true) true m 3 (([v0, v1, v2, v3, v4, v5, v6, v7, v8, v9, v10, v11, v12].drop 10).take (Try.prog.cellsOf 3)) = some x2 := by
    have := hf 2 _ rfl
    exact this
  rw [k2] at g2
  have f2 : DataW.trod enc Try.prog w 0 (fun _ => true) true m 3 [v10] = some x2 := g2
  have g3 : DataW.trod enc Try.prog w 0 (fun _ => true) true m 22 (([v0, v1, v2, v3, v4, v5, v6, v7, v8, v9, v10, v11, v12].drop 11).take (Try.prog.cellsOf 22)) = some x3 := by
    have := hf 3 _ rfl
    exact this
  rw [k3] at g3
  have f3 : DataW.trod enc Try.prog w 0 (fun _ => true) true m 22 [v11] = some x3 := g3
  have g4 : DataW.trod enc Try.prog w 0 (fun _ => true) true m 23 (([v0, v1, v2, v3, v4, v5, v6, v7, v8, v9, v10, v11, v12].drop 12).take (Try.prog.cellsOf 23)) = some x4 := by
    have := hf 4 _ rfl
    exact this
  rw [k4] at g4
  have f4 : DataW.trod enc Try.prog w 0 (fun _ => true) true m 23 [v12] = some x4 := g4
  obtain ⟨n0, e0, _, w0⟩ := DataW.trod_int Try.underlying5 f0
  simp only [List.cons.injEq, and_true] at e0
  subst e0
  obtain ⟨u0, hu0⟩ := u8_natU w0
  obtain ⟨m0, rfl⟩ := Int.eq_ofNat_of_zero_le u0
  obtain ⟨o1, e1, h1⟩ := open_suE m _ _ f1
  simp only [and_true, List.cons.injEq, and_true] at e1
  obtain ⟨rfl, rfl, rfl, rfl, rfl, rfl, rfl, rfl, rfl⟩ := e1
  obtain ⟨n2, e2, _, w2⟩ := DataW.trod_int Try.underlying3 f2
  simp only [List.cons.injEq, and_true] at e2
  subst e2
  obtain ⟨A3, len3, cap3, rfl⟩ : ∃ A len cap, v11 = .slice A len cap := by
    rcases DataW.trod_slice Try.underlying22 f3 with ⟨e, _⟩ | ⟨a, len, cap, _, _, _, _, e, _⟩
    · simp only [List.cons.injEq, and_true] at e; exact ⟨_, _, _, e⟩
    · simp only [List.cons.injEq, and_true] at e; exact ⟨_, _, _, e⟩
  obtain ⟨ss3, sr3, sl3, sc3, sm3, sn3⟩ := open_bytes (w := w) (enc := enc) (d := x3.1) (ps := x3.2) ⟨m, by simpa [Value.cells] using f3⟩
  obtain ⟨n4, e4, _, w4⟩ := DataW.trod_int Try.underlying23 f4
  simp only [List.cons.injEq, and_true] at e4
  subst e4
  obtain ⟨u4, hu4⟩ := u64_natU w4
  obtain ⟨m4, rfl⟩ := Int.eq_ofNat_of_zero_le u4
  exact ⟨⟨m0, o1, n2, A3, len3, cap3, ss3, m4⟩, rfl, ⟨by simp only []; omega, h1, i64_okS w2, sr3, sl3, sc3, sm3, sn3, by simp only []; omega⟩⟩
theorem open_actsS {A : Option Addr} {len cap : Nat} {d : DataW H} {ps : List MemPlace} (h : DataW.Trod enc Try.prog w 0 (fun _ => true) true 73 (.slice A len cap) d ps) :
    ∃ L : List ActS, RowAt w A (L.flatMap ActS.C) ∧ L.length = len ∧ len ≤ cap ∧ cap ≤ maxLen ∧ (∀ e ∈ L, e.ok w) ∧ (A = none → len = 0 ∧ cap = 0) := by
  obtain ⟨l, h1, h2, h3, h4, h5, h6⟩ := open_rows ActS.C (ActS.ok w) Try.underlying73 open_actS h
  exact ⟨l, h1, h2, h3, h4, h5, h6⟩
end
end Go.Proofs.Ytnkdlmmdaagonaa
