/- An op.Op among the arguments. -/
import Derived.Test.YtcaihinenfnekaaDoorOpen
import Derived.Test.YtcaihinenfnekaaDoorOpBytes
import Derived.WalkKit
import Derived.ProofKit
namespace Go.Proofs.YtcaihinenfnekaaDoor
open Go.RowKit Go.ChangeShapes Go.WideShapes
theorem u8_nat {n : Int} (h : (Lit.int .u8 n).wf = true) : 0 ≤ n ∧ n < 256 := by
  simp [Lit.wf, IntKind.min, IntKind.max, IntKind.bits, IntKind.signed] at h; omega
theorem u64_nat {n : Int} (h : (Lit.int .u64 n).wf = true) : 0 ≤ n ∧ n ≤ 18446744073709551615 := by
  simp [Lit.wf, IntKind.min, IntKind.max, IntKind.bits, IntKind.signed] at h; omega
theorem list_5 {α : Type} : ∀ {l : List α}, l.length = 5 → ∃ x0 x1 x2 x3 x4, l = [x0, x1, x2, x3, x4]
  | [x0, x1, x2, x3, x4], _ => ⟨x0, x1, x2, x3, x4, rfl⟩
structure OpOK (o : OpV) : Prop where
  wf : o.wf
  a : o.a.size ≤ maxLen
  b : o.b.size ≤ maxLen
section
variable {H : Type} {enc : TypeId × Value → H} {w : World}
set_option maxRecDepth 100000 in
theorem open_opc (n : Nat) (cs : List Value) (y : DataW H × List MemPlace) (h : DataW.trod enc Tryd.prog w 0 (fun _ => true) true n 38 cs = some y) :
    ∃ o : OpV, cs = [.int .u8 o.k, .string o.a, .string o.b, .int .u8 o.n, .int .u8 o.r] ∧ OpOK o := by
  obtain ⟨xs, m, _, rfl, hl, hlen, hf⟩ := DataW.trod_struct Tryd.underlying38 h
  have ct : Tryd.prog.cellsOf 38 = 5 := by kernel_rfl
  have k0 : Tryd.prog.cellsOf 5 = 1 := by kernel_rfl
  have k1 : Tryd.prog.cellsOf 9 = 1 := by kernel_rfl
  have k2 : Tryd.prog.cellsOf 36 = 1 := by kernel_rfl
  rw [ct] at hl
  obtain ⟨v0, v1, v2, v3, v4, rfl⟩ := list_5 hl
  obtain ⟨x0, x1, x2, x3, x4, rfl⟩ := list_5 (show xs.length = 5 from hlen)
  have g0 : DataW.trod enc Tryd.prog w 0 (fun _ => true) true m 5 (([v0, v1, v2, v3, v4].drop 0).take (Tryd.prog.cellsOf 5)) = some x0 := by
    have := hf 0 _ rfl
    exact this
  rw [k0] at g0
  have f0 : DataW.trod enc Tryd.prog w 0 (fun _ => true) true m 5 [v0] = some x0 := g0
  have g1 : DataW.trod enc Tryd.prog w 0 (fun _ => true) true m 9 (([v0, v1, v2, v3, v4].drop 1).take (Tryd.prog.cellsOf 9)) = some x1 := by
    have := hf 1 _ rfl
    exact this
  rw [k1] at g1
  have f1 : DataW.trod enc Tryd.prog w 0 (fun _ => true) true m 9 [v1] = some x1 := g1
  have g2 : DataW.trod enc Tryd.prog w 0 (fun _ => true) true m 9 (([v0, v1, v2, v3, v4].drop 2).take (Tryd.prog.cellsOf 9)) = some x2 := by
    have := hf 2 _ rfl
    exact this
  rw [k1] at g2
  have f2 : DataW.trod enc Tryd.prog w 0 (fun _ => true) true m 9 [v2] = some x2 := g2
  have g3 : DataW.trod enc Tryd.prog w 0 (fun _ => true) true m 5 (([v0, v1, v2, v3, v4].drop 3).take (Tryd.prog.cellsOf 5)) = some x3 := by
    have := hf 3 _ rfl
    exact this
  rw [k0] at g3
  have f3 : DataW.trod enc Tryd.prog w 0 (fun _ => true) true m 5 [v3] = some x3 := g3
  have g4 : DataW.trod enc Tryd.prog w 0 (fun _ => true) true m 36 (([v0, v1, v2, v3, v4].drop 4).take (Tryd.prog.cellsOf 36)) = some x4 := by
    have := hf 4 _ rfl
    exact this
  rw [k2] at g4
  have f4 : DataW.trod enc Tryd.prog w 0 (fun _ => true) true m 36 [v4] = some x4 := g4
  obtain ⟨n0, e0, _, w0⟩ := DataW.trod_int Tryd.underlying5 f0
  simp only [List.cons.injEq, and_true] at e0
  subst e0
  obtain ⟨u0, hu0⟩ := u8_nat w0
  obtain ⟨m0, rfl⟩ := Int.eq_ofNat_of_zero_le u0
  obtain ⟨s1, e1, _, hs1⟩ := DataW.trod_string Tryd.underlying9 f1
  simp only [List.cons.injEq, and_true] at e1
  subst e1
  obtain ⟨s2, e2, _, hs2⟩ := DataW.trod_string Tryd.underlying9 f2
  simp only [List.cons.injEq, and_true] at e2
  subst e2
  obtain ⟨n3, e3, _, w3⟩ := DataW.trod_int Tryd.underlying5 f3
  simp only [List.cons.injEq, and_true] at e3
  subst e3
  obtain ⟨u3, hu3⟩ := u8_nat w3
  obtain ⟨m3, rfl⟩ := Int.eq_ofNat_of_zero_le u3
  obtain ⟨n4, e4, _, w4⟩ := DataW.trod_int Tryd.underlying36 f4
  simp only [List.cons.injEq, and_true] at e4
  subst e4
  obtain ⟨u4, hu4⟩ := u8_nat w4
  obtain ⟨m4, rfl⟩ := Int.eq_ofNat_of_zero_le u4
  exact ⟨⟨m0, s1, s2, m3, m4⟩, rfl, ⟨⟨by simp only []; omega, by simp only []; omega, by simp only []; omega⟩, hs1, hs2⟩⟩

set_option maxRecDepth 100000 in
theorem open_op {v : Value} {d : DataW H} {ps : List MemPlace} {r : Reach} {b0 : Nat} {W : World} (hv : Value.okWide Tryd.prog W r b0 38 v) (h : DataW.Trod enc Tryd.prog w 0 (fun _ => true) true 38 v d ps) :
    ∃ o : OpV, v = o.v ∧ OpOK o := by
  obtain ⟨cs, rfl, _⟩ := okWide_struct Tryd.underlying38 hv
  obtain ⟨m, hm⟩ := h
  obtain ⟨o, e, ho⟩ := open_opc m _ _ hm
  refine ⟨o, ?_, ho⟩
  have : cs.toList = [.int .u8 o.k, .string o.a, .string o.b, .int .u8 o.n, .int .u8 o.r] := e
  unfold OpV.v
  rw [← this]
end
theorem opBytes_law (w : World) (ht : SignsAt w) (o : OpV) (h : OpOK o) : Calls Tryd.prog 7 #[o.v] w (BoolPost w true) :=
  opBytes_walk w ht o h.wf
end Go.Proofs.YtcaihinenfnekaaDoor
