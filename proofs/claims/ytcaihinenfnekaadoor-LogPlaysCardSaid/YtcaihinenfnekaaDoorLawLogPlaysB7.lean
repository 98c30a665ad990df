/- What the row leans on, part 7: contracts and plain laws. -/
import Derived.Test.YtcaihinenfnekaaDoorProg
import Derived.WalkKit
import Derived.Maps.AppendAt
import Derived.Lib.AppendStr
import Derived.Laws.AppendOwnNone
import Derived.Deep.Draws
import Derived.WalkSpells
import Derived.Laws.IdiomStrings
import Derived.Lib.ConvBytes
import Derived.Lib.LaidTab
import Derived.LaidSub
import Derived.Deep.QuietTactic
import Derived.BigQuiet
import Derived.Lib.OthersKept
import Derived.Laws.RangeAny
import Derived.LaidEqlPtr
import Derived.Laws.StructEq
import Derived.Deep.Light
import Derived.Laws.Bits64b
import Derived.Laws.ResultCell
import Derived.Deep.RegionHeld3
import Derived.Deep.Cut
import Derived.SliceStrings
import Derived.Deep.Slices
import Derived.ProofKit
import Derived.Test.YtcaihinenfnekaaDoorLawLogPlaysB6
/- Entries among the arguments. -/
namespace Go.Proofs.YtcaihinenfnekaaDoor
open Go.RowKit Go.ChangeShapes Go.WideShapes
theorem u8_natE {n : Int} (h : (Lit.int .u8 n).wf = true) : 0 ≤ n ∧ n < 256 := by
  simp [Lit.wf, IntKind.min, IntKind.max, IntKind.bits, IntKind.signed] at h; omega
theorem u64_natE {n : Int} (h : (Lit.int .u64 n).wf = true) : 0 ≤ n ∧ n ≤ 18446744073709551615 := by
  simp [Lit.wf, IntKind.min, IntKind.max, IntKind.bits, IntKind.signed] at h; omega
theorem listE_5 {α : Type} : ∀ {l : List α}, l.length = 5 → ∃ x0 x1 x2 x3 x4, l = [x0, x1, x2, x3, x4]
  | [x0, x1, x2, x3, x4], _ => ⟨x0, x1, x2, x3, x4, rfl⟩
theorem listE_3 {α : Type} : ∀ {l : List α}, l.length = 3 → ∃ x0 x1 x2, l = [x0, x1, x2]
  | [x0, x1, x2], _ => ⟨x0, x1, x2, rfl⟩
theorem listE_7 {α : Type} : ∀ {l : List α}, l.length = 7 → ∃ x0 x1 x2 x3 x4 x5 x6, l = [x0, x1, x2, x3, x4, x5, x6]
  | [x0, x1, x2, x3, x4, x5, x6], _ => ⟨x0, x1, x2, x3, x4, x5, x6, rfl⟩
theorem listE_9 {α : Type} : ∀ {l : List α}, l.length = 9 → ∃ x0 x1 x2 x3 x4 x5 x6 x7 x8, l = [x0, x1, x2, x3, x4, x5, x6, x7, x8]
  | [x0, x1, x2, x3, x4, x5, x6, x7, x8], _ => ⟨x0, x1, x2, x3, x4, x5, x6, x7, x8, rfl⟩
instance : Inhabited EnV := ⟨zeroE⟩
structure OpOKE (o : OpV) : Prop where
  wf : o.wf
  a : o.a.size ≤ maxLen
  b : o.b.size ≤ maxLen
structure EnOK (e : EnV) : Prop where
  wf : e.wf
  a : e.o.a.size ≤ maxLen
  b : e.o.b.size ≤ maxLen
section
variable {H : Type} {enc : TypeId × Value → H} {w : World}
set_option maxRecDepth 100000 in
theorem open_opE (n : Nat) (cs : List Value) (y : DataW H × List MemPlace) (h : DataW.trod enc Tryd.prog w 0 (fun _ => true) true n 38 cs = some y) :
    ∃ o : OpV, cs = [.int .u8 o.k, .string o.a, .string o.b, .int .u8 o.n, .int .u8 o.r] ∧ OpOKE o := by
  obtain ⟨xs, m, _, rfl, hl, hlen, hf⟩ := DataW.trod_struct Tryd.underlying38 h
  have ct : Tryd.prog.cellsOf 38 = 5 := by kernel_rfl
  have k0 : Tryd.prog.cellsOf 5 = 1 := by kernel_rfl
  have k1 : Tryd.prog.cellsOf 9 = 1 := by kernel_rfl
  have k2 : Tryd.prog.cellsOf 36 = 1 := by kernel_rfl
  rw [ct] at hl
  obtain ⟨v0, v1, v2, v3, v4, rfl⟩ := listE_5 hl
  obtain ⟨x0, x1, x2, x3, x4, rfl⟩ := listE_5 (show xs.length = 5 from hlen)
  have g0 : DataW.trod enc Tryd.prog w 0 (fun _ => true) true m 5 (([v0, v1, v2, v3, v4].drop 0).take (Tryd.prog.cellsOf 5)) = some x0 := by
    have := hf 0 _ rfl
    exact this
  rw [k0] at g0
  have f0 : DataW.trod enc Tryd.prog w 0 (fun _ => true) true m 5 [v0] = some x0 := g0
  have g1 : DataW.trod enc Tryd.prog w 0 (fun _ => true) true m 9 (([v0, v1, v2, v3, v4].drop 1).take (Tryd.prog.cellsOf 9)) = some x1 := by
    have := hf 1 _ rfl
    exact this
  rw [k1] at g1
  have f1 : DataW.trod enc Tryd.prog w 0 (fun _ => true) true m 9 [v1] = some x1 := g1
  have g2 : DataW.trod enc Tryd.prog w 0 (fun _ => true) true m 9 (([v0, v1, v2, v3, v4].drop 2).take (Tryd.prog.cellsOf 9)) = some x2 := by
    have := hf 2 _ rfl
    exact this
  rw [k1] at g2
  have f2 : DataW.trod enc Tryd.prog w 0 (fun _ => true) true m 9 [v2] = some x2 := g2
  have g3 : DataW.trod enc Tryd.prog w 0 (fun _ => true) true m 5 (([v0, v1, v2, v3, v4].drop 3).take (Tryd.prog.cellsOf 5)) = some x3 := by
    have := hf 3 _ rfl
    exact this
  rw [k0] at g3
  have f3 : DataW.trod enc Tryd.prog w 0 (fun _ => true) true m 5 [v3] = some x3 := g3
  have g4 : DataW.trod enc Tryd.prog w 0 (fun _ => true) true m 36 (([v0, v1, v2, v3, v4].drop 4).take (Tryd.prog.cellsOf 36)) = some x4 := by
    have := hf 4 _ rfl
    exact this
  rw [k2] at g4
  have f4 : DataW.trod enc Tryd.prog w 0 (fun _ => true) true m 36 [v4] = some x4 := g4
  obtain ⟨n0, e0, _, w0⟩ := DataW.trod_int Tryd.underlying5 f0
  simp only [List.cons.injEq, and_true] at e0
  subst e0
  obtain ⟨u0, hu0⟩ := u8_natE w0
  obtain ⟨m0, rfl⟩ := Int.eq_ofNat_of_zero_le u0
  obtain ⟨s1, e1, _, hs1⟩ := DataW.trod_string Tryd.underlying9 f1
  simp only [List.cons.injEq, and_true] at e1
  subst e1
  obtain ⟨s2, e2, _, hs2⟩ := DataW.trod_string Tryd.underlying9 f2
  simp only [List.cons.injEq, and_true] at e2
  subst e2
  obtain ⟨n3, e3, _, w3⟩ := DataW.trod_int Tryd.underlying5 f3
  simp only [List.cons.injEq, and_true] at e3
  subst e3
  obtain ⟨u3, hu3⟩ := u8_natE w3
  obtain ⟨m3, rfl⟩ := Int.eq_ofNat_of_zero_le u3
  obtain ⟨n4, e4, _, w4⟩ := DataW.trod_int Tryd.underlying36 f4
  simp only [List.cons.injEq, and_true] at e4
  subst e4
  obtain ⟨u4, hu4⟩ := u8_natE w4
  obtain ⟨m4, rfl⟩ := Int.eq_ofNat_of_zero_le u4
  exact ⟨⟨m0, s1, s2, m3, m4⟩, rfl, ⟨⟨by simp only []; omega, by simp only []; omega, by simp only []; omega⟩, hs1, hs2⟩⟩
set_option maxRecDepth 100000 in
theorem open_reqE (n : Nat) (cs : List Value) (y : DataW H × List MemPlace) (h : DataW.trod enc Tryd.prog w 0 (fun _ => true) true n 40 cs = some y) :
    ∃ q : EnV, cs = [.int .u8 q.cl, .int .u64 q.num, .int .u8 q.o.k, .string q.o.a, .string q.o.b, .int .u8 q.o.n, .int .u8 q.o.r] ∧ (q.cl < 256 ∧ q.num < 18446744073709551616 ∧ OpOKE q.o) := by
  obtain ⟨xs, m, _, rfl, hl, hlen, hf⟩ := DataW.trod_struct Tryd.underlying40 h
  have ct : Tryd.prog.cellsOf 40 = 7 := by kernel_rfl
  have k0 : Tryd.prog.cellsOf 5 = 1 := by kernel_rfl
  have k1 : Tryd.prog.cellsOf 32 = 1 := by kernel_rfl
  have k2 : Tryd.prog.cellsOf 38 = 5 := by kernel_rfl
  rw [ct] at hl
  obtain ⟨v0, v1, v2, v3, v4, v5, v6, rfl⟩ := listE_7 hl
  obtain ⟨x0, x1, x2, rfl⟩ := listE_3 (show xs.length = 3 from hlen)
  have g0 : DataW.trod enc Tryd.prog w 0 (fun _ => true) true m 5 (([v0, v1, v2, v3, v4, v5, v6].drop 0).take (Tryd.prog.cellsOf 5)) = some x0 := by
    have := hf 0 _ rfl
    exact this
  rw [k0] at g0
  have f0 : DataW.trod enc Tryd.prog w 0 (fun _ => true) true m 5 [v0] = some x0 := g0
  have g1 : DataW.trod enc Tryd.prog w 0 (fun _ => true) true m 32 (([v0, v1, v2, v3, v4, v5, v6].drop 1).take (Tryd.prog.cellsOf 32)) = some x1 := by
    have := hf 1 _ rfl
    exact this
  rw [k1] at g1
  have f1 : DataW.trod enc Tryd.prog w 0 (fun _ => true) true m 32 [v1] = some x1 := g1
  have g2 : DataW.trod enc Tryd.prog w 0 (fun _ => true) true m 38 (([v0, v1, v2, v3, v4, v5, v6].drop 2).take (Tryd.prog.cellsOf 38)) = some x2 := by
    have := hf 2 _ rfl
    exact this
  rw [k2] at g2
  have f2 : DataW.trod enc Tryd.prog w 0 (fun _ => true) true m 38 [v2, v3, v4, v5, v6] = some x2 := g2
  obtain ⟨n0, e0, _, w0⟩ := DataW.trod_int Tryd.underlying5 f0
  simp only [List.cons.injEq, and_true] at e0
  subst e0
  obtain ⟨u0, hu0⟩ := u8_natE w0
  obtain ⟨m0, rfl⟩ := Int.eq_ofNat_of_zero_le u0
  obtain ⟨n1, e1, _, w1⟩ := DataW.trod_int Tryd.underlying32 f1
  simp only [List.cons.injEq, and_true] at e1
  subst e1
  obtain ⟨u1, hu1⟩ := u64_natE w1
  obtain ⟨m1, rfl⟩ := Int.eq_ofNat_of_zero_le u1
  obtain ⟨o2, e2, h2⟩ := open_opE m _ _ f2
  simp only [and_true, List.cons.injEq, and_true] at e2
  obtain ⟨rfl, rfl, rfl, rfl, rfl⟩ := e2
  exact ⟨⟨0, 0, m0, m1, o2⟩, rfl, ⟨by simp only []; omega, by simp only []; omega, h2⟩⟩
set_option maxRecDepth 100000 in
theorem open_enE (n : Nat) (cs : List Value) (y : DataW H × List MemPlace) (h : DataW.trod enc Tryd.prog w 0 (fun _ => true) true n 42 cs = some y) :
    ∃ e : EnV, cs = e.C ∧ EnOK e := by
  obtain ⟨xs, m, _, rfl, hl, hlen, hf⟩ := DataW.trod_struct Tryd.underlying42 h
  have ct : Tryd.prog.cellsOf 42 = 9 := by kernel_rfl
  have k0 : Tryd.prog.cellsOf 32 = 1 := by kernel_rfl
  have k1 : Tryd.prog.cellsOf 40 = 7 := by kernel_rfl
  rw [ct] at hl
  obtain ⟨v0, v1, v2, v3, v4, v5, v6, v7, v8, rfl⟩ := listE_9 hl
  obtain ⟨x0, x1, x2, rfl⟩ := listE_3 (show xs.length = 3 from hlen)
  have g0 : DataW.trod enc Tryd.prog w 0 (fun _ => true) true m 32 (([v0, v1, v2, v3, v4, v5, v6, v7, v8].drop 0).take (Tryd.prog.cellsOf 32)) = some x0 := by
    have := hf 0 _ rfl
    exact this
  rw [k0] at g0
  have f0 : DataW.trod enc Tryd.prog w 0 (fun _ => true) true m 32 [v0] = some x0 := g0
  have g1 : DataW.trod enc Tryd.prog w 0 (fun _ => true) true m 32 (([v0, v1, v2, v3, v4, v5, v6, v7, v8].drop 1).take (Tryd.prog.cellsOf 32)) = some x1 := by
    have := hf 1 _ rfl
    exact this
  rw [k0] at g1
  have f1 : DataW.trod enc Tryd.prog w 0 (fun _ => true) true m 32 [v1] = some x1 := g1
  have g2 : DataW.trod enc Tryd.prog w 0 (fun _ => true) true m 40 (([v0, v1, v2, v3, v4, v5, v6, v7, v8].drop 2).take (Tryd.prog.cellsOf 40)) = some x2 := by
    have := hf 2 _ rfl
    exact this
  rw [k1] at g2
  have f2 : DataW.trod enc Tryd.prog w 0 (fun _ => true) true m 40 [v2, v3, v4, v5, v6, v7, v8] = some x2 := g2
  obtain ⟨n0, e0, _, w0⟩ := DataW.trod_int Tryd.underlying32 f0
  simp only [List.cons.injEq, and_true] at e0
  subst e0
  obtain ⟨u0, hu0⟩ := u64_natE w0
  obtain ⟨m0, rfl⟩ := Int.eq_ofNat_of_zero_le u0
  obtain ⟨n1, e1, _, w1⟩ := DataW.trod_int Tryd.underlying32 f1
  simp only [List.cons.injEq, and_true] at e1
  subst e1
  obtain ⟨u1, hu1⟩ := u64_natE w1
  obtain ⟨m1, rfl⟩ := Int.eq_ofNat_of_zero_le u1
  obtain ⟨o2, e2, h2⟩ := open_reqE m _ _ f2
  simp only [and_true, List.cons.injEq, and_true] at e2
  obtain ⟨rfl, rfl, rfl, rfl, rfl, rfl, rfl⟩ := e2
  exact ⟨⟨m0, m1, o2.cl, o2.num, o2.o⟩, rfl, ⟨⟨by simp only []; omega, by simp only []; omega, h2.1, h2.2.1, h2.2.2.wf⟩, h2.2.2.a, h2.2.2.b⟩⟩
theorem open_ens {A : Option Addr} {len cap : Nat} {d : DataW H} {ps : List MemPlace} (h : DataW.Trod enc Tryd.prog w 0 (fun _ => true) true 33 (.slice A len cap) d ps) :
    ∃ L : List EnV, RowAt w A (L.flatMap EnV.C) ∧ L.length = len ∧ len ≤ cap ∧ cap ≤ maxLen ∧ (∀ e ∈ L, EnOK e) ∧ (A = none → len = 0 ∧ cap = 0) := by
  obtain ⟨l, h1, h2, h3, h4, h5, h6⟩ := open_rows EnV.C EnOK Tryd.underlying33 open_enE h
  exact ⟨l, h1, h2, h3, h4, h5, h6⟩
set_option maxRecDepth 100000 in
theorem open_en {v : Value} {d : DataW H} {ps : List MemPlace} {r : Reach} {b0 : Nat} {W : World} (hv : Value.okWide Tryd.prog W r b0 42 v) (h : DataW.Trod enc Tryd.prog w 0 (fun _ => true) true 42 v d ps) :
    ∃ e : EnV, v = e.v ∧ EnOK e := by
  obtain ⟨cs, rfl, _⟩ := okWide_struct Tryd.underlying42 hv
  obtain ⟨m, hm⟩ := h
  obtain ⟨o, e, ho⟩ := open_enE m _ _ hm
  refine ⟨o, ?_, ho⟩
  have : cs.toList = o.C := e
  unfold EnV.v
  unfold EnV.C at this
  rw [← this]
end
end Go.Proofs.YtcaihinenfnekaaDoor
/- Acts on logs among the arguments. -/
namespace Go.Proofs.YtcaihinenfnekaaDoor
open Go.RowKit Go.ChangeShapes Go.WideShapes
theorem listE_11 {α : Type} : ∀ {l : List α}, l.length = 11 → ∃ x0 x1 x2 x3 x4 x5 x6 x7 x8 x9 x10, l = [x0, x1, x2, x3, x4, x5, x6, x7, x8, x9, x10]
  | [x0, x1, x2, x3, x4, x5, x6, x7, x8, x9, x10], _ => ⟨x0, x1, x2, x3, x4, x5, x6, x7, x8, x9, x10, rfl⟩
instance : Inhabited ActL := ⟨⟨0, zeroE, 0⟩⟩
section
variable {H : Type} {enc : TypeId × Value → H} {w : World}
theorem open_enC (n : Nat) (cs : List Value) (y : DataW H × List MemPlace) (h : DataW.trod enc Tryd.prog w 0 (fun _ => true) true n 42 cs = some y) :
    ∃ e : EnV, cs = [.int .u64 e.op, .int .u64 e.view, .int .u8 e.cl, .int .u64 e.num, .int .u8 e.o.k, .string e.o.a, .string e.o.b, .int .u8 e.o.n, .int .u8 e.o.r] ∧ EnOK e := open_enE n cs y h
set_option maxRecDepth 100000 in
theorem open_actL (n : Nat) (cs : List Value) (y : DataW H × List MemPlace) (h : DataW.trod enc Tryd.prog w 0 (fun _ => true) true n 57 cs = some y) :
    ∃ a : ActL, cs = a.C ∧ a.ok := by
  obtain ⟨xs, m, _, rfl, hl, hlen, hf⟩ := DataW.trod_struct Tryd.underlying57 h
  have ct : Tryd.prog.cellsOf 57 = 11 := by kernel_rfl
  have k0 : Tryd.prog.cellsOf 5 = 1 := by kernel_rfl
  have k1 : Tryd.prog.cellsOf 42 = 9 := by kernel_rfl
  have k2 : Tryd.prog.cellsOf 32 = 1 := by kernel_rfl
  rw [ct] at hl
  obtain ⟨v0, v1, v2, v3, v4, v5, v6, v7, v8, v9, v10, rfl⟩ := listE_11 hl
  obtain ⟨x0, x1, x2, rfl⟩ := listE_3 (show xs.length = 3 from hlen)
  have g0 : DataW.trod enc Tryd.prog w 0 (fun _ => true) true m 5 (([v0, v1, v2, v3, v4, v5, v6, v7, v8, v9, v10].drop 0).take (Tryd.prog.cellsOf 5)) = some x0 := by
    have := hf 0 _ rfl
    exact this
  rw [k0] at g0
  have f0 : DataW.trod enc Tryd.prog w 0 (fun _ => true) true m 5 [v0] = some x0 := g0
  have g1 : DataW.trod enc Tryd.prog w 0 (fun _ => true) true m 42 (([v0, v1, v2, v3, v4, v5, v6, v7, v8, v9, v10].drop 1).take (Tryd.prog.cellsOf 42)) = some x1 := by
    have := hf 1 _ rfl
    exact this
  rw [k1] at g1
  have f1 : DataW.trod enc Tryd.prog w 0 (fun _ => true) true m 42 [v1, v2, v3, v4, v5, v6, v7, v8, v9] = some x1 := g1
  have g2 : DataW.trod enc Tryd.prog w 0 (fun _ => true) true m 32 (([v0, v1, v2, v3, v4, v5, v6, v7, v8, v9, v10].drop 10).take (Tryd.prog.cellsOf 32)) = some x2 := by
    have := hf 2 _ rfl
    exact this
  rw [k2] at g2
  have f2 : DataW.trod enc Tryd.prog w 0 (fun _ => true) true m 32 [v10] = some x2 := g2
  obtain ⟨n0, e0, _, w0⟩ := DataW.trod_int Tryd.underlying5 f0
  simp only [List.cons.injEq, and_true] at e0
  subst e0
  obtain ⟨u0, hu0⟩ := u8_natE w0
  obtain ⟨m0, rfl⟩ := Int.eq_ofNat_of_zero_le u0
  obtain ⟨o1, e1, h1⟩ := open_enC m _ _ f1
  simp only [and_true, List.cons.injEq, and_true] at e1
  obtain ⟨rfl, rfl, rfl, rfl, rfl, rfl, rfl, rfl, rfl⟩ := e1
  obtain ⟨n2, e2, _, w2⟩ := DataW.trod_int Tryd.underlying32 f2
  simp only [List.cons.injEq, and_true] at e2
  subst e2
  obtain ⟨u2, hu2⟩ := u64_natE w2
  obtain ⟨m2, rfl⟩ := Int.eq_ofNat_of_zero_le u2
  exact ⟨⟨m0, o1, m2⟩, rfl, ⟨by simp only []; omega, h1.wf, by simp only []; omega⟩⟩
theorem open_actsL {A : Option Addr} {len cap : Nat} {d : DataW H} {ps : List MemPlace} (h : DataW.Trod enc Tryd.prog w 0 (fun _ => true) true 50 (.slice A len cap) d ps) :
    ∃ L : List ActL, RowAt w A (L.flatMap ActL.C) ∧ L.length = len ∧ len ≤ cap ∧ cap ≤ maxLen ∧ (∀ a ∈ L, a.ok) ∧ (A = none → len = 0 ∧ cap = 0) := by
  obtain ⟨l, h1, h2, h3, h4, h5, h6⟩ := open_rows ActL.C ActL.ok Tryd.underlying50 open_actL h
  exact ⟨l, h1, h2, h3, h4, h5, h6⟩
end
end Go.Proofs.YtcaihinenfnekaaDoor
/- LogPlays' law over its arguments. -/
namespace Go.Proofs.YtcaihinenfnekaaDoor
open Go.RowKit
theorem logPlays_law (w : World) (ht : SignsAt w) (a : Int) (wa : (Lit.int .u64 a).wf = true) (A : Option Addr) (n c : Nat) (L : List ActL) (o : RowAt w A (L.flatMap ActL.C) ∧ L.length = n ∧ n ≤ c ∧ c ≤ maxLen ∧ (∀ e ∈ L, e.ok) ∧ (A = none → n = 0 ∧ c = 0)) :
    Calls Tryd.prog 5 #[.int .u64 a, .slice A n c] w (BoolPost w true) := by
  obtain ⟨h1, h2⟩ := u64_natE wa
  obtain ⟨a', rfl⟩ := Int.eq_ofNat_of_zero_le h1
  exact logPlays_walk w ht a' A n c L (by omega) o.1 o.2.1 (Nat.le_trans (Nat.le_trans o.2.2.1 o.2.2.2.1) (by decide)) o.2.2.2.2.1
end Go.Proofs.YtcaihinenfnekaaDoor
