/- A user among the arguments. -/
import Derived.Test.YtahcopmdffengaaDoorOpen
import Derived.Test.YtahcopmdffengaaDoorUs3
import Derived.WalkKit
import Derived.ProofKit
namespace Go.Proofs.YtahcopmdffengaaDoor
open Go.RowKit Go.ChangeShapes Go.WideShapes
theorem list_5 {α : Type} : ∀ {l : List α}, l.length = 5 → ∃ x0 x1 x2 x3 x4, l = [x0, x1, x2, x3, x4]
  | [x0, x1, x2, x3, x4], _ => ⟨x0, x1, x2, x3, x4, rfl⟩
/-- A user's argument. -/
structure UsA where
  u : UsV
  A : Option Addr
  n : Nat
  c : Nat
def UsA.v (a : UsA) : Value := .agg (a.u.C (.slice a.A a.n a.c))
structure UsA.ok (w : World) (a : UsA) : Prop where
  row : RowAt w a.A (strs a.u.gs)
  len : a.u.gs.length = a.n
  nc : a.n ≤ a.c
  cm : a.c ≤ 9223372036854775807
  nil : a.A = none → a.n = 0 ∧ a.c = 0
  gsz : ∀ s ∈ a.u.gs, s.size ≤ maxLen
  lt : ∀ ad, a.A = some ad → 0 < a.n → ad.block < w.heap.size
section
variable {H : Type} {enc : TypeId × Value → H} {w : World}
set_option maxRecDepth 100000 in
theorem open_usC (n : Nat) (cs : List Value) (y : DataW H × List MemPlace) (h : DataW.trod enc Tryd.prog w 0 (fun _ => true) true n 35 cs = some y) :
    ∃ a : UsA, cs = (a.u.C (.slice a.A a.n a.c)).toList ∧ a.ok w := by
  obtain ⟨xs, m, _, rfl, hl, hlen, hf⟩ := DataW.trod_struct Tryd.underlying35 h
  have ct : Tryd.prog.cellsOf 35 = 5 := by kernel_rfl
  have k0 : Tryd.prog.cellsOf 9 = 1 := by kernel_rfl
  have k1 : Tryd.prog.cellsOf 4 = 1 := by kernel_rfl
  have k2 : Tryd.prog.cellsOf 33 = 1 := by kernel_rfl
  rw [ct] at hl
  obtain ⟨v0, v1, v2, v3, v4, rfl⟩ := list_5 hl
  obtain ⟨x0, x1, x2, x3, x4, rfl⟩ := list_5 (show xs.length = 5 from hlen)
  have g0 : DataW.trod enc Tryd.prog w 0 (fun _ => true) true m 9 (([v0, v1, v2, v3, v4].drop 0).take (Tryd.prog.cellsOf 9)) = some x0 := by
    have := hf 0 _ rfl
    exact this
  rw [k0] at g0
  have f0 : DataW.trod enc Tryd.prog w 0 (fun _ => true) true m 9 [v0] = some x0 := g0
  have g1 : DataW.trod enc Tryd.prog w 0 (fun _ => true) true m 9 (([v0, v1, v2, v3, v4].drop 1).take (Tryd.prog.cellsOf 9)) = some x1 := by
    have := hf 1 _ rfl
    exact this
  rw [k0] at g1
  have f1 : DataW.trod enc Tryd.prog w 0 (fun _ => true) true m 9 [v1] = some x1 := g1
  have g2 : DataW.trod enc Tryd.prog w 0 (fun _ => true) true m 9 (([v0, v1, v2, v3, v4].drop 2).take (Tryd.prog.cellsOf 9)) = some x2 := by
    have := hf 2 _ rfl
    exact this
  rw [k0] at g2
  have f2 : DataW.trod enc Tryd.prog w 0 (fun _ => true) true m 9 [v2] = some x2 := g2
  have g3 : DataW.trod enc Tryd.prog w 0 (fun _ => true) true m 4 (([v0, v1, v2, v3, v4].drop 3).take (Tryd.prog.cellsOf 4)) = some x3 := by
    have := hf 3 _ rfl
    exact this
  rw [k1] at g3
  have f3 : DataW.trod enc Tryd.prog w 0 (fun _ => true) true m 4 [v3] = some x3 := g3
  have g4 : DataW.trod enc Tryd.prog w 0 (fun _ => true) true m 33 (([v0, v1, v2, v3, v4].drop 4).take (Tryd.prog.cellsOf 33)) = some x4 := by
    have := hf 4 _ rfl
    exact this
  rw [k2] at g4
  have f4 : DataW.trod enc Tryd.prog w 0 (fun _ => true) true m 33 [v4] = some x4 := g4
  obtain ⟨s0, e0, _, hs0⟩ := DataW.trod_string Tryd.underlying9 f0
  simp only [List.cons.injEq, and_true] at e0
  subst e0
  obtain ⟨s1, e1, _, hs1⟩ := DataW.trod_string Tryd.underlying9 f1
  simp only [List.cons.injEq, and_true] at e1
  subst e1
  obtain ⟨s2, e2, _, hs2⟩ := DataW.trod_string Tryd.underlying9 f2
  simp only [List.cons.injEq, and_true] at e2
  subst e2
  obtain ⟨b3, e3, _⟩ := DataW.trod_bool Tryd.underlying4 f3
  simp only [List.cons.injEq, and_true] at e3
  subst e3
  obtain ⟨A4, len4, cap4, rfl⟩ : ∃ A len cap, v4 = .slice A len cap := by
    rcases DataW.trod_slice Tryd.underlying33 f4 with ⟨e, _⟩ | ⟨a, len, cap, _, _, _, _, e, _⟩
    · simp only [List.cons.injEq, and_true] at e; exact ⟨_, _, _, e⟩
    · simp only [List.cons.injEq, and_true] at e; exact ⟨_, _, _, e⟩
  obtain ⟨ss4, sr4, sl4, sc4, sm4, sz4, sn4⟩ := open_strs (P := Tryd.prog) (w := w) (enc := enc) (d := x4.1) (ps := x4.2) Tryd.underlying33 Tryd.underlying9 (by kernel_rfl) ⟨m, by simpa [Value.cells] using f4⟩
  exact ⟨⟨⟨s0, s1, s2, b3, ss4⟩, A4, len4, cap4⟩, rfl, ⟨sr4, sl4, sc4, Nat.le_trans sm4 (by decide), sn4, sz4, fun ad e h => by subst e; exact sr4.lt (by simpa [strs, sl4] using h)⟩⟩

set_option maxRecDepth 100000 in
theorem open_us {v : Value} {d : DataW H} {ps : List MemPlace} {r : Reach} {b0 : Nat} {W : World} (hv : Value.okWide Tryd.prog W r b0 35 v) (h : DataW.Trod enc Tryd.prog w 0 (fun _ => true) true 35 v d ps) :
    ∃ a : UsA, v = a.v ∧ a.ok w := by
  obtain ⟨cs, rfl, _⟩ := okWide_struct Tryd.underlying35 hv
  obtain ⟨m, hm⟩ := h
  obtain ⟨o, e, ho⟩ := open_usC m _ _ hm
  refine ⟨o, ?_, ho⟩
  have : cs.toList = (o.u.C (.slice o.A o.n o.c)).toList := e
  unfold UsA.v
  rw [Array.toList_inj.mp this]
end
end Go.Proofs.YtahcopmdffengaaDoor
