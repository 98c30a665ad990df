/- A user among the arguments, its texts' weights too. -/
import Derived.Test.YtahcopmdffengaaDoorOpenUs
import Derived.Test.YtahcopmdffengaaDoorUsClo
import Derived.SliceStrings
namespace Go.Proofs.YtahcopmdffengaaDoor
open Go.RowKit Go.ChangeShapes Go.WideShapes
section
variable {H : Type} {enc : TypeId × Value → H} {P : Program} {w : World}
theorem weights_strs {e : TypeId} : ∀ (l : List ByteArray) (s : ByteArray), s ∈ l → s.size ∈ DataW.weightsAll (H := H) P e (Go.ChangeShapes.strs l)
  | [], s, h => by cases h
  | t :: l, s, h => by
    unfold Go.ChangeShapes.strs
    rw [List.map_cons, DataW.weightsAll, List.mem_append]
    rcases List.mem_cons.mp h with rfl | h
    · left; rw [DataW.weights]; simp
    · right; exact weights_strs l s h
theorem open_strsW {t e : TypeId} {A : Option Addr} {len cap : Nat} {d : DataW H} {ps : List MemPlace} (ht : P.underlying t = some (.slice e)) (he : P.underlying e = some .string) (hc : P.cellsOf e = 1)
    (h : DataW.Trod enc P w 0 (fun _ => true) true t (.slice A len cap) d ps) :
    ∃ ss : List ByteArray, RowAt w A (Go.Proofs.YtahcopmdffengaaDoor.strs ss) ∧ ss.length = len ∧ len ≤ cap ∧ cap ≤ maxLen ∧ (∀ s ∈ ss, s.size ≤ maxLen) ∧ (A = none → len = 0 ∧ cap = 0) ∧ (∀ s ∈ ss, s.size ∈ DataW.weights P t d) := by
  obtain ⟨fuel, hf⟩ := h
  rcases open_strings ht he hc hf with ⟨hcs, _⟩ | ⟨a, l, c, ss, hcs, _, hl, hm, hz, hx, hcell, hsz⟩
  · simp [Value.cells] at hcs
    obtain ⟨rfl, rfl, rfl⟩ := hcs
    exact ⟨[], RowAt.nil _ _, rfl, Nat.le_refl _, Nat.zero_le _, by simp, fun _ => ⟨rfl, rfl⟩, by simp⟩
  · simp [Value.cells] at hcs
    obtain ⟨rfl, rfl, rfl⟩ := hcs
    simp only [if_true] at hz
    injection hx with hx1 hx2
    subst hx1
    refine ⟨ss.take len, fun j u hu => ⟨a, rfl, ?_⟩, by rw [List.length_take]; omega, hl, hm, fun s hs => hsz s (List.mem_of_mem_take hs), fun e => (by cases e), fun s hs => ?_⟩
    · have hj : j < (ss.take len).length := by have := (List.getElem?_eq_some_iff.1 hu).1; simpa [Go.Proofs.YtahcopmdffengaaDoor.strs] using this
      have hj2 : j < ss.length := by rw [List.length_take] at hj; omega
      rw [hcell j hj2]
      simp only [Go.Proofs.YtahcopmdffengaaDoor.strs, List.getElem?_map] at hu
      rw [List.getElem?_take, if_pos (by rw [List.length_take] at hj; omega), List.getElem?_eq_getElem hj2] at hu
      simp at hu
      rw [← hu, List.getD_eq_getElem?_getD, List.getElem?_eq_getElem hj2]
      rfl
    · rw [DataW.weights, ht]
      exact List.mem_cons_of_mem _ (List.mem_append_left _ (weights_strs _ s hs))
end
section
variable {H : Type} {enc : TypeId × Value → H} {w : World}
set_option maxRecDepth 100000 in
theorem open_usCW (n : Nat) (cs : List Value) (y : DataW H × List MemPlace) (h : DataW.trod enc Tryd.prog w 0 (fun _ => true) true n 35 cs = some y) :
    ∃ a : UsA, cs = (a.u.C (.slice a.A a.n a.c)).toList ∧ a.ok w ∧ (∀ s ∈ a.u.gs, s.size ∈ DataW.weights Tryd.prog 35 y.1) := by
  obtain ⟨xs, m, _, rfl, hl, hlen, hf⟩ := DataW.trod_struct Tryd.underlying35 h
  have ct : Tryd.prog.cellsOf 35 = 5 := by kernel_rfl
  have k0 : Tryd.prog.cellsOf 9 = 1 := by kernel_rfl
  have k1 : Tryd.prog.cellsOf 4 = 1 := by kernel_rfl
  have k2 : Tryd.prog.cellsOf 33 = 1 := by kernel_rfl
  rw [ct] at hl
  obtain ⟨v0, v1, v2, v3, v4, rfl⟩ := list_5 hl
  obtain ⟨x0, x1, x2, x3, x4, rfl⟩ := list_5 (show xs.length = 5 from hlen)
  have g0 : DataW.trod enc Tryd.prog w 0 (fun _ => true) true m 9 (([v0, v1, v2, v3, v4].drop 0).take (Tryd.prog.cellsOf 9)) = some x0 := by
    have := hf 0 _ rfl
    exact this
  rw [k0] at g0
  have f0 : DataW.trod enc Tryd.prog w 0 (fun _ => true) true m 9 [v0] = some x0 := g0
  have g1 : DataW.trod enc Tryd.prog w 0 (fun _ => true) true m 9 (([v0, v1, v2, v3, v4].drop 1).take (Tryd.prog.cellsOf 9)) = some x1 := by
    have := hf 1 _ rfl
    exact this
  rw [k0] at g1
  have f1 : DataW.trod enc Tryd.prog w 0 (fun _ => true) true m 9 [v1] = some x1 := g1
  have g2 : DataW.trod enc Tryd.prog w 0 (fun _ => true) true m 9 (([v0, v1, v2, v3, v4].drop 2).take (Tryd.prog.cellsOf 9)) = some x2 := by
    have := hf 2 _ rfl
    exact this
  rw [k0] at g2
  have f2 : DataW.trod enc Tryd.prog w 0 (fun _ => true) true m 9 [v2] = some x2 := g2
  have g3 : DataW.trod enc Tryd.prog w 0 (fun _ => true) true m 4 (([v0, v1, v2, v3, v4].drop 3).take (Tryd.prog.cellsOf 4)) = some x3 := by
    have := hf 3 _ rfl
    exact this
  rw [k1] at g3
  have f3 : DataW.trod enc Tryd.prog w 0 (fun _ => true) true m 4 [v3] = some x3 := g3
  have g4 : DataW.trod enc Tryd.prog w 0 (fun _ => true) true m 33 (([v0, v1, v2, v3, v4].drop 4).take (Tryd.prog.cellsOf 33)) = some x4 := by
    have := hf 4 _ rfl
    exact this
  rw [k2] at g4
  have f4 : DataW.trod enc Tryd.prog w 0 (fun _ => true) true m 33 [v4] = some x4 := g4
  obtain ⟨s0, e0, _, hs0⟩ := DataW.trod_string Tryd.underlying9 f0
  simp only [List.cons.injEq, and_true] at e0
  subst e0
  obtain ⟨s1, e1, _, hs1⟩ := DataW.trod_string Tryd.underlying9 f1
  simp only [List.cons.injEq, and_true] at e1
  subst e1
  obtain ⟨s2, e2, _, hs2⟩ := DataW.trod_string Tryd.underlying9 f2
  simp only [List.cons.injEq, and_true] at e2
  subst e2
  obtain ⟨b3, e3, _⟩ := DataW.trod_bool Tryd.underlying4 f3
  simp only [List.cons.injEq, and_true] at e3
  subst e3
  obtain ⟨A4, len4, cap4, rfl⟩ : ∃ A len cap, v4 = .slice A len cap := by
    rcases DataW.trod_slice Tryd.underlying33 f4 with ⟨e, _⟩ | ⟨a, len, cap, _, _, _, _, e, _⟩
    · simp only [List.cons.injEq, and_true] at e; exact ⟨_, _, _, e⟩
    · simp only [List.cons.injEq, and_true] at e; exact ⟨_, _, _, e⟩
  obtain ⟨ss4, sr4, sl4, sc4, sm4, sz4, sn4, sw4⟩ := open_strsW (P := Tryd.prog) (w := w) (enc := enc) (d := x4.1) (ps := x4.2) Tryd.underlying33 Tryd.underlying9 (by kernel_rfl) ⟨m, by simpa [Value.cells] using f4⟩
  exact ⟨⟨⟨s0, s1, s2, b3, ss4⟩, A4, len4, cap4⟩, rfl, ⟨sr4, sl4, sc4, Nat.le_trans sm4 (by decide), sn4, sz4, fun ad e h => by subst e; exact sr4.lt (by simpa [Go.Proofs.YtahcopmdffengaaDoor.strs, sl4] using h)⟩, fun s hs => by
    have h9 := sw4 s hs
    have e9 : DataW.weights Tryd.prog 35 (.agg [x0.1, x1.1, x2.1, x3.1, x4.1]) = DataW.weights Tryd.prog 9 x0.1 ++ (DataW.weights Tryd.prog 9 x1.1 ++ (DataW.weights Tryd.prog 9 x2.1 ++ (DataW.weights Tryd.prog 4 x3.1 ++ (DataW.weights Tryd.prog 33 x4.1 ++ [])))) := by
      rw [DataW.weights, Tryd.underlying35]; rfl
    show s.size ∈ DataW.weights Tryd.prog 35 (.agg [x0.1, x1.1, x2.1, x3.1, x4.1])
    rw [e9]
    simp only [List.mem_append]
    exact Or.inr (Or.inr (Or.inr (Or.inr (Or.inl h9))))⟩

set_option maxRecDepth 100000 in
theorem open_usW {v : Value} {d : DataW H} {ps : List MemPlace} {r : Reach} {b0 : Nat} {W : World} (hv : Value.okWide Tryd.prog W r b0 35 v) (h : DataW.Trod enc Tryd.prog w 0 (fun _ => true) true 35 v d ps) :
    ∃ a : UsA, v = a.v ∧ a.ok w ∧ (∀ s ∈ a.u.gs, s.size ∈ DataW.weights Tryd.prog 35 d) := by
  obtain ⟨cs, rfl, _⟩ := okWide_struct Tryd.underlying35 hv
  obtain ⟨m, hm⟩ := h
  obtain ⟨o, e, ho, h2⟩ := open_usCW m _ _ hm
  refine ⟨o, ?_, ho, h2⟩
  have : cs.toList = (o.u.C (.slice o.A o.n o.c)).toList := e
  unfold UsA.v
  rw [Array.toList_inj.mp this]
end
theorem userClones_law (w : World) (a : UsA) (h : a.ok w ∧ ∀ s ∈ a.u.gs, s.size ≤ reachBytes) (b : UsA) (k : b.ok w) : Calls Tryd.prog 8 #[a.v, b.v] w (BoolPost w true) :=
  clones_walk w a.u b.u a.A b.A a.n a.c b.n b.c h.1.row h.1.len h.1.nc h.1.cm h.1.nil k.row k.len k.nc k.cm h.2
end Go.Proofs.YtahcopmdffengaaDoor
