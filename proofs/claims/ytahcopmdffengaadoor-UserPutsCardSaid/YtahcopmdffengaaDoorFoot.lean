/- A Writer's blocks, as a function of the world: a relation for regions with many writes. -/
import Derived.Test.YtahcopmdffengaaDoorPut7
namespace Go.Proofs.YtahcopmdffengaaDoor
open Go.RowKit

/-- The blocks of the Writer at p. -/
def footW (p : Nat) (w : World) (k : Nat) : Prop := k = p ∨ ∃ v T, w.heap[p]? = some (.cells #[v] T (0, 0)) ∧ v.ownBlock = some k
/-- Only the Writer's blocks were turned, and new ones. -/
structure RW (p : Nat) (w w' : World) : Prop where
  fr : Fr (footW p w) w w'
  foot : ∀ k, footW p w' k → footW p w k ∨ w.heap.size ≤ k
theorem WrAt.foot {w : World} {S : Nat → Prop} {p : Nat} {bs : List UInt8} (h : WrAt w S p bs) : WrAt w (footW p w) p bs := by
  obtain ⟨A, c, ty, h1, h2, h3, h4, h5⟩ := h.ex
  exact ⟨A, c, ty, h1, h2, h3, Or.inl rfl, fun k hk => Or.inr ⟨_, _, h2, hk⟩⟩
theorem WrAt.foot_le {w : World} {S : Nat → Prop} {p : Nat} {bs : List UInt8} (h : WrAt w S p bs) {k : Nat} (hk : footW p w k) : S k := by
  obtain ⟨A, c, ty, h1, h2, h3, h4, h5⟩ := h.ex
  rcases hk with rfl | ⟨v, T, e1, e2⟩
  · exact h4
  · rw [h2] at e1
    injection e1 with e1
    injection e1 with e1 _ _
    have : v = .slice A bs.length c := by simpa using e1.symm
    subst this
    exact h5 k e2
theorem WrAt.foot_lt {w : World} {S : Nat → Prop} {p : Nat} {bs : List UInt8} (h : WrAt w S p bs) {k : Nat} (hk : footW p w k) : k < w.heap.size :=
  (h.cut.foot_le hk).2
theorem RW.refl (p : Nat) (w : World) : RW p w w := ⟨Fr.refl _ _, fun _ h => Or.inl h⟩
theorem RW.trans {p : Nat} {a b c : World} (h : RW p a b) (k : RW p b c) : RW p a c :=
  ⟨h.fr.trans k.fr fun i hi hf => (h.foot i hf).elim id fun h => by omega,
   fun i hi => (k.foot i hi).elim (fun h' => h.foot i h') fun h' => Or.inr (Nat.le_trans h.fr.size h')⟩
theorem RW.drew (p : Nat) (w : World) : RW p w w.drew := ⟨(Fr.refl _ _).drew, fun _ h => Or.inl h⟩
theorem RW.wr {p : Nat} {w w' : World} {bs : List UInt8} (h : WrAt w' (andNew (footW p w) w) p bs) (f : Fr (footW p w) w w') : RW p w w' := ⟨f, fun _ hk => h.foot_le hk⟩
theorem RW.quiet {p : Nat} {w w' : World} {S : Nat → Prop} {bs : List UInt8} (h : WrAt w S p bs) (f : Fr noB w w') : RW p w w' :=
  ⟨f.mono fun _ _ h => h.elim, fun _ hk => Or.inl ((h.foot.fr f fun _ _ _ => id).foot_le hk)⟩
/-- A []byte in a block that is not the Writer's. -/
def OutV (p : Nat) (bs : List UInt8) : Stb (RW p) :=
  ⟨fun v w => ∃ g c, v = .slice (some ⟨g, 0, none⟩) bs.length c ∧ g < w.heap.size ∧ ¬ footW p w g ∧ RowAt w (some ⟨g, 0, none⟩) (bcells bs),
   fun _ _ _ ⟨g, c, e, h1, h2, h3⟩ f => ⟨g, c, e, Nat.lt_of_lt_of_le h1 f.fr.size, fun h => (f.foot g h).elim h2 (fun h => by omega), h3.fr f.fr (fun a e _ _ hf => by cases e; exact h2 hf)⟩⟩
/-- A chain of writes: q of the parts are written. -/
def BackC (p : Nat) (wa : World) (bs : List UInt8) (P : List (List UInt8)) (q : Nat) (W : World) : Prop := RW p wa W ∧ WrAt W (footW p W) p (bs ++ (P.take q).flatten)
theorem BackC.step {p : Nat} {wa W w' : World} {bs x : List UInt8} {P : List (List UInt8)} {q : Nat} (h : BackC p wa bs P q W) (hq : P[q]? = some x) (h1 : WrAt w' (andNew (footW p W) W) p (bs ++ (P.take q).flatten ++ x)) (f1 : Fr (footW p W) W w') :
    RW p W w' ∧ BackC p wa bs P (q + 1) w' := by
  have r := RW.wr h1 f1
  refine ⟨r, h.1.trans r, ?_⟩
  have e : (P.take (q + 1)).flatten = (P.take q).flatten ++ x := by rw [take_snoc' hq, List.flatten_append]; simp
  rw [e, ← List.append_assoc]
  exact h1.foot
theorem BackC.quiet {p : Nat} {wa W w' : World} {bs : List UInt8} {P : List (List UInt8)} {q : Nat} (h : BackC p wa bs P q W) (f : Fr noB W w') : RW p W w' ∧ BackC p wa bs P q w' :=
  ⟨RW.quiet h.2 f, h.1.trans (RW.quiet h.2 f), (h.2.fr f fun _ _ _ => id).foot⟩
theorem BackC.start {p : Nat} {w : World} {S : Nat → Prop} {bs : List UInt8} {P : List (List UInt8)} (h : WrAt w S p bs) : BackC p w bs P 0 w.drew := ⟨RW.drew _ _, by
  rw [List.take_zero, List.flatten_nil, List.append_nil]; exact h.drew.foot⟩
theorem parts_length (P : List (List UInt8)) (q : Nat) : (P.take q).flatten.length ≤ P.flatten.length := by
  have h : P.flatten = (P.take q).flatten ++ (P.drop q).flatten := by rw [← List.flatten_append, List.take_append_drop]
  rw [h, List.length_append]; omega
/-- All of an item, as OctetBack writes it. -/
def Item.parts (i : Item) : List (List UInt8) := [leB 1 i.k, leB 2 i.x, leB 4 i.x, leB 8 i.x, leB 1 (if i.is then 1 else 0), textB i.s, rowB i.L, i.s.data.toList]
def Item.all (i : Item) : List UInt8 := i.parts.flatten
def allB (l : List Item) : List UInt8 := l.flatMap Item.all
end Go.Proofs.YtahcopmdffengaaDoor
