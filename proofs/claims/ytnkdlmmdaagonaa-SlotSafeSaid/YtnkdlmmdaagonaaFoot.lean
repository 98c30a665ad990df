/- Contracts, several texts in one. -/
import Derived.Test.YtnkdlmmdaagonaaRef1
import Derived.Test.YtnkdlmmdaagonaaFew
import Derived.Test.YtnkdlmmdaagonaaCalm
import Derived.Deep.RegionHeld3
/- interrexlaw01.put: an item is written, by both. -/
namespace Go.Proofs.Ytnkdlmmdaagonaa
open Go.RowKit

/-- An item's bytes. -/
def Item.bytes (i : Item) : List UInt8 :=
  match i.k % 9 with
  | 0 => leB 1 i.x
  | 1 => leB 2 i.x
  | 2 => leB 4 i.x
  | 3 => leB 8 i.x
  | 4 => leB 1 (if i.is then 1 else 0)
  | 5 => textB i.s
  | 6 => rowB i.L
  | 7 => i.s.data.toList
  | _ => []

theorem leB_mod (n x : Nat) : leB n (x % 256 ^ n) = leB n x := by
  induction n generalizing x with
  | zero => rfl
  | succ n ih =>
    have h1 : UInt8.ofNat (x % 256 ^ (n + 1)) = UInt8.ofNat x := by
      apply UInt8.toNat_inj.1
      simp only [UInt8.toNat_ofNat']
      rw [Nat.pow_succ, Nat.mul_comm, Nat.mod_mul_right_mod]
    have h2 : x % 256 ^ (n + 1) / 256 = (x / 256) % 256 ^ n := by
      rw [Nat.pow_succ, Nat.mul_comm, Nat.mod_mul_right_div_self]
    simp only [leB]
    rw [h1, h2, ih]

theorem u16_wrap (x : Nat) : IntKind.u16.wrap (x : Int) = ((x % 65536 : Nat) : Int) := by simp [IntKind.wrap, IntKind.signed, IntKind.bits]
def PutPost (w : World) (S : Nat → Prop) (p : Nat) (bs xs : List UInt8) (e : Ending) (w' : World) : Prop :=
  e = .returned (.tuple #[.pointer (some ⟨p, 0, none⟩), .string (mkS xs)]) ∧ WrAt w' (andNew S w) p (bs ++ xs) ∧ Fr S w w'

/-- The blocks of S that are there. -/
def cutB (S : Nat → Prop) (w : World) : Nat → Prop := fun k => S k ∧ k < w.heap.size
theorem WrAt.cut {w : World} {S : Nat → Prop} {p : Nat} {bs : List UInt8} (h : WrAt w S p bs) : WrAt w (cutB S w) p bs := h.mono fun _ hk hs => ⟨hs, hk⟩
theorem WrAt.drew {w : World} {S : Nat → Prop} {p : Nat} {bs : List UInt8} (h : WrAt w S p bs) : WrAt w.drew S p bs := h.fr ((Fr.refl noB _).drew) (fun _ _ _ => id)
/-- A []byte that was made from a text since wa. -/
def RowIn (wa : World) (n : Nat) (R : World → World → Prop) (hR : ∀ a b, R a b → a.heap.size ≤ b.heap.size) : Stb R :=
  ⟨fun v w => ∃ g c, v = .slice (some ⟨g, 0, none⟩) n c ∧ wa.heap.size ≤ g ∧ g < w.heap.size, fun _ _ _ ⟨g, c, e, h1, h2⟩ f => ⟨g, c, e, h1, Nat.lt_of_lt_of_le h2 (hR _ _ f)⟩⟩
/-- What a region with one such text has besides, ahead of the call that takes it. -/
def RawC (wa : World) (xs : List UInt8) (k : Nat) (w' : World) : Prop := k = 0 → ∀ g, wa.heap.size ≤ g → g < w'.heap.size → RowAt w' (some ⟨g, 0, none⟩) (bcells xs)
theorem RawC.bytes {wa w : World} {s : ByteArray} {k : Nat} (h : RawC wa s.data.toList k w) : RawC wa s.data.toList k (Lib.bytesWorld w 5 s) := fun hk g h1 h2 => by
  by_cases e : g < w.heap.size
  · exact (h hk g h1 e).fr0 (bytesW_fr w s)
  · rw [Lib.bytesWorld_size] at h2
    have : g = w.heap.size := by omega
    subst this
    exact bytesW_row w s
/-- A Writer at p in a region: bs, and xs once its call has come up; the box at b keeps its cells. -/
def PutC (U : Nat → Prop) (wa : World) (p : Nat) (bs xs : List UInt8) (k : Nat) (w' : World) : Prop := WrAt w' U p (if k = 0 then bs else bs ++ xs) ∧ Fr U wa w'
theorem PutC.ref {U : Nat → Prop} {wa : World} {p : Nat} {bs xs : List UInt8} {k : Nat} {w w' : World} (h : PutC U wa p bs xs k w) (f : Fr noB w w') : PutC U wa p bs xs k w' :=
  ⟨h.1.fr f (fun _ _ _ => id), h.2.then' (f.mono fun _ _ h => h.elim)⟩
theorem PutC.wr {S : Nat → Prop} {wa : World} {p : Nat} {bs xs : List UInt8} {w w' : World} (h : PutC (andNew S wa) wa p bs xs 0 w) (h1 : WrAt w' (andNew (andNew S wa) w) p (bs ++ xs)) (f : Fr (andNew S wa) w w') : PutC (andNew S wa) wa p bs xs 1 w' :=
  ⟨h1.mono (fun i _ hi => hi.elim id fun q => Or.inr (by have := h.2.size; omega)), h.2.then' f⟩

theorem sumSz_50 {l : List ByteArray} (h1 : l.length ≤ 10) (h2 : ∀ s ∈ l, s.size ≤ 50) : sumSz l ≤ 520 := by
  have : ∀ l : List ByteArray, (∀ s ∈ l, s.size ≤ 50) → sumSz l ≤ 52 * l.length := by
    intro l
    induction l with
    | nil => simp [sumSz]
    | cons s l ih =>
      intro h
      have := ih fun s hs => h s (List.mem_cons_of_mem _ hs)
      have := h s (List.mem_cons_self ..)
      simp only [sumSz, List.map_cons, List.sum_cons, List.length_cons] at *
      omega
  have := this l h2
  omega

end Go.Proofs.Ytnkdlmmdaagonaa
/- interrexlaw01.put, the last kinds, and all. -/
namespace Go.Proofs.Ytnkdlmmdaagonaa
open Go.RowKit

end Go.Proofs.Ytnkdlmmdaagonaa
/- A Writer's blocks, as a function of the world: a relation for regions with many writes. -/
namespace Go.Proofs.Ytnkdlmmdaagonaa
open Go.RowKit

/-- The blocks of the Writer at p. -/
def footW (p : Nat) (w : World) (k : Nat) : Prop := k = p ∨ ∃ v T, w.heap[p]? = some (.cells #[v] T (0, 0)) ∧ v.ownBlock = some k
/-- Only the Writer's blocks were turned, and new ones. -/
structure RW (p : Nat) (w w' : World) : Prop where
  fr : Fr (footW p w) w w'
  foot : ∀ k, footW p w' k → footW p w k ∨ w.heap.size ≤ k
theorem WrAt.foot {w : World} {S : Nat → Prop} {p : Nat} {bs : List UInt8} (h : WrAt w S p bs) : WrAt w (footW p w) p bs := by
  obtain ⟨A, c, ty, h1, h2, h3, h4, h5⟩ := h.ex
  exact ⟨A, c, ty, h1, h2, h3, Or.inl rfl, fun k hk => Or.inr ⟨_, _, h2, hk⟩⟩
theorem WrAt.foot_le {w : World} {S : Nat → Prop} {p : Nat} {bs : List UInt8} (h : WrAt w S p bs) {k : Nat} (hk : footW p w k) : S k := by
  obtain ⟨A, c, ty, h1, h2, h3, h4, h5⟩ := h.ex
  rcases hk with rfl | ⟨v, T, e1, e2⟩
  · exact h4
  · rw [h2] at e1
    injection e1 with e1
    injection e1 with e1 _ _
    have : v = .slice A bs.length c := by simpa using e1.symm
    subst this
    exact h5 k e2
theorem WrAt.foot_lt {w : World} {S : Nat → Prop} {p : Nat} {bs : List UInt8} (h : WrAt w S p bs) {k : Nat} (hk : footW p w k) : k < w.heap.size :=
  (h.cut.foot_le hk).2
theorem RW.refl (p : Nat) (w : World) : RW p w w := ⟨Fr.refl _ _, fun _ h => Or.inl h⟩
theorem RW.trans {p : Nat} {a b c : World} (h : RW p a b) (k : RW p b c) : RW p a c :=
  ⟨h.fr.trans k.fr fun i hi hf => (h.foot i hf).elim id fun h => by omega,
   fun i hi => (k.foot i hi).elim (fun h' => h.foot i h') fun h' => Or.inr (Nat.le_trans h.fr.size h')⟩
theorem RW.drew (p : Nat) (w : World) : RW p w w.drew := ⟨(Fr.refl _ _).drew, fun _ h => Or.inl h⟩
theorem RW.wr {p : Nat} {w w' : World} {bs : List UInt8} (h : WrAt w' (andNew (footW p w) w) p bs) (f : Fr (footW p w) w w') : RW p w w' := ⟨f, fun _ hk => h.foot_le hk⟩
theorem RW.quiet {p : Nat} {w w' : World} {S : Nat → Prop} {bs : List UInt8} (h : WrAt w S p bs) (f : Fr noB w w') : RW p w w' :=
  ⟨f.mono fun _ _ h => h.elim, fun _ hk => Or.inl ((h.foot.fr f fun _ _ _ => id).foot_le hk)⟩
/-- A []byte in a block that is not the Writer's. -/
def OutV (p : Nat) (bs : List UInt8) : Stb (RW p) :=
  ⟨fun v w => ∃ g c, v = .slice (some ⟨g, 0, none⟩) bs.length c ∧ g < w.heap.size ∧ ¬ footW p w g ∧ RowAt w (some ⟨g, 0, none⟩) (bcells bs),
   fun _ _ _ ⟨g, c, e, h1, h2, h3⟩ f => ⟨g, c, e, Nat.lt_of_lt_of_le h1 f.fr.size, fun h => (f.foot g h).elim h2 (fun h => by omega), h3.fr f.fr (fun a e _ _ hf => by cases e; exact h2 hf)⟩⟩
/-- A chain of writes: q of the parts are written. -/
def BackC (p : Nat) (wa : World) (bs : List UInt8) (P : List (List UInt8)) (q : Nat) (W : World) : Prop := RW p wa W ∧ WrAt W (footW p W) p (bs ++ (P.take q).flatten)
theorem BackC.step {p : Nat} {wa W w' : World} {bs x : List UInt8} {P : List (List UInt8)} {q : Nat} (h : BackC p wa bs P q W) (hq : P[q]? = some x) (h1 : WrAt w' (andNew (footW p W) W) p (bs ++ (P.take q).flatten ++ x)) (f1 : Fr (footW p W) W w') :
    RW p W w' ∧ BackC p wa bs P (q + 1) w' := by
  have r := RW.wr h1 f1
  refine ⟨r, h.1.trans r, ?_⟩
  have e : (P.take (q + 1)).flatten = (P.take q).flatten ++ x := by rw [take_snoc' hq, List.flatten_append]; simp
  rw [e, ← List.append_assoc]
  exact h1.foot
theorem BackC.quiet {p : Nat} {wa W w' : World} {bs : List UInt8} {P : List (List UInt8)} {q : Nat} (h : BackC p wa bs P q W) (f : Fr noB W w') : RW p W w' ∧ BackC p wa bs P q w' :=
  ⟨RW.quiet h.2 f, h.1.trans (RW.quiet h.2 f), (h.2.fr f fun _ _ _ => id).foot⟩
theorem BackC.start {p : Nat} {w : World} {S : Nat → Prop} {bs : List UInt8} {P : List (List UInt8)} (h : WrAt w S p bs) : BackC p w bs P 0 w.drew := ⟨RW.drew _ _, by
  rw [List.take_zero, List.flatten_nil, List.append_nil]; exact h.drew.foot⟩
theorem parts_length (P : List (List UInt8)) (q : Nat) : (P.take q).flatten.length ≤ P.flatten.length := by
  have h : P.flatten = (P.take q).flatten ++ (P.drop q).flatten := by rw [← List.flatten_append, List.take_append_drop]
  rw [h, List.length_append]; omega
/-- All of an item, as OctetBack writes it. -/
def Item.parts (i : Item) : List (List UInt8) := [leB 1 i.k, leB 2 i.x, leB 4 i.x, leB 8 i.x, leB 1 (if i.is then 1 else 0), textB i.s, rowB i.L, i.s.data.toList]
def Item.all (i : Item) : List UInt8 := i.parts.flatten
def allB (l : List Item) : List UInt8 := l.flatMap Item.all
end Go.Proofs.Ytnkdlmmdaagonaa
