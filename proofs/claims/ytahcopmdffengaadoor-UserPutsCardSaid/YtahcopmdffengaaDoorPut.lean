/- interrexlaw01.put: an item is written, by both. -/
import Derived.Test.YtahcopmdffengaaDoorRef1
import Derived.Test.YtahcopmdffengaaDoorFew
import Derived.Test.YtahcopmdffengaaDoorCalm
import Derived.Deep.RegionHeld3
namespace Go.Proofs.YtahcopmdffengaaDoor
open Go.RowKit

/-- An item's bytes. -/
def Item.bytes (i : Item) : List UInt8 :=
  match i.k % 9 with
  | 0 => leB 1 i.x
  | 1 => leB 2 i.x
  | 2 => leB 4 i.x
  | 3 => leB 8 i.x
  | 4 => leB 1 (if i.is then 1 else 0)
  | 5 => textB i.s
  | 6 => rowB i.L
  | 7 => i.s.data.toList
  | _ => []

theorem leB_mod (n x : Nat) : leB n (x % 256 ^ n) = leB n x := by
  induction n generalizing x with
  | zero => rfl
  | succ n ih =>
    have h1 : UInt8.ofNat (x % 256 ^ (n + 1)) = UInt8.ofNat x := by
      apply UInt8.toNat_inj.1
      simp only [UInt8.toNat_ofNat']
      rw [Nat.pow_succ, Nat.mul_comm, Nat.mod_mul_right_mod]
    have h2 : x % 256 ^ (n + 1) / 256 = (x / 256) % 256 ^ n := by
      rw [Nat.pow_succ, Nat.mul_comm, Nat.mod_mul_right_div_self]
    simp only [leB]
    rw [h1, h2, ih]

theorem u16_wrap (x : Nat) : IntKind.u16.wrap (x : Int) = ((x % 65536 : Nat) : Int) := by simp [IntKind.wrap, IntKind.signed, IntKind.bits]
def PutPost (w : World) (S : Nat → Prop) (p : Nat) (bs xs : List UInt8) (e : Ending) (w' : World) : Prop :=
  e = .returned (.tuple #[.pointer (some ⟨p, 0, none⟩), .string (mkS xs)]) ∧ WrAt w' (andNew S w) p (bs ++ xs) ∧ Fr S w w'

/-- The blocks of S that are there. -/
def cutB (S : Nat → Prop) (w : World) : Nat → Prop := fun k => S k ∧ k < w.heap.size
theorem WrAt.cut {w : World} {S : Nat → Prop} {p : Nat} {bs : List UInt8} (h : WrAt w S p bs) : WrAt w (cutB S w) p bs := h.mono fun _ hk hs => ⟨hs, hk⟩
theorem WrAt.drew {w : World} {S : Nat → Prop} {p : Nat} {bs : List UInt8} (h : WrAt w S p bs) : WrAt w.drew S p bs := h.fr ((Fr.refl noB _).drew) (fun _ _ _ => id)
/-- A []byte that was made from a text since wa. -/
def RowIn (wa : World) (n : Nat) (R : World → World → Prop) (hR : ∀ a b, R a b → a.heap.size ≤ b.heap.size) : Stb R :=
  ⟨fun v w => ∃ g c, v = .slice (some ⟨g, 0, none⟩) n c ∧ wa.heap.size ≤ g ∧ g < w.heap.size, fun _ _ _ ⟨g, c, e, h1, h2⟩ f => ⟨g, c, e, h1, Nat.lt_of_lt_of_le h2 (hR _ _ f)⟩⟩
/-- What a region with one such text has besides, ahead of the call that takes it. -/
def RawC (wa : World) (xs : List UInt8) (k : Nat) (w' : World) : Prop := k = 0 → ∀ g, wa.heap.size ≤ g → g < w'.heap.size → RowAt w' (some ⟨g, 0, none⟩) (bcells xs)
theorem RawC.bytes {wa w : World} {s : ByteArray} {k : Nat} (h : RawC wa s.data.toList k w) : RawC wa s.data.toList k (Lib.bytesWorld w 5 s) := fun hk g h1 h2 => by
  by_cases e : g < w.heap.size
  · exact (h hk g h1 e).fr0 (bytesW_fr w s)
  · rw [Lib.bytesWorld_size] at h2
    have : g = w.heap.size := by omega
    subst this
    exact bytesW_row w s
/-- A Writer at p in a region: bs, and xs once its call has come up; the box at b keeps its cells. -/
def PutC (U : Nat → Prop) (wa : World) (p : Nat) (bs xs : List UInt8) (k : Nat) (w' : World) : Prop := WrAt w' U p (if k = 0 then bs else bs ++ xs) ∧ Fr U wa w'
theorem PutC.ref {U : Nat → Prop} {wa : World} {p : Nat} {bs xs : List UInt8} {k : Nat} {w w' : World} (h : PutC U wa p bs xs k w) (f : Fr noB w w') : PutC U wa p bs xs k w' :=
  ⟨h.1.fr f (fun _ _ _ => id), h.2.then' (f.mono fun _ _ h => h.elim)⟩
theorem PutC.wr {S : Nat → Prop} {wa : World} {p : Nat} {bs xs : List UInt8} {w w' : World} (h : PutC (andNew S wa) wa p bs xs 0 w) (h1 : WrAt w' (andNew (andNew S wa) w) p (bs ++ xs)) (f : Fr (andNew S wa) w w') : PutC (andNew S wa) wa p bs xs 1 w' :=
  ⟨h1.mono (fun i _ hi => hi.elim id fun q => Or.inr (by have := h.2.size; omega)), h.2.then' f⟩

theorem sumSz_50 {l : List ByteArray} (h1 : l.length ≤ 10) (h2 : ∀ s ∈ l, s.size ≤ 50) : sumSz l ≤ 520 := by
  have : ∀ l : List ByteArray, (∀ s ∈ l, s.size ≤ 50) → sumSz l ≤ 52 * l.length := by
    intro l
    induction l with
    | nil => simp [sumSz]
    | cons s l ih =>
      intro h
      have := ih fun s hs => h s (List.mem_cons_of_mem _ hs)
      have := h s (List.mem_cons_self ..)
      simp only [sumSz, List.map_cons, List.sum_cons, List.length_cons] at *
      omega
  have := this l h2
  omega

end Go.Proofs.YtahcopmdffengaaDoor
