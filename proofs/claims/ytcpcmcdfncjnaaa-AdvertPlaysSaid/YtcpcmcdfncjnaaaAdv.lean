/- interrexlaw16.lives. -/
import Derived.Test.YtcpcmcdfncjnaaaBoard
import Derived.Test.YtcpcmcdfncjnaaaCalm
import Derived.Test.YtcpcmcdfncjnaaaConv
import Derived.Test.YtcpcmcdfncjnaaaOpen
import Derived.Maps.OwnOps
import Derived.Maps.Views
import Derived.LaidEqlPtr
import Derived.WalkLawsBesides
namespace Go.Proofs.Ytcpcmcdfncjnaaa
open Go.RowKit

set_option maxRecDepth 100000 in
set_option maxHeartbeats 1600000 in
theorem lives16_calls (w : World) : Calls Try.prog 20 #[] w (BoolPost w true) := by
  go_enter Try.func20, Try.ntmps20
  go_wp2_with fail
  refine (newB_yes w 3 (by decide)).mono ?_
  rintro e w1 ⟨rfl, h1, f1⟩
  go_wp2_with fail
  refine (note_calls w1 _ _ _ 0 3 h1 (by decide) (by decide)).mono ?_
  rintro e w2 ⟨rfl, h2, f2⟩
  replace h2 : BoAt w2 (upB w.heap.size) (w.heap.size + 1) [3, 0, 0] := h2
  go_wp2_with fail
  refine (note_calls w2 _ _ _ 1 3 h2 (by decide) (by decide)).mono ?_
  rintro e w3 ⟨rfl, h3, f3⟩
  replace h3 : BoAt w3 (upB w.heap.size) (w.heap.size + 1) [3, 3, 0] := h3
  go_wp2_with fail
  refine (note_calls w3 _ _ _ 2 1 h3 (by decide) (by decide)).mono ?_
  rintro e w4 ⟨rfl, h4, f4⟩
  replace h4 : BoAt w4 (upB w.heap.size) (w.heap.size + 1) [3, 3, 1] := h4
  go_wp2_with fail
  refine (lacking_calls w4 _ _ _ 2 h4 (by decide) (by decide) (by decide)).mono ?_
  rintro e w5 ⟨A, c, rfl, h5, f5⟩
  rw [show lackB [3, 3, 1] 2 = [2] by decide] at h5 ⊢
  obtain ⟨a, rfl⟩ := (own_row h5).some_of (by decide)
  have c5 := (own_row h5).cell (j := 0) (u := .int .u8 2) rfl
  have e5 : a.add 0 = a := by unfold Addr.add; simp
  rw [e5] at c5
  have HF : Hid (Fr noB w w5) := by
    have := (f2.then' f3).then' f4
    exact (f1.up0 _).then' this |>.none |>.then' f5
  clear f1 f2 f3 f4 f5 h1 h2 h3 h4 h5 e5
  go_wp2_with fail
  go_ret
  exact ⟨rfl, HF.out⟩

/-! ### A map[uint8]Release -/
open Go.Maps
theorem Try.keyU8 : Keyed Try.prog 5 := int_keyed Try.underlying5
theorem Try.zeroR (w : World) : (zeroValue 45).run Try.prog w = .ok (.int .u8 0) w := by kernel_rfl
theorem wf_u8 {n : Nat} (h : n < 256) : (Lit.int .u8 (n : Int)).wf = true := by
  simp [Lit.wf, IntKind.min, IntKind.max, IntKind.bits, IntKind.signed]; omega
/-- Block b is a map of at most n entries that reads as f. -/
def MapR (w : World) (b n : Nat) (f : Nat → Nat) : Prop :=
  ∃ D : DataW Unit, w.ownsMap Try.prog 5 (plainElem Try.prog 45) b n D ∧ IsMap D ∧ ∀ i, i < 256 → D.atKey (.int .u8 (i : Nat)) (.lit (.int .u8 0)) = .lit (.int .u8 ((f i : Nat) : Int))
theorem MapR.new (w : World) : MapR (w.alloc (.map #[] 0)) w.heap.size 0 (fun _ => 0) :=
  ⟨.map [], World.ownsMap_made _ _ _ _, isMap_empty, fun _ _ => rfl⟩
theorem MapR.fr {S : Nat → Prop} {w w' : World} {b n : Nat} {f : Nat → Nat} (h : MapR w b n f) (hf : Fr S w w') (hb : ¬ S b) : MapR w' b n f := by
  obtain ⟨D, h1, h2, h3⟩ := h
  obtain ⟨es, clock, hh, F, hs, hD⟩ := h1
  exact ⟨D, ⟨es, clock, hf.heap hh hb, F, hs, hD⟩, h2, h3⟩
set_option maxRecDepth 10000 in
theorem MapR.look {w : World} {b n : Nat} {f : Nat → Nat} (h : MapR w b n f) {i : Nat} (hi : i < 256) :
    (Instr.lookup 40 (.map (some b)) (.int .u8 (i : Nat)) false).run Try.prog w = .ok (.int .u8 ((f i : Nat) : Int)) w := by
  obtain ⟨D, h1, h2, h3⟩ := h
  have hl := h1.lookup_int Try.keyU8 Try.underlying40 Try.underlying45 (Try.zeroR w) (key := .int .u8 (i : Nat)) (kl := .int .u8 (i : Nat)) (keyOf_int_mk Try.underlying5 (wf_u8 hi))
  obtain ⟨c, hr, hat, _⟩ := hl
  have e : DataW.lit (H := Unit) (.int .u8 ((f i : Nat) : Int)) = .lit (.int .u8 c) := (h3 i hi).symm.trans hat
  injection e with e; injection e with _ e
  subst e
  exact hr
theorem MapR.put {P : Program} {w : World} {b n : Nat} {f : Nat → Nat} (D : DataW Unit) (h2 : IsMap D) (h3 : ∀ i, i < 256 → D.atKey (.int .u8 (i : Nat)) (.lit (.int .u8 0)) = .lit (.int .u8 ((f i : Nat) : Int))) {k r : Nat}
    (h1 : w.ownsMap Try.prog 5 (plainElem Try.prog 45) b n (D.put (.int .u8 (k : Nat)) (.lit (.int .u8 (r : Nat))))) : MapR w b n (fun i => if i = k then r else f i) := by
  refine ⟨_, h1, h2.put _ _, fun i hi => ?_⟩
  by_cases e : i = k
  · subst e
    rw [atKey_put_same h2 (by trivial)]; simp
  · rw [atKey_put_other (by intro h; injection h with _ h; exact e (by omega)), h3 i hi]; simp [e]

/-! ### Acts -/
structure Act16 where
  k : Nat
  n : Nat
  r : Nat
instance : Inhabited Act16 := ⟨⟨0, 0, 0⟩⟩
def Act16.cells (a : Act16) : List Value := [.int .u8 a.k, .int .u8 a.n, .int .u8 a.r]
structure Act16.ok (a : Act16) : Prop where
  k : a.k < 256
  n : a.n < 256
  r : a.r < 256
theorem Act16.cells_length (a : Act16) : a.cells.length = 3 := rfl
theorem u8_nat16 {n : Int} (h : (Lit.int .u8 n).wf = true) : 0 ≤ n ∧ n < 256 := by
  simp [Lit.wf, IntKind.min, IntKind.max, IntKind.bits, IntKind.signed] at h; omega
section
variable {H : Type} {enc : TypeId × Value → H} {w : World}
theorem open_act (n : Nat) (cs : List Value) (y : DataW H × List MemPlace) (h : DataW.trod enc Try.prog w 0 (fun _ => true) true n 42 cs = some y) :
    ∃ i : Act16, cs = i.cells ∧ i.ok := by
  obtain ⟨xs, m, _, rfl, hl, hlen, hf⟩ := DataW.trod_struct Try.underlying42 h
  have c3 : Try.prog.cellsOf 42 = 3 := by kernel_rfl
  have k5 : Try.prog.cellsOf 5 = 1 := by kernel_rfl
  rw [c3] at hl
  obtain ⟨v0, v1, v2, rfl⟩ := list3 hl
  obtain ⟨x0, x1, x2, rfl⟩ := list3 (show xs.length = 3 from hlen)
  have g0 : DataW.trod enc Try.prog w 0 (fun _ => true) true m 5 (([v0, v1, v2].drop 0).take (Try.prog.cellsOf 5)) = some x0 := hf 0 _ rfl
  rw [k5] at g0
  have f0 : DataW.trod enc Try.prog w 0 (fun _ => true) true m 5 [v0] = some x0 := g0
  have g1 : DataW.trod enc Try.prog w 0 (fun _ => true) true m 5 (([v0, v1, v2].drop 1).take (Try.prog.cellsOf 5)) = some x1 := hf 1 _ rfl
  rw [k5] at g1
  have f1 : DataW.trod enc Try.prog w 0 (fun _ => true) true m 5 [v1] = some x1 := g1
  have g2 : DataW.trod enc Try.prog w 0 (fun _ => true) true m 5 (([v0, v1, v2].drop 2).take (Try.prog.cellsOf 5)) = some x2 := hf 2 _ rfl
  rw [k5] at g2
  have f2 : DataW.trod enc Try.prog w 0 (fun _ => true) true m 5 [v2] = some x2 := g2
  obtain ⟨n0, e0, _, w0⟩ := DataW.trod_int Try.underlying5 f0
  obtain ⟨n1, e1, _, w1⟩ := DataW.trod_int Try.underlying5 f1
  obtain ⟨n2, e2, _, w2⟩ := DataW.trod_int Try.underlying5 f2
  simp only [List.cons.injEq, and_true] at e0 e1 e2
  subst e0 e1 e2
  obtain ⟨u0, u1⟩ := u8_nat16 w0
  obtain ⟨u2, u3⟩ := u8_nat16 w1
  obtain ⟨u4, u5⟩ := u8_nat16 w2
  obtain ⟨m0, rfl⟩ := Int.eq_ofNat_of_zero_le u0
  obtain ⟨m1, rfl⟩ := Int.eq_ofNat_of_zero_le u2
  obtain ⟨m2, rfl⟩ := Int.eq_ofNat_of_zero_le u4
  exact ⟨⟨m0, m1, m2⟩, rfl, ⟨by simp only []; omega, by simp only []; omega, by simp only []; omega⟩⟩
theorem open_acts {A : Option Addr} {len cap : Nat} {d : DataW H} {ps : List MemPlace} (h : DataW.Trod enc Try.prog w 0 (fun _ => true) true 37 (.slice A len cap) d ps) :
    ∃ l : List Act16, RowAt w A (l.flatMap Act16.cells) ∧ l.length = len ∧ len ≤ cap ∧ cap ≤ maxLen ∧ (∀ i ∈ l, i.ok) ∧ (A = none → len = 0 ∧ cap = 0) := by
  obtain ⟨l, h1, h2, h3, h4, h5, h6⟩ := open_rows Act16.cells (fun i => i.ok) Try.underlying37 open_act h
  exact ⟨l, h1, h2, h3, h4, h5, h6⟩
end
/-- The board behind the acts. -/
def boardOf (n : Nat) (l : List Act16) : List Nat := l.foldl (fun b y => (bNote b y.n y.r).1) (List.replicate n 0)
theorem boardOf_snoc {n k : Nat} {l : List Act16} {a : Act16} (h : l[k]? = some a) : boardOf n (l.take (k + 1)) = (bNote (boardOf n (l.take k)) a.n a.r).1 := by
  unfold boardOf
  rw [take_snoc' h, List.foldl_append]; rfl
theorem bNote_keep {b : List Nat} {k r m : Nat} (hb : b.length = m ∧ ∀ x ∈ b, x ≤ 3) : (bNote b k r).1.length = m ∧ ∀ x ∈ (bNote b k r).1, x ≤ 3 := by
  unfold bNote
  split
  · rename_i h
    refine ⟨by simpa using hb.1, fun x hx => ?_⟩
    rcases List.mem_or_eq_of_mem_set hx with h1 | h1
    · exact hb.2 x h1
    · omega
  · exact hb
theorem bNote_get (b : List Nat) (k r i : Nat) : (bNote b k r).1.getD i 0 = if (bNote b k r).2 = 0 ∧ i = k then r else b.getD i 0 := by
  unfold bNote
  split
  · rename_i h
    simp only [List.getD_eq_getElem?_getD, true_and]
    by_cases e : i = k
    · subst e; rw [if_pos rfl, List.getElem?_set_self h.1]; rfl
    · rw [if_neg e, List.getElem?_set_ne (by omega)]
  · simp
theorem hasB_or (x a b : Nat) : hasB x (a ||| b) = (hasB x a && hasB x b) := by
  unfold hasB
  rw [Bool.eq_iff_iff, Bool.and_eq_true]
  simp only [decide_eq_true_eq]
  constructor
  · intro h
    refine ⟨Nat.eq_of_testBit_eq fun i => ?_, Nat.eq_of_testBit_eq fun i => ?_⟩
    all_goals
      have := congrArg (fun n => n.testBit i) h
      simp only [Nat.testBit_and, Nat.testBit_or] at this ⊢
      revert this
      cases x.testBit i <;> cases a.testBit i <;> cases b.testBit i <;> simp
  · rintro ⟨h1, h2⟩
    refine Nat.eq_of_testBit_eq fun i => ?_
    have h3 := congrArg (fun n => n.testBit i) h1
    have h4 := congrArg (fun n => n.testBit i) h2
    simp only [Nat.testBit_and, Nat.testBit_or] at h3 h4 ⊢
    revert h3 h4
    cases x.testBit i <;> cases a.testBit i <;> cases b.testBit i <;> simp
theorem allB'_or (l : List Nat) (a b : Nat) : allB' l (a ||| b) = (allB' l a && allB' l b) := by
  unfold allB'
  induction l with
  | nil => rfl
  | cons x l ih =>
    rw [List.all_cons, List.all_cons, List.all_cons, ih, hasB_or]
    cases hasB x a <;> cases hasB x b <;> simp
theorem allB'_snoc {l : List Nat} {k x : Nat} (h : l[k]? = some x) (a : Nat) : allB' (l.take (k + 1)) a = (allB' (l.take k) a && hasB x a) := by
  unfold allB'; rw [take_snoc' h, List.all_append]; simp
end Go.Proofs.Ytcpcmcdfncjnaaa
