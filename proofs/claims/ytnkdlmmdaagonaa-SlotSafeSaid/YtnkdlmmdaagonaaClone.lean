/- bytes.Clone. -/
import Derived.Test.YtnkdlmmdaagonaaWr
import Derived.WalkSpells
namespace Go.Proofs.Ytnkdlmmdaagonaa
open Go.RowKit

/-- A slice of bytes of one's own, in new blocks. -/
structure NewBytes (w w' : World) (v : Value) (xs : List UInt8) : Prop where
  own : w'.ownsRow w.heap.size 5 1 v xs.length (bcells xs)
  fr : Fr noB w w'

def CloneP (w : World) (B : Option Addr) (n : Nat) (xs : List UInt8) (e : Ending) (w' : World) : Prop :=
  ∃ A c, e = .returned (.slice A n c) ∧ w'.ownsRow w.heap.size 5 1 (.slice A n c) n (bcells xs) ∧ Fr noB w w' ∧ (A = none ↔ B = none)

set_option maxRecDepth 100000 in
theorem clone_calls (w : World) (B : Option Addr) (n cap : Nat) (xs : List UInt8) (hx : RowAt w B (bcells xs)) (hn : xs.length = n) (hB : B = none → n = 0 ∧ cap = 0) (hl : n ≤ 1000000000000) :
    Calls Try.prog 49 #[.slice B n cap] w (CloneP w B n xs) := by
  have HN := hid hn; clear hn
  have heq := fun (w : World) (a : Option Addr) (n c : Nat) => Lib.run_eql_slice_nil (P := Try.prog) w 22 5 a n c 0 0 Try.underlying22
  cases B with
  | none =>
    obtain ⟨rfl, rfl⟩ := hB rfl
    go_enter Try.func49, Try.ntmps49
    go_wp2
    go_ret
    have hxs : xs = [] := List.eq_nil_of_length_eq_zero HN.out
    subst hxs
    exact ⟨none, 0, rfl, World.ownsRow_nil _ _ _ _, Fr.refl _ _, by simp⟩
  | some ad =>
    have hown : (w.alloc (.cells #[] 5)).ownsRow 0 5 1 (.slice (some ⟨w.heap.size, 0, none⟩) 0 0) 0 [] := World.ownsRow_made w #[] 0 (Nat.zero_le _) (by unfold maxLen; omega) rfl
    have hx1 : 0 < n → ad.block < w.heap.size := fun h0 => hx.lt (by rw [bcells_length, HN.out]; exact h0)
    have hx2 : RowAt (w.alloc (.cells #[] 5)) (some ad) (bcells xs) := hx.fr0 ((Fr.refl noB w).alloc _)
    have hl' : Hid (n ≤ 1000000000000) := hl
    clear hl
    go_enter Try.func49, Try.ntmps49
    go_wp2_with (at_builtin; refine wpList_app Try.app8 rfl (.tmp 5) (.tmp 6) rfl _ 0 [] rfl hown (some ad) n cap (bcells xs) rfl (by rw [bcells_length, HN.out, Nat.mul_one]) hx2 (bcells_one _) (by simp) (by have := hl'.out; omega) (by have := hl'.out; omega) ?_)
    intro A' c' w1 hown' hg hat
    go_wp2
    go_ret
    have hat' : ∃ k, (Value.slice A' n c').ownBlock = some k ∧ w.heap.size ≤ k := by
      rcases hat with e | e
      · exact ⟨_, e, Nat.le_refl _⟩
      · exact ⟨_, e, by simp⟩
    refine ⟨A', c', rfl, own_mono hown' ?_, ?_, ?_⟩
    · obtain ⟨k, e, hk⟩ := hat'
      intro g hg; rw [e] at hg; cases hg; exact hk
    · refine Fr.grown ((Fr.refl noB w).alloc _) hg (fun k hk => Or.inr ?_)
      simp [Value.ownBlock] at hk; omega
    · obtain ⟨k, e, hk⟩ := hat'
      constructor
      · rintro rfl; simp [Value.ownBlock] at e
      · intro h; cases h
end Go.Proofs.Ytnkdlmmdaagonaa
