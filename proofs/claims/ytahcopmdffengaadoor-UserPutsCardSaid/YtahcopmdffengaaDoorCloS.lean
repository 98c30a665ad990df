/- slices.Clone over texts. -/
import Derived.Test.YtahcopmdffengaaDoorRd3
import Derived.Test.YtahcopmdffengaaDoorClone
import Derived.Deep.Cut
namespace Go.Proofs.YtahcopmdffengaaDoor
open Go.RowKit
/-- A []string in new memory. -/
def NewStrs (w : World) (l : List ByteArray) (A : Option Addr) (n c : Nat) (w' : World) : Prop :=
  l.length = n ∧ n ≤ c ∧ c ≤ 9223372036854775807 ∧ RowAt w' A (strs l) ∧ (∀ a, A = some a → 0 < n → w.heap.size ≤ a.block ∧ a.block < w'.heap.size) ∧ (A = none → n = 0 ∧ c = 0)
theorem strs_one (l : List ByteArray) : ∀ u ∈ strs l, u.oneCell' = true := by
  intro u hu
  simp only [strs, List.mem_map] at hu
  obtain ⟨s, _, rfl⟩ := hu
  rfl
theorem own_caps {w : World} {base n : Nat} {e : TypeId} {size : Nat} {A : Option Addr} {m c : Nat} {xs : List Value} (h : w.ownsRow base e size (.slice A m c) n xs) : m ≤ c ∧ c ≤ 9223372036854775807 ∧ (∀ ad, A = some ad → base ≤ ad.block) ∧ (A = none → m = 0 ∧ c = 0) := by
  rcases h.2 with ⟨e1, _⟩ | ⟨g, cap, cur, e1, hb, _, hc, hm, _⟩
  · injection e1 with h0 h1 h2; subst h0 h1 h2; exact ⟨Nat.le_refl _, by decide, fun _ h => (by cases h), fun _ => ⟨rfl, rfl⟩⟩
  · injection e1 with h0 h1 h2; subst h0 h1 h2; exact ⟨hc, Nat.le_trans hm (by decide), fun ad h => (by cases h; exact hb), fun h => (by cases h)⟩
theorem NewStrs.of_own {w w' : World} {l : List ByteArray} {A : Option Addr} {n c : Nat} (h : w'.ownsRow w.heap.size 9 1 (.slice A n c) n (strs l)) : NewStrs w l A n c w' := by
  obtain ⟨h1, h2, h3, h4⟩ := own_caps h
  have hl : l.length = n := by have := h.1; simpa [strs] using this
  refine ⟨hl, h1, h2, own_row h, fun a e hn => ⟨h3 a e, ?_⟩, h4⟩
  subst e
  exact (own_row h).lt (by simp only [strs, List.length_map]; omega)
set_option maxRecDepth 100000 in
theorem cloneS_own (w : World) (B : Option Addr) (n cap : Nat) (l : List ByteArray) (hx : RowAt w B (strs l)) (hn : l.length = n) (hB : B = none → n = 0 ∧ cap = 0) (hl : n ≤ 1000000000000) :
    Calls Tryd.prog 57 #[.slice B n cap] w (fun e w' => ∃ A c, e = .returned (.slice A n c) ∧ w'.ownsRow w.heap.size 9 1 (.slice A n c) n (strs l) ∧ Fr noB w w') := by
  have HN := hid hn; clear hn
  have heq := fun (w : World) (a : Option Addr) (n c : Nat) => Lib.run_eql_slice_nil (P := Tryd.prog) w 33 9 a n c 0 0 Tryd.underlying33
  cases B with
  | none =>
    obtain ⟨rfl, rfl⟩ := hB rfl
    go_enter Tryd.func57, Tryd.ntmps57
    go_wp2
    go_ret
    have hxs : l = [] := List.eq_nil_of_length_eq_zero HN.out
    subst hxs
    exact ⟨none, 0, rfl, World.ownsRow_nil _ _ _ _, Fr.refl _ _⟩
  | some ad =>
    have hown : (w.alloc (.cells #[] 9)).ownsRow 0 9 1 (.slice (some ⟨w.heap.size, 0, none⟩) 0 0) 0 [] := World.ownsRow_made w #[] 0 (Nat.zero_le _) (by unfold maxLen; omega) rfl
    have hx2 : RowAt (w.alloc (.cells #[] 9)) (some ad) (strs l) := hx.fr0 ((Fr.refl noB w).alloc _)
    have hl' : Hid (n ≤ 1000000000000) := hl
    clear hl
    go_enter Tryd.func57, Tryd.ntmps57
    go_wp2_with (at_builtin; refine wpList_app Tryd.appS rfl (.tmp 5) (.tmp 6) rfl _ 0 [] rfl hown (some ad) n cap (strs l) rfl (by simp only [strs, List.length_map]; rw [HN.out, Nat.mul_one]) hx2 (strs_one l) (by simp) (by have := hl'.out; omega) (by have := hl'.out; omega) ?_)
    intro A' c' w1 hown' hg hat
    go_wp2
    go_ret
    have hat' : ∃ k, (Value.slice A' n c').ownBlock = some k ∧ w.heap.size ≤ k := by
      rcases hat with e | e
      · exact ⟨_, e, Nat.le_refl _⟩
      · exact ⟨_, e, by simp⟩
    refine ⟨A', c', rfl, own_mono hown' ?_, ?_⟩
    · obtain ⟨k, e, hk⟩ := hat'
      intro g hg; rw [e] at hg; cases hg; exact hk
    · refine Fr.grown ((Fr.refl noB w).alloc _) hg (fun k hk => Or.inr ?_)
      simp [Value.ownBlock] at hk; omega
theorem cloneS_calls (w : World) (B : Option Addr) (n cap : Nat) (l : List ByteArray) (hx : RowAt w B (strs l)) (hn : l.length = n) (hB : B = none → n = 0 ∧ cap = 0) (hl : n ≤ 1000000000000) :
    Calls Tryd.prog 57 #[.slice B n cap] w (fun e w' => ∃ A c, e = .returned (.slice A n c) ∧ NewStrs w l A n c w' ∧ Fr noB w w') := by
  refine (cloneS_own w B n cap l hx hn hB hl).mono ?_
  rintro e w' ⟨A, c, rfl, h, f⟩
  exact ⟨A, c, rfl, NewStrs.of_own h, f⟩
theorem NewStrs.fr {w w' w'' : World} {T : Nat → Prop} {l : List ByteArray} {A : Option Addr} {n c : Nat} (h : NewStrs w l A n c w') (f : Fr T w' w'') (hT : ∀ a, A = some a → 0 < n → ¬ T a.block) : NewStrs w l A n c w'' :=
  ⟨h.1, h.2.1, h.2.2.1, h.2.2.2.1.fr f (fun a e h0 _ => hT a e (by simp only [strs, List.length_map] at h0; rw [← h.1]; exact h0)), fun a e h0 => ⟨(h.2.2.2.2.1 a e h0).1, Nat.lt_of_lt_of_le (h.2.2.2.2.1 a e h0).2 f.size⟩, h.2.2.2.2.2⟩
end Go.Proofs.YtahcopmdffengaaDoor
