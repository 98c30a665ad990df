/- op.From, op.Name, op.Same, interrexref14.From, interrexlaw07.SameTexts. -/
import Derived.Test.YtcaihinenfnekaaDoorTabS
import Derived.Test.YtcaihinenfnekaaDoorRef1
import Derived.Test.YtcaihinenfnekaaDoorSame
import Derived.Deep.QuietTactic
import Derived.BigQuiet
namespace Go.Proofs.YtcaihinenfnekaaDoor
open Go.RowKit

def fromV (i : Int) : Int := if i < 0 ∨ 17 ≤ i then 0 else if 5 ≤ i ∧ i ≤ 14 then 2 else 1
def IntPost (w : World) (i : Int) (e : Ending) (w' : World) : Prop := e = .returned (.int .i64 i) ∧ Fr noB w w'

theorem from_calls (w : World) (i : Int) : Calls Tryd.prog 16 #[.int .i64 i] w (IntPost w (fromV i)) := by
  by_cases h1 : i < 0
  · have hv : fromV i = 0 := by unfold fromV; rw [if_pos (Or.inl h1)]
    have d1 : decide (i < 0) = true := decide_eq_true h1
    rw [hv]; clear hv
    go_enter Tryd.func16, Tryd.ntmps16
    go_wp2_with fail
    go_ret
    exact ⟨rfl, Fr.refl _ _⟩
  · have d1 : decide (i < 0) = false := decide_eq_false h1
    by_cases h2 : 17 ≤ i
    · have hv : fromV i = 0 := by unfold fromV; rw [if_pos (Or.inr h2)]
      have d2 : decide (17 ≤ i) = true := decide_eq_true h2
      rw [hv]; clear hv
      go_enter Tryd.func16, Tryd.ntmps16
      go_wp2_with fail
      go_ret
      exact ⟨rfl, Fr.refl _ _⟩
    · have d2 : decide (17 ≤ i) = false := decide_eq_false h2
      by_cases h3 : 5 ≤ i
      · have d3 : decide (5 ≤ i) = true := decide_eq_true h3
        by_cases h4 : i ≤ 14
        · have hv : fromV i = 2 := by unfold fromV; rw [if_neg (by omega), if_pos ⟨h3, h4⟩]
          have d4 : decide (i ≤ 14) = true := decide_eq_true h4
          rw [hv]; clear hv
          go_enter Tryd.func16, Tryd.ntmps16
          go_wp2_with fail
          go_ret
          exact ⟨rfl, Fr.refl _ _⟩
        · have hv : fromV i = 1 := by unfold fromV; rw [if_neg (by omega), if_neg (by omega)]
          have d4 : decide (i ≤ 14) = false := decide_eq_false h4
          rw [hv]; clear hv
          go_enter Tryd.func16, Tryd.ntmps16
          go_wp2_with fail
          go_ret
          exact ⟨rfl, Fr.refl _ _⟩
      · have hv : fromV i = 1 := by unfold fromV; rw [if_neg (by omega), if_neg (by omega)]
        have d3 : decide (5 ≤ i) = false := decide_eq_false h3
        rw [hv]; clear hv
        go_enter Tryd.func16, Tryd.ntmps16
        go_wp2_with fail
        go_ret
        exact ⟨rfl, Fr.refl _ _⟩
theorem fromR_calls (w : World) (i : Int) : Calls Tryd.prog 17 #[.int .i64 i] w (IntPost w (fromV i)) := by
  by_cases h1 : i < 0
  · have hv : fromV i = 0 := by unfold fromV; rw [if_pos (Or.inl h1)]
    have d1 : decide (i < 0) = true := decide_eq_true h1
    rw [hv]; clear hv
    go_enter Tryd.func17, Tryd.ntmps17
    go_wp2_with fail
    go_ret
    exact ⟨rfl, Fr.refl _ _⟩
  · have d1 : decide (i < 0) = false := decide_eq_false h1
    by_cases h2 : 16 < i
    · have hv : fromV i = 0 := by unfold fromV; rw [if_pos (by omega)]
      have d2 : decide (16 < i) = true := decide_eq_true h2
      rw [hv]; clear hv
      go_enter Tryd.func17, Tryd.ntmps17
      go_wp2_with fail
      go_ret
      exact ⟨rfl, Fr.refl _ _⟩
    · have d2 : decide (16 < i) = false := decide_eq_false h2
      by_cases h3 : i < 5
      · have hv : fromV i = 1 := by unfold fromV; rw [if_neg (by omega), if_neg (by omega)]
        have d3 : decide (i < 5) = true := decide_eq_true h3
        rw [hv]; clear hv
        go_enter Tryd.func17, Tryd.ntmps17
        go_wp2_with fail
        go_ret
        exact ⟨rfl, Fr.refl _ _⟩
      · have d3 : decide (i < 5) = false := decide_eq_false h3
        by_cases h4 : 14 < i
        · have hv : fromV i = 1 := by unfold fromV; rw [if_neg (by omega), if_neg (by omega)]
          have d4 : decide (14 < i) = true := decide_eq_true h4
          rw [hv]; clear hv
          go_enter Tryd.func17, Tryd.ntmps17
          go_wp2_with fail
          go_ret
          exact ⟨rfl, Fr.refl _ _⟩
        · have hv : fromV i = 2 := by unfold fromV; rw [if_neg (by omega), if_pos (by omega)]
          have d4 : decide (14 < i) = false := decide_eq_false h4
          rw [hv]; clear hv
          go_enter Tryd.func17, Tryd.ntmps17
          go_wp2_with fail
          go_ret
          exact ⟨rfl, Fr.refl _ _⟩

/-- The name of a kind; out of the kinds the empty text. -/
def nameV (i : Int) : List UInt8 := if i < 0 then [] else namesL.getD i.toNat []
theorem nameV_out {i : Int} (h : i < 0 ∨ 17 ≤ i) : nameV i = [] := by
  unfold nameV
  split
  · rfl
  · rw [List.getD_eq_getElem?_getD, List.getElem?_eq_none (by simp only [namesL, List.length_cons, List.length_nil]; omega)]; rfl
theorem nameV_in {k : Nat} (h : k < 17) : namesL[k]? = some (nameV k) := by
  unfold nameV
  rw [if_neg (by omega), List.getD_eq_getElem?_getD, Int.toNat_natCast, List.getElem?_eq_getElem (by simpa [namesL] using h)]
  rfl
theorem name_calls (w : World) (i : Int) (ht : NamesAt w) : Calls Tryd.prog 18 #[.int .i64 i] w (StrPost w (nameV i)) := by
  by_cases h1 : i < 0
  · rw [nameV_out (Or.inl h1)]
    have d1 : decide (i < 0) = true := decide_eq_true h1
    go_enter Tryd.func18, Tryd.ntmps18
    go_wp2_with fail
    go_ret
    exact ⟨rfl, Fr.refl _ _⟩
  · have d1 : decide (i < 0) = false := decide_eq_false h1
    by_cases h2 : 17 ≤ i
    · rw [nameV_out (Or.inr h2)]
      have d2 : decide (17 ≤ i) = true := decide_eq_true h2
      go_enter Tryd.func18, Tryd.ntmps18
      go_wp2_with fail
      go_ret
      exact ⟨rfl, Fr.refl _ _⟩
    · have d2 : decide (17 ≤ i) = false := decide_eq_false h2
      obtain ⟨k, rfl⟩ : ∃ k : Nat, i = k := ⟨i.toNat, by omega⟩
      have hk : k < 17 := by omega
      have hc := ht k _ (nameV_in hk)
      generalize nameV k = s at *
      have hb : 0 ≤ (k : Int) ∧ (k : Int) < 17 := ⟨by omega, by omega⟩
      go_enter Tryd.func18, Tryd.ntmps18
      go_wp2_with fail
      go_ret
      exact ⟨rfl, Fr.refl _ _⟩
end Go.Proofs.YtcaihinenfnekaaDoor
