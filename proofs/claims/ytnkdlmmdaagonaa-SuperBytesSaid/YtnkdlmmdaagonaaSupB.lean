/- Super blocks as bytes (no program). -/
import Derived.Test.YtnkdlmmdaagonaaSup2
import Derived.Test.YtnkdlmmdaagonaaOpenT
import Derived.Test.YtnkdlmmdaagonaaRd3
import Derived.Test.YtnkdlmmdaagonaaBackLaw
namespace Go.Proofs.Ytnkdlmmdaagonaa
open Go.RowKit
theorem openB_sealU (b : List UInt8) : openB (sealB b) = (b, 0) := by
  unfold openB
  rw [sealB_length, if_neg (by omega), Nat.add_sub_cancel]
  unfold sealB
  rw [List.drop_left, List.take_left, leV_leB, if_pos (Nat.mod_eq_of_lt (crcSum_lt b))]
theorem openB_len {b : List UInt8} (h : (openB b).2 = 0) : (openB b).1.length = b.length - 4 := by
  unfold openB at *
  split at h
  · cases h
  · split at h
    · rw [if_neg (by assumption), if_pos (by assumption), List.length_take]; omega
    · cases h
theorem pair_exU {α β : Type} (x : α × β) : ∃ a b, x = (a, b) := ⟨x.1, x.2, rfl⟩
theorem rNum_ltU {r r1 : Rd} {n k : Nat} (h : rNum r n = (r1, k)) : k < 256 ^ n := by have := rNum_lt r n; rw [h] at this; exact this
def suR1 (x : List UInt8) : Rd × Nat := rNum ⟨x, 0⟩ 8
def suR2 (x : List UInt8) : Rd × Nat := rNum (suR1 x).1 8
def suR3 (x : List UInt8) : Rd × Nat := rNum (suR2 x).1 8
def suR4 (x : List UInt8) : Rd × Nat := rNum (suR3 x).1 8
def suR5 (x : List UInt8) : Rd × Nat := rNum (suR4 x).1 1
def suR6 (x : List UInt8) : Rd × Nat := rNum (suR5 x).1 1
def suR7 (x : List UInt8) : Rd × Nat := rNum (suR6 x).1 8
def suR8 (x : List UInt8) : Rd × Nat := rNum (suR7 x).1 4
def suR9 (x : List UInt8) : Rd × Nat := rNum (suR8 x).1 4
def suX (x : List UInt8) : SuV := ⟨(suR1 x).2, (suR2 x).2, (suR3 x).2, (suR4 x).2, (suR5 x).2, (suR6 x).2, (suR7 x).2, (suR8 x).2, (suR9 x).2⟩
/-- What is read of bytes, and the error's number. -/
def suRead (bs : List UInt8) : SuV × Nat :=
  if bs.length < 54 then (zeroS, 2) else if (openB (bs.take 54)).2 ≠ 0 then (zeroS, (openB (bs.take 54)).2) else if checkS (suX (openB (bs.take 54)).1) ≠ 0 then (zeroS, checkS (suX (openB (bs.take 54)).1)) else (suX (openB (bs.take 54)).1, 0)
theorem su_wf9 {a1 a2 a3 a4 a5 a6 a7 a8 a9 : Nat} (h1 : a1 < 256 ^ 8) (h2 : a2 < 256 ^ 8) (h3 : a3 < 256 ^ 8) (h4 : a4 < 256 ^ 8) (h5 : a5 < 256 ^ 1) (h6 : a6 < 256 ^ 1) (h7 : a7 < 256 ^ 8) (h8 : a8 < 256 ^ 4) (h9 : a9 < 256 ^ 4) : (⟨a1, a2, a3, a4, a5, a6, a7, a8, a9⟩ : SuV).wf := by
  have g8 : (256 : Nat) ^ 8 = 18446744073709551616 := by decide
  have g4 : (256 : Nat) ^ 4 = 4294967296 := by decide
  have g1 : (256 : Nat) ^ 1 = 256 := by decide
  rw [g8] at h1 h2 h3 h4 h7
  rw [g4] at h8 h9
  rw [g1] at h5 h6
  exact ⟨h1, h2, h3, h4, h5, h6, h7, h8, h9⟩
theorem suX_wf (x : List UInt8) : (suX x).wf := by
  unfold suX suR9 suR8 suR7 suR6 suR5 suR4 suR3 suR2 suR1
  exact su_wf9 (rNum_lt _ _) (rNum_lt _ _) (rNum_lt _ _) (rNum_lt _ _) (rNum_lt _ _) (rNum_lt _ _) (rNum_lt _ _) (rNum_lt _ _) (rNum_lt _ _)
theorem suX_body {s : SuV} (hw : s.wf) : suX (bodyS s) = s := by
  have g8 : (256 : Nat) ^ 8 = 18446744073709551616 := by decide
  have g4 : (256 : Nat) ^ 4 = 4294967296 := by decide
  have g1 : (256 : Nat) ^ 1 = 256 := by decide
  have e1 : suR1 (bodyS s) = (⟨leB 8 s.view ++ (leB 8 s.normal ++ (leB 8 s.gen ++ (leB 1 s.half ++ (leB 1 s.slot ++ (leB 8 s.base ++ (leB 4 s.size ++ (leB 4 s.sum))))))), 0⟩, s.seq) := by
    unfold suR1 bodyS; rw [rNum_app, g8, Nat.mod_eq_of_lt hw.seq]
  have e2 : suR2 (bodyS s) = (⟨leB 8 s.normal ++ (leB 8 s.gen ++ (leB 1 s.half ++ (leB 1 s.slot ++ (leB 8 s.base ++ (leB 4 s.size ++ (leB 4 s.sum)))))), 0⟩, s.view) := by
    unfold suR2; rw [e1, rNum_app, g8, Nat.mod_eq_of_lt hw.view]
  have e3 : suR3 (bodyS s) = (⟨leB 8 s.gen ++ (leB 1 s.half ++ (leB 1 s.slot ++ (leB 8 s.base ++ (leB 4 s.size ++ (leB 4 s.sum))))), 0⟩, s.normal) := by
    unfold suR3; rw [e2, rNum_app, g8, Nat.mod_eq_of_lt hw.normal]
  have e4 : suR4 (bodyS s) = (⟨leB 1 s.half ++ (leB 1 s.slot ++ (leB 8 s.base ++ (leB 4 s.size ++ (leB 4 s.sum)))), 0⟩, s.gen) := by
    unfold suR4; rw [e3, rNum_app, g8, Nat.mod_eq_of_lt hw.gen]
  have e5 : suR5 (bodyS s) = (⟨leB 1 s.slot ++ (leB 8 s.base ++ (leB 4 s.size ++ (leB 4 s.sum))), 0⟩, s.half) := by
    unfold suR5; rw [e4, rNum_app, g1, Nat.mod_eq_of_lt hw.half]
  have e6 : suR6 (bodyS s) = (⟨leB 8 s.base ++ (leB 4 s.size ++ (leB 4 s.sum)), 0⟩, s.slot) := by
    unfold suR6; rw [e5, rNum_app, g1, Nat.mod_eq_of_lt hw.slot]
  have e7 : suR7 (bodyS s) = (⟨leB 4 s.size ++ (leB 4 s.sum), 0⟩, s.base) := by
    unfold suR7; rw [e6, rNum_app, g8, Nat.mod_eq_of_lt hw.base]
  have e8 : suR8 (bodyS s) = (⟨leB 4 s.sum, 0⟩, s.size) := by
    unfold suR8; rw [e7, rNum_app, g4, Nat.mod_eq_of_lt hw.size]
  have e9 : suR9 (bodyS s) = (⟨[], 0⟩, s.sum) := by
    unfold suR9; rw [e8]
    have := rNum_app 4 s.sum []
    rw [List.append_nil] at this
    rw [this, g4, Nat.mod_eq_of_lt hw.sum]
  unfold suX
  rw [e1, e2, e3, e4, e5, e6, e7, e8, e9]
theorem suRead_app {s : SuV} (hw : s.wf) (h : checkS s = 0) (b : List UInt8) : suRead (superB s ++ b) = (s, 0) := by
  have hl := superB_length s
  have ht : (superB s ++ b).take 54 = superB s := by rw [← hl, List.take_left]
  unfold suRead
  rw [ht, if_neg (by rw [List.length_append]; omega)]
  unfold superB
  rw [openB_sealU, suX_body hw, h]
  rfl
theorem suRead_wf (bs : List UInt8) : (suRead bs).1.wf := by
  unfold suRead
  split
  · exact zeroS_wf
  · split
    · exact zeroS_wf
    · split
      · exact zeroS_wf
      · exact suX_wf _
theorem suRead_ok {bs : List UInt8} (h : (suRead bs).2 = 0) : checkS (suRead bs).1 = 0 := by
  unfold suRead at *
  split at h
  · cases h
  · split at h
    · exact absurd h (by assumption)
    · split at h
      · exact absurd h (by assumption)
      · rename_i h1 h2 h3
        rw [if_neg h1, if_neg h2, if_neg h3]
        exact Decidable.not_not.1 h3
/-- The fields as the document tells them. -/
theorem suX_eq {x : List UInt8} (h : x.length = 50) : suX x = ⟨leV (x.take 8), leV ((x.drop 8).take 8), leV ((x.drop 16).take 8), leV ((x.drop 24).take 8), leV ((x.drop 32).take 1), leV ((x.drop 33).take 1), leV ((x.drop 34).take 8), leV ((x.drop 42).take 4), leV ((x.drop 46).take 4)⟩ := by
  have hn : ∀ j n, j + n ≤ 50 → rNum ⟨x.drop j, 0⟩ n = (⟨x.drop (j + n), 0⟩, leV ((x.drop j).take n)) := fun j n hj => by
    have e : x.drop j = (x.drop j).take n ++ x.drop (j + n) := by rw [← List.drop_drop, List.take_append_drop]
    unfold rNum
    have := rTake_app ((x.drop j).take n) (x.drop (j + n)) 0 n (by simp; omega)
    rw [← e] at this
    rw [this]
  have e1 : suR1 x = (⟨x.drop 8, 0⟩, leV (x.take 8)) := hn 0 8 (by omega)
  have e2 : suR2 x = (⟨x.drop 16, 0⟩, leV ((x.drop 8).take 8)) := by unfold suR2; rw [e1]; exact hn 8 8 (by omega)
  have e3 : suR3 x = (⟨x.drop 24, 0⟩, leV ((x.drop 16).take 8)) := by unfold suR3; rw [e2]; exact hn 16 8 (by omega)
  have e4 : suR4 x = (⟨x.drop 32, 0⟩, leV ((x.drop 24).take 8)) := by unfold suR4; rw [e3]; exact hn 24 8 (by omega)
  have e5 : suR5 x = (⟨x.drop 33, 0⟩, leV ((x.drop 32).take 1)) := by unfold suR5; rw [e4]; exact hn 32 1 (by omega)
  have e6 : suR6 x = (⟨x.drop 34, 0⟩, leV ((x.drop 33).take 1)) := by unfold suR6; rw [e5]; exact hn 33 1 (by omega)
  have e7 : suR7 x = (⟨x.drop 42, 0⟩, leV ((x.drop 34).take 8)) := by unfold suR7; rw [e6]; exact hn 34 8 (by omega)
  have e8 : suR8 x = (⟨x.drop 46, 0⟩, leV ((x.drop 42).take 4)) := by unfold suR8; rw [e7]; exact hn 42 4 (by omega)
  have e9 : suR9 x = (⟨x.drop 50, 0⟩, leV ((x.drop 46).take 4)) := by unfold suR9; rw [e8]; exact hn 46 4 (by omega)
  unfold suX
  rw [e1, e2, e3, e4, e5, e6, e7, e8, e9]
end Go.Proofs.Ytnkdlmmdaagonaa
