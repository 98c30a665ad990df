/- Names, sums and addresses of any size: what is too long is told at once. -/
import Derived.Test.YtahcopmdffengaaDoorNm9
namespace Go.Proofs.YtahcopmdffengaaDoor
open Go.RowKit
theorem nameS_big {s : ByteArray} (h : 12 < s.size) : nameS s = false := by
  unfold nameS; rw [decide_eq_false (show ¬ s.size ≤ 12 by omega)]; simp
theorem hashS_big {s : ByteArray} (h : 12 < s.size) : hashS s = false := by
  unfold hashS; rw [decide_eq_false (show ¬ s.size ≤ 12 by omega)]; simp
theorem mailV_big {s : ByteArray} (h : 20 < s.size) : mailV s = false := by
  unfold mailV; rw [decide_eq_false (show ¬ s.size ≤ 20 by omega)]; simp
theorem mailT_big {s : ByteArray} (h : 20 < s.size) : mailT s = ⟨#[]⟩ := by
  unfold mailT; rw [mailV_big h]; rfl
set_option maxRecDepth 100000 in
theorem isName_any (w : World) (s : ByteArray) : Calls Tryd.prog 43 #[.string s] w (BQ w (nameS s)) := by
  by_cases hs : s.size ≤ 1000000
  · exact isName_calls w s hs
  · have h12 : decide ((12 : Int) < s.size) = true := decide_eq_true (by omega)
    have hie := isEmpty_of (s := s) (by omega)
    rw [nameS_big (by omega)]
    clear hs
    go_enter Tryd.func43, Tryd.ntmps43
    go_wp2_with fail
    go_ret
    exact ⟨rfl, rfl⟩
set_option maxRecDepth 100000 in
theorem name_any (w : World) (s : ByteArray) : Calls Tryd.prog 16 #[.string s] w (IQ w (errN (nameS s) 10)) := by
  have hn := isName_any w s
  generalize nameS s = b at *
  cases b
  all_goals
    go_enter Tryd.func16, Tryd.ntmps16
    go_wp2_with (refine hn.mono ?_; rintro e w' ⟨rfl, rfl⟩)
    go_ret
    exact ⟨rfl, rfl⟩
set_option maxRecDepth 100000 in
theorem hash_any (w : World) (s : ByteArray) : Calls Tryd.prog 18 #[.string s] w (IQ w (errN (hashS s) 4)) := by
  by_cases hs : s.size ≤ 1000000
  · exact hash_calls05 w s hs
  · have h12 : decide ((12 : Int) < s.size) = true := decide_eq_true (by omega)
    have h13 : decide ((s.size : Int) ≤ 12) = false := decide_eq_false (by omega)
    have h1 : decide ((1 : Int) ≤ s.size) = true := decide_eq_true (by omega)
    have h20 : decide ((20 : Int) < s.size) = true := decide_eq_true (by omega)
    have hie := isEmpty_of (s := s) (by omega)
    rw [hashS_big (by omega)]
    clear hs
    go_enter Tryd.func18, Tryd.ntmps18
    go_wp2_with fail
    go_ret
    exact ⟨rfl, rfl⟩
set_option maxRecDepth 100000 in
theorem mail_any (w : World) (s : ByteArray) : Calls Tryd.prog 12 #[.string s] w (fun e w' => e = .returned (.tuple #[.string (mailT s), .int .i64 (errN (mailV s) 11)]) ∧ Fr noB w w') := by
  by_cases hs : s.size ≤ 1000000
  · exact mail_calls w s hs
  · have h12 : decide ((12 : Int) < s.size) = true := decide_eq_true (by omega)
    have h13 : decide ((s.size : Int) ≤ 12) = false := decide_eq_false (by omega)
    have h1 : decide ((1 : Int) ≤ s.size) = true := decide_eq_true (by omega)
    have h20 : decide ((20 : Int) < s.size) = true := decide_eq_true (by omega)
    have hie := isEmpty_of (s := s) (by omega)
    rw [mailV_big (by omega), mailT_big (by omega)]
    clear hs
    go_enter Tryd.func12, Tryd.ntmps12
    go_wp2_with fail
    go_ret2
    exact ⟨rfl, Fr.refl _ _⟩
set_option maxRecDepth 100000 in
theorem nameR_any (w : World) (s : ByteArray) : Calls Tryd.prog 19 #[.string s] w (BQ w (nameS s)) := by
  by_cases hs : s.size ≤ 1000000
  · exact nameR_calls w s hs
  · have h12 : decide ((12 : Int) < s.size) = true := decide_eq_true (by omega)
    have h13 : decide ((s.size : Int) ≤ 12) = false := decide_eq_false (by omega)
    have h1 : decide ((1 : Int) ≤ s.size) = true := decide_eq_true (by omega)
    have h20 : decide ((20 : Int) < s.size) = true := decide_eq_true (by omega)
    have hie := isEmpty_of (s := s) (by omega)
    rw [nameS_big (by omega)]
    clear hs
    go_enter Tryd.func19, Tryd.ntmps19
    go_wp2_with fail
    go_ret
    exact ⟨rfl, rfl⟩
set_option maxRecDepth 100000 in
theorem hashR_any (w : World) (s : ByteArray) : Calls Tryd.prog 21 #[.string s] w (BQ w (hashS s)) := by
  by_cases hs : s.size ≤ 1000000
  · exact hashR_calls05 w s hs
  · have h12 : decide ((12 : Int) < s.size) = true := decide_eq_true (by omega)
    have h13 : decide ((s.size : Int) ≤ 12) = false := decide_eq_false (by omega)
    have h1 : decide ((1 : Int) ≤ s.size) = true := decide_eq_true (by omega)
    have h20 : decide ((20 : Int) < s.size) = true := decide_eq_true (by omega)
    have hie := isEmpty_of (s := s) (by omega)
    rw [hashS_big (by omega)]
    clear hs
    go_enter Tryd.func21, Tryd.ntmps21
    go_wp2_with fail
    go_ret
    exact ⟨rfl, rfl⟩
set_option maxRecDepth 100000 in
theorem mailR_any (w : World) (s : ByteArray) : Calls Tryd.prog 13 #[.string s] w (fun e w' => e = .returned (.tuple #[.string (mailT s), .bool (mailV s)]) ∧ Fr noB w w') := by
  by_cases hs : s.size ≤ 1000000
  · exact mailR_calls w s hs
  · have h12 : decide ((12 : Int) < s.size) = true := decide_eq_true (by omega)
    have h13 : decide ((s.size : Int) ≤ 12) = false := decide_eq_false (by omega)
    have h1 : decide ((1 : Int) ≤ s.size) = true := decide_eq_true (by omega)
    have h20 : decide ((20 : Int) < s.size) = true := decide_eq_true (by omega)
    have hie := isEmpty_of (s := s) (by omega)
    rw [mailV_big (by omega), mailT_big (by omega)]
    clear hs
    go_enter Tryd.func13, Tryd.ntmps13
    go_wp2_with fail
    go_ret2
    exact ⟨rfl, Fr.refl _ _⟩
end Go.Proofs.YtahcopmdffengaaDoor
