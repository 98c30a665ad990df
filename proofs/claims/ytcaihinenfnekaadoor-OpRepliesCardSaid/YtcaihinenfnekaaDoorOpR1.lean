/- interrexref14: parts, Text, Check. -/
import Derived.Test.YtcaihinenfnekaaDoorOp7
namespace Go.Proofs.YtcaihinenfnekaaDoor
open Go.RowKit

def partsL : List Int := [2, 1, 2, 1, 1, 2, 1, 1, 2, 1, 1, 2, 2, 1, 1, 0, -1]
def partsV (k : Nat) : Int := partsL.getD k 0
theorem parts_calls (w : World) (k : Nat) : Calls Tryd.prog 80 #[.int .u8 k] w (fun e w' => e = .returned (.tuple #[.int .i64 (partsV k), .bool (decide (k < 17))]) ∧ w' = w) := by
  by_cases h : k < 17
  · have : ∃ p, partsV k = p ∧ decide (k < 17) = true := ⟨_, rfl, decide_eq_true h⟩
    rcases (by omega : k = 0 ∨ k = 1 ∨ k = 2 ∨ k = 3 ∨ k = 4 ∨ k = 5 ∨ k = 6 ∨ k = 7 ∨ k = 8 ∨ k = 9 ∨ k = 10 ∨ k = 11 ∨ k = 12 ∨ k = 13 ∨ k = 14 ∨ k = 15 ∨ k = 16) with rfl | rfl | rfl | rfl | rfl | rfl | rfl | rfl | rfl | rfl | rfl | rfl | rfl | rfl | rfl | rfl | rfl
    all_goals
      clear h this
      go_enter Tryd.func80, Tryd.ntmps80
      go_wp2_with fail
      go_ret2
      exact ⟨rfl, rfl⟩
  · have HV : Hid (partsV k = 0 ∧ decide (k < 17) = false) := ⟨by unfold partsV partsL; rw [List.getD_eq_getElem?_getD, List.getElem?_eq_none (by simp; omega)]; rfl, decide_eq_false h⟩
    have hne : ∀ j : Nat, j < 17 → ((k : Int) == (j : Int)) = false := fun j hj => by rw [beq_eq_false_iff_ne]; omega
    have t0 : ((k : Int) == 0) = false := hne 0 (by decide)
    have t1 : ((k : Int) == 1) = false := hne 1 (by decide)
    have t2 : ((k : Int) == 2) = false := hne 2 (by decide)
    have t3 : ((k : Int) == 3) = false := hne 3 (by decide)
    have t4 : ((k : Int) == 4) = false := hne 4 (by decide)
    have t5 : ((k : Int) == 5) = false := hne 5 (by decide)
    have t6 : ((k : Int) == 6) = false := hne 6 (by decide)
    have t7 : ((k : Int) == 7) = false := hne 7 (by decide)
    have t8 : ((k : Int) == 8) = false := hne 8 (by decide)
    have t9 : ((k : Int) == 9) = false := hne 9 (by decide)
    have t10 : ((k : Int) == 10) = false := hne 10 (by decide)
    have t11 : ((k : Int) == 11) = false := hne 11 (by decide)
    have t12 : ((k : Int) == 12) = false := hne 12 (by decide)
    have t13 : ((k : Int) == 13) = false := hne 13 (by decide)
    have t14 : ((k : Int) == 14) = false := hne 14 (by decide)
    have t15 : ((k : Int) == 15) = false := hne 15 (by decide)
    have t16 : ((k : Int) == 16) = false := hne 16 (by decide)
    clear hne h
    go_enter Tryd.func80, Tryd.ntmps80
    go_wp2_with fail
    go_ret2
    refine ⟨?_, rfl⟩
    rw [HV.out.1, HV.out.2]; rfl

def textO (o : OpV) : List UInt8 := leB 1 o.k ++ (if 1 ≤ partsV o.k then textR o.a else []) ++ (if partsV o.k = 2 then textR o.b else []) ++ (if partsV o.k < 0 then leB 1 o.n ++ leB 1 o.r else [])
theorem byteStr (w : World) (y : Nat) (hy : y < 256) : (convert 70 9 (.slice (some ⟨w.heap.size, 0, none⟩) 1 1)).run Tryd.prog (w.alloc (.cells #[.int .u8 y] 5)) =
    .ok (.string (mkS (leB 1 y))) (w.alloc (.cells #[.int .u8 y] 5)) := by
  have h := Tryd.oneStr w y
  rw [show ((y : Int) % 256) = y from by omega] at h
  exact h
theorem byteStr2 (w : World) (x y : Nat) (hx : x < 256) (hy : y < 256) : (convert 70 9 (.slice (some ⟨w.heap.size, 0, none⟩) 2 2)).run Tryd.prog (w.alloc (.cells #[.int .u8 x, .int .u8 y] 5)) =
    .ok (.string (mkS (leB 1 x ++ leB 1 y))) (w.alloc (.cells #[.int .u8 x, .int .u8 y] 5)) := by
  refine Tryd.toStr (l := leB 1 x ++ leB 1 y) ?_ rfl 2
  have h := new_row w #[.int .u8 x, .int .u8 y] 5
  have e : bcells (leB 1 x ++ leB 1 y) = (#[Value.int .u8 x, .int .u8 y] : Array Value).toList := by
    simp [leB, bcells]
    omega
  rw [e]; exact h
theorem textO_length (o : OpV) : (textO o).length ≤ 7 + o.a.size + o.b.size := by
  unfold textO
  simp only [List.length_append, leB_length]
  split <;> split <;> split <;> simp [textR_length, leB_length] <;> omega

set_option maxRecDepth 100000 in
set_option maxHeartbeats 1600000 in
theorem textO_calls (w : World) (o : OpV) (hw : o.wf) (ha : o.a.size ≤ 1000000000000) (hb : o.b.size ≤ 1000000000000) : Calls Tryd.prog 43 #[o.v] w (StrPost w (textO o)) := by
  have hT : Hid (textO o = leB 1 o.k ++ (if 1 ≤ partsV o.k then textR o.a else []) ++ (if partsV o.k = 2 then textR o.b else []) ++ (if partsV o.k < 0 then leB 1 o.n ++ leB 1 o.r else [])) := rfl
  have hl := textO_length o
  have hal := textR_length o.a
  have hbl := textR_length o.b
  obtain ⟨k, a, b, n, r⟩ := o
  obtain ⟨hk, hn, hr⟩ := hw
  simp only [] at *
  have hb0 : BlkAt (w.alloc (.cells #[.int .u8 k, .string a, .string b, .int .u8 n, .int .u8 r] 69)) w.heap.size 69 #[.int .u8 k, .string a, .string b, .int .u8 n, .int .u8 r] := BlkAt.new _ _ _
  have f0 : Fr noB w (w.alloc (.cells #[.int .u8 k, .string a, .string b, .int .u8 n, .int .u8 r] 69)) := (Fr.refl noB w).alloc _
  unfold OpV.v
  simp only []
  have hcv := fun W => byteStr W k hk
  have hcv2 := fun W => byteStr2 W n r hn hr
  have hs1 : (mkS (leB 1 k)).size = 1 := by rw [mkS_size, leB_length]
  have hsa : (mkS (textR a)).size = a.size + 2 := by rw [mkS_size, hal]
  have hsb : (mkS (textR b)).size = b.size + 2 := by rw [mkS_size, hbl]
  have hs2 : (mkS (leB 1 n ++ leB 1 r)).size = 2 := by rw [mkS_size]; simp [leB_length]
  have hap := ByteArray.size_append (a := mkS (leB 1 k)) (b := mkS (textR a))
  go_enter Tryd.func43, Tryd.ntmps43
  go_wp2_with fail
  generalize (w.alloc (.cells #[.int .u8 k, .string a, .string b, .int .u8 n, .int .u8 r] 69)) = wa at *
  obtain ⟨y0, y1, y2, y3, y4, yf⟩ := BlkAt.c5 hb0
  have x1 := (hb0.al (.cells #[.int .u8 k] 5)).cell (k := 1) (v := .string a) rfl
  refine (parts_calls wa k).mono ?_
  rintro e w1 ⟨rfl, rfl⟩
  generalize hP : partsV k = P at *
  have hp4 : P = 2 ∨ P = 1 ∨ P = 0 ∨ P = -1 := by
    rw [← hP]; unfold partsV partsL
    by_cases h : k < 17
    · have : ∀ k : Fin 17, let P := ([2, 1, 2, 1, 1, 2, 1, 1, 2, 1, 1, 2, 2, 1, 1, 0, -1] : List Int).getD k.val 0; P = 2 ∨ P = 1 ∨ P = 0 ∨ P = -1 := by decide
      exact this ⟨k, h⟩
    · rw [List.getD_eq_getElem?_getD, List.getElem?_eq_none (by simp; omega)]; simp
  clear hP
  have g1 : (mkS (leB 1 k)).size + (mkS (textR a)).size ≤ 9223372036854775807 := by rw [hs1, hsa]; omega
  have g2 : (mkS (leB 1 k) ++ mkS (textR a)).size + (mkS (textR b)).size ≤ 9223372036854775807 := by rw [hap, hs1, hsa, hsb]; omega
  have g3 : (mkS (leB 1 k)).size + (mkS (leB 1 n ++ leB 1 r)).size ≤ 9223372036854775807 := by rw [hs1, hs2]; omega
  have x3 := (hb0.al (.cells #[.int .u8 k] 5)).cell (k := 3) (v := .int .u8 n) rfl
  have x4 := (hb0.al (.cells #[.int .u8 k] 5)).cell (k := 4) (v := .int .u8 r) rfl
  clear hap hs1 hsa hsb hs2 hl hal hbl
  rcases hp4 with rfl | rfl | rfl | rfl
  · rw [if_pos (by decide), if_pos rfl, if_neg (by decide), List.append_nil] at hT
    go_wp2_with fail
    refine (textR_calls _ a ha).mono ?_
    rintro e w2 ⟨rfl, f2⟩
    have F2 := (f0.alloc (.cells #[.int .u8 k] 5)).then' f2
    have hb2 := (hb0.al (.cells #[.int .u8 k] 5)).fr f2 id
    have x2 := hb2.cell (k := 2) (v := .string b) rfl
    clear f2
    go_wp2_with fail
    refine (textR_calls _ b hb).mono ?_
    rintro e w3 ⟨rfl, f3⟩
    have F3 := F2.then' f3
    clear f3
    go_wp2_with fail
    go_ret
    exact ⟨by rw [hT.out, ← mkS_append, ← mkS_append]; rfl, F3⟩
  · rw [if_pos (by decide), if_neg (by decide), if_neg (by decide), List.append_nil, List.append_nil] at hT
    go_wp2_with fail
    refine (textR_calls _ a ha).mono ?_
    rintro e w2 ⟨rfl, f2⟩
    have F2 := (f0.alloc (.cells #[.int .u8 k] 5)).then' f2
    have hb2 := (hb0.al (.cells #[.int .u8 k] 5)).fr f2 id
    have x2 := hb2.cell (k := 2) (v := .string b) rfl
    clear f2
    go_wp2_with fail
    go_ret
    exact ⟨by rw [hT.out, ← mkS_append]; rfl, F2⟩
  · rw [if_neg (by decide), if_neg (by decide), if_neg (by decide), List.append_nil, List.append_nil, List.append_nil] at hT
    go_wp2_with fail
    go_ret
    exact ⟨by rw [hT.out]; rfl, f0.alloc _⟩
  · rw [if_neg (by decide), if_neg (by decide), if_pos (by decide), List.append_nil, List.append_nil] at hT
    have hc2 := hcv2 (w1.alloc (.cells #[.int .u8 k] 5))
    rw [al_size] at hc2
    go_wp2_with fail
    go_ret
    exact ⟨by rw [hT.out, ← mkS_append]; rfl, (f0.alloc _).alloc _⟩
end Go.Proofs.YtcaihinenfnekaaDoor
