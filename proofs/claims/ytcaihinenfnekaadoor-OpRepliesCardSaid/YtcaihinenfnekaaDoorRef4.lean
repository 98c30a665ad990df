/- Contracts of interrexref01: GetTruth, GetText. -/
import Derived.Test.YtcaihinenfnekaaDoorRef3
namespace Go.Proofs.YtcaihinenfnekaaDoor
open Go.RowKit

theorem rNum_pos {r : Rd} {n : Nat} (hi : r.inv) (h : 0 < (rNum r n).2) : (rNum r n).1.e = 0 := by
  unfold rNum rTake at *
  split
  · rename_i h1; rw [if_pos h1] at h; simp [leV] at h
  · rename_i h1
    rw [if_neg h1] at h
    simp only at h ⊢
    rcases Nat.eq_zero_or_pos r.e with e | e
    · exact e
    · have := hi (by omega)
      rw [this] at h; simp [leV] at h
theorem rNum_inv {r : Rd} (n : Nat) (hi : r.inv) : (rNum r n).1.inv := rTake_inv n hi
theorem rFail_len (r : Rd) (k : Nat) : (rFail r k).bs.length ≤ r.bs.length := by
  unfold rFail; split <;> simp
theorem rTake_left (r : Rd) (n : Nat) : (rTake r n).1.bs.length ≤ r.bs.length := by
  unfold rTake; split
  · exact rFail_len r 2
  · simp
/-- The result's block and the box of a struct: what a call leaves. -/
def RRPost (w : World) (r : Rd) (v : Value) (e : Ending) (w' : World) : Prop := e = .returned (.tuple #[r.val, v]) ∧ Fr noB w w'

theorem rFail_ne {r : Rd} (k : Nat) (h : r.e ≠ 0) : rFail r k = r := by unfold rFail; rw [if_neg (by simp [h])]
set_option maxRecDepth 100000 in
set_option maxHeartbeats 1600000 in
theorem textGetR_calls (w : World) (r : Rd) (most : Int) (hi : r.inv) (hl : r.bs.length ≤ 1000000000000) (hm1 : -9223372036854775808 ≤ most) (hm2 : most ≤ 9223372036854775807) :
    Calls Tryd.prog 89 #[.agg #[.string (mkS r.bs), .int .i64 (r.e : Nat)], .int .i64 most] w (RRPost w (rText r most).1 (.string (mkS (rText r most).2))) := by
  have hc := fun W => getR_calls W r 2 hi hl (by omega)
  have hx : (rNum r 2).2 < 65536 := rNum_lt r 2
  have hp := rNum_pos (n := 2) hi
  have hv := rNum_inv 2 hi
  have hle : (rNum r 2).1.bs.length ≤ 1000000000000 := Nat.le_trans (rTake_left r 2) hl
  have HF : Hid (rText r most = rTake (if max 0 most < ((rNum r 2).2 : Int) then (rFail (rNum r 2).1 3, 0) else ((rNum r 2).1, (rNum r 2).2)).1 (if max 0 most < ((rNum r 2).2 : Int) then (rFail (rNum r 2).1 3, 0) else ((rNum r 2).1, (rNum r 2).2)).2) := rfl
  generalize (rNum r 2).1 = q at *
  generalize (rNum r 2).2 = x at *
  obtain ⟨bs, ee⟩ := r
  obtain ⟨qb, qe⟩ := q
  simp only [Rd.val] at *
  by_cases hx1 : max 0 most < (x : Int)
  · have q0 : qe = 0 := hp (by omega)
    have h1 : rFail ⟨qb, qe⟩ 3 = ⟨[], 3⟩ := by unfold rFail; rw [if_pos ⟨q0, by decide⟩]
    rw [if_pos hx1, h1] at HF
    have t0 : ((qe : Int) == 0) = true := by simp; exact q0
    have Q0 := hid q0; clear q0 hp h1
    go_enter Tryd.func89, Tryd.ntmps89
    go_wp2_with fail
    refine (hc _).mono ?_
    rintro e w1 ⟨rfl, f1⟩
    clear hc
    obtain ⟨g1, g2⟩ := fr_cells f1 (heap_two _ _ _).2 id
    have hz := f1.heap (heap_two _ _ _).2 id
    have g3 := g1 0 (.string ⟨#[]⟩) rfl
    have g4 := g1 1 (.int .i64 0) rfl
    have z1 := f1.size
    have z2 : w.heap.size + 1 < w1.heap.size := by simp at z1; omega
    have f2 : Fr noB w w1 := (((Fr.refl _ _).alloc _).alloc _).then' f1
    have F1 := hid f1
    clear f1 g1 z1
    have g5 := cell_al g3
    have g6 := cell_al g4
    go_wp2_with fail
    all_goals
      obtain ⟨b0, b1⟩ := cells2 (heap_al (set2 (u := .string ⟨#[]⟩) (v := .int .i64 3) hz) (.cells #[.string (mkS qb), .int .i64 (qe : Nat)] 138))
      exact bodyPost_ret (v := .tuple #[.agg #[.string ⟨#[]⟩, .int .i64 3], .string ⟨#[]⟩]) (by simp [results, Tryd.results89, go_sem, b0, b1]) rfl
        ⟨by rw [HF.out]; rfl, ((f2.setCell (p := ⟨w.heap.size + 1, 0, none⟩) (Or.inr (Nat.le_succ _)) _).setCell (p := ⟨w.heap.size + 1, 1, none⟩) (Or.inr (Nat.le_succ _)) _).alloc _⟩
  · rw [if_neg hx1] at HF
    have ht := fun W => takeR_calls W ⟨qb, qe⟩ x hv hle (by omega)
    simp only [] at HF
    generalize rTake ⟨qb, qe⟩ x = q2 at *
    obtain ⟨⟨tb, te⟩, tx⟩ := q2
    simp only [Rd.val] at ht
    have hm : ((qe : Int) == 0) = false ∨ (((qe : Int) == 0) = true ∧ ((0 < most ∧ (x : Int) ≤ most) ∨ (most ≤ 0 ∧ (x : Int) ≤ 0))) := by
      rcases Nat.eq_zero_or_pos qe with h | h
      · refine Or.inr ⟨by simp [h], ?_⟩; omega
      · exact Or.inl (by simp; omega)
    clear hp hx1
    go_enter Tryd.func89, Tryd.ntmps89
    go_wp2_with fail
    refine (hc _).mono ?_
    rintro e w1 ⟨rfl, f1⟩
    clear hc
    obtain ⟨g1, g2⟩ := fr_cells f1 (heap_two _ _ _).2 id
    have hz := f1.heap (heap_two _ _ _).2 id
    have g3 := g1 0 (.string ⟨#[]⟩) rfl
    have g4 := g1 1 (.int .i64 0) rfl
    have z1 := f1.size
    have z2 : w.heap.size + 1 < w1.heap.size := by simp at z1; omega
    have f2 : Fr noB w w1 := (((Fr.refl _ _).alloc _).alloc _).then' f1
    have F1 := hid f1
    clear f1 g1 z1
    have g5 := cell_al g3
    have g6 := cell_al g4
    rcases hm with t0 | ⟨t0, ⟨m1, m2⟩ | ⟨m1, m2⟩⟩
    all_goals
      go_wp2_with fail
      refine (ht _).mono ?_
      rintro e w2 ⟨b, rfl, f3⟩
      clear ht
      obtain ⟨-, k2⟩ := fr_cells f3 (heap_alloc_new w1 _) id
      obtain ⟨-, l2⟩ := fr_cells f3 (heap_al hz _) id
      have hz2 := f3.heap (heap_al hz _) id
      have hz1 := f3.heap (heap_alloc_new w1 _) id
      obtain ⟨k3, k4⟩ := cells2 hz1
      obtain ⟨l3, l4⟩ := cells2 hz2
      have z3 := f3.size
      have z4 : w1.heap.size < w2.heap.size := by simp at z3; omega
      have f4 : Fr noB w w2 := (f2.alloc _).then' f3
      have F3 := hid f3
      clear f3 z3
      go_wp2_with fail
      have hz3 := (fr_set2 w2 w1.heap.size (.string (mkS tb)) (.int .i64 (te : Nat))).heap hz2 (by unfold eqB; omega)
      obtain ⟨b0, b1⟩ := cells2 (set2 (u := .string (mkS tb)) (v := .int .i64 (te : Nat)) hz3)
      exact bodyPost_ret (v := .tuple #[.agg #[.string (mkS tb), .int .i64 (te : Nat)], .string (mkS tx)]) (by simp [results, Tryd.results89, go_sem, b0, b1]) rfl
        ⟨by rw [HF.out]; rfl, (((f4.setCell (p := ⟨w1.heap.size, 0, none⟩) (Or.inr (by show w.heap.size ≤ w1.heap.size; omega)) _).setCell (p := ⟨w1.heap.size, 1, none⟩) (Or.inr (by show w.heap.size ≤ w1.heap.size; omega)) _).setCell (p := ⟨w.heap.size + 1, 0, none⟩) (Or.inr (Nat.le_succ _)) _).setCell (p := ⟨w.heap.size + 1, 1, none⟩) (Or.inr (Nat.le_succ _)) _⟩
end Go.Proofs.YtcaihinenfnekaaDoor
