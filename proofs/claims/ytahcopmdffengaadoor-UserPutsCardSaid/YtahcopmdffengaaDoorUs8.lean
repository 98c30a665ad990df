/- interrexlaw06: lives, Few. -/
import Derived.Test.YtahcopmdffengaaDoorUs7
import Derived.Test.YtahcopmdffengaaDoorConv
namespace Go.Proofs.YtahcopmdffengaaDoor
open Go.RowKit
set_option maxRecDepth 100000 in
set_option maxHeartbeats 1600000 in
theorem lives06_calls (w : World) : Calls Tryd.prog 23 #[] w (BoolPost w true) := by
  have hw : WrAt (w.alloc (.cells #[.slice none 0 0] 54)) (eqB w.heap.size) w.heap.size [] := ⟨none, 0, _, by decide, heap_alloc_new w _, World.ownsRow_nil _ _ _ _, rfl, fun k h => by simp [Value.ownBlock] at h⟩
  have f0 : Fr noB w (w.alloc (.cells #[.slice none 0 0] 54)) := (Fr.refl noB w).alloc _
  have hp := putU_calls _ _ _ [] 1 ⟨⟨#[97]⟩, ⟨#[49]⟩, ⟨#[]⟩, false, []⟩ none 0 0 hw (fun j u h => by simp [strs] at h) rfl (Nat.le_refl _) (by omega) (fun a e => by cases e) (by simp)
  have hc : checkU 1 ⟨⟨#[97]⟩, ⟨#[49]⟩, ⟨#[]⟩, false, []⟩ = 0 := by decide +kernel
  have hu : [] ++ userB 1 ⟨⟨#[97]⟩, ⟨#[49]⟩, ⟨#[]⟩, false, []⟩ = [1, 0, 97, 1, 0, 49] := by decide +kernel
  rw [hc, if_pos rfl, hu] at hp
  unfold UsV.C at hp
  clear hc hu hw
  go_enter Tryd.func23, Tryd.ntmps23
  go_wp2_with fail
  refine hp.mono ?_
  rintro e w1 ⟨rfl, h1, f1⟩
  have hs1 := f1.size
  have hs0 := f0.size
  have hlt : w.heap.size < (w.alloc (.cells #[.slice none 0 0] 54)).heap.size := by simp
  replace f1 : Fr noB w w1 := f0.trans f1 (fun i hi h => by unfold eqB at h; omega)
  go_wp2_with fail
  refine (bytes_calls w1 _ _ _ h1 (by decide)).mono ?_
  rintro e w2 ⟨A, c, rfl, h2, f2⟩
  have R3 := Tryd.toStr (own_row h2) (show _ = 6 by decide) c
  have hk : mkS [1, 0, 97, 1, 0, 49] = ⟨#[1, 0, 97, 1, 0, 49]⟩ := by decide
  rw [hk] at R3
  go_wp2_with fail
  go_ret
  exact ⟨rfl, f1.then' f2⟩
def FewQ (w : World) (n : Nat) (e : Ending) (w' : World) : Prop := ∃ b, e = .returned (.bool b) ∧ (b = true → n ≤ 20) ∧ Fr noB w w'
set_option maxRecDepth 100000 in
set_option maxHeartbeats 1600000 in
theorem fewU_calls (w : World) (u : UsV) (A : Option Addr) (n c : Nat) (hx : RowAt w A (strs u.gs)) (HN : Hid (u.gs.length = n)) (hnc : n ≤ c) (hc : c ≤ 9223372036854775807) :
    Calls Tryd.prog 24 #[.agg (u.C (.slice A n c))] w (FewQ w n) := by
  have hb0 : BlkAt (w.alloc (.cells (u.C (.slice A n c)) 35)) w.heap.size 35 (u.C (.slice A n c)) := BlkAt.new _ _ _
  have f0 : Fr noB w (w.alloc (.cells (u.C (.slice A n c)) 35)) := (Fr.refl noB w).alloc _
  replace hx := hx.fr0 f0
  obtain ⟨m, hm⟩ : ∃ m, min n 30 = m := ⟨_, rfl⟩
  have HM := hid hm
  have hmn : m ≤ n := by omega
  have hm30 : m ≤ 30 := by omega
  have hmi : min (n : Int) 30 = (m : Int) := by omega
  clear hm
  unfold UsV.C at *
  generalize u.gs = l at *
  go_enter Tryd.func24, Tryd.ntmps24
  go_wp2_with fail
  generalize (w.alloc _) = W at *
  obtain ⟨x0, x1, x2, x3, x4, xf⟩ := BlkAt.c5 hb0
  go_wp2_with fail
  go_loop [3, 25] (fun v i => ∃ (k : Nat) (z : Int), k ≤ m ∧ i = .int .i64 k ∧ v = .int .i64 z) (fun _ i => m - (intOf i).toNat)
  case atStart => exact ⟨0, _, Nat.zero_le _, rfl, rfl⟩
  case round =>
    obtain ⟨k, z, hk, rfl, rfl⟩ := hrel
    by_cases hkm : k < m
    · obtain ⟨s, hs⟩ : ∃ s, l[k]? = some s := ⟨_, List.getElem?_eq_getElem (by rw [HN.out]; omega)⟩
      obtain ⟨a, rfl⟩ := strs_pos hx hs
      have ca : W.cell? (a.add k) = some (.string s) := hx.cell (strs_get hs)
      obtain ⟨q, hq⟩ : ∃ q : Int, min (s.size : Int) 1000 = q := ⟨_, rfl⟩
      clear hs
      go_wp2_with fail
      go_round
      case rel => exact ⟨k + 1, _, by omega, by go_num, rfl⟩
      case measure => simp [intOf]; omega
    · obtain rfl : k = m := by omega
      obtain ⟨b1, h1⟩ : ∃ b, decide (z ≤ 400) = b := ⟨_, rfl⟩
      obtain ⟨b2, h2⟩ : ∃ b, decide ((n : Int) ≤ 20) = b := ⟨_, rfl⟩
      have HB : Hid (b2 = true → n ≤ 20) := fun h => by rw [h] at h2; have := of_decide_eq_true h2; omega
      cases b1 <;> cases b2
      all_goals
        go_wp2_with fail
        go_ret
        exact ⟨_, rfl, fun h => by have h9 := HB.out; first | exact h9 rfl | exact h9 trivial | exact absurd h (by decide), f0⟩
end Go.Proofs.YtahcopmdffengaaDoor
