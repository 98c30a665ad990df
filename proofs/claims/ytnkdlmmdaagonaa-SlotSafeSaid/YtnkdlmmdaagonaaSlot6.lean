/- The chapter's example (24). -/
import Derived.Test.YtnkdlmmdaagonaaSlot5
import Derived.Test.YtnkdlmmdaagonaaConv
namespace Go.Proofs.Ytnkdlmmdaagonaa
open Go.RowKit
theorem fr_freeze (W : World) (g o n : Nat) : Fr (eqB g) W (W.freeze ⟨g, o, none⟩ n) := by
  unfold World.freeze
  split
  · exact Fr.refl _ _
  · refine ⟨rfl, rfl, rfl, by simp, fun k hk hn => ?_⟩
    simp only [Array.getElem?_modify]
    rw [if_neg (fun e => hn (by unfold eqB; exact e.symm))]
theorem cell_freeze (W : World) (a b : Addr) (n : Nat) : (W.freeze a n).cell? b = W.cell? b := by
  unfold World.freeze
  split
  · rfl
  · unfold World.cell?
    simp only [Array.getElem?_modify]
    by_cases e : a.block = b.block
    · rw [if_pos e]
      cases h : W.heap[b.block]? with
      | none => rfl
      | some o => cases o <;> rfl
    · rw [if_neg e]
theorem Try.cvU (W : World) (g n c : Nat) (T : TypeId) (C : Array Value) (h : BlkAt W g T C) : (convert 22 22 (.slice (some ⟨g, 0, none⟩) n c)).run Try.prog W = .ok (.slice (some ⟨g, 0, none⟩) n c) (W.freeze ⟨g, C.size, none⟩ 1) := by
  have hs : W.shape? g = some (T, C.size) := by unfold BlkAt at h; simp [World.shape?, h]
  simp [convert, go_sem, Try.underlying22, markStringish, hs]
set_option maxRecDepth 100000 in
set_option maxHeartbeats 3200000 in
theorem lives24_calls (w : World) : Calls Try.prog 10 #[] w (fun e w' => e = .returned (.bool true) ∧ Fr noB w w') := by
  go_enter Try.func10, Try.ntmps10
  go_wp2_with fail
  refine (new_calls w 122 (by omega)).mono ?_
  rintro ed w1 ⟨p, rfl, hp, h1, f1, hdb⟩
  have hp1 := slotPut_calls w1 p (newD 122) 0 none 0 0 [] h1 (RowAt.nil _ _) rfl (Nat.le_refl _) (by omega) (fun _ => ⟨rfl, rfl⟩) (fun _ e => by cases e) (by decide)
  rw [put_nil] at hp1
  have hp2 := fun W A c g hx hnc hcm hnil hbB => slotPut_calls W p (newD 122) 1 A 3 c abcB g hx rfl hnc hcm hnil hbB (by decide)
  rw [put_abc] at hp2
  have hcs : crcSum abcB < 4294967296 := not32_lt _
  have hg := fun W g => slotGet_calls W p liv24 1 3 (crcSum abcB) g (by omega) (by omega) hcs (by simp [liv24, newD]) (by decide)
  rw [get_abc] at hg
  have hwt := fun W g => waiting_calls W p (newD 122) g
  rw [show (newD 122).wait.length = 0 from rfl] at hwt
  unfold SlotPPost at hp1 hp2
  unfold GetPostS at hg
  generalize newD 122 = d0 at *
  generalize liv24 = d1 at *
  generalize crcSum abcB = cs at *
  simp only [] at hp1 hp2 hg
  go_wp2_with fail
  refine hp1.mono ?_
  rintro ed w2 ⟨rfl, h2, s2⟩
  go_wp2_with fail
  refine (hwt w2 h2).mono ?_
  rintro ed w2' ⟨rfl, rfl⟩
  clear hp1 hwt
  obtain ⟨Wa, hWa⟩ : ∃ W, w2.alloc (.cells #[.int .u8 97, .int .u8 98, .int .u8 99] 5) = W := ⟨_, rfl⟩
  have bA : BlkAt Wa w2.heap.size 5 #[.int .u8 97, .int .u8 98, .int .u8 99] := by rw [← hWa]; exact BlkAt.new _ _ _
  have f3 : Fr noB w2 Wa := by rw [← hWa]; exact (Fr.refl noB w2).alloc _
  have hcv := Try.cvU Wa w2.heap.size 3 3 _ _ bA
  rw [← hWa] at hcv
  have fz := fr_freeze Wa w2.heap.size 3 1
  have rz : RowAt (Wa.freeze ⟨w2.heap.size, 3, none⟩ 1) (some ⟨w2.heap.size, 0, none⟩) (bcells abcB) := fun q u hu => by
    have hA : RowAt Wa (some ⟨w2.heap.size, 0, none⟩) (bcells abcB) := by rw [← hWa]; exact new_row w2 #[.int .u8 97, .int .u8 98, .int .u8 99] 5
    obtain ⟨ad, e, hc⟩ := hA q u hu
    exact ⟨ad, e, by rw [cell_freeze]; exact hc⟩
  have F3 : Fr noB w2 (Wa.freeze ⟨w2.heap.size, 3, none⟩ 1) := f3.trans fz (fun i hi h => by unfold eqB at h; omega)
  rw [← hWa] at F3 rz
  have h3 := h2.fr0 F3
  have hS := DStep.of0 h2 F3
  have hlt2 := fun k (hk : devB p w2 k) => devB_lt h2 hk
  have hfo := h2.foot9 F3
  have hp2' := hp2 _ (some ⟨w2.heap.size, 0, none⟩) 3 h3 rz (by omega) (by omega) (fun e => by cases e) (fun a e _ g => by
    cases e
    have := hlt2 _ (hfo _ g)
    simp only at this; omega)
  clear hp2 fz f3 bA hWa
  go_wp2_with fail
  refine hp2'.mono ?_
  rintro ed w4 ⟨rfl, h4, s4⟩
  go_wp2_with fail
  refine (hg w4 h4).mono ?_
  rintro ed w5 ⟨A5, m5, c5, rfl, hl5, hr5, f5⟩
  obtain rfl : m5 = 3 := hl5.out.symm
  have hst := Try.toStr (l := abcB) (n := 3) hr5 rfl c5
  have hmk : mkS abcB = ⟨#[97, 98, 99]⟩ := rfl
  rw [hmk] at hst
  clear hmk
  have S := (s2.trans hS).trans s4
  have FF : Fr noB w w5 := (f1.trans S.fr (fun i hi h => by have := hdb i h; omega)).then' f5
  clear hp2' hg hS s2 s4
  go_wp2_with fail
  go_ret
  exact ⟨rfl, FF⟩
end Go.Proofs.Ytnkdlmmdaagonaa
