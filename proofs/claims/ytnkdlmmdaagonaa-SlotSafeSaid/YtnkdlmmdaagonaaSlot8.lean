/- Acts of chapter 24: filled. -/
import Derived.Test.YtnkdlmmdaagonaaSlot7
namespace Go.Proofs.Ytnkdlmmdaagonaa
open Go.RowKit
def lenOf : Value → Nat
  | .slice _ n _ => n
  | _ => 0
theorem u8_cut (n : Nat) : ∃ b : UInt8, IntKind.u8.wrap (n : Int) = (b.toNat : Nat) := ⟨UInt8.ofNat n, by rw [IntKind.wrap_u8]; simp⟩
set_option maxRecDepth 100000 in
set_option maxHeartbeats 3200000 in
theorem filled_calls (w : World) (a : ActK) (ha : a.ok w) (h200 : a.m ≤ 200) :
    Calls Try.prog 14 #[.agg a.C.toArray] w (fun e w' => ∃ X A m c, e = .returned (.slice A m c) ∧ Hid (X.length = m) ∧ m < 6000 ∧ m ≤ c ∧ c ≤ 9223372036854775807 ∧ (A = none → m = 0 ∧ c = 0) ∧ RowAt w' A (bcells X) ∧ (∀ ad, A = some ad → w.heap.size ≤ ad.block) ∧ Fr noB w w') := by
  obtain ⟨kd, sl, an, aA, am, ac, ab, mk⟩ := a
  obtain ⟨-, -, hn, hrow, hlen, hcap, hmax, hnil, hmk⟩ := ha
  unfold ActK.C
  simp only [] at *
  have f0 := (Fr.refl noB w).alloc (.cells #[.int .u8 kd, .int .u8 sl, .int .i64 an, .slice aA am ac, .int .u64 mk] 25)
  have b0 := BlkAt.new w #[.int .u8 kd, .int .u8 sl, .int .i64 an, .slice aA am ac, .int .u64 mk] 25
  have hw0 : 0 ≤ IntKind.u64.wrap an := by rw [IntKind.wrap_u64]; omega
  obtain ⟨N, hN⟩ : ∃ N : Nat, (IntKind.u64.wrap an).tmod 6000 = N := ⟨(IntKind.u64.wrap an % 6000).toNat, by rw [Int.tmod_eq_emod_of_nonneg hw0]; omega⟩
  have hN6 : N < 6000 := by
    rw [Int.tmod_eq_emod_of_nonneg hw0] at hN
    have : IntKind.u64.wrap an % 6000 < 6000 := Int.emod_lt_of_pos _ (by decide)
    omega
  clear hw0
  go_enter Try.func14, Try.ntmps14
  go_upto_region 1 with fail
  generalize (w.alloc (.cells #[.int .u8 kd, .int .u8 sl, .int .i64 an, .slice aA am ac, .int .u64 mk] 25)) = wa at *
  obtain ⟨x0, x1, x2, x3, x4, xf⟩ := BlkAt.c5 b0
  go_upto_region 2 with fail
  clear x0 x1 x2 x3 x4 xf hN
  go_wp2_with fail
  go_loopw [4] (fun o wr => ∃ (X : List UInt8) (l : Nat), l ≤ 6300 ∧ GrowU (w.heap.size + 1) wr o l X ∧ BlkAt wr w.heap.size 25 #[.int .u8 kd, .int .u8 sl, .int .i64 an, .slice aA am ac, .int .u64 mk] ∧ Fr noB w wr) (fun o _ => N - lenOf o)
  case atStart => exact ⟨[], 0, by omega, ⟨none, 0, rfl, rfl, World.ownsRow_nil _ _ _ _, fun g hg => by cases hg⟩, b0, f0⟩
  case round =>
    obtain ⟨X, l, hl6, ⟨B, d, rfl, HL, hown, hbb⟩, hb, hf⟩ := hrel
    clear b0 f0
    have hcp := own_capB hown
    obtain ⟨x0, x1, x2, x3, x4, xf⟩ := BlkAt.c5 hb
    by_cases hlN : l < N
    · have t1 : decide (l < N) = true := decide_eq_true hlN
      obtain ⟨cb, hcb⟩ := u8_cut l
      have fe := (Fr.refl noB wr).alloc (.cells #[.int .u8 cb.toNat] 5)
      have hown2 := own_fr hown fe (fun _ _ => id)
      have hr1 : RowAt (wr.alloc (.cells #[.int .u8 cb.toNat] 5)) (some ⟨wr.heap.size, 0, none⟩) (bcells [cb]) := new_row wr #[.int .u8 cb.toNat] 5
      go_wp2_with (at_builtin; refine wpList_app Try.app8 rfl (.tmp 14) (.tmp 18) rfl _ l (bcells X) rfl hown2 (some ⟨wr.heap.size, 0, none⟩) 1 1 (bcells [cb]) rfl rfl hr1 (bcells_one _) (by simp) (by omega) (by omega) ?_)
      intro B2 d2 w2 hown3 hg hat
      have f2 : Fr (fun k => (Value.slice B l d).ownBlock = some k) wr w2 := Fr.grown (fe.mono fun _ _ h => h.elim) hg (fun k hk => Or.inl hk)
      have hbb2 : ∀ g, (Value.slice B2 (l + 1) d2).ownBlock = some g → w.heap.size + 1 ≤ g := fun g hg => by
        rcases hat with e | e
        · exact hbb g (e ▸ hg)
        · rw [hg] at e; simp at e; have := hb.lt; omega
      have F2 : Fr noB w w2 := hf.trans f2 (fun i hi h => by have := hbb _ h; omega)
      have hb2 := hb.fr f2 (fun h => by have := hbb _ h; omega)
      have hrow2 := hrow.fr0 F2
      have hz2 := f2.size
      have hown3' : w2.ownsRow 0 5 1 (.slice B2 (l + 1) d2) (l + 1) (bcells (X ++ [cb])) := by rw [bcells_append]; exact hown3
      clear hown hown2 hown3 hg hat fe hr1 x0 x1 x2 x3 x4 xf f2 hbb
      obtain ⟨x0, x1, x2, x3, x4, xf⟩ := BlkAt.c5 hb2
      go_wp2_with (at_builtin; refine wpList_app Try.app8 rfl (.tmp 20) (.tmp 22) rfl _ (l + 1) (bcells (X ++ [cb])) rfl hown3' aA am ac (bcells ab) rfl (by rw [bcells_length, hlen, Nat.mul_one]) hrow2 (bcells_one _) hnil (by omega) (by omega) ?_)
      intro B3 d3 w3 hown4 hg hat
      have f3 : Fr (fun k => (Value.slice B2 (l + 1) d2).ownBlock = some k) w2 w3 := Fr.grown (Fr.refl _ w2) hg (fun k hk => Or.inl hk)
      have hbb3 : ∀ g, (Value.slice B3 (l + 1 + am) d3).ownBlock = some g → w.heap.size + 1 ≤ g := fun g hg => by
        rcases hat with e | e
        · exact hbb2 g (e ▸ hg)
        · rw [hg] at e; simp at e; have := hb2.lt; omega
      have F3 : Fr noB w w3 := F2.trans f3 (fun i hi h => by have := hbb2 _ h; omega)
      have hb3 := hb2.fr f3 (fun h => by have := hbb2 _ h; omega)
      have hGU : GrowU (w.heap.size + 1) w3 (.slice B3 (l + 1 + am) d3) (l + 1 + am) (X ++ [cb] ++ ab) :=
        ⟨B3, d3, rfl, by unfold Hid; rw [List.length_append, List.length_append, HL.out, hlen]; rfl, by rw [bcells_append]; exact hown4, hbb3⟩
      clear hown3' hown4 hg hat f3 hbb2 hb2 x0 x1 x2 x3 x4 xf hbb3
      go_wp2_with fail
      go_roundw
      case rel => exact ⟨X ++ [cb] ++ ab, l + 1 + am, by omega, hGU, hb3, F3⟩
      case measure => simp only [lenOf]; omega
    · have t1 : decide (l < N) = false := decide_eq_false hlN
      have hrr := own_row hown
      have hnl := own_nilB hown
      have hNl : N ≤ l := by omega
      have hrs : RowAt wr B (bcells (X.take N)) := fun q u hu => by
        simp only [bcells, List.map_take] at hu
        rw [List.getElem?_take] at hu
        split at hu
        · exact hrr q u hu
        · cases hu
      have hls : Hid ((X.take N).length = N) := by unfold Hid; rw [List.length_take, HL.out]; omega
      have hbl : ∀ ad, B = some ad → w.heap.size ≤ ad.block := fun ad e => by have := hbb ad.block (by subst e; rfl); omega
      clear hown hrr hbb
      cases B with
      | none =>
        obtain ⟨h0, h1⟩ := hnl rfl
        obtain rfl : N = 0 := by omega
        subst h1
        rw [show ((0 : Nat) : Int) = 0 from rfl]
        go_wp2_with fail
        go_ret
        exact ⟨X.take 0, none, 0, 0, rfl, hls, by omega, Nat.le_refl _, by omega, fun _ => ⟨rfl, rfl⟩, hrs, hbl, hf⟩
      | some ab2 =>
        go_wp2_with fail
        go_ret
        exact ⟨X.take N, some ab2, N, d, rfl, hls, hN6, by omega, hcp.2, (fun e => by cases e), hrs, hbl, hf⟩
end Go.Proofs.Ytnkdlmmdaagonaa
