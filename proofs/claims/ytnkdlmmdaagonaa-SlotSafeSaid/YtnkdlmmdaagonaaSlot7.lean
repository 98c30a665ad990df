/- Acts of chapter 24: few, filled. -/
import Derived.Test.YtnkdlmmdaagonaaSlot2
import Derived.Test.YtnkdlmmdaagonaaSeg
import Derived.Deep.Cut
namespace Go.Proofs.Ytnkdlmmdaagonaa
open Go.RowKit
structure ActK where
  kind : Nat
  slot : Nat
  n : Int
  A : Option Addr
  m : Nat
  c : Nat
  b : List UInt8
  mask : Nat
def ActK.C (a : ActK) : List Value := [.int .u8 a.kind, .int .u8 a.slot, .int .i64 a.n, .slice a.A a.m a.c, .int .u64 a.mask]
structure ActK.ok (w : World) (a : ActK) : Prop where
  kind : a.kind < 256
  slot : a.slot < 256
  n : -9223372036854775808 ≤ a.n ∧ a.n ≤ 9223372036854775807
  row : RowAt w a.A (bcells a.b)
  len : a.b.length = a.m
  cap : a.m ≤ a.c
  max : a.c ≤ 9223372036854775807
  nil : a.A = none → a.m = 0 ∧ a.c = 0
  mask : a.mask < 18446744073709551616
def fewA (L : List ActK) : Bool := (L.all fun a => decide (a.m ≤ 200)) && decide (L.length ≤ 20)
set_option maxRecDepth 100000 in
set_option maxHeartbeats 1600000 in
theorem few24_calls (w : World) (A : Option Addr) (n c : Nat) (L : List ActK) (hr : RowAt w A (L.flatMap ActK.C)) (hn : L.length = n) (hnm : n ≤ 1000000000000) :
    Calls Try.prog 11 #[.slice A n c] w (fun e w' => e = .returned (.bool (fewA L)) ∧ Fr noB w w') := by
  have HN := hid hn
  clear hn
  go_enter Try.func11, Try.ntmps11
  go_wp2_with fail
  go_loopw [7] (fun i wr => ∃ k : Nat, k ≤ n ∧ i = .int .i64 k ∧ (L.take k).all (fun a => decide (a.m ≤ 200)) = true ∧ Fr noB w wr) (fun i _ => n - (intOf i).toNat)
  case atStart => exact ⟨0, Nat.zero_le _, rfl, rfl, Fr.refl _ _⟩
  case round =>
    obtain ⟨k, hk, rfl, hall, hf⟩ := hrel
    have HA := hid hall
    clear hall
    by_cases hkn : k < n
    · obtain ⟨a, ha⟩ : ∃ a, L[k]? = some a := ⟨_, List.getElem?_eq_getElem (by rw [HN.out]; exact hkn)⟩
      obtain ⟨ad, rfl⟩ := hr.some_flat (by simp [ActK.C]) ha
      have hseg := (hr.seg 5 (fun _ => rfl) ha).fr hf id
      have HT := hid (take_snocD ha)
      have hmem := hid (List.mem_of_getElem? ha)
      obtain ⟨kd, sl, an, aA, am, ac, ab, mk⟩ := a
      unfold ActK.C at hseg
      simp only [] at hseg
      obtain ⟨y0, y1, y2, y3, y4⟩ := hseg.c5
      have hab := BlkAt.new wr #[.int .u8 kd, .int .u8 sl, .int .i64 an, .slice aA am ac, .int .u64 mk] 25
      have fx := (Fr.refl noB wr).alloc (.cells #[.int .u8 kd, .int .u8 sl, .int .i64 an, .slice aA am ac, .int .u64 mk] 25)
      have Fc := hf.then' fx
      clear ha
      go_upto_region 4 with fail
      obtain ⟨xp, hxp⟩ : ∃ z, wr.heap.size = z := ⟨_, rfl⟩
      rw [hxp] at hab ⊢
      generalize (wr.alloc (.cells #[.int .u8 kd, .int .u8 sl, .int .i64 an, .slice aA am ac, .int .u64 mk] 25)) = wc at *
      clear y0 y1 y2 y3 y4 hxp fx
      obtain ⟨z0, z1, z2, z3, z4, zf⟩ := BlkAt.c5 hab
      by_cases h200 : 200 < am
      · have t1 : decide ((200 : Int) < am) = true := decide_eq_true (by omega)
        have HF : Hid (fewA L = false) := by
          unfold Hid fewA
          rw [Bool.and_eq_false_iff]
          left
          rw [List.all_eq_false]
          exact ⟨_, hmem.out, by simp; omega⟩
        go_wp2_with fail
        go_ret
        exact ⟨by rw [HF.out]; rfl, Fc⟩
      · have t1 : decide ((200 : Int) < am) = false := decide_eq_false (by omega)
        go_wp2_with fail
        go_roundw
        case rel => exact ⟨k + 1, by omega, by go_num, by rw [HT.out, List.all_append, HA.out]; simp; omega, Fc⟩
        case measure => simp [intOf]; omega
    · have hkn' : k = n := by omega
      subst hkn'
      have HA2 := HA.out
      rw [List.take_of_length_le (by rw [HN.out]; exact Nat.le_refl _)] at HA2
      have HF : Hid (fewA L = decide (k ≤ 20)) := by unfold Hid fewA; rw [HA2, HN.out, Bool.true_and]
      clear HA HA2
      obtain ⟨v, hv⟩ : ∃ v, decide (k ≤ 20) = v := ⟨_, rfl⟩
      rw [hv] at HF
      have hv2 : decide ((k : Int) ≤ 20) = v := by rw [← hv]; exact decide_eq_decide.2 (by omega)
      go_wp2_with fail
      go_ret
      exact ⟨by rw [HF.out]; rfl, hf⟩
end Go.Proofs.Ytnkdlmmdaagonaa
