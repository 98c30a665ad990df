/- interrexref02.Sum. -/
import Derived.Test.YtnkdlmmdaagonaaCrcLaw
namespace Go.Proofs.Ytnkdlmmdaagonaa
open Go.RowKit

/-- 32 truths in a row. -/
structure BitsC (C : Array Value) (f : Nat → Bool) : Prop where
  size : C.size = 32
  get : ∀ j, j < 32 → C[j]? = some (.bool (f j))
theorem BitsC.set {C : Array Value} {f g : Nat → Bool} (h : BitsC C f) {k : Nat} {v : Bool} (hk : k < 32) (hg : ∀ j, j < 32 → g j = if j = k then v else f j) : BitsC (C.setIfInBounds k (.bool v)) g := by
  have hs := h.size
  refine ⟨by simpa using hs, fun j hj => ?_⟩
  rw [hg j hj]
  by_cases e : j = k
  · subst e; rw [if_pos rfl]; exact sib_eq (by omega)
  · rw [if_neg e, sib_ne (fun h => e h.symm)]; exact h.get j hj
theorem BitsC.cong {C : Array Value} {f g : Nat → Bool} (h : BitsC C f) (hg : ∀ j, j < 32 → g j = f j) : BitsC C g := ⟨h.size, fun j hj => by rw [hg j hj]; exact h.get j hj⟩
def bitsZ : Array Value := Array.replicate 32 (.bool false)
theorem testBit_div (x i : Nat) : x / 2 ^ i % 2 = if x.testBit i then 1 else 0 := by
  have h : x.testBit i = decide (x / 2 ^ i % 2 = 1) := Nat.testBit_eq_decide_div_mod_eq
  rw [h]
  rcases Nat.mod_two_eq_zero_or_one (x / 2 ^ i) with e | e <;> rw [e] <;> rfl
theorem crcStep_bit (x j : Nat) : (crcStep x).testBit j = (((x / 2).testBit j) ^^ (x.testBit 0 && (3988292384 : Nat).testBit j)) := by
  have h0 : x.testBit 0 = decide (x % 2 = 1) := by simp [Nat.testBit_zero]
  unfold crcStep
  by_cases h : x % 2 = 1
  · rw [if_pos h, Nat.testBit_xor, h0, decide_eq_true h]; simp
  · rw [if_neg h, h0, decide_eq_false h]; simp
theorem not32_bit {x j : Nat} (hx : x < 4294967296) (hj : j < 32) : (not32 x).testBit j = !x.testBit j := by
  unfold not32
  rw [← not_nat x hx, Nat.testBit_xor, show (4294967295 : Nat) = 2 ^ 32 - 1 by decide, Nat.testBit_two_pow_sub_one]
  simp [hj]

set_option maxRecDepth 100000 in
set_option maxHeartbeats 12800000 in
theorem sumR_calls (w : World) (s : ByteArray) (hs : s.size ≤ 1000000000000) :
    Calls Try.prog 55 #[.string s] w (fun e w' => e = .returned (.int .u32 (crcSum s.data.toList : Nat)) ∧ Fr noB w w') := by
  have hsz : s.data.toList.length = s.size := by simp
  have HSZ := hid hsz; clear hsz
  have hb0 : BlkAt (w.alloc (.cells #[.bool false, .bool false, .bool false, .bool false, .bool false, .bool false, .bool false, .bool false, .bool false, .bool false, .bool false, .bool false, .bool false, .bool false, .bool false, .bool false, .bool false, .bool false, .bool false, .bool false, .bool false, .bool false, .bool false, .bool false, .bool false, .bool false, .bool false, .bool false, .bool false, .bool false, .bool false, .bool false] 143)) w.heap.size 143 #[.bool false, .bool false, .bool false, .bool false, .bool false, .bool false, .bool false, .bool false, .bool false, .bool false, .bool false, .bool false, .bool false, .bool false, .bool false, .bool false, .bool false, .bool false, .bool false, .bool false, .bool false, .bool false, .bool false, .bool false, .bool false, .bool false, .bool false, .bool false, .bool false, .bool false, .bool false, .bool false] := heap_alloc_new w _
  have hC0 : BitsC #[.bool false, .bool false, .bool false, .bool false, .bool false, .bool false, .bool false, .bool false, .bool false, .bool false, .bool false, .bool false, .bool false, .bool false, .bool false, .bool false, .bool false, .bool false, .bool false, .bool false, .bool false, .bool false, .bool false, .bool false, .bool false, .bool false, .bool false, .bool false, .bool false, .bool false, .bool false, .bool false] (fun _ => false) := ⟨rfl, fun j hj => by
    show (Array.replicate 32 (Value.bool false))[j]? = _
    simp [hj]⟩
  have f0 : Fr noB w (w.alloc (.cells #[.bool false, .bool false, .bool false, .bool false, .bool false, .bool false, .bool false, .bool false, .bool false, .bool false, .bool false, .bool false, .bool false, .bool false, .bool false, .bool false, .bool false, .bool false, .bool false, .bool false, .bool false, .bool false, .bool false, .bool false, .bool false, .bool false, .bool false, .bool false, .bool false, .bool false, .bool false, .bool false] 143)) := (Fr.refl noB w).alloc _
  go_enter Try.func55, Try.ntmps55
  go_wp2_with fail
  generalize (#[.bool false, .bool false, .bool false, .bool false, .bool false, .bool false, .bool false, .bool false, .bool false, .bool false, .bool false, .bool false, .bool false, .bool false, .bool false, .bool false, .bool false, .bool false, .bool false, .bool false, .bool false, .bool false, .bool false, .bool false, .bool false, .bool false, .bool false, .bool false, .bool false, .bool false, .bool false, .bool false] : Array Value) = Z at *
  generalize w.alloc (.cells Z 143) = w0 at *
  generalize hbk : w.heap.size = b at hb0 ⊢
  have hbw : w.heap.size ≤ b := by omega
  have HBB := hid hbk; clear hbk
  go_loopw [14] (fun i wr => ∃ (k : Nat) (C : Array Value), k ≤ 32 ∧ i = .int .i64 k ∧ BlkAt wr b 143 C ∧ BitsC C (fun j => decide (j < k)) ∧ Fr noB w wr) (fun i _ => 32 - (intOf i).toNat)
  case atStart => exact ⟨0, Z, by omega, rfl, hb0, hC0.cong fun j _ => by simp, f0⟩
  case round =>
    clear hb0 hC0 f0
    obtain ⟨k, C, hk, rfl, hb, hC, hf⟩ := hrel
    by_cases hk32 : k < 32
    · have hcell := hb.cell (hC.get k hk32)
      have hfree := hb.free k
      have hb2 := hb.set k (.bool true)
      have hC2 : BitsC (C.setIfInBounds k (.bool true)) (fun j => decide (j < k + 1)) := hC.set hk32 fun j hj => by
        by_cases e : j = k
        · subst e; simp
        · rw [if_neg e, decide_eq_decide]; omega
      have hf2 : Fr noB w (wr.setCell ⟨b, k, none⟩ (.bool true)) := hf.setCell (p := ⟨b, k, none⟩) (Or.inr hbw) _
      have H2 := hid (And.intro hb2 (And.intro hC2 hf2))
      clear hb hC hb2 hC2 hf hf2
      go_wp2_with fail
      go_roundw
      case rel => exact ⟨k + 1, _, by omega, by go_num, H2.out.1, H2.out.2.1, H2.out.2.2⟩
      case measure => simp [intOf]; omega
    · have : k = 32 := by omega
      subst this
      have hC1 : BitsC C ((4294967295 : Nat).testBit) := hC.cong fun j hj => by
        rw [show (4294967295 : Nat) = 2 ^ 32 - 1 by decide, Nat.testBit_two_pow_sub_one]
      clear hC
      obtain ⟨r0, HR0⟩ : ∃ r0 : Nat, Hid (r0 = 4294967295) := ⟨_, rfl⟩
      rw [← HR0.out] at hC1
      have hr0 : r0 < 4294967296 := by rw [HR0.out]; decide
      go_wp2_with fail
      go_loopw [5] (fun i wr => ∃ (k r : Nat) (C : Array Value), k ≤ s.size ∧ i = .int .i64 k ∧ Hid (r = crcReg r0 (s.data.toList.take k)) ∧ r < 4294967296 ∧ BlkAt wr b 143 C ∧ BitsC C r.testBit ∧ Fr noB w wr) (fun i _ => s.size - (intOf i).toNat)
      case atStart => exact ⟨0, r0, C, Nat.zero_le _, rfl, rfl, hr0, hb, hC1, hf⟩
      case round =>
        clear hb hC1 hf hk32 hk
        obtain ⟨k, r, C, hk, rfl, HR, hlt, hb, hC, hf⟩ := hrel
        by_cases hks : k < s.size
        · obtain ⟨x, hx⟩ : ∃ x, s.data.toList[k]? = some x := ⟨_, List.getElem?_eq_getElem (by rw [HSZ.out]; exact hks)⟩
          have hgx : s[k] = x := by
            have h1 : s.data.toList[k]? = some s[k] := by
              rw [List.getElem?_eq_getElem (by rw [HSZ.out]; exact hks)]; rfl
            rw [h1] at hx; exact Option.some.inj hx
          have HX := hid hx; clear hx
          have hx256 := x.toNat_lt
          have HBY : Hid (crcIter 8 (r ^^^ x.toNat) = crcReg r0 (s.data.toList.take (k + 1))) := by
            unfold Hid; rw [take_snoc' HX.out, crcReg_append, ← HR.out, ← crcByte_eq]; rfl
          obtain ⟨wo, rfl⟩ : ∃ wo : World, wo = wr := ⟨_, rfl⟩
          go_wp2_with fail
          replace hx256 : x.toNat < 256 := hx256
          generalize x.toNat = xn at *
          clear hgx
          go_loopw [6, 29] (fun v i wr => ∃ (i3 : Nat) (C : Array Value), i3 ≤ 8 ∧ i = .int .i64 i3 ∧ v = .int .u8 (xn / 2 ^ i3 : Nat) ∧ BlkAt wr b 143 C ∧ BitsC C (fun j => r.testBit j ^^ (decide (j < i3) && xn.testBit j)) ∧ Fr noB w wr) (fun _ i _ => 8 - (intOf i).toNat)
          case atStart => exact ⟨0, C, by omega, rfl, by simp, hb, hC.cong fun j _ => by simp, hf⟩
          case round =>
            clear hb hC hf
            obtain ⟨i3, C, hi, rfl, rfl, hb, hC, hf⟩ := hrel
            by_cases hi8 : i3 < 8
            · have htb := testBit_div xn i3
              have hnx : xn / 2 ^ i3 / 2 = xn / 2 ^ (i3 + 1) := by rw [Nat.div_div_eq_div_mul, Nat.pow_succ]
              have HNX := hid hnx; clear hnx
              have hy256 : xn / 2 ^ i3 < 256 := Nat.lt_of_le_of_lt (Nat.div_le_self _ _) hx256
              generalize xn / 2 ^ i3 = y at *
              cases hbit : xn.testBit i3 with
              | true =>
                rw [hbit] at htb
                have t1 : ((y : Int) % 2 == 1) = true := by simp at htb ⊢; omega
                have hcell := hb.cell (hC.get i3 (by omega))
                have hfree := hb.free i3
                have hb2 := hb.set i3 (.bool (!(r.testBit i3 ^^ (decide (i3 < i3) && xn.testBit i3))))
                have hC2 : BitsC (C.setIfInBounds i3 (.bool (!(r.testBit i3 ^^ (decide (i3 < i3) && xn.testBit i3))))) (fun j => r.testBit j ^^ (decide (j < i3 + 1) && xn.testBit j)) := hC.set (by omega) fun j hj => by
                  by_cases e : j = i3
                  · subst e; simp [hbit]
                  · have : decide (j < i3 + 1) = decide (j < i3) := by rw [decide_eq_decide]; omega
                    rw [if_neg e, this]
                have hf2 : Fr noB w (wr.setCell ⟨b, i3, none⟩ (.bool (!(r.testBit i3 ^^ (decide (i3 < i3) && xn.testBit i3))))) := hf.setCell (p := ⟨b, i3, none⟩) (Or.inr hbw) _
                generalize (r.testBit i3 ^^ (decide (i3 < i3) && xn.testBit i3)) = old at *
                have H2 := hid (And.intro hb2 (And.intro hC2 hf2))
                clear hb hC hb2 hC2 hf hf2 htb hbit
                go_wp2_with fail
                go_roundw
                case rel => exact ⟨i3 + 1, _, by omega, by go_num, by rw [← HNX.out]; go_num, H2.out.1, H2.out.2.1, H2.out.2.2⟩
                case measure => simp [intOf]; omega
              | false =>
                rw [hbit] at htb
                have t1 : ((y : Int) % 2 == 1) = false := by simp at htb ⊢; omega
                have hC2 : BitsC C (fun j => r.testBit j ^^ (decide (j < i3 + 1) && xn.testBit j)) := hC.cong fun j hj => by
                  by_cases e : j = i3
                  · subst e; simp [hbit]
                  · have : decide (j < i3 + 1) = decide (j < i3) := by rw [decide_eq_decide]; omega
                    rw [this]
                have H2 := hid (And.intro hb (And.intro hC2 hf))
                clear hb hC hC2 hf htb hbit
                go_wp2_with fail
                go_roundw
                case rel => exact ⟨i3 + 1, C, by omega, by go_num, by rw [← HNX.out]; go_num, H2.out.1, H2.out.2.1, H2.out.2.2⟩
                case measure => simp [intOf]; omega
            · have : i3 = 8 := by omega
              subst this
              have hC1 : BitsC C ((crcIter 0 (r ^^^ xn)).testBit) := hC.cong fun j hj => by
                show (r ^^^ xn).testBit j = _
                rw [Nat.testBit_xor]
                by_cases e : j < 8
                · simp [e]
                · have : xn.testBit j = false := Nat.testBit_lt_two_pow (Nat.lt_of_lt_of_le hx256 (by rw [show (256 : Nat) = 2 ^ 8 by decide]; exact Nat.pow_le_pow_right (by omega) (by omega)))
                  simp [e, this]
              clear hC
              obtain ⟨r1, HR1⟩ : ∃ r1, Hid (r ^^^ xn = r1) := ⟨_, rfl⟩
              rw [HR1.out] at hC1 HBY
              have hr1 : r1 < 4294967296 := by rw [← HR1.out]; exact Nat.xor_lt_two_pow (n := 32) (by omega) (by omega)
              obtain ⟨wo, rfl⟩ : ∃ wo : World, wo = wr := ⟨_, rfl⟩
              go_wp2_with fail
              go_loopw [44] (fun i wr => ∃ (q : Nat) (C : Array Value), q ≤ 8 ∧ i = .int .i64 q ∧ BlkAt wr b 143 C ∧ BitsC C ((crcIter q r1).testBit) ∧ Fr noB w wr) (fun i _ => 8 - (intOf i).toNat)
              case atStart => exact ⟨0, C, by omega, rfl, hb, hC1, hf⟩
              case round =>
                clear hb hC1 hf hi hi8
                obtain ⟨q, C, hq, rfl, hb, hC, hf⟩ := hrel
                by_cases hq8 : q < 8
                · have HQ : Hid (crcIter (q + 1) r1 = crcStep (crcIter q r1)) := rfl
                  have hg := crcIter_lt hr1 q
                  generalize crcIter q r1 = g at *
                  have hc0 := hb.cell (hC.get 0 (by omega))
                  obtain ⟨out, HO⟩ : ∃ out, Hid (g.testBit 0 = out) := ⟨_, rfl⟩
                  rw [HO.out] at hc0
                  obtain ⟨wo, rfl⟩ : ∃ wo : World, wo = wr := ⟨_, rfl⟩
                  go_wp2_with fail
                  clear hc0
                  go_loopw [48] (fun i wr => ∃ (i5 : Nat) (C : Array Value), i5 ≤ 31 ∧ i = .int .i64 i5 ∧ BlkAt wr b 143 C ∧ BitsC C (fun j => if j < i5 then g.testBit (j + 1) else g.testBit j) ∧ Fr noB w wr) (fun i _ => 31 - (intOf i).toNat)
                  case atStart => exact ⟨0, C, by omega, rfl, hb, hC.cong fun j _ => by simp, hf⟩
                  case round =>
                    clear hb hC hf
                    obtain ⟨i5, C, hi5, rfl, hb, hC, hf⟩ := hrel
                    by_cases h31 : i5 < 31
                    · have hcl1 := hb.cell (hC.get (i5 + 1) (by omega))
                      rw [if_neg (by omega)] at hcl1
                      have hcl0 := hb.cell (hC.get i5 (by omega))
                      have hfree := hb.free i5
                      have hb2 := hb.set i5 (.bool (g.testBit (i5 + 1)))
                      have hC2 : BitsC (C.setIfInBounds i5 (.bool (g.testBit (i5 + 1)))) (fun j => if j < i5 + 1 then g.testBit (j + 1) else g.testBit j) := hC.set (by omega) fun j hj => by
                        by_cases e : j = i5
                        · subst e; simp
                        · rw [if_neg e]
                          by_cases e2 : j < i5
                          · rw [if_pos e2, if_pos (by omega)]
                          · rw [if_neg e2, if_neg (by omega)]
                      have hf2 : Fr noB w (wr.setCell ⟨b, i5, none⟩ (.bool (g.testBit (i5 + 1)))) := hf.setCell (p := ⟨b, i5, none⟩) (Or.inr hbw) _
                      have H2 := hid (And.intro hb2 (And.intro hC2 hf2))
                      generalize g.testBit (i5 + 1) = gb at *
                      clear hb hC hb2 hC2 hf hf2
                      go_wp2_with fail
                      go_roundw
                      case rel => exact ⟨i5 + 1, _, by omega, by go_num, H2.out.1, H2.out.2.1, H2.out.2.2⟩
                      case measure => simp [intOf]; omega
                    · have : i5 = 31 := by omega
                      subst this
                      have hcl := hb.cell (hC.get 31 (by omega))
                      have hfree := hb.free 31
                      have hb2 := hb.set 31 (.bool false)
                      have hC2 : BitsC (C.setIfInBounds 31 (.bool false)) ((g / 2).testBit) := hC.set (by omega) fun j hj => by
                        rw [Nat.testBit_div_two]
                        by_cases e : j = 31
                        · subst e; rw [if_pos rfl]; exact Nat.testBit_lt_two_pow (by omega)
                        · rw [if_neg e, if_pos (by omega)]
                      have hf2 : Fr noB w (wr.setCell ⟨b, 31, none⟩ (.bool false)) := hf.setCell (p := ⟨b, 31, none⟩) (Or.inr hbw) _
                      clear hb hC hf
                      go_wp2_with fail
                      clear hcl hfree
                      generalize wr.setCell ⟨b, 31, none⟩ (.bool false) = w6 at *
                      go_loopw [10, 59] (fun v i wr => ∃ (i6 : Nat) (C : Array Value), i6 ≤ 32 ∧ i = .int .i64 i6 ∧ v = .int .u32 (3988292384 / 2 ^ i6 : Nat) ∧ BlkAt wr b 143 C ∧ BitsC C (fun j => (g / 2).testBit j ^^ (decide (j < i6) && (out && (3988292384 : Nat).testBit j))) ∧ Fr noB w wr) (fun _ i _ => 32 - (intOf i).toNat)
                      case atStart => exact ⟨0, _, by omega, rfl, by simp, hb2, hC2.cong fun j _ => by simp, hf2⟩
                      case round =>
                        clear hb2 hC2 hf2
                        obtain ⟨i6, C, hi6, rfl, rfl, hb, hC, hf⟩ := hrel
                        by_cases h32 : i6 < 32
                        · have htb := testBit_div 3988292384 i6
                          have hnx : 3988292384 / 2 ^ i6 / 2 = 3988292384 / 2 ^ (i6 + 1) := by rw [Nat.div_div_eq_div_mul, Nat.pow_succ]
                          have HNX := hid hnx; clear hnx
                          have hy32 : 3988292384 / 2 ^ i6 < 4294967296 := Nat.lt_of_le_of_lt (Nat.div_le_self _ _) (by decide)
                          generalize 3988292384 / 2 ^ i6 = y at *
                          obtain ⟨pb, hpb⟩ : ∃ pb, pb = (3988292384 : Nat).testBit i6 := ⟨_, rfl⟩
                          rw [← hpb] at htb
                          have HPB := hid hpb; clear hpb
                          have t1 : ((y : Int) % 2 == 1) = pb := by cases pb <;> simp at htb ⊢ <;> omega
                          have hcase : (out = true ∧ pb = true) ∨ (out = false) ∨ (out = true ∧ pb = false) := by cases out <;> cases pb <;> simp
                          have hkeep : (out && pb) = false → BitsC C (fun j => (g / 2).testBit j ^^ (decide (j < i6 + 1) && (out && (3988292384 : Nat).testBit j))) := fun hop => hC.cong fun j hj => by
                            by_cases e : j = i6
                            · subst e; rw [← HPB.out, hop]; simp
                            · have : decide (j < i6 + 1) = decide (j < i6) := by rw [decide_eq_decide]; omega
                              rw [this]
                          clear htb
                          rcases hcase with ⟨ho, hp⟩ | ho | ⟨ho, hp⟩
                          · have hcell := hb.cell (hC.get i6 (by omega))
                            have hfree := hb.free i6
                            have hb2 := hb.set i6 (.bool (!((g / 2).testBit i6 ^^ (decide (i6 < i6) && (out && (3988292384 : Nat).testBit i6)))))
                            have hC2 : BitsC (C.setIfInBounds i6 (.bool (!((g / 2).testBit i6 ^^ (decide (i6 < i6) && (out && (3988292384 : Nat).testBit i6)))))) (fun j => (g / 2).testBit j ^^ (decide (j < i6 + 1) && (out && (3988292384 : Nat).testBit j))) := hC.set (by omega) fun j hj => by
                              by_cases e : j = i6
                              · subst e; rw [if_pos rfl, ← HPB.out, ho, hp]; simp
                              · have : decide (j < i6 + 1) = decide (j < i6) := by rw [decide_eq_decide]; omega
                                rw [if_neg e, this]
                            have hf2 : Fr noB w (wr.setCell ⟨b, i6, none⟩ (.bool (!((g / 2).testBit i6 ^^ (decide (i6 < i6) && (out && (3988292384 : Nat).testBit i6)))))) := hf.setCell (p := ⟨b, i6, none⟩) (Or.inr hbw) _
                            generalize ((g / 2).testBit i6 ^^ (decide (i6 < i6) && (out && (3988292384 : Nat).testBit i6))) = old at *
                            have H2 := hid (And.intro hb2 (And.intro hC2 hf2))
                            have HO2 := HO
                            clear hb hC hb2 hC2 hf hf2 hkeep HO
                            subst ho
                            subst hp
                            go_wp2_with fail
                            go_roundw
                            case rel => exact ⟨i6 + 1, _, by omega, by go_num, by rw [← HNX.out]; go_num, H2.out.1, H2.out.2.1, H2.out.2.2⟩
                            case measure => simp [intOf]; omega
                          · have H2 := hid (And.intro hb (And.intro (hkeep (by rw [ho]; rfl)) hf))
                            clear hb hC hf hkeep HO
                            subst ho
                            go_wp2_with fail
                            go_roundw
                            case rel => exact ⟨i6 + 1, C, by omega, by go_num, by rw [← HNX.out]; go_num, H2.out.1, H2.out.2.1, H2.out.2.2⟩
                            case measure => simp [intOf]; omega
                          · have H2 := hid (And.intro hb (And.intro (hkeep (by rw [ho, hp]; rfl)) hf))
                            clear hb hC hf hkeep HO
                            subst ho
                            subst hp
                            go_wp2_with fail
                            go_roundw
                            case rel => exact ⟨i6 + 1, C, by omega, by go_num, by rw [← HNX.out]; go_num, H2.out.1, H2.out.2.1, H2.out.2.2⟩
                            case measure => simp [intOf]; omega
                        · have : i6 = 32 := by omega
                          subst this
                          have hC1 : BitsC C ((crcIter (q + 1) r1).testBit) := hC.cong fun j hj => by
                            rw [HQ.out, crcStep_bit, HO.out]; simp [hj]
                          have H2 := hid (And.intro hb (And.intro hC1 hf))
                          clear hb hC hC1 hf
                          go_wp2_with fail
                          go_roundw
                          case rel => exact ⟨q + 1, C, by omega, by go_num, H2.out.1, H2.out.2.1, H2.out.2.2⟩
                          case measure => simp [intOf]; omega
                · have : q = 8 := by omega
                  subst this
                  rw [HBY.out] at hC
                  have hlt2 : crcReg r0 (s.data.toList.take (k + 1)) < 4294967296 := crcReg_lt hr0 _
                  have H2 := hid (And.intro hb (And.intro hC (And.intro hf hlt2)))
                  clear hb hC hf hlt2
                  go_wp2_with fail
                  go_roundw
                  case rel => exact ⟨k + 1, _, C, by omega, by go_num, rfl, H2.out.2.2.2, H2.out.1, H2.out.2.1, H2.out.2.2.1⟩
                  case measure => simp [intOf]; omega
        · have : k = s.size := by omega
          subst this
          have HRS : Hid (not32 r = crcSum s.data.toList) := by
            unfold Hid crcSum crcMore
            rw [HR.out, List.take_of_length_le (by rw [HSZ.out]; exact Nat.le_refl _), HR0.out]; rfl
          have hN := not32_lt r
          have hbits : ∀ j, j < 32 → (not32 r).testBit j = !r.testBit j := fun j hj => not32_bit hlt hj
          have HBI := hid hbits; clear hbits
          generalize not32 r = N at *
          obtain ⟨wo, rfl⟩ : ∃ wo : World, wo = wr := ⟨_, rfl⟩
          go_wp2_with fail
          go_loop [12, 13] (fun v i => ∃ q : Nat, q ≤ 32 ∧ i = .int .i64 (31 - (q : Int)) ∧ v = .int .u32 (N / 2 ^ (32 - q) : Nat)) (fun _ i => (intOf i + 1).toNat)
          case atStart => exact ⟨0, by omega, by simp, by simp; omega⟩
          case round =>
            obtain ⟨q, hq, rfl, rfl⟩ := hrel
            by_cases hq32 : q < 32
            · obtain ⟨j, hj⟩ : ∃ j : Nat, 31 - q = j := ⟨_, rfl⟩
              have hij : 31 - (q : Int) = (j : Int) := by omega
              rw [hij]
              have hcell := hb.cell (hC.get j (by omega))
              have hst : N / 2 ^ (32 - (q + 1)) = 2 * (N / 2 ^ (32 - q)) + if N.testBit j then 1 else 0 := by
                rw [← testBit_div, show 32 - q = (32 - (q + 1)) + 1 by omega, Nat.pow_succ, ← Nat.div_div_eq_div_mul, show 32 - (q + 1) = j by omega]
                omega
              rw [HBI.out j (by omega)] at hst
              have hup : N / 2 ^ (32 - (q + 1)) < 4294967296 := Nat.lt_of_le_of_lt (Nat.div_le_self _ _) hN
              have HJ : Hid ((j : Int) - 1 = 31 - ((q + 1 : Nat) : Int)) := by unfold Hid; omega
              generalize N / 2 ^ (32 - q) = y at *
              cases hbit : r.testBit j with
              | true =>
                rw [hbit] at hst hcell
                have hst2 : N / 2 ^ (32 - (q + 1)) = 2 * y := by rw [hst]; simp
                have HST := hid hst2
                rw [hst2] at hup
                clear hst hst2 hbit
                go_wp2_with fail
                go_round
                case rel => exact ⟨q + 1, by omega, by rw [HJ.out], by rw [HST.out]; go_num⟩
                case measure => simp [intOf]
              | false =>
                rw [hbit] at hst hcell
                have hst2 : N / 2 ^ (32 - (q + 1)) = 2 * y + 1 := by rw [hst]; simp
                have HST := hid hst2
                rw [hst2] at hup
                clear hst hst2 hbit
                go_wp2_with fail
                go_round
                case rel => exact ⟨q + 1, by omega, by rw [HJ.out], by rw [HST.out]; go_num⟩
                case measure => simp [intOf]
            · have : q = 32 := by omega
              subst this
              go_wp2_with fail
              go_ret
              rw [← HRS.out]
              exact ⟨by simp, hf⟩
end Go.Proofs.Ytnkdlmmdaagonaa
