/- What the row leans on, part 3: contracts and plain laws. -/
import Derived.Test.YtdngcheimohamaaDoorProg
import Derived.WalkKit
import Derived.Maps.AppendAt
import Derived.Lib.AppendStr
import Derived.Laws.AppendOwnNone
import Derived.Deep.Draws
import Derived.WalkSpells
import Derived.Laws.IdiomStrings
import Derived.Lib.ConvBytes
import Derived.Lib.LaidTab
import Derived.LaidSub
import Derived.Deep.QuietTactic
import Derived.BigQuiet
import Derived.Lib.OthersKept
import Derived.Laws.RangeAny
import Derived.LaidEqlPtr
import Derived.Laws.StructEq
import Derived.Deep.MidRow
import Derived.Deep.Cut
import Derived.Maps.OwnOps
import Derived.Maps.Views
import Derived.WalkLawsBesides
import Derived.SliceStrings
import Derived.Deep.Slices
import Derived.Deep.Light
import Derived.Laws.Bits64b
import Derived.Laws.ResultCell
import Derived.Deep.RegionHeld3
import Derived.ProofKit
import Derived.Test.YtdngcheimohamaaDoorLawClientTurnsB2
/- interrexlaw31.ClientTurns: the walk. -/
namespace Go.Proofs.YtdngcheimohamaaDoor
open Go.RowKit

/-- The client behind k retries. -/
def cliK (j m s k : Nat) (o : OpV) : ClV := ⟨j, m, 1, o, true, (s + k) % m, 0⟩
theorem nextK {j m s k : Nat} {o : OpV} (hm : m = 3 ∨ m = 5 ∨ m = 7) : nextN (cliK j m s k o) = (s + (k + 1)) % m := by
  show (((s + k) % m + 1) % 256) % m = _
  have : (s + k) % m < m := Nat.mod_lt _ (by omega)
  rw [Nat.mod_eq_of_lt (show (s + k) % m + 1 < 256 by omega), Nat.mod_add_mod, Nat.add_assoc]
theorem turnK {j m s k : Nat} {o : OpV} (hm : m = 3 ∨ m = 5 ∨ m = 7) : (cliK j m s k o).turn = cliK j m s (k + 1) o := by
  show ({ cliK j m s k o with node := nextN (cliK j m s k o) } : ClV) = _
  rw [nextK hm]; rfl
/-- Which nodes were asked. -/
def seenK (m s k : Nat) (x : Nat) : Bool := (List.range (k + 1)).any fun j => x == (s + j) % m
theorem seenK_zero {m s : Nat} (hs : s < m) : seenK m s 0 = fun x => if x = s then true else false := by
  funext x
  have : (s + 0) % m = s := by rw [Nat.add_zero]; exact Nat.mod_eq_of_lt hs
  by_cases h : x = s <;> simp [seenK, h, Nat.mod_eq_of_lt hs]
theorem seenK_succ {m s k : Nat} : (fun x => if x = (s + (k + 1)) % m then true else seenK m s k x) = seenK m s (k + 1) := by
  funext x
  unfold seenK
  rw [List.range_succ (n := k + 1), List.any_append]
  by_cases h : x = (s + (k + 1)) % m <;> simp [h]
theorem seenK_next {m s k : Nat} (hm : m = 3 ∨ m = 5 ∨ m = 7) (hs : s < m) (hk : k < m) : seenK m s k ((s + (k + 1)) % m) = decide (k + 1 = m) := by
  have key : ∀ j, j ≤ k → ((s + (k + 1)) % m = (s + j) % m ↔ k + 1 = m ∧ j = 0) := by
    intro j hj
    rcases hm with rfl | rfl | rfl <;> omega
  unfold seenK
  rw [Bool.eq_iff_iff, List.any_eq_true, decide_eq_true_eq]
  constructor
  · rintro ⟨j, hj, he⟩
    exact ((key j (by have := List.mem_range.1 hj; omega)).1 (by simpa using he)).1
  · intro h
    exact ⟨0, List.mem_range.2 (by omega), by simpa using (key 0 (by omega)).2 ⟨h, rfl⟩⟩
theorem opNeqS (w : World) (o : OpV) : (binOp .neq 24 (.agg #[.int .u8 o.k, .string o.a, .string o.b, .int .u8 o.n, .int .u8 o.r]) (.agg #[.int .u8 o.k, .string o.a, .string o.b, .int .u8 o.n, .int .u8 o.r])).run Tryd.prog w = .ok (.bool false) w := by
  have := opNeq w o o
  simpa using this

set_option maxRecDepth 100000 in
set_option maxHeartbeats 1600000 in
theorem turns_walk (w : World) (i nn : Nat) (o : OpV) (ht : SignsAt w) (hi : i < 256) (hnn : nn < 256) (ho : o.wf) (ha1 : o.a.size ≤ maxLen) (hb1 : o.b.size ≤ maxLen) :
    Calls Tryd.prog 3 #[.int .u8 i, .int .u8 nn, o.v] w (BoolPost w true) := by
  unfold maxLen at ha1 hb1
  obtain ⟨b1, h1⟩ : ∃ b, decide ((200 : Int) < o.a.size) = b := ⟨_, rfl⟩
  obtain ⟨b2, h2⟩ : ∃ b, decide ((200 : Int) < o.b.size) = b := ⟨_, rfl⟩
  have hlv := lives31_calls
  by_cases hb : b1 = true ∨ b2 = true
  · have hcase : b1 = true ∨ (b1 = false ∧ b2 = true) := by cases b1 <;> simp_all
    clear hb
    have hb0 : BlkAt (w.alloc (.cells #[.int .u8 o.k, .string o.a, .string o.b, .int .u8 o.n, .int .u8 o.r] 24)) w.heap.size 24 #[.int .u8 o.k, .string o.a, .string o.b, .int .u8 o.n, .int .u8 o.r] := BlkAt.new _ _ _
    have f0 : Fr noB w (w.alloc (.cells #[.int .u8 o.k, .string o.a, .string o.b, .int .u8 o.n, .int .u8 o.r] 24)) := (Fr.refl noB w).alloc _
    have ht0 : SignsAt (w.alloc (.cells #[.int .u8 o.k, .string o.a, .string o.b, .int .u8 o.n, .int .u8 o.r] 24)) := TabS.fr ht f0 id
    unfold OpV.v
    obtain ⟨k, a, b, n, r⟩ := o
    simp only [] at *
    rcases hcase with rfl | ⟨rfl, rfl⟩
    all_goals
      go_enter Tryd.func3, Tryd.ntmps3
      go_upto_region 1 with fail
      generalize (w.alloc (.cells #[.int .u8 k, .string a, .string b, .int .u8 n, .int .u8 r] 24)) = wa at *
      generalize w.heap.size = q at *
      go_wp2_with fail
      refine (hlv wa ht0).mono ?_
      rintro e w1 ⟨rfl, f1⟩
      obtain ⟨x0, x1, x2, x3, x4, xf⟩ := BlkAt.c5 (hb0.fr f1 id)
      go_wp2_with fail
      refine (hlv w1 (TabS.fr ht0 f1 id)).mono ?_
      rintro e w2 ⟨rfl, f2⟩
      go_wp2_with fail
      go_ret
      exact ⟨rfl, (f0.then' f1).then' f2⟩
  · obtain rfl : b1 = false := by cases b1 <;> simp_all
    obtain rfl : b2 = false := by cases b2 <;> simp_all
    clear hb
    obtain ⟨m, HM⟩ : ∃ m, Hid (m = 3 + 2 * (nn % 3)) := ⟨_, rfl⟩
    have hm3 : m = 3 ∨ m = 5 ∨ m = 7 := by have := HM.out; omega
    have hm7 : m ≤ 7 := by have := HM.out; omega
    have hm0 : 3 ≤ m := by omega
    have hmi1 : IntKind.i64.wrap (2 * ((nn : Int) % 3)) = 2 * ((nn : Int) % 3) := by rw [IntKind.wrap_i64]; omega
    have hmi : IntKind.i64.wrap (3 + 2 * ((nn : Int) % 3)) = (m : Int) := by rw [IntKind.wrap_i64]; have := HM.out; omega
    obtain ⟨j, HJ⟩ : ∃ j, Hid (j = i % 8) := ⟨_, rfl⟩
    have hj8 : j < 8 := by have := HJ.out; omega
    have hji : (i : Int) % 8 = (j : Int) := by have := HJ.out; omega
    have hen : enoughV (m : Int) ≠ 0 := by rcases hm3 with rfl | rfl | rfl <;> decide
    obtain ⟨s, HS⟩ : ∃ s, Hid (s = j % m) := ⟨_, rfl⟩
    have hsm : s < m := by rw [HS.out]; exact Nat.mod_lt _ (by omega)
    have hnew := fun W => newC_calls W j m hj8 hen (by omega) (by omega)
    rw [← HS.out] at hnew
    clear hen
    have ha2 : o.a.size ≤ 200 := by have := of_decide_eq_false h1; omega
    have hb2' : o.b.size ≤ 200 := by have := of_decide_eq_false h2; omega
    have hck := fun W h => check_calls W o h ho (by omega) (by omega)
    have hb0 : BlkAt (w.alloc (.cells #[.int .u8 o.k, .string o.a, .string o.b, .int .u8 o.n, .int .u8 o.r] 24)) w.heap.size 24 #[.int .u8 o.k, .string o.a, .string o.b, .int .u8 o.n, .int .u8 o.r] := BlkAt.new _ _ _
    have f0 : Fr noB w (w.alloc (.cells #[.int .u8 o.k, .string o.a, .string o.b, .int .u8 o.n, .int .u8 o.r] 24)) := (Fr.refl noB w).alloc _
    have ht0 : SignsAt (w.alloc (.cells #[.int .u8 o.k, .string o.a, .string o.b, .int .u8 o.n, .int .u8 o.r] 24)) := TabS.fr ht f0 id
    have hs0 := al_size w (.cells #[.int .u8 o.k, .string o.a, .string o.b, .int .u8 o.n, .int .u8 o.r] 24)
    by_cases hev : checkV o = 0
    · have hca := fun W p hT h => callYes_calls W p ⟨j, m, 0, noOp, false, s, 0⟩ o hT ho (by omega) (by omega) h rfl hev (by show 0 < 1099511627776; decide)
      have hag : ∀ W p k, ClAt W p (cliK j m s k o) → Calls Tryd.prog 11 #[.pointer (some ⟨p, 0, none⟩)] W (fun e w' => e = .returned (.tuple #[.agg (msgC j ((s + (k + 1)) % m) 1 o), .bool true]) ∧ ClAt w' p (cliK j m s (k + 1) o) ∧ Fr (eqB p) W w') := fun W p k h => by
        have := againYes_calls W p _ h rfl (by show 0 < m; omega) (by show m < 256; omega)
        rw [nextK hm3, turnK hm3] at this
        exact this
      have hC0 : ∀ W p, ClAt W p (callC ⟨j, m, 0, noOp, false, s, 0⟩ o) → ClAt W p (cliK j m s 0 o) := fun W p h => by
        have e : cliK j m s 0 o = callC ⟨j, m, 0, noOp, false, s, 0⟩ o := by unfold cliK callC; rw [Nat.add_zero, Nat.mod_eq_of_lt hsm]
        rw [e]; exact h
      have hnq := fun W => opNeqS W o
      have hnd := fun W p k (h : ClAt W p (cliK j m s k o)) => node_calls W p (cliK j m s k o) h
      have HSK := hid (seenK_zero hsm)
      have HSN := hid (fun k (hk : k < m) => seenK_next (s := s) hm3 hsm hk)
      have hmm := @run_makeMap Tryd.prog
      unfold OpV.v at *
      clear hev hck ha1 hb1 ho ha2 hb2'
      go_enter Tryd.func3, Tryd.ntmps3
      go_upto_region 1 with fail
      generalize (w.alloc (.cells #[.int .u8 o.k, .string o.a, .string o.b, .int .u8 o.n, .int .u8 o.r] 24)) = wa at *
      obtain ⟨q, hq⟩ : ∃ q, w.heap.size = q := ⟨_, rfl⟩
      rw [hq] at hb0 hs0 ⊢
      go_wp2_with fail
      refine (hlv wa ht0).mono ?_
      rintro e w1 ⟨rfl, f1⟩
      have hb1 := hb0.fr f1 id
      have ht1 : SignsAt w1 := TabS.fr ht0 f1 id
      obtain ⟨x0, x1, x2, x3, x4, xf⟩ := BlkAt.c5 hb1
      have hs1 := f1.size
      have F1 := f0.then' f1
      clear hb0 ht0 f0 f1
      go_wp2_with fail
      refine (hnew w1).mono ?_
      rintro e w2 ⟨p, hp, rfl, hc2, f2⟩
      have hb2 := hb1.fr f2 id
      have ht2 : SignsAt w2 := TabS.fr ht1 f2 id
      have F2 := F1.then' f2
      have hltc := BlkAt.lt hc2
      clear x0 x1 x2 x3 x4 xf hb1 ht1 f2 F1
      obtain ⟨x0, x1, x2, x3, x4, xf⟩ := BlkAt.c5 hb2
      go_wp2_with fail
      refine (hca w2 p ht2 hc2).mono ?_
      rintro e w3 ⟨rfl, hc3, f3⟩
      replace hc3 := hC0 _ _ hc3
      have hb3 := hb2.fr f3 (by unfold eqB; omega)
      have F3 : Fr noB w w3 := F2.trans f3 (fun i hi h => by unfold eqB at h; omega)
      have hs3 := f3.size
      clear x0 x1 x2 x3 x4 xf hb2 hc2 hca f3 F2 hC0 ht2
      have hz : BlkAt (w3.alloc (.cells #[.int .u8 0, .int .u8 0, .int .u8 0, .int .u64 0, .int .u64 0, .int .u64 0, .int .u64 0, .int .u64 0, .int .u64 0, .int .u8 0, .string { data := #[] }, .string { data := #[] }, .int .u8 0, .int .u8 0, .int .i64 0, .slice none 0 0, .int .u8 0, .slice none 0 0, .slice none 0 0] 36)) w3.heap.size 36 #[.int .u8 0, .int .u8 0, .int .u8 0, .int .u64 0, .int .u64 0, .int .u64 0, .int .u64 0, .int .u64 0, .int .u64 0, .int .u8 0, .string { data := #[] }, .string { data := #[] }, .int .u8 0, .int .u8 0, .int .i64 0, .slice none 0 0, .int .u8 0, .slice none 0 0, .slice none 0 0] := BlkAt.new _ _ _
      have f4 : Fr noB w3 (w3.alloc (.cells #[.int .u8 0, .int .u8 0, .int .u8 0, .int .u64 0, .int .u64 0, .int .u64 0, .int .u64 0, .int .u64 0, .int .u64 0, .int .u8 0, .string { data := #[] }, .string { data := #[] }, .int .u8 0, .int .u8 0, .int .i64 0, .slice none 0 0, .int .u8 0, .slice none 0 0, .slice none 0 0] 36)) := (Fr.refl noB w3).alloc _
      go_upto_region 11 with (refine wpList_store_msg rfl rfl hz rfl rfl ?_; intro w5 f5 hm5; obtain ⟨x0, x1, x2, x3, x4, xf⟩ := BlkAt.c5 ((hb3.fr f4 id).fr f5 (by unfold eqB; omega)))
      have hb5 := (hb3.fr f4 id).fr f5 (by unfold eqB; omega)
      have hc5 := BlkAt.fr (BlkAt.fr hc3 f4 id) f5 (by unfold eqB; omega)
      have F5 : Fr noB w w5 := (F3.then' f4).trans f5 (fun i hi h => by unfold eqB at h; have := F3.size; omega)
      have hq3 : w.heap.size ≤ w3.heap.size := F3.size
      rw [hq] at hq3
      have hlt5 := hm5.lt
      clear x0 x1 x2 x3 x4 xf hb3 hc3 hz f4 f5 F3
      generalize w3.heap.size = qm at *
      have hmp := MapB.new w5
      have f6 : Fr noB w5 (w5.alloc (.map #[] 0)) := (Fr.refl noB w5).alloc _
      have hs6 := al_size w5 (.map #[] 0)
      have hb6 := hb5.fr f6 id
      have hc6 := BlkAt.fr hc5 f6 id
      have hm6 := hm5.fr f6 id
      have F6 := F5.then' f6
      obtain ⟨y1, y2, y7, y9, y10, y11, y12, y13⟩ := msg_cells hm6
      have hltp := BlkAt.lt hc5
      clear hb5 hc5 hm5 f6 F5
      obtain ⟨w7, hins, hmp7, f7⟩ := hmp.put (by unfold maxLen; omega) (show s < 256 by omega) true
      rw [← HSK.out] at hmp7
      have hb7 := hb6.fr f7 (by unfold eqB; omega)
      have hc7 := BlkAt.fr hc6 f7 (by unfold eqB; omega)
      have hm7' := hm6.fr f7 (by unfold eqB; omega)
      have F7 : Fr noB w w7 := F6.trans f7 (fun i hi h => by unfold eqB at h; omega)
      clear hb6 hc6 hm6 hmp f7 F6
      go_upto_region 12 with fail
      obtain ⟨mb, hmb⟩ : ∃ mb, w5.heap.size = mb := ⟨_, rfl⟩
      rw [hmb] at hmp7 hltp hlt5 ⊢
      have hq7 : mb < w7.heap.size := hmp7.lt
      clear hins y1 y2 y7 y9 y10 y11 y12 y13 hs6 hmb
      go_wp2_with fail
      go_loopw [74] (fun iv wr => ∃ k : Nat, k ≤ m ∧ iv = .int .i64 k ∧ BlkAt wr q 24 #[.int .u8 o.k, .string o.a, .string o.b, .int .u8 o.n, .int .u8 o.r] ∧ ClAt wr p (cliK j m s k o) ∧ BlkAt wr qm 36 (msgC j s 1 o) ∧ MapB wr mb (k + 1) (seenK m s k) ∧ Fr noB w wr ∧ mb < wr.heap.size) (fun iv _ => m - (intOf iv).toNat)
      case atStart => exact ⟨0, Nat.zero_le _, rfl, hb7, hc7, hm7', hmp7, F7, hq7⟩
      case round =>
        clear hb7 hc7 hm7' hmp7 F7 hq7
        obtain ⟨k, hk, rfl, hb, hc, hm, hmp, hf, hzz⟩ := hrel
        by_cases hkm : k < m
        · have hst : (s + (k + 1)) % m < m := Nat.mod_lt _ (by omega)
          have hag' := hag wr p k hc
          have hsn := HSN.out k hkm
          have HSS := hid (seenK_succ (m := m) (s := s) (k := k))
          generalize (s + (k + 1)) % m = t at *
          go_wp2_with fail
          refine hag'.mono ?_
          rintro e w8 ⟨rfl, hc8, f8⟩
          have hb8 := hb.fr f8 (by unfold eqB; omega)
          have hm8 := hm.fr f8 (by unfold eqB; omega)
          have hmp8 := hmp.fr f8 (by unfold eqB; omega)
          have F8 : Fr noB w w8 := hf.trans f8 (fun i hi h => by unfold eqB at h; omega)
          have hs8 := f8.size
          clear hag' hb hc hm hmp hf f8
          have hz8 : BlkAt (w8.alloc (.cells #[.int .u8 0, .int .u8 0, .int .u8 0, .int .u64 0, .int .u64 0, .int .u64 0, .int .u64 0, .int .u64 0, .int .u64 0, .int .u8 0, .string { data := #[] }, .string { data := #[] }, .int .u8 0, .int .u8 0, .int .i64 0, .slice none 0 0, .int .u8 0, .slice none 0 0, .slice none 0 0] 36)) w8.heap.size 36 #[.int .u8 0, .int .u8 0, .int .u8 0, .int .u64 0, .int .u64 0, .int .u64 0, .int .u64 0, .int .u64 0, .int .u64 0, .int .u8 0, .string { data := #[] }, .string { data := #[] }, .int .u8 0, .int .u8 0, .int .i64 0, .slice none 0 0, .int .u8 0, .slice none 0 0, .slice none 0 0] := BlkAt.new _ _ _
          have f9 : Fr noB w8 (w8.alloc (.cells #[.int .u8 0, .int .u8 0, .int .u8 0, .int .u64 0, .int .u64 0, .int .u64 0, .int .u64 0, .int .u64 0, .int .u64 0, .int .u8 0, .string { data := #[] }, .string { data := #[] }, .int .u8 0, .int .u8 0, .int .i64 0, .slice none 0 0, .int .u8 0, .slice none 0 0, .slice none 0 0] 36)) := (Fr.refl noB w8).alloc _
          go_upto_region 16 with (refine wpList_store_msg rfl rfl hz8 rfl rfl ?_; intro w10 f10 hm10)
          have hb10 := (hb8.fr f9 id).fr f10 (by unfold eqB; omega)
          have hc10 := BlkAt.fr (BlkAt.fr hc8 f9 id) f10 (by unfold eqB; omega)
          have hmq10 := (hm8.fr f9 id).fr f10 (by unfold eqB; omega)
          have hmp10 := (hmp8.fr f9 id).fr f10 (by unfold eqB; omega)
          have F10 : Fr noB w w10 := (F8.then' f9).trans f10 (fun i hi h => by unfold eqB at h; have := F8.size; omega)
          have hs10 := f10.size
          rw [al_size] at hs10
          generalize w8.heap.size = q8 at *
          clear hb8 hc8 hm8 hmp8 hz8 f9 f10 F8
          obtain ⟨y1, y2, y7, y9, y10, y11, y12, y13⟩ := msg_cells hm10
          obtain ⟨z1, z2, z7, z9, z10, z11, z12, z13⟩ := msg_cells hmq10
          obtain ⟨x0, x1, x2, x3, x4, xf⟩ := BlkAt.c5 hb10
          have hlk := hmp10.look (i := t) (by omega)
          obtain ⟨w11, hup, hmp11, f11⟩ := hmp10.put (by unfold maxLen; omega) (show t < 256 by omega) true
          rw [HSS.out] at hmp11
          rw [hsn] at hlk
          have hb11 := hb10.fr f11 (by unfold eqB; omega)
          have hc11 := BlkAt.fr hc10 f11 (by unfold eqB; omega)
          have hm11 := hmq10.fr f11 (by unfold eqB; omega)
          have F11 : Fr noB w w11 := F10.trans f11 (fun i hi h => by unfold eqB at h; have := F10.size; omega)
          have hs11 := f11.size
          obtain ⟨m1, hm1⟩ : ∃ m1 : Nat, m = m1 + 1 := ⟨m - 1, by omega⟩
          have hw1 : IntKind.i64.wrap ((m : Int) - 1) = (m1 : Int) := by rw [IntKind.wrap_i64]; omega
          have hdc : decide (k + 1 = m) = decide (k = m1) := decide_eq_decide.2 (by omega)
          rw [hdc] at hlk
          have hge : decide ((m : Int) ≤ t) = false := decide_eq_false (by omega)
          have hge2 : decide (m ≤ t) = false := decide_eq_false (by omega)
          obtain ⟨b, hb'⟩ : ∃ b, decide (k = m1) = b := ⟨_, rfl⟩
          have hb2 : ((k : Int) == (m1 : Int)) = b := by rw [← hb', Bool.eq_iff_iff]; simp; omega
          have hb3 : (k == m1) = b := by rw [← hb', Bool.eq_iff_iff]; simp
          rw [hb'] at hlk
          have HM1 := hid hm1
          clear hdc hb10 hc10 hm10 hmq10 hmp10 F10 f11 hb' hm1 hsn
          go_wp2_with fail
          go_roundw
          case rel => exact ⟨k + 1, by omega, by go_num, hb11, hc11, hm11, hmp11, F11, by omega⟩
          case measure => simp [intOf]; omega
        · obtain rfl : k = m := by omega
          have hnd' : ∀ W, ClAt W p (cliK j k s k o) → Calls Tryd.prog 14 #[.pointer (some ⟨p, 0, none⟩)] W (fun e w' => e = .returned (.int .u8 s) ∧ W = w') := fun W h => by
            have := hnd W p k h
            have e : (cliK j k s k o).node = s := by show (s + k) % k = s; rw [Nat.add_mod_right, Nat.mod_eq_of_lt hsm]
            rw [e] at this
            exact this
          clear hnd hag hb hmp
          go_wp2_with fail
          apply wp_region_calm (R := Fr noB) (C := fun q' W => Fr noB wr W) [false, false, false, false, false, false]
            [eqv _, eqv _, eqv _, eqv _, eqv _, eqv _]
            (by kernel_rfl) (by kernel_rfl) (fun _ _ _ h1 h2 => h1.then' h2) ((Fr.refl _ _).drew) ((Fr.refl _ _).drew) (by kernel_rfl)
          · refine ⟨?_, ?_, ?_, ?_, ?_, ?_, trivial⟩
            · rw [if_neg (by decide)]; intro kq
              exact calm_mv 8 rfl rfl (Or.inl rfl) (Fr.refl _) (by decide) fun v w hd => hd
            · rw [if_neg (by decide)]; intro kq
              intro a W K hC hd hK
              have d119 : _ = _ := hd 119 (by decide)
              refine wpOp_plain rfl rfl ?_
              obtain ⟨z1, z2, z7, z9, z10, z11, z12, z13⟩ := msg_cells (hm.fr hC id)
              go_wp2_with fail
              refine (hnd' W (BlkAt.fr hc hC id)).mono ?_
              rintro e9 w9 ⟨rfl, rfl⟩
              exact hK _ _ (Fr.refl _ _) hC rfl
            · rw [if_neg (by decide)]; intro kq
              intro a W K hC hd hK
              have d9 : a.tmps[9]?.getD undef = .pointer (some ⟨qm, 0, none⟩) := hd 9 (by decide)
              refine wpOp_plain rfl rfl ?_
              obtain ⟨z1, z2, z7, z9, z10, z11, z12, z13⟩ := msg_cells (hm.fr hC id)
              go_wp2_with fail
              exact hK _ _ (Fr.refl _ _) hC rfl
            · rw [if_neg (by decide)]; intro kq
              intro a W K hC hd hK
              have d121 : _ = _ := hd 121 (by decide)
              refine wpOp_plain rfl rfl ?_
              obtain ⟨z1, z2, z7, z9, z10, z11, z12, z13⟩ := msg_cells (hm.fr hC id)
              go_wp2_with fail
              exact hK _ _ (Fr.refl _ _) hC rfl
            · rw [if_neg (by decide)]; intro kq
              intro a W K hC hd hK
              have d120 : _ = _ := hd 120 (by decide)
              have d122 : _ = _ := hd 122 (by decide)
              refine wpOp_plain rfl rfl ?_
              go_wp2_with fail
              exact hK _ _ (Fr.refl _ _) hC rfl
            · rw [if_neg (by decide)]; intro kq
              exact calm_mv 123 rfl rfl (Or.inr rfl) (Fr.refl _) (by decide) fun v w hd => hd
          · intro vs w19 fw19 cw19 hV
            have v119 : vs 0 = _ := hV 0 _ _ rfl rfl (by decide)
            have v120 : vs 1 = _ := hV 1 _ _ rfl rfl (by decide)
            have v121 : vs 2 = _ := hV 2 _ _ rfl rfl (by decide)
            have v122 : vs 3 = _ := hV 3 _ _ rfl rfl (by decide)
            have v123 : vs 4 = _ := hV 4 _ _ rfl rfl (by decide)
            have v6 : vs 5 = _ := hV 5 _ _ rfl rfl (by decide)
            clear hV
            simp only [putL, Act.put, Nat.reduceAdd, List.setIfInBounds_toArray, List.set_cons_zero, List.set_cons_succ, v119, v120, v121, v122, v123, v6]
            have F19 := hf.then' fw19
            go_wp2_with fail
            go_ret
            exact ⟨rfl, F19⟩
    · have he0 : callE ⟨j, m, 0, noOp, false, s, 0⟩ o = checkV o := by unfold callE; simp [hev]
      have hca := fun W p hT h => callNo_calls W p ⟨j, m, 0, noOp, false, s, 0⟩ o hT ho (by omega) (by omega) h (by rw [he0]; exact hev)
      rw [he0] at hca
      have hag := fun W p h => againNo_calls W p ⟨j, m, 0, noOp, false, s, 0⟩ h rfl
      have hnu := fun W p h => number_calls W p ⟨j, m, 0, noOp, false, s, 0⟩ h
      obtain ⟨ev, hev'⟩ : ∃ ev, checkV o = ev := ⟨_, rfl⟩
      rw [hev'] at hca hev hck
      have hte : ((ev : Int) != 0) = true := by simpa using hev
      unfold OpV.v at *
      clear hev he0 hev' ha1 hb1 ho ha2 hb2'
      go_enter Tryd.func3, Tryd.ntmps3
      go_upto_region 1 with fail
      generalize (w.alloc (.cells #[.int .u8 o.k, .string o.a, .string o.b, .int .u8 o.n, .int .u8 o.r] 24)) = wa at *
      obtain ⟨q, hq⟩ : ∃ q, w.heap.size = q := ⟨_, rfl⟩
      rw [hq] at hb0 hs0 ⊢
      go_wp2_with fail
      refine (hlv wa ht0).mono ?_
      rintro e w1 ⟨rfl, f1⟩
      have hb1 := hb0.fr f1 id
      have ht1 : SignsAt w1 := TabS.fr ht0 f1 id
      obtain ⟨x0, x1, x2, x3, x4, xf⟩ := BlkAt.c5 hb1
      have hs1 := f1.size
      have F1 := f0.then' f1
      clear hb0 ht0 f0 f1
      go_wp2_with fail
      refine (hnew w1).mono ?_
      rintro e w2 ⟨p, hp, rfl, hc2, f2⟩
      have hb2 := hb1.fr f2 id
      have ht2 : SignsAt w2 := TabS.fr ht1 f2 id
      have F2 := F1.then' f2
      have hltc := BlkAt.lt hc2
      clear x0 x1 x2 x3 x4 xf hb1 ht1 f2 F1
      obtain ⟨x0, x1, x2, x3, x4, xf⟩ := BlkAt.c5 hb2
      go_wp2_with fail
      refine (hca w2 p ht2 hc2).mono ?_
      rintro e w3 ⟨rfl, f3⟩
      have hc3 := BlkAt.fr hc2 f3 id
      have hb3 := hb2.fr f3 id
      have ht3 : SignsAt w3 := TabS.fr ht2 f3 id
      have F3 := F2.then' f3
      have hs3 := f3.size
      clear x0 x1 x2 x3 x4 xf hb2 hc2 hca f3 F2 ht2
      have hz : BlkAt (w3.alloc (.cells #[.int .u8 0, .int .u8 0, .int .u8 0, .int .u64 0, .int .u64 0, .int .u64 0, .int .u64 0, .int .u64 0, .int .u64 0, .int .u8 0, .string { data := #[] }, .string { data := #[] }, .int .u8 0, .int .u8 0, .int .i64 0, .slice none 0 0, .int .u8 0, .slice none 0 0, .slice none 0 0] 36)) w3.heap.size 36 #[.int .u8 0, .int .u8 0, .int .u8 0, .int .u64 0, .int .u64 0, .int .u64 0, .int .u64 0, .int .u64 0, .int .u64 0, .int .u8 0, .string { data := #[] }, .string { data := #[] }, .int .u8 0, .int .u8 0, .int .i64 0, .slice none 0 0, .int .u8 0, .slice none 0 0, .slice none 0 0] := BlkAt.new _ _ _
      have f4 : Fr noB w3 (w3.alloc (.cells #[.int .u8 0, .int .u8 0, .int .u8 0, .int .u64 0, .int .u64 0, .int .u64 0, .int .u64 0, .int .u64 0, .int .u64 0, .int .u8 0, .string { data := #[] }, .string { data := #[] }, .int .u8 0, .int .u8 0, .int .i64 0, .slice none 0 0, .int .u8 0, .slice none 0 0, .slice none 0 0] 36)) := (Fr.refl noB w3).alloc _
      go_wp2_with (refine wpList_store_msg rfl rfl hz rfl rfl ?_; intro w5 f5 hm5)
      have hb5 := (hb3.fr f4 id).fr f5 (by unfold eqB; omega)
      have hc5 := BlkAt.fr (BlkAt.fr hc3 f4 id) f5 (by unfold eqB; omega)
      have F5 : Fr noB w w5 := (F3.then' f4).trans f5 (fun i hi h => by unfold eqB at h; have := F3.size; omega)
      have ht5 : SignsAt w5 := TabS.fr ht F5 id
      have hs5 := f5.size
      rw [al_size] at hs5
      clear hb3 hc3 hz f4 f5 F3 ht3 hm5
      generalize w3.heap.size = q3 at *
      refine (hag w5 p hc5).mono ?_
      rintro e w6 ⟨rfl, f6⟩
      have hb6 := hb5.fr f6 id
      have hc6 := BlkAt.fr hc5 f6 id
      have ht6 : SignsAt w6 := TabS.fr ht5 f6 id
      have F6 := F5.then' f6
      have hs6 := f6.size
      clear hb5 hc5 f6 F5 ht5
      have hz : BlkAt (w6.alloc (.cells #[.int .u8 0, .int .u8 0, .int .u8 0, .int .u64 0, .int .u64 0, .int .u64 0, .int .u64 0, .int .u64 0, .int .u64 0, .int .u8 0, .string { data := #[] }, .string { data := #[] }, .int .u8 0, .int .u8 0, .int .i64 0, .slice none 0 0, .int .u8 0, .slice none 0 0, .slice none 0 0] 36)) w6.heap.size 36 #[.int .u8 0, .int .u8 0, .int .u8 0, .int .u64 0, .int .u64 0, .int .u64 0, .int .u64 0, .int .u64 0, .int .u64 0, .int .u8 0, .string { data := #[] }, .string { data := #[] }, .int .u8 0, .int .u8 0, .int .i64 0, .slice none 0 0, .int .u8 0, .slice none 0 0, .slice none 0 0] := BlkAt.new _ _ _
      have f7 : Fr noB w6 (w6.alloc (.cells #[.int .u8 0, .int .u8 0, .int .u8 0, .int .u64 0, .int .u64 0, .int .u64 0, .int .u64 0, .int .u64 0, .int .u64 0, .int .u8 0, .string { data := #[] }, .string { data := #[] }, .int .u8 0, .int .u8 0, .int .i64 0, .slice none 0 0, .int .u8 0, .slice none 0 0, .slice none 0 0] 36)) := (Fr.refl noB w6).alloc _
      go_upto_region 10 with (refine wpList_store_msg rfl rfl hz rfl rfl ?_; intro w8 f8 hm8)
      have hb8 := (hb6.fr f7 id).fr f8 (by unfold eqB; omega)
      have hc8 := BlkAt.fr (BlkAt.fr hc6 f7 id) f8 (by unfold eqB; omega)
      have F8 : Fr noB w w8 := (F6.then' f7).trans f8 (fun i hi h => by unfold eqB at h; have := F6.size; omega)
      have ht8 : SignsAt w8 := TabS.fr ht F8 id
      obtain ⟨x0, x1, x2, x3, x4, xf⟩ := BlkAt.c5 hb8
      clear hb6 hc6 hz f7 f8 F6 ht6 hm8
      go_wp2_with fail
      refine (hck w8 ht8).mono ?_
      rintro e w9 ⟨rfl, f9⟩
      have hc9 := BlkAt.fr hc8 f9 id
      have F9 := F8.then' f9
      go_wp2_with fail
      refine (hnu w9 p hc9).mono ?_
      rintro e w10 ⟨rfl, rfl⟩
      go_wp2_with fail
      go_ret
      exact ⟨rfl, F9⟩
end Go.Proofs.YtdngcheimohamaaDoor
/- Arguments that are read as data, as rows in memory. -/
namespace Go.Proofs.YtdngcheimohamaaDoor
open Go.RowKit Go.ChangeShapes Go.WideShapes

theorem list1 {α : Type} {l : List α} (h : l.length = 1) : ∃ a0, l = [a0] :=
  match l, h with | [a0], _ => ⟨a0, rfl⟩
theorem list2 {α : Type} {l : List α} (h : l.length = 2) : ∃ a0 a1, l = [a0, a1] :=
  match l, h with | [a0, a1], _ => ⟨a0, a1, rfl⟩
theorem list3 {α : Type} {l : List α} (h : l.length = 3) : ∃ a0 a1 a2, l = [a0, a1, a2] :=
  match l, h with | [a0, a1, a2], _ => ⟨a0, a1, a2, rfl⟩
theorem list4 {α : Type} {l : List α} (h : l.length = 4) : ∃ a0 a1 a2 a3, l = [a0, a1, a2, a3] :=
  match l, h with | [a0, a1, a2, a3], _ => ⟨a0, a1, a2, a3, rfl⟩
theorem list5 {α : Type} {l : List α} (h : l.length = 5) : ∃ a0 a1 a2 a3 a4, l = [a0, a1, a2, a3, a4] :=
  match l, h with | [a0, a1, a2, a3, a4], _ => ⟨a0, a1, a2, a3, a4, rfl⟩
theorem list6 {α : Type} {l : List α} (h : l.length = 6) : ∃ a0 a1 a2 a3 a4 a5, l = [a0, a1, a2, a3, a4, a5] :=
  match l, h with | [a0, a1, a2, a3, a4, a5], _ => ⟨a0, a1, a2, a3, a4, a5, rfl⟩
theorem list7 {α : Type} {l : List α} (h : l.length = 7) : ∃ a0 a1 a2 a3 a4 a5 a6, l = [a0, a1, a2, a3, a4, a5, a6] :=
  match l, h with | [a0, a1, a2, a3, a4, a5, a6], _ => ⟨a0, a1, a2, a3, a4, a5, a6, rfl⟩
theorem list8 {α : Type} {l : List α} (h : l.length = 8) : ∃ a0 a1 a2 a3 a4 a5 a6 a7, l = [a0, a1, a2, a3, a4, a5, a6, a7] :=
  match l, h with | [a0, a1, a2, a3, a4, a5, a6, a7], _ => ⟨a0, a1, a2, a3, a4, a5, a6, a7, rfl⟩
theorem list9 {α : Type} {l : List α} (h : l.length = 9) : ∃ a0 a1 a2 a3 a4 a5 a6 a7 a8, l = [a0, a1, a2, a3, a4, a5, a6, a7, a8] :=
  match l, h with | [a0, a1, a2, a3, a4, a5, a6, a7, a8], _ => ⟨a0, a1, a2, a3, a4, a5, a6, a7, a8, rfl⟩
theorem list10 {α : Type} {l : List α} (h : l.length = 10) : ∃ a0 a1 a2 a3 a4 a5 a6 a7 a8 a9, l = [a0, a1, a2, a3, a4, a5, a6, a7, a8, a9] :=
  match l, h with | [a0, a1, a2, a3, a4, a5, a6, a7, a8, a9], _ => ⟨a0, a1, a2, a3, a4, a5, a6, a7, a8, a9, rfl⟩
theorem list11 {α : Type} {l : List α} (h : l.length = 11) : ∃ a0 a1 a2 a3 a4 a5 a6 a7 a8 a9 a10, l = [a0, a1, a2, a3, a4, a5, a6, a7, a8, a9, a10] :=
  match l, h with | [a0, a1, a2, a3, a4, a5, a6, a7, a8, a9, a10], _ => ⟨a0, a1, a2, a3, a4, a5, a6, a7, a8, a9, a10, rfl⟩
theorem list12 {α : Type} {l : List α} (h : l.length = 12) : ∃ a0 a1 a2 a3 a4 a5 a6 a7 a8 a9 a10 a11, l = [a0, a1, a2, a3, a4, a5, a6, a7, a8, a9, a10, a11] :=
  match l, h with | [a0, a1, a2, a3, a4, a5, a6, a7, a8, a9, a10, a11], _ => ⟨a0, a1, a2, a3, a4, a5, a6, a7, a8, a9, a10, a11, rfl⟩
theorem list13 {α : Type} {l : List α} (h : l.length = 13) : ∃ a0 a1 a2 a3 a4 a5 a6 a7 a8 a9 a10 a11 a12, l = [a0, a1, a2, a3, a4, a5, a6, a7, a8, a9, a10, a11, a12] :=
  match l, h with | [a0, a1, a2, a3, a4, a5, a6, a7, a8, a9, a10, a11, a12], _ => ⟨a0, a1, a2, a3, a4, a5, a6, a7, a8, a9, a10, a11, a12, rfl⟩
theorem list14 {α : Type} {l : List α} (h : l.length = 14) : ∃ a0 a1 a2 a3 a4 a5 a6 a7 a8 a9 a10 a11 a12 a13, l = [a0, a1, a2, a3, a4, a5, a6, a7, a8, a9, a10, a11, a12, a13] :=
  match l, h with | [a0, a1, a2, a3, a4, a5, a6, a7, a8, a9, a10, a11, a12, a13], _ => ⟨a0, a1, a2, a3, a4, a5, a6, a7, a8, a9, a10, a11, a12, a13, rfl⟩
theorem list15 {α : Type} {l : List α} (h : l.length = 15) : ∃ a0 a1 a2 a3 a4 a5 a6 a7 a8 a9 a10 a11 a12 a13 a14, l = [a0, a1, a2, a3, a4, a5, a6, a7, a8, a9, a10, a11, a12, a13, a14] :=
  match l, h with | [a0, a1, a2, a3, a4, a5, a6, a7, a8, a9, a10, a11, a12, a13, a14], _ => ⟨a0, a1, a2, a3, a4, a5, a6, a7, a8, a9, a10, a11, a12, a13, a14, rfl⟩
theorem list16 {α : Type} {l : List α} (h : l.length = 16) : ∃ a0 a1 a2 a3 a4 a5 a6 a7 a8 a9 a10 a11 a12 a13 a14 a15, l = [a0, a1, a2, a3, a4, a5, a6, a7, a8, a9, a10, a11, a12, a13, a14, a15] :=
  match l, h with | [a0, a1, a2, a3, a4, a5, a6, a7, a8, a9, a10, a11, a12, a13, a14, a15], _ => ⟨a0, a1, a2, a3, a4, a5, a6, a7, a8, a9, a10, a11, a12, a13, a14, a15, rfl⟩
section
variable {H : Type} {enc : TypeId × Value → H} {P : Program} {w : World}
theorem open_strs {t e : TypeId} {A : Option Addr} {len cap : Nat} {d : DataW H} {ps : List MemPlace} (ht : P.underlying t = some (.slice e)) (he : P.underlying e = some .string) (hc : P.cellsOf e = 1)
    (h : DataW.Trod enc P w 0 (fun _ => true) true t (.slice A len cap) d ps) :
    ∃ ss : List ByteArray, RowAt w A (strs ss) ∧ ss.length = len ∧ len ≤ cap ∧ cap ≤ maxLen ∧ (∀ s ∈ ss, s.size ≤ maxLen) ∧ (A = none → len = 0 ∧ cap = 0) := by
  obtain ⟨fuel, hf⟩ := h
  rcases open_strings ht he hc hf with ⟨hcs, _⟩ | ⟨a, l, c, ss, hcs, _, hl, hm, hz, _, hcell, hsz⟩
  · simp [Value.cells] at hcs
    obtain ⟨rfl, rfl, rfl⟩ := hcs
    exact ⟨[], RowAt.nil _ _, rfl, Nat.le_refl _, Nat.zero_le _, by simp, fun _ => ⟨rfl, rfl⟩⟩
  · simp [Value.cells] at hcs
    obtain ⟨rfl, rfl, rfl⟩ := hcs
    simp only [if_true] at hz
    refine ⟨ss.take len, fun j u hu => ⟨a, rfl, ?_⟩, by rw [List.length_take]; omega, hl, hm, fun s hs => hsz s (List.mem_of_mem_take hs), fun e => by cases e⟩
    have hj : j < (ss.take len).length := by have := (List.getElem?_eq_some_iff.1 hu).1; simpa [strs] using this
    have hj2 : j < ss.length := by rw [List.length_take] at hj; omega
    rw [hcell j hj2]
    simp only [strs, List.getElem?_map] at hu
    rw [List.getElem?_take, if_pos (by rw [List.length_take] at hj; omega), List.getElem?_eq_getElem hj2] at hu
    simp at hu
    rw [← hu, List.getD_eq_getElem?_getD, List.getElem?_eq_getElem hj2]
    rfl
theorem flat_inv {α β : Type} (f : α → List β) (m : Nat) : ∀ (l : List α), (∀ a ∈ l, (f a).length = m) → ∀ (j : Nat) (u : β), (l.flatMap f)[j]? = some u → ∃ i a k, l[i]? = some a ∧ (f a)[k]? = some u ∧ j = i * m + k
  | [], _, j, u, h => by simp at h
  | c :: l, hf, j, u, h => by
    have hc := hf c (List.mem_cons_self ..)
    rw [List.flatMap_cons] at h
    by_cases hj : j < m
    · rw [List.getElem?_append_left (by rw [hc]; exact hj)] at h
      exact ⟨0, c, j, rfl, h, by omega⟩
    · rw [List.getElem?_append_right (by rw [hc]; omega), hc] at h
      obtain ⟨i, a, k, h1, h2, h3⟩ := flat_inv f m l (fun a ha => hf a (List.mem_cons_of_mem _ ha)) _ _ h
      exact ⟨i + 1, a, k, by simpa using h1, h2, by rw [Nat.succ_mul]; omega⟩
/-- A slice of structs (or of whatever), each element by a lemma of its own. -/
theorem open_rows {t e : TypeId} {A : Option Addr} {len cap : Nat} {d : DataW H} {ps : List MemPlace} {α : Type} [Inhabited α] (f : α → List Value) (good : α → Prop) (ht : P.underlying t = some (.slice e))
    (each : ∀ n cs y, DataW.trod enc P w 0 (fun _ => true) true n e cs = some y → ∃ a, cs = f a ∧ good a)
    (h : DataW.Trod enc P w 0 (fun _ => true) true t (.slice A len cap) d ps) :
    ∃ l : List α, RowAt w A (l.flatMap f) ∧ l.length = len ∧ len ≤ cap ∧ cap ≤ maxLen ∧ (∀ a ∈ l, good a) ∧ (A = none → len = 0 ∧ cap = 0) := by
  obtain ⟨fuel, hf⟩ := h
  rcases Deep.open_slice ht hf with ⟨hcs, _⟩ | ⟨ad, l, c, m, n, D, Pl, hcs, _, hl, hm, hmm, _, hx⟩
  · simp [Value.cells] at hcs
    obtain ⟨rfl, rfl, rfl⟩ := hcs
    exact ⟨[], by simpa using RowAt.nil _ _, rfl, Nat.le_refl _, Nat.zero_le _, by simp, fun _ => ⟨rfl, rfl⟩⟩
  · simp [Value.cells] at hcs
    obtain ⟨rfl, rfl, rfl⟩ := hcs
    simp only [if_true] at hmm
    subst hmm
    obtain ⟨F, hF⟩ := Deep.choose_lt (α := α) (n := len) (p := fun i a => w.cells? 0 (ad.add (i * P.cellsOf e)) (P.cellsOf e) = some (f a) ∧ good a) (fun i hi => by
      obtain ⟨cs', h1, h2⟩ := hx i (by omega)
      obtain ⟨a, rfl, hg⟩ := each n cs' _ h2
      exact ⟨a, h1, hg⟩)
    have hlen : ∀ a ∈ (List.range len).map F, (f a).length = P.cellsOf e := by
      intro a ha
      obtain ⟨i, hi, rfl⟩ := List.mem_map.1 ha
      exact (World.cells?_some (hF i (List.mem_range.1 hi)).1).2.1
    refine ⟨(List.range len).map F, fun j u hu => ?_, by simp, hl, hm, fun a ha => ?_, fun e => by cases e⟩
    · obtain ⟨i, a, k, h1, h2, rfl⟩ := flat_inv f _ _ hlen j u hu
      obtain ⟨hi, h3⟩ : i < len ∧ F i = a := by
        rw [List.getElem?_map] at h1
        cases hr : (List.range len)[i]? with
        | none => rw [hr] at h1; simp at h1
        | some x =>
          rw [hr] at h1
          obtain ⟨hx1, hx2⟩ := List.getElem?_eq_some_iff.1 hr
          simp at hx1 hx2 h1
          subst hx2
          exact ⟨hx1, h1⟩
      subst h3
      obtain ⟨_, h4, h5⟩ := World.cells?_some (hF i hi).1
      have hk : k < P.cellsOf e := by rw [← h4]; exact (List.getElem?_eq_some_iff.1 h2).1
      refine ⟨ad, rfl, ?_⟩
      rw [← add_add', h5 k hk, h2]
    · obtain ⟨i, hi, rfl⟩ := List.mem_map.1 ha
      exact (hF i (List.mem_range.1 hi)).2
end
end Go.Proofs.YtdngcheimohamaaDoor
/- op.Bytes, interrexlaw14.lives. -/
namespace Go.Proofs.YtdngcheimohamaaDoor
open Go.RowKit

def BytesEPost (w : World) (bs : List UInt8) (e : Ending) (w' : World) : Prop :=
  ∃ A c, e = .returned (.tuple #[.slice A bs.length c, .int .i64 0]) ∧ w'.ownsRow w.heap.size 5 1 (.slice A bs.length c) bs.length (bcells bs) ∧ Fr noB w w'
theorem checkV_ok {o : OpV} (h : checkV o = 0) : o.k < 17 ∧ bareB o = true ∧ (zOf o).all (rightV o) = true ∧ o.a.size + o.b.size ≤ 64 ∧ (writeB o (zOf o)).length ≤ 64 := by
  unfold checkV at h
  split at h
  · cases h
  · split at h
    · cases h
    · split at h
      · cases h
      · split at h
        · cases h
        · split at h
          · cases h
          · rename_i h1 h2 h3 h4 h5
            exact ⟨by omega, by simpa using h2, by simpa using h3, by omega, by omega⟩
set_option maxHeartbeats 1600000 in
theorem bytesOk_calls (w : World) (o : OpV) (ht : SignsAt w) (hw : o.wf) (h : checkV o = 0) : Calls Tryd.prog 42 #[o.v] w (BytesEPost w (writeB o (zOf o))) := by
  obtain ⟨hk, _, _, hab, _⟩ := checkV_ok h
  have hb0 : BlkAt (w.alloc (.cells #[.int .u8 o.k, .string o.a, .string o.b, .int .u8 o.n, .int .u8 o.r] 24)) w.heap.size 24 o.C := BlkAt.new _ _ _
  have f0 : Fr noB w (w.alloc (.cells #[.int .u8 o.k, .string o.a, .string o.b, .int .u8 o.n, .int .u8 o.r] 24)) := (Fr.refl noB w).alloc _
  have hck := check_calls (w.alloc (.cells #[.int .u8 o.k, .string o.a, .string o.b, .int .u8 o.n, .int .u8 o.r] 24)) o (ht.fr0 f0) hw (by omega) (by omega)
  rw [h] at hck
  clear h
  have hv : o.v = .agg #[.int .u8 o.k, .string o.a, .string o.b, .int .u8 o.n, .int .u8 o.r] := rfl
  rw [hv]
  clear hv
  go_enter Tryd.func42, Tryd.ntmps42
  go_wp2_with fail
  refine hck.mono ?_
  rintro e w1 ⟨rfl, f1⟩
  have hb1 := hb0.fr f1 id
  have F1 := f0.then' f1
  clear hb0 f0 f1 hck
  have x0 := hb1.cell (k := 0) (v := .int .u8 o.k) rfl
  have x1 := hb1.cell (k := 1) (v := .string o.a) rfl
  have x2 := hb1.cell (k := 2) (v := .string o.b) rfl
  have x3 := hb1.cell (k := 3) (v := .int .u8 o.n) rfl
  have x4 := hb1.cell (k := 4) (v := .int .u8 o.r) rfl
  have hwc := write_calls w1 o (zOf o) (ht.fr0 F1) (zOf_get hk) hw (by omega) (by omega)
  generalize writeB o (zOf o) = bs at *
  go_wp2_with fail
  refine hwc.mono ?_
  rintro e w2 ⟨A, c, rfl, h2, f2⟩
  have F2 := F1.then' f2
  have h4 := own_mono h2 (b' := w.heap.size) (fun g hg => by have := F1.size; rcases h2.lt g hg with ⟨h, _⟩; omega)
  clear h2 hwc x0 x1 x2 x3 x4 hb1
  go_wp2_with fail
  go_ret2
  exact ⟨A, c, rfl, h4, F2⟩
set_option maxHeartbeats 1600000 in
theorem bytesNo_calls (w : World) (o : OpV) (ht : SignsAt w) (hw : o.wf) (ha1 : o.a.size ≤ 1000000000000000) (hb1 : o.b.size ≤ 1000000000000000) (h : checkV o ≠ 0) :
    Calls Tryd.prog 42 #[o.v] w (fun e w' => e = .returned (.tuple #[.slice none 0 0, .int .i64 (checkV o : Nat)]) ∧ Fr noB w w') := by
  have f0 : Fr noB w (w.alloc (.cells #[.int .u8 o.k, .string o.a, .string o.b, .int .u8 o.n, .int .u8 o.r] 24)) := (Fr.refl noB w).alloc _
  have hck := check_calls (w.alloc (.cells #[.int .u8 o.k, .string o.a, .string o.b, .int .u8 o.n, .int .u8 o.r] 24)) o (ht.fr0 f0) hw (by omega) (by omega)
  generalize checkV o = v0 at *
  have t1 : ((v0 : Int) != 0) = true := by simp; omega
  have hv : o.v = .agg #[.int .u8 o.k, .string o.a, .string o.b, .int .u8 o.n, .int .u8 o.r] := rfl
  rw [hv]
  clear hv h
  go_enter Tryd.func42, Tryd.ntmps42
  go_wp2_with fail
  refine hck.mono ?_
  rintro e w1 ⟨rfl, f1⟩
  have F1 := f0.then' f1
  clear f0 f1 hck
  go_wp2_with fail
  go_ret2
  exact ⟨rfl, F1⟩
def op0 : OpV := ⟨0, ⟨#[97]⟩, ⟨#[49]⟩, 0, 0⟩
theorem op0_wf : op0.wf := ⟨by decide, by decide, by decide⟩
theorem op0_bare : bareFrom op0 (zOf op0) = op0 := by
  rw [OpV.eq_iff]
  exact ⟨rfl, rfl, rfl, rfl, rfl⟩
theorem op0_bytes : writeB op0 (zOf op0) = [0, 1, 0, 97, 1, 0, 49] := by decide
theorem op0_ok : checkV op0 = 0 := by
  unfold checkV
  have h1 : bareB op0 = true := by unfold bareB; rw [op0_bare]; simp
  rw [if_neg (by decide), if_neg (by rw [h1]; decide), if_neg (by decide), if_neg (by decide), op0_bytes, if_neg (by decide)]
end Go.Proofs.YtdngcheimohamaaDoor
/- interrexref14: parts, Text, Check. -/
namespace Go.Proofs.YtdngcheimohamaaDoor
open Go.RowKit

def partsL : List Int := [2, 1, 2, 1, 1, 2, 1, 1, 2, 1, 1, 2, 2, 1, 1, 0, -1]
def partsV (k : Nat) : Int := partsL.getD k 0
theorem parts_calls (w : World) (k : Nat) : Calls Tryd.prog 64 #[.int .u8 k] w (fun e w' => e = .returned (.tuple #[.int .i64 (partsV k), .bool (decide (k < 17))]) ∧ w' = w) := by
  by_cases h : k < 17
  · have : ∃ p, partsV k = p ∧ decide (k < 17) = true := ⟨_, rfl, decide_eq_true h⟩
    rcases (by omega : k = 0 ∨ k = 1 ∨ k = 2 ∨ k = 3 ∨ k = 4 ∨ k = 5 ∨ k = 6 ∨ k = 7 ∨ k = 8 ∨ k = 9 ∨ k = 10 ∨ k = 11 ∨ k = 12 ∨ k = 13 ∨ k = 14 ∨ k = 15 ∨ k = 16) with rfl | rfl | rfl | rfl | rfl | rfl | rfl | rfl | rfl | rfl | rfl | rfl | rfl | rfl | rfl | rfl | rfl
    all_goals
      clear h this
      go_enter Tryd.func64, Tryd.ntmps64
      go_wp2_with fail
      go_ret2
      exact ⟨rfl, rfl⟩
  · have HV : Hid (partsV k = 0 ∧ decide (k < 17) = false) := ⟨by unfold partsV partsL; rw [List.getD_eq_getElem?_getD, List.getElem?_eq_none (by simp; omega)]; rfl, decide_eq_false h⟩
    have hne : ∀ j : Nat, j < 17 → ((k : Int) == (j : Int)) = false := fun j hj => by rw [beq_eq_false_iff_ne]; omega
    have t0 : ((k : Int) == 0) = false := hne 0 (by decide)
    have t1 : ((k : Int) == 1) = false := hne 1 (by decide)
    have t2 : ((k : Int) == 2) = false := hne 2 (by decide)
    have t3 : ((k : Int) == 3) = false := hne 3 (by decide)
    have t4 : ((k : Int) == 4) = false := hne 4 (by decide)
    have t5 : ((k : Int) == 5) = false := hne 5 (by decide)
    have t6 : ((k : Int) == 6) = false := hne 6 (by decide)
    have t7 : ((k : Int) == 7) = false := hne 7 (by decide)
    have t8 : ((k : Int) == 8) = false := hne 8 (by decide)
    have t9 : ((k : Int) == 9) = false := hne 9 (by decide)
    have t10 : ((k : Int) == 10) = false := hne 10 (by decide)
    have t11 : ((k : Int) == 11) = false := hne 11 (by decide)
    have t12 : ((k : Int) == 12) = false := hne 12 (by decide)
    have t13 : ((k : Int) == 13) = false := hne 13 (by decide)
    have t14 : ((k : Int) == 14) = false := hne 14 (by decide)
    have t15 : ((k : Int) == 15) = false := hne 15 (by decide)
    have t16 : ((k : Int) == 16) = false := hne 16 (by decide)
    clear hne h
    go_enter Tryd.func64, Tryd.ntmps64
    go_wp2_with fail
    go_ret2
    refine ⟨?_, rfl⟩
    rw [HV.out.1, HV.out.2]; rfl

def textO (o : OpV) : List UInt8 := leB 1 o.k ++ (if 1 ≤ partsV o.k then textR o.a else []) ++ (if partsV o.k = 2 then textR o.b else []) ++ (if partsV o.k < 0 then leB 1 o.n ++ leB 1 o.r else [])
theorem byteStr (w : World) (y : Nat) (hy : y < 256) : (convert 33 9 (.slice (some ⟨w.heap.size, 0, none⟩) 1 1)).run Tryd.prog (w.alloc (.cells #[.int .u8 y] 5)) =
    .ok (.string (mkS (leB 1 y))) (w.alloc (.cells #[.int .u8 y] 5)) := by
  have h := Tryd.oneStr w y
  rw [show ((y : Int) % 256) = y from by omega] at h
  exact h
theorem byteStr2 (w : World) (x y : Nat) (hx : x < 256) (hy : y < 256) : (convert 33 9 (.slice (some ⟨w.heap.size, 0, none⟩) 2 2)).run Tryd.prog (w.alloc (.cells #[.int .u8 x, .int .u8 y] 5)) =
    .ok (.string (mkS (leB 1 x ++ leB 1 y))) (w.alloc (.cells #[.int .u8 x, .int .u8 y] 5)) := by
  refine Tryd.toStr (l := leB 1 x ++ leB 1 y) ?_ rfl 2
  have h := new_row w #[.int .u8 x, .int .u8 y] 5
  have e : bcells (leB 1 x ++ leB 1 y) = (#[Value.int .u8 x, .int .u8 y] : Array Value).toList := by
    simp [leB, bcells]
    omega
  rw [e]; exact h
theorem textO_length (o : OpV) : (textO o).length ≤ 7 + o.a.size + o.b.size := by
  unfold textO
  simp only [List.length_append, leB_length]
  split <;> split <;> split <;> simp [textR_length, leB_length] <;> omega

set_option maxRecDepth 100000 in
set_option maxHeartbeats 1600000 in
theorem textO_calls (w : World) (o : OpV) (hw : o.wf) (ha : o.a.size ≤ 1000000000000) (hb : o.b.size ≤ 1000000000000) : Calls Tryd.prog 52 #[o.v] w (StrPost w (textO o)) := by
  have hT : Hid (textO o = leB 1 o.k ++ (if 1 ≤ partsV o.k then textR o.a else []) ++ (if partsV o.k = 2 then textR o.b else []) ++ (if partsV o.k < 0 then leB 1 o.n ++ leB 1 o.r else [])) := rfl
  have hl := textO_length o
  have hal := textR_length o.a
  have hbl := textR_length o.b
  obtain ⟨k, a, b, n, r⟩ := o
  obtain ⟨hk, hn, hr⟩ := hw
  simp only [] at *
  have hb0 : BlkAt (w.alloc (.cells #[.int .u8 k, .string a, .string b, .int .u8 n, .int .u8 r] 54)) w.heap.size 54 #[.int .u8 k, .string a, .string b, .int .u8 n, .int .u8 r] := BlkAt.new _ _ _
  have f0 : Fr noB w (w.alloc (.cells #[.int .u8 k, .string a, .string b, .int .u8 n, .int .u8 r] 54)) := (Fr.refl noB w).alloc _
  unfold OpV.v
  simp only []
  have hcv := fun W => byteStr W k hk
  have hcv2 := fun W => byteStr2 W n r hn hr
  have hs1 : (mkS (leB 1 k)).size = 1 := by rw [mkS_size, leB_length]
  have hsa : (mkS (textR a)).size = a.size + 2 := by rw [mkS_size, hal]
  have hsb : (mkS (textR b)).size = b.size + 2 := by rw [mkS_size, hbl]
  have hs2 : (mkS (leB 1 n ++ leB 1 r)).size = 2 := by rw [mkS_size]; simp [leB_length]
  have hap := ByteArray.size_append (a := mkS (leB 1 k)) (b := mkS (textR a))
  go_enter Tryd.func52, Tryd.ntmps52
  go_wp2_with fail
  generalize (w.alloc (.cells #[.int .u8 k, .string a, .string b, .int .u8 n, .int .u8 r] 54)) = wa at *
  obtain ⟨y0, y1, y2, y3, y4, yf⟩ := BlkAt.c5 hb0
  have x1 := (hb0.al (.cells #[.int .u8 k] 5)).cell (k := 1) (v := .string a) rfl
  refine (parts_calls wa k).mono ?_
  rintro e w1 ⟨rfl, rfl⟩
  generalize hP : partsV k = P at *
  have hp4 : P = 2 ∨ P = 1 ∨ P = 0 ∨ P = -1 := by
    rw [← hP]; unfold partsV partsL
    by_cases h : k < 17
    · have : ∀ k : Fin 17, let P := ([2, 1, 2, 1, 1, 2, 1, 1, 2, 1, 1, 2, 2, 1, 1, 0, -1] : List Int).getD k.val 0; P = 2 ∨ P = 1 ∨ P = 0 ∨ P = -1 := by decide
      exact this ⟨k, h⟩
    · rw [List.getD_eq_getElem?_getD, List.getElem?_eq_none (by simp; omega)]; simp
  clear hP
  have g1 : (mkS (leB 1 k)).size + (mkS (textR a)).size ≤ 9223372036854775807 := by rw [hs1, hsa]; omega
  have g2 : (mkS (leB 1 k) ++ mkS (textR a)).size + (mkS (textR b)).size ≤ 9223372036854775807 := by rw [hap, hs1, hsa, hsb]; omega
  have g3 : (mkS (leB 1 k)).size + (mkS (leB 1 n ++ leB 1 r)).size ≤ 9223372036854775807 := by rw [hs1, hs2]; omega
  have x3 := (hb0.al (.cells #[.int .u8 k] 5)).cell (k := 3) (v := .int .u8 n) rfl
  have x4 := (hb0.al (.cells #[.int .u8 k] 5)).cell (k := 4) (v := .int .u8 r) rfl
  clear hap hs1 hsa hsb hs2 hl hal hbl
  rcases hp4 with rfl | rfl | rfl | rfl
  · rw [if_pos (by decide), if_pos rfl, if_neg (by decide), List.append_nil] at hT
    go_wp2_with fail
    refine (textR_calls _ a ha).mono ?_
    rintro e w2 ⟨rfl, f2⟩
    have F2 := (f0.alloc (.cells #[.int .u8 k] 5)).then' f2
    have hb2 := (hb0.al (.cells #[.int .u8 k] 5)).fr f2 id
    have x2 := hb2.cell (k := 2) (v := .string b) rfl
    clear f2
    go_wp2_with fail
    refine (textR_calls _ b hb).mono ?_
    rintro e w3 ⟨rfl, f3⟩
    have F3 := F2.then' f3
    clear f3
    go_wp2_with fail
    go_ret
    exact ⟨by rw [hT.out, ← mkS_append, ← mkS_append]; rfl, F3⟩
  · rw [if_pos (by decide), if_neg (by decide), if_neg (by decide), List.append_nil, List.append_nil] at hT
    go_wp2_with fail
    refine (textR_calls _ a ha).mono ?_
    rintro e w2 ⟨rfl, f2⟩
    have F2 := (f0.alloc (.cells #[.int .u8 k] 5)).then' f2
    have hb2 := (hb0.al (.cells #[.int .u8 k] 5)).fr f2 id
    have x2 := hb2.cell (k := 2) (v := .string b) rfl
    clear f2
    go_wp2_with fail
    go_ret
    exact ⟨by rw [hT.out, ← mkS_append]; rfl, F2⟩
  · rw [if_neg (by decide), if_neg (by decide), if_neg (by decide), List.append_nil, List.append_nil, List.append_nil] at hT
    go_wp2_with fail
    go_ret
    exact ⟨by rw [hT.out]; rfl, f0.alloc _⟩
  · rw [if_neg (by decide), if_neg (by decide), if_pos (by decide), List.append_nil, List.append_nil] at hT
    have hc2 := hcv2 (w1.alloc (.cells #[.int .u8 k] 5))
    rw [al_size] at hc2
    go_wp2_with fail
    go_ret
    exact ⟨by rw [hT.out, ← mkS_append]; rfl, (f0.alloc _).alloc _⟩
end Go.Proofs.YtdngcheimohamaaDoor
/- interrexref14.Check. -/
namespace Go.Proofs.YtdngcheimohamaaDoor
open Go.RowKit

def badR (o : OpV) : Bool := (decide (partsV o.k < 1) && decide (o.a ≠ ⟨#[]⟩)) || (decide (partsV o.k < 2) && decide (o.b ≠ ⟨#[]⟩)) || (decide (0 ≤ partsV o.k) && (decide (o.n ≠ 0) || decide (o.r ≠ 0)))
def bad2R (o : OpV) : Bool := decide (partsV o.k < 0) && (decide (6 < o.n) || decide (o.r < 1) || decide (3 < o.r))
def checkR (o : OpV) : Nat := if 17 ≤ o.k then 4 else if badR o = true then 4 else if bad2R o = true then 4 else if 64 < o.a.size ∨ 64 < o.b.size ∨ 64 < (textO o).length then 3 else 0
theorem toList_nil (s : ByteArray) : s.toList = [] ↔ s = ⟨#[]⟩ := by
  constructor
  · intro h; rw [← mkS_of s, ← ByteArray.toList_eq, h]; rfl
  · rintro rfl; exact mkS_toList []
theorem IntPost.mk' {w w' : World} {i j : Int} (h : i = j) (f : Fr noB w w') : IntPost w j (.returned (.int .i64 i)) w' := ⟨by rw [h], f⟩
set_option maxRecDepth 100000 in
set_option maxHeartbeats 1600000 in
theorem checkO_calls (w : World) (o : OpV) (hw : o.wf) (ha : o.a.size ≤ 1000000000000) (hb : o.b.size ≤ 1000000000000) : Calls Tryd.prog 45 #[o.v] w (IntPost w (checkR o : Nat)) := by
  have hte := fun W => textO_calls W o hw ha hb
  have HV : Hid (checkR o = if 17 ≤ o.k then 4 else if badR o = true then 4 else if bad2R o = true then 4 else if 64 < o.a.size ∨ 64 < o.b.size ∨ 64 < (textO o).length then 3 else 0) := rfl
  unfold badR bad2R at HV
  generalize textO o = tx at *
  obtain ⟨k, a, b, n, r⟩ := o
  obtain ⟨hk, hn, hr⟩ := hw
  unfold OpV.v at *
  simp only [] at *
  generalize checkR ⟨k, a, b, n, r⟩ = res at *
  have hb0 : BlkAt (w.alloc (.cells #[.int .u8 k, .string a, .string b, .int .u8 n, .int .u8 r] 54)) w.heap.size 54 #[.int .u8 k, .string a, .string b, .int .u8 n, .int .u8 r] := BlkAt.new _ _ _
  have f0 : Fr noB w (w.alloc (.cells #[.int .u8 k, .string a, .string b, .int .u8 n, .int .u8 r] 54)) := (Fr.refl noB w).alloc _
  have hts : (mkS tx).size = tx.length := mkS_size _
  obtain ⟨m, hm⟩ : ∃ m, tx.length = m := ⟨_, rfl⟩
  rw [hm] at hts HV
  have hlen : 0 ≤ m := Nat.zero_le _
  obtain ⟨c1, hc1⟩ : ∃ c, ((n : Int) != 0) = c := ⟨_, rfl⟩
  obtain ⟨c2, hc2⟩ : ∃ c, ((r : Int) != 0) = c := ⟨_, rfl⟩
  obtain ⟨c3, hc3⟩ : ∃ c, decide ((6 : Int) < n) = c := ⟨_, rfl⟩
  obtain ⟨c4, hc4⟩ : ∃ c, decide ((r : Int) < 1) = c := ⟨_, rfl⟩
  obtain ⟨c5, hc5⟩ : ∃ c, decide ((3 : Int) < r) = c := ⟨_, rfl⟩
  obtain ⟨c6, hc6⟩ : ∃ c, decide ((64 : Int) < a.size) = c := ⟨_, rfl⟩
  obtain ⟨c7, hc7⟩ : ∃ c, decide ((64 : Int) < b.size) = c := ⟨_, rfl⟩
  obtain ⟨c8, hc8⟩ : ∃ c, decide ((64 : Int) < m) = c := ⟨_, rfl⟩
  have hd1 : Hid (c1 = true ↔ n ≠ 0) := by rw [← hc1]; unfold Hid; rw [bne_iff_ne]; omega
  have hd2 : Hid (c2 = true ↔ r ≠ 0) := by rw [← hc2]; unfold Hid; rw [bne_iff_ne]; omega
  have hd3 : Hid (c3 = true ↔ 6 < n) := by rw [← hc3]; unfold Hid; rw [decide_eq_true_eq]; omega
  have hd4 : Hid (c4 = true ↔ r < 1) := by rw [← hc4]; unfold Hid; rw [decide_eq_true_eq]; omega
  have hd5 : Hid (c5 = true ↔ 3 < r) := by rw [← hc5]; unfold Hid; rw [decide_eq_true_eq]; omega
  have hd6 : Hid (c6 = true ↔ 64 < a.size) := by rw [← hc6]; unfold Hid; rw [decide_eq_true_eq]; omega
  have hd7 : Hid (c7 = true ↔ 64 < b.size) := by rw [← hc7]; unfold Hid; rw [decide_eq_true_eq]; omega
  have hd8 : Hid (c8 = true ↔ 64 < m) := by rw [← hc8]; unfold Hid; rw [decide_eq_true_eq]; omega
  have hA : Hid (a.toList = [] ↔ a = ⟨#[]⟩) := toList_nil a
  have hB : Hid (b.toList = [] ↔ b = ⟨#[]⟩) := toList_nil b
  go_enter Tryd.func45, Tryd.ntmps45
  go_wp2_with fail
  generalize (w.alloc (.cells #[.int .u8 k, .string a, .string b, .int .u8 n, .int .u8 r] 54)) = wa at *
  obtain ⟨y0, y1, y2, y3, y4, yf⟩ := BlkAt.c5 hb0
  refine (parts_calls wa k).mono ?_
  rintro e w1 ⟨rfl, rfl⟩
  by_cases h17 : k < 17
  · rw [if_neg (by omega)] at HV
    rw [decide_eq_true h17]
    have hp4 : partsV k = 2 ∨ partsV k = 1 ∨ partsV k = 0 ∨ partsV k = -1 := by
      unfold partsV partsL
      have : ∀ k : Fin 17, let P := ([2, 1, 2, 1, 1, 2, 1, 1, 2, 1, 1, 2, 2, 1, 1, 0, -1] : List Int).getD k.val 0; P = 2 ∨ P = 1 ∨ P = 0 ∨ P = -1 := by decide
      exact this ⟨k, h17⟩
    generalize partsV k = P at *
    clear h17
    rcases hp4 with rfl | rfl | rfl | rfl
    all_goals
      simp at HV
      go_wp2_with (go_at_call 52; refine (hte _).mono ?_; rintro e w2 ⟨rfl, f2⟩)
      all_goals
        go_ret
        refine IntPost.mk' ?_ (by first | exact f0 | exact f0.then' (by assumption))
        clear hte hb0 f0
        go_light
        have hv := HV.out
        have e1 := hd1.out
        have e2 := hd2.out
        have e3 := hd3.out
        have e4 := hd4.out
        have e5 := hd5.out
        have e6 := hd6.out
        have e7 := hd7.out
        have e8 := hd8.out
        have e9 := hA.out
        have e10 := hB.out
        clear HV hd1 hd2 hd3 hd4 hd5 hd6 hd7 hd8 hA hB hc1 hc2 hc3 hc4 hc5 hc6 hc7 hc8 ha hb hk hn hr hts hm hlen yf
        simp_all
        all_goals first | omega | ((repeat' split) <;> first | rfl | omega | (simp_all; done) | (simp_all; omega))
  · rw [if_pos (by omega)] at HV
    rw [decide_eq_false h17]
    generalize partsV k = P at *
    go_wp2_with fail
    go_ret
    exact IntPost.mk' (by rw [HV.out]; rfl) f0
end Go.Proofs.YtdngcheimohamaaDoor
/- octet.Reader: what it holds, and its contracts. -/
namespace Go.Proofs.YtdngcheimohamaaDoor
open Go.RowKit

/-- A Reader: what is left, and the first error. -/
structure Rd where
  bs : List UInt8
  e : Nat
def rFail (r : Rd) (k : Nat) : Rd := if r.e = 0 ∧ k ≠ 0 then ⟨[], k⟩ else r
def rTake (r : Rd) (n : Nat) : Rd × List UInt8 := if r.bs.length < n then (rFail r 2, []) else (⟨r.bs.drop n, r.e⟩, r.bs.take n)
/-- The number of bytes, lowest first. -/
def leV : List UInt8 → Nat
  | [] => 0
  | b :: bs => b.toNat + 256 * leV bs
def rNum (r : Rd) (n : Nat) : Rd × Nat := ((rTake r n).1, leV (rTake r n).2)
def rTruth (r : Rd) : Rd × Bool := (if 1 < (rNum r 1).2 then rFail (rNum r 1).1 4 else (rNum r 1).1, (rNum r 1).2 == 1)
def rCount (r : Rd) (most : Int) : Rd × Nat := if max 0 most < ((rNum r 2).2 : Int) then (rFail (rNum r 2).1 3, 0) else rNum r 2
def rText (r : Rd) (most : Int) : Rd × List UInt8 := rTake (rCount r most).1 (rCount r most).2
def rEnd (r : Rd) : Nat := if r.e = 0 ∧ 0 < r.bs.length then 3 else r.e

structure RdV (w : World) (S : Nat → Prop) (p : Nat) (A : Option Addr) (n c : Nat) (T : TypeId) (r : Rd) : Prop where
  len : Hid (r.bs.length = n)
  heap : w.heap[p]? = some (.cells #[.slice A n c, .int .i64 (r.e : Nat)] T (0, 0))
  row : RowAt w A (bcells r.bs)
  cap : n ≤ c
  max : c ≤ 9223372036854775807
  nil : A = none → n = 0 ∧ c = 0
  inS : S p
  rowS : 0 < n → ∀ a, A = some a → S a.block ∧ a.block ≠ p
  err : Hid (r.e ≠ 0 → r.bs = [])
/-- At p a Reader, in blocks of S. -/
def RdAt (w : World) (S : Nat → Prop) (p : Nat) (r : Rd) : Prop := ∃ A n c T, RdV w S p A n c T r

theorem RdV.fr {w w' : World} {S T : Nat → Prop} {p : Nat} {A : Option Addr} {n c : Nat} {ty : TypeId} {r : Rd} (h : RdV w S p A n c ty r) (f : Fr T w w') (hd : ∀ k, k < w.heap.size → S k → ¬ T k) : RdV w' S p A n c ty r :=
  ⟨h.len, f.heap h.heap (hd p (Array.getElem?_eq_some_iff.1 h.heap).1 h.inS), h.row.fr f (fun a e h0 hb => hd _ hb (h.rowS (by rw [bcells_length, h.len.out] at h0; exact h0) a e).1), h.cap, h.max, h.nil, h.inS, h.rowS, h.err⟩
theorem RdAt.fr {w w' : World} {S T : Nat → Prop} {p : Nat} {r : Rd} (h : RdAt w S p r) (f : Fr T w w') (hd : ∀ k, k < w.heap.size → S k → ¬ T k) : RdAt w' S p r := by
  obtain ⟨A, n, c, ty, h⟩ := h
  exact ⟨A, n, c, ty, h.fr f hd⟩
theorem RdAt.mono {w : World} {S T : Nat → Prop} {p : Nat} {r : Rd} (h : RdAt w S p r) (hd : ∀ k, S k → T k) : RdAt w T p r := by
  obtain ⟨A, n, c, ty, h⟩ := h
  exact ⟨A, n, c, ty, h.len, h.heap, h.row, h.cap, h.max, h.nil, hd _ h.inS, fun h0 a e => ⟨hd _ (h.rowS h0 a e).1, (h.rowS h0 a e).2⟩, h.err⟩
theorem RdV.cells {w : World} {S : Nat → Prop} {p : Nat} {A : Option Addr} {n c : Nat} {ty : TypeId} {r : Rd} (h : RdV w S p A n c ty r) :
    w.cell? ⟨p, 0, none⟩ = some (.slice A n c) ∧ w.cell? ⟨p, 1, none⟩ = some (.int .i64 (r.e : Nat)) ∧ w.frozen? ⟨p, 0, none⟩ = false ∧ w.frozen? ⟨p, 1, none⟩ = false := by
  have := h.heap
  refine ⟨?_, ?_, ?_, ?_⟩ <;> simp [World.cell?, World.frozen?, this]
theorem RdV.rowTake {w : World} {S : Nat → Prop} {p : Nat} {A : Option Addr} {n c : Nat} {ty : TypeId} {r : Rd} (h : RdV w S p A n c ty r) (k : Nat) (u : Value) : RowAt (w.setCell ⟨p, 0, none⟩ u) A (bcells (r.bs.take k)) := fun j v hv => by
  have hj : (bcells r.bs)[j]? = some v := by
    simp only [bcells, List.map_take, List.getElem?_take] at hv ⊢
    split at hv
    · exact hv
    · cases hv
  obtain ⟨a, e, hc⟩ := h.row j v hj
  have h0 : 0 < n := by have := (List.getElem?_eq_some_iff.1 hj).1; rw [bcells_length, h.len.out] at this; omega
  have hf2 : Fr (fun b => b = p) w (w.setCell ⟨p, 0, none⟩ u) := Fr.setCell (S := fun b => b = p) (Fr.refl _ w) (p := ⟨p, 0, none⟩) (Or.inl rfl) _
  exact ⟨a, e, hf2.cell hc (by rw [add_block]; exact (h.rowS h0 a e).2)⟩
theorem two_set0 {w : World} {b : Nat} {x y u : Value} {t : TypeId} (h : w.heap[b]? = some (.cells #[x, y] t (0, 0))) : (w.setCell ⟨b, 0, none⟩ u).heap[b]? = some (.cells #[u, y] t (0, 0)) := by
  simp [World.setCell, Array.getElem?_modify, h]
theorem two_set1 {w : World} {b : Nat} {x y u : Value} {t : TypeId} (h : w.heap[b]? = some (.cells #[x, y] t (0, 0))) : (w.setCell ⟨b, 1, none⟩ u).heap[b]? = some (.cells #[x, u] t (0, 0)) := by
  simp [World.setCell, Array.getElem?_modify, h]

def RPost (w : World) (S : Nat → Prop) (p : Nat) (r : Rd) (v : Value) (e : Ending) (w' : World) : Prop := e = .returned v ∧ RdAt w' S p r ∧ Fr S w w'

theorem fail_calls (w : World) (S : Nat → Prop) (p : Nat) (r : Rd) (k : Nat) (h : RdAt w S p r) : Calls Tryd.prog 58 #[.pointer (some ⟨p, 0, none⟩), .int .i64 k] w (RPost w S p (rFail r k) (.tuple #[])) := by
  obtain ⟨A, n, c, T, h⟩ := h
  obtain ⟨c0, c1, z0, z1⟩ := h.cells
  by_cases e0 : r.e = 0
  · by_cases k0 : k = 0
    · have t0 : ((r.e : Int) == 0) = true := by simp; exact e0
      have t1 : ((k : Int) != 0) = false := by simp; exact k0
      have HF : Hid (rFail r k = r) := by unfold Hid rFail; rw [if_neg (by simp [k0])]
      go_enter Tryd.func58, Tryd.ntmps58
      go_wp2_with fail
      go_end0
      exact ⟨rfl, by rw [HF.out]; exact ⟨_, _, _, _, h⟩, Fr.refl _ _⟩
    · have t0 : ((r.e : Int) == 0) = true := by simp; exact e0
      have t1 : ((k : Int) != 0) = true := by simp; exact k0
      have HF : Hid (rFail r k = ⟨[], k⟩) := by unfold Hid rFail; rw [if_pos ⟨e0, k0⟩]
      have HK := hid k0
      clear e0 k0
      go_enter Tryd.func58, Tryd.ntmps58
      go_wp2_with fail
      go_end0
      refine ⟨rfl, ?_, ((Fr.refl S w).setCell (Or.inl h.inS) _).setCell (p := ⟨p, 1, none⟩) (Or.inl h.inS) _⟩
      rw [HF.out]
      exact ⟨none, 0, 0, T, rfl, two_set1 (two_set0 h.heap), RowAt.nil _ _, Nat.le_refl _, by omega, fun _ => ⟨rfl, rfl⟩, h.inS, fun h0 => absurd h0 (by omega), fun _ => rfl⟩
  · have t0 : ((r.e : Int) == 0) = false := by simp; exact e0
    have HF : Hid (rFail r k = r) := by unfold Hid rFail; rw [if_neg (by simp [e0])]
    go_enter Tryd.func58, Tryd.ntmps58
    go_wp2_with fail
    go_end0
    exact ⟨rfl, by rw [HF.out]; exact ⟨_, _, _, _, h⟩, Fr.refl _ _⟩

/-- What take hands back: bytes that can be read. -/
def TakePost (w : World) (S : Nat → Prop) (p : Nat) (r : Rd) (xs : List UInt8) (e : Ending) (w' : World) : Prop :=
  ∃ A n c, e = .returned (.slice A n c) ∧ Hid (xs.length = n) ∧ RowAt w' A (bcells xs) ∧ (A = none → n = 0 ∧ c = 0) ∧ n ≤ 9223372036854775807 ∧ RdAt w' S p r ∧ Fr S w w'
theorem take_calls (w : World) (S : Nat → Prop) (p : Nat) (r : Rd) (k : Nat) (h : RdAt w S p r) : Calls Tryd.prog 65 #[.pointer (some ⟨p, 0, none⟩), .int .i64 k] w (TakePost w S p (rTake r k).1 (rTake r k).2) := by
  have hf := fail_calls w S p r 2 h
  obtain ⟨A, n, c, T, h⟩ := h
  obtain ⟨c0, c1, z0, z1⟩ := h.cells
  by_cases hn : n < k
  · have HF : Hid (rTake r k = (rFail r 2, [])) := by unfold Hid rTake; rw [if_pos (by rw [h.len.out]; exact hn)]
    go_enter Tryd.func65, Tryd.ntmps65
    go_wp2_with fail
    refine hf.mono ?_
    rintro e w1 ⟨rfl, h1, f1⟩
    go_wp2_with fail
    go_ret
    refine ⟨none, 0, 0, rfl, by rw [HF.out]; rfl, by rw [HF.out]; exact RowAt.nil _ _, fun _ => ⟨rfl, rfl⟩, by omega, by rw [HF.out]; exact h1, f1⟩
  · have HF : Hid (rTake r k = (⟨r.bs.drop k, r.e⟩, r.bs.take k)) := by unfold Hid rTake; rw [if_neg (by rw [h.len.out]; exact hn)]
    have hk : k ≤ n := by omega
    have hcap := h.cap
    have hmax := h.max
    clear hf
    by_cases hck : c = k
    · subst hck
      have hnk : n = c := by omega
      subst hnk
      go_enter Tryd.func65, Tryd.ntmps65
      go_wp2_with fail
      go_ret
      have hs : Fr S w (w.setCell ⟨p, 0, none⟩ (.slice A 0 0)) := (Fr.refl S w).setCell (Or.inl h.inS) _
      refine ⟨A, n, n, rfl, by rw [HF.out]; unfold Hid; rw [List.length_take, h.len.out]; omega, ?_, fun e => h.nil e, hmax, ?_, hs⟩
      · rw [HF.out]; exact h.rowTake n _
      · rw [HF.out]
        have hd : r.bs.drop n = [] := List.drop_eq_nil_of_le (by rw [h.len.out]; exact Nat.le_refl _)
        refine ⟨A, 0, 0, T, by unfold Hid; rw [hd]; rfl, ?_, by simp only [hd]; exact RowAt.nil _ _, Nat.le_refl _, by omega, fun _ => ⟨rfl, rfl⟩, h.inS, fun h0 => absurd h0 (by omega), fun _ => hd⟩
        exact two_set0 (u := .slice A 0 0) h.heap
    · go_enter Tryd.func65, Tryd.ntmps65
      go_wp2_with fail
      go_ret
      have hs : Fr S w (w.setCell ⟨p, 0, none⟩ (.slice (A.map (·.add k)) (n - k) (c - k))) := (Fr.refl S w).setCell (Or.inl h.inS) _
      have hne : A ≠ none := fun e => by have := h.nil e; omega
      obtain ⟨a, rfl⟩ := Option.ne_none_iff_exists'.1 hne
      refine ⟨some a, k, c, rfl, by rw [HF.out]; unfold Hid; rw [List.length_take, h.len.out]; omega, ?_, fun e => (by cases e), by omega, ?_, hs⟩
      · rw [HF.out]; exact h.rowTake k _
      · rw [HF.out]
        refine ⟨some (a.add k), n - k, c - k, T, by unfold Hid; rw [List.length_drop, h.len.out], two_set0 h.heap, ?_, by omega, by omega, fun e => (by cases e), h.inS, fun h0 b e => ?_, fun e => ?_⟩
        · intro j u hu
          refine ⟨_, rfl, ?_⟩
          rw [add_add']
          have hj : (bcells r.bs)[k + j]? = some u := by
            rw [← hu]; simp only [bcells, List.map_drop, List.getElem?_drop]
          have h0 : 0 < n := by have := (List.getElem?_eq_some_iff.1 hj).1; rw [bcells_length, h.len.out] at this; omega
          have hf2 : Fr (fun b => b = p) w (w.setCell ⟨p, 0, none⟩ (.slice (some (a.add k)) (n - k) (c - k))) := Fr.setCell (S := fun b => b = p) (Fr.refl _ w) (p := ⟨p, 0, none⟩) (Or.inl rfl) _
          exact hf2.cell (h.row.cell hj) (by rw [add_block]; exact (h.rowS h0 a rfl).2)
        · cases e
          rw [add_block]
          exact h.rowS (by omega) a rfl
        · show r.bs.drop k = []
          rw [h.err.out e]; simp
end Go.Proofs.YtdngcheimohamaaDoor
/- octet.Reader's methods. -/
namespace Go.Proofs.YtdngcheimohamaaDoor
open Go.RowKit

theorem leV_lt (xs : List UInt8) : leV xs < 256 ^ xs.length := by
  induction xs with
  | nil => simp [leV]
  | cons b xs ih =>
    have := b.toNat_lt
    simp only [leV, List.length_cons, Nat.pow_succ]
    omega
theorem leV_snoc (xs : List UInt8) (b : UInt8) : leV (xs ++ [b]) = leV xs + b.toNat * 256 ^ xs.length := by
  induction xs with
  | nil => simp [leV]
  | cons c xs ih =>
    simp only [List.cons_append, leV, ih, List.length_cons, Nat.pow_succ, Nat.mul_add]
    rw [← Nat.mul_assoc, Nat.mul_comm (256 ^ xs.length) 256, ← Nat.mul_assoc, Nat.mul_comm b.toNat 256, Nat.add_assoc]
theorem rTake_len (r : Rd) (n : Nat) : (rTake r n).2.length ≤ n := by
  unfold rTake
  split
  · simp
  · simp; omega

theorem or_step (x b j : Nat) (hx : x < 256 ^ j) (hb : b < 256) (hj : j < 8) : bits .or .u64 (x : Int) (IntKind.u64.wrap ((b : Int) * 2 ^ (8 * j))) = ((x + b * 256 ^ j : Nat) : Int) := by
  have hp : (256 : Nat) ^ j = 2 ^ (8 * j) := by rw [Nat.pow_mul]
  have hle : (256 : Nat) ^ (j + 1) ≤ 256 ^ 8 := Nat.pow_le_pow_right (by omega) (by omega)
  have hm : b * 256 ^ j < 256 ^ (j + 1) := by rw [Nat.pow_succ, Nat.mul_comm (256 ^ j)]; exact Nat.mul_lt_mul_of_pos_right hb (Nat.pow_pos (by omega))
  have h64 : (256 : Nat) ^ 8 = 18446744073709551616 := by decide
  have e1 : (b : Int) * 2 ^ (8 * j) = ((b * 256 ^ j : Nat) : Int) := by rw [hp]; push_cast; rfl
  have e2 : IntKind.u64.wrap ((b * 256 ^ j : Nat) : Int) = ((b * 256 ^ j : Nat) : Int) := by
    generalize b * 256 ^ j = m at *
    simp [IntKind.wrap, IntKind.bits, IntKind.signed]
    omega
  have hx2 : x < 18446744073709551616 := by
    have : 256 ^ j ≤ 256 ^ (j + 1) := Nat.pow_le_pow_right (by omega) (by omega)
    omega
  rw [e1, e2, bits_or_u64_nat x _ hx2 (by omega)]
  congr 1
  rw [hp] at hx ⊢
  have := Nat.two_pow_add_eq_or_of_lt hx b
  rw [Nat.or_comm, Nat.mul_comm b, ← this, Nat.add_comm]
set_option maxRecDepth 100000 in
set_option maxHeartbeats 1600000 in
theorem numRd_calls (w : World) (S : Nat → Prop) (p : Nat) (r : Rd) (k : Nat) (h : RdAt w S p r) (hk : k ≤ 8) :
    Calls Tryd.prog 63 #[.pointer (some ⟨p, 0, none⟩), .int .i64 k] w (RPost w S p (rNum r k).1 (.int .u64 ((rNum r k).2 : Nat))) := by
  have hl := rTake_len r k
  go_enter Tryd.func63, Tryd.ntmps63
  go_wp2_with fail
  refine (take_calls w S p r k h).mono ?_
  rintro e w1 ⟨A, n, c, rfl, hn, hr, hA, hm, h1, f1⟩
  have HF : Hid (rNum r k = ((rTake r k).1, leV (rTake r k).2)) := rfl
  generalize (rTake r k).1 = r1 at *
  generalize (rTake r k).2 = xs at *
  rw [hn.out] at hl
  go_wp2_with fail
  go_loop [5, 12] (fun y i => ∃ j : Nat, j ≤ n ∧ i = .int .i64 j ∧ y = .int .u64 (leV (xs.take j) : Nat)) (fun _ i => n - (intOf i).toNat)
  case atStart => exact ⟨0, Nat.zero_le _, rfl, rfl⟩
  case round =>
    obtain ⟨j, hj, rfl, rfl⟩ := hrel
    by_cases hjn : j < n
    · obtain ⟨b, hb⟩ : ∃ b, xs[j]? = some b := ⟨_, List.getElem?_eq_getElem (by rw [hn.out]; exact hjn)⟩
      obtain ⟨a, rfl⟩ := hr.some_of (by rw [bcells_length, hn.out]; omega)
      have hc := hr.cell (j := j) (u := .int .u8 b.toNat) (by simp only [bcells, List.getElem?_map, hb]; rfl)
      have hb1 := b.toNat_lt
      have HB := hid hb; clear hb
      go_wp2_with fail
      have hlt : leV (xs.take j) < 256 ^ j := by
        have := leV_lt (xs.take j)
        rw [List.length_take, hn.out, Nat.min_eq_left (by omega)] at this; exact this
      have hst := or_step (leV (xs.take j)) b.toNat j hlt hb1 (by omega)
      have hsn : leV (xs.take (j + 1)) = leV (xs.take j) + b.toNat * 256 ^ j := by
        rw [take_snoc' HB.out, leV_snoc, List.length_take, hn.out, Nat.min_eq_left (by omega)]
      go_round
      case rel => exact ⟨j + 1, by omega, by go_num, by rw [hst, hsn]⟩
      case measure => simp [intOf]; omega
    · have : j = n := by omega
      subst this
      go_wp2_with fail
      go_ret
      rw [HF.out]
      refine ⟨?_, h1, f1⟩
      rw [List.take_of_length_le (by rw [hn.out]; exact Nat.le_refl _)]
      rfl

theorem rNum_lt (r : Rd) (n : Nat) : (rNum r n).2 < 256 ^ n := by
  have h1 := leV_lt (rTake r n).2
  have h3 : 256 ^ (rTake r n).2.length ≤ 256 ^ n := Nat.pow_le_pow_right (by omega) (rTake_len r n)
  unfold rNum; simp only; omega
theorem byteRd_calls (w : World) (S : Nat → Prop) (p : Nat) (r : Rd) (h : RdAt w S p r) :
    Calls Tryd.prog 33 #[.pointer (some ⟨p, 0, none⟩)] w (RPost w S p (rNum r 1).1 (.int .u8 ((rNum r 1).2 : Nat))) := by
  have hb : (rNum r 1).2 < 256 := rNum_lt r 1
  go_enter Tryd.func33, Tryd.ntmps33
  go_wp2_with fail
  refine (numRd_calls w S p r 1 h (by omega)).mono ?_
  rintro e w1 ⟨rfl, h1, f1⟩
  go_wp2_with fail
  go_ret
  exact ⟨rfl, h1, f1⟩
theorem twoRd_calls (w : World) (S : Nat → Prop) (p : Nat) (r : Rd) (h : RdAt w S p r) :
    Calls Tryd.prog 57 #[.pointer (some ⟨p, 0, none⟩)] w (RPost w S p (rNum r 2).1 (.int .u16 ((rNum r 2).2 : Nat))) := by
  have hb : (rNum r 2).2 < 65536 := rNum_lt r 2
  go_enter Tryd.func57, Tryd.ntmps57
  go_wp2_with fail
  refine (numRd_calls w S p r 2 h (by omega)).mono ?_
  rintro e w1 ⟨rfl, h1, f1⟩
  go_wp2_with fail
  go_ret
  exact ⟨rfl, h1, f1⟩
theorem eightRd_calls (w : World) (S : Nat → Prop) (p : Nat) (r : Rd) (h : RdAt w S p r) :
    Calls Tryd.prog 47 #[.pointer (some ⟨p, 0, none⟩)] w (RPost w S p (rNum r 8).1 (.int .u64 ((rNum r 8).2 : Nat))) := by
  go_enter Tryd.func47, Tryd.ntmps47
  go_wp2_with fail
  refine (numRd_calls w S p r 8 h (by omega)).mono ?_
  rintro e w1 ⟨rfl, h1, f1⟩
  go_wp2_with fail
  go_ret
  exact ⟨rfl, h1, f1⟩
theorem countRd_calls (w : World) (S : Nat → Prop) (p : Nat) (r : Rd) (most : Int) (h : RdAt w S p r) (hm1 : -9223372036854775808 ≤ most) (hm2 : most ≤ 9223372036854775807) :
    Calls Tryd.prog 66 #[.pointer (some ⟨p, 0, none⟩), .int .i64 most] w (RPost w S p (rCount r most).1 (.int .i64 ((rCount r most).2 : Nat))) := by
  have hb : (rNum r 2).2 < 65536 := rNum_lt r 2
  have HF : Hid (rCount r most = if max 0 most < ((rNum r 2).2 : Int) then (rFail (rNum r 2).1 3, 0) else ((rNum r 2).1, (rNum r 2).2)) := rfl
  have hc := twoRd_calls w S p r h
  generalize (rNum r 2).1 = r1 at *
  generalize (rNum r 2).2 = x at *
  by_cases hx : max 0 most < (x : Int)
  · rw [if_pos hx] at HF
    go_enter Tryd.func66, Tryd.ntmps66
    go_wp2_with fail
    refine hc.mono ?_
    rintro e w1 ⟨rfl, h1, f1⟩
    go_wp2_with fail
    all_goals
      refine (fail_calls w1 S p r1 3 h1).mono ?_
      rintro e w2 ⟨rfl, h2, f2⟩
      go_wp2_with fail
      go_ret
      rw [HF.out]
      exact ⟨rfl, h2, f1.then' f2⟩
  · rw [if_neg hx] at HF
    go_enter Tryd.func66, Tryd.ntmps66
    go_wp2_with fail
    refine hc.mono ?_
    rintro e w1 ⟨rfl, h1, f1⟩
    go_wp2_with fail
    all_goals
      go_ret
      rw [HF.out]
      exact ⟨rfl, h1, f1⟩
theorem textRd_calls (w : World) (S : Nat → Prop) (p : Nat) (r : Rd) (most : Int) (h : RdAt w S p r) (hm1 : -9223372036854775808 ≤ most) (hm2 : most ≤ 9223372036854775807) :
    Calls Tryd.prog 48 #[.pointer (some ⟨p, 0, none⟩), .int .i64 most] w (RPost w S p (rText r most).1 (.string (mkS (rText r most).2))) := by
  have hc := countRd_calls w S p r most h hm1 hm2
  have HF : Hid (rText r most = ((rTake (rCount r most).1 (rCount r most).2).1, (rTake (rCount r most).1 (rCount r most).2).2)) := rfl
  generalize (rCount r most).1 = r1 at *
  generalize (rCount r most).2 = x at *
  go_enter Tryd.func48, Tryd.ntmps48
  go_wp2_with fail
  refine hc.mono ?_
  rintro e w1 ⟨rfl, h1, f1⟩
  go_wp2_with fail
  refine (take_calls w1 S p r1 x h1).mono ?_
  rintro e w2 ⟨A, n, c, rfl, hn, hr, hA, hm, h2, f2⟩
  have hcv := Tryd.toStr hr hn.out c
  clear hr hA
  go_wp2_with fail
  go_ret
  rw [HF.out]
  exact ⟨rfl, h2, f1.then' f2⟩
/-- Raw hands back new bytes. -/
def RawPost (w : World) (S : Nat → Prop) (p : Nat) (r : Rd) (xs : List UInt8) (e : Ending) (w' : World) : Prop :=
  ∃ A n c, e = .returned (.slice A n c) ∧ Hid (xs.length = n) ∧ w'.ownsRow w.heap.size 5 1 (.slice A n c) n (bcells xs) ∧ RdAt w' S p r ∧ Fr S w w'
theorem leftRd_calls (w : World) (S : Nat → Prop) (p : Nat) (r : Rd) (h : RdAt w S p r) :
    Calls Tryd.prog 28 #[.pointer (some ⟨p, 0, none⟩)] w (fun e w' => e = .returned (.int .i64 r.bs.length) ∧ w = w') := by
  obtain ⟨A, n, c, T, h⟩ := h
  obtain ⟨c0, c1, z0, z1⟩ := h.cells
  have HL := h.len
  go_enter Tryd.func28, Tryd.ntmps28
  go_wp2_with fail
  go_ret
  exact ⟨by rw [HL.out]; rfl, rfl⟩
theorem errRd_calls (w : World) (S : Nat → Prop) (p : Nat) (r : Rd) (h : RdAt w S p r) :
    Calls Tryd.prog 27 #[.pointer (some ⟨p, 0, none⟩)] w (fun e w' => e = .returned (.int .i64 (r.e : Nat)) ∧ w = w') := by
  obtain ⟨A, n, c, T, h⟩ := h
  obtain ⟨c0, c1, z0, z1⟩ := h.cells
  go_enter Tryd.func27, Tryd.ntmps27
  go_wp2_with fail
  go_ret
  exact ⟨rfl, rfl⟩
theorem endRd_calls (w : World) (S : Nat → Prop) (p : Nat) (r : Rd) (h : RdAt w S p r) :
    Calls Tryd.prog 36 #[.pointer (some ⟨p, 0, none⟩)] w (fun e w' => e = .returned (.int .i64 (rEnd r : Nat)) ∧ w = w') := by
  obtain ⟨A, n, c, T, h⟩ := h
  obtain ⟨c0, c1, z0, z1⟩ := h.cells
  have hmx := h.max
  have hcp := h.cap
  have HL := h.len
  by_cases e0 : r.e = 0
  · have t0 : ((r.e : Int) == 0) = true := by simp; exact e0
    by_cases n0 : 0 < n
    · have HF : Hid (rEnd r = 3) := by unfold Hid rEnd; rw [if_pos ⟨e0, by rw [HL.out]; exact n0⟩]
      have E0 := hid e0; clear e0
      go_enter Tryd.func36, Tryd.ntmps36
      go_wp2_with fail
      go_ret
      exact ⟨by rw [HF.out]; rfl, rfl⟩
    · have HF : Hid (rEnd r = r.e) := by unfold Hid rEnd; rw [if_neg (fun h => n0 (by rw [← HL.out]; exact h.2))]
      have E0 := hid e0; clear e0
      go_enter Tryd.func36, Tryd.ntmps36
      go_wp2_with fail
      go_ret
      exact ⟨by rw [HF.out]; rfl, rfl⟩
  · have t0 : ((r.e : Int) == 0) = false := by simp; exact e0
    have HF : Hid (rEnd r = r.e) := by unfold Hid rEnd; rw [if_neg (fun h => e0 h.1)]
    have E0 := hid e0; clear e0
    go_enter Tryd.func36, Tryd.ntmps36
    go_wp2_with fail
    go_ret
    exact ⟨by rw [HF.out]; rfl, rfl⟩
end Go.Proofs.YtdngcheimohamaaDoor
/- octet.Of, and a Reader's Row. -/
namespace Go.Proofs.YtdngcheimohamaaDoor
open Go.RowKit

theorem Tryd.appS : AppTy Tryd.prog 30 9 (.string ⟨#[]⟩) 1 16 := ⟨Tryd.underlying30, by kernel_rfl, rfl, by decide⟩
def rTexts (r : Rd) (long : Int) : Nat → Rd × List ByteArray
  | 0 => (r, [])
  | n + 1 => ((rText (rTexts r long n).1 long).1, (rTexts r long n).2 ++ [mkS (rText (rTexts r long n).1 long).2])
theorem rTexts_len (r : Rd) (long : Int) (n : Nat) : (rTexts r long n).2.length = n := by induction n <;> simp [rTexts, *]
def rRow (r : Rd) (most long : Int) : Rd × List ByteArray :=
  ((rTexts (rCount r most).1 long (rCount r most).2).1, if (rTexts (rCount r most).1 long (rCount r most).2).1.e = 0 then (rTexts (rCount r most).1 long (rCount r most).2).2 else [])

def OfPost (w : World) (bs : List UInt8) (e : Ending) (w' : World) : Prop := ∃ p, e = .returned (.pointer (some ⟨p, 0, none⟩)) ∧ w.heap.size ≤ p ∧ p < w'.heap.size ∧ RdAt w' (upB w.heap.size) p ⟨bs, 0⟩ ∧ Fr noB w w'
theorem of_calls (w : World) (B : Option Addr) (n cap : Nat) (xs : List UInt8) (hx : RowAt w B (bcells xs)) (hn : xs.length = n) (hB : B = none → n = 0 ∧ cap = 0) (hl : n ≤ 1000000000000) :
    Calls Tryd.prog 24 #[.slice B n cap] w (OfPost w xs) := by
  have HL := hid hl; clear hl
  have HN := hid hn; clear hn
  go_enter Tryd.func24, Tryd.ntmps24
  go_wp2_with fail
  refine (clone_calls w B n cap xs hx HN.out hB HL.out).mono ?_
  rintro e w1 ⟨A, c, rfl, h1, f1, hA⟩
  go_wp2_with fail
  go_ret
  have hz := f1.size
  refine ⟨w1.heap.size, rfl, hz, by simp, ⟨A, n, c, _, HN.out, heap_alloc_new w1 _, (own_row h1).fr0 ((Fr.refl noB _).alloc _), ?_, ?_, fun e => ?_, hz, fun h0 a e => ?_, fun h => absurd rfl h⟩, f1.alloc _⟩
  · rcases h1.2 with ⟨e, e2⟩ | ⟨g, cp, cur, e, _, _, h2, _⟩
    · omega
    · cases e; exact h2
  · rcases h1.2 with ⟨e, e2⟩ | ⟨g, cp, cur, e, _, _, _, h2, _⟩
    · cases e; omega
    · cases e; unfold maxLen at h2; omega
  · subst e
    rcases h1.2 with ⟨e, e2⟩ | ⟨g, cp, cur, e, _⟩
    · cases e; exact ⟨rfl, rfl⟩
    · cases e
  · subst e
    have := h1.lt a.block rfl
    exact ⟨this.1, by omega⟩

def RowPost (w : World) (S : Nat → Prop) (p : Nat) (r : Rd) (ss : List ByteArray) (e : Ending) (w' : World) : Prop :=
  ∃ A n c, e = .returned (.slice A n c) ∧ Hid (ss.length = n) ∧ w'.ownsRow w.heap.size 9 1 (.slice A n c) n (strs ss) ∧ RdAt w' S p r ∧ Fr S w w'
end Go.Proofs.YtdngcheimohamaaDoor
/- op.text, (*op.Op).read. -/
namespace Go.Proofs.YtdngcheimohamaaDoor
open Go.RowKit

theorem optext_calls (w : World) (S : Nat → Prop) (p : Nat) (r : Rd) (h : RdAt w S p r) : Calls Tryd.prog 70 #[.pointer (some ⟨p, 0, none⟩)] w (RPost w S p (rText r 65535).1 (.string (mkS (rText r 65535).2))) := by
  go_enter Tryd.func70, Tryd.ntmps70
  go_wp2_with fail
  refine (textRd_calls w S p r 65535 h (by decide) (by decide)).mono ?_
  rintro e w1 ⟨rfl, h1, f1⟩
  go_wp2_with fail
  go_ret
  exact ⟨rfl, h1, f1⟩
theorem RdAt.inn {w : World} {S : Nat → Prop} {p : Nat} {r : Rd} (h : RdAt w S p r) : RdAt w (fun k => S k ∧ k < w.heap.size) p r := by
  obtain ⟨A, n, c, T, h⟩ := h
  refine ⟨A, n, c, T, h.len, h.heap, h.row, h.cap, h.max, h.nil, ⟨h.inS, (Array.getElem?_eq_some_iff.1 h.heap).1⟩, fun h0 a e => ?_, h.err⟩
  obtain ⟨h1, h2⟩ := h.rowS h0 a e
  subst e
  exact ⟨⟨h1, h.row.lt (by rw [bcells_length, h.len.out]; exact h0)⟩, h2⟩
/-- One of a sign's parts, as it is read. -/
def rdPart (o : OpV) (r : Rd) (c : UInt8) : OpV × Rd :=
  if c = 97 then ({o with a := mkS (rText r 65535).2}, (rText r 65535).1) else if c = 98 then ({o with b := mkS (rText r 65535).2}, (rText r 65535).1)
  else if c = 110 then ({o with n := (rNum r 1).2}, (rNum r 1).1) else if c = 114 then ({o with r := (rNum r 1).2}, (rNum r 1).1) else (o, r)
def rdSign (s : OpV × Rd) (c : UInt8) : OpV × Rd := ((rdPart s.1 s.2 c).1, if (rdPart s.1 s.2 c).2.e = 0 ∧ rightV (rdPart s.1 s.2 c).1 c = false then rFail (rdPart s.1 s.2 c).2 4 else (rdPart s.1 s.2 c).2)
def orB (S : Nat → Prop) (p : Nat) : Nat → Prop := fun k => S k ∨ k = p
def SignPost (w : World) (S : Nat → Prop) (po p : Nat) (s : OpV × Rd) (e : Ending) (w' : World) : Prop :=
  e = .returned (.tuple #[]) ∧ BlkAt w' po 24 s.1.C ∧ RdAt w' S p s.2 ∧ Fr (orB S po) w w'
theorem rdSign_keep {o o' : OpV} {r r' : Rd} {c : UInt8} (h : rdPart o r c = (o', r')) (hk : r'.e ≠ 0 ∨ rightV o' c = true) : rdSign (o, r) c = (o', r') := by
  unfold rdSign; rw [h]
  rw [if_neg]
  rintro ⟨h1, h2⟩
  rcases hk with hk | hk
  · exact hk h1
  · simp only [] at h2; rw [hk] at h2; cases h2
theorem rdSign_fail {o o' : OpV} {r r' : Rd} {c : UInt8} (h : rdPart o r c = (o', r')) (h1 : r'.e = 0) (h2 : rightV o' c = false) : rdSign (o, r) c = (o', rFail r' 4) := by
  unfold rdSign; rw [h]
  rw [if_pos ⟨h1, h2⟩]

set_option maxHeartbeats 1600000 in
theorem opread97_calls (w : World) (S : Nat → Prop) (po p : Nat) (o : OpV) (r : Rd) (hb : BlkAt w po 24 o.C) (h : RdAt w S p r) (hS : ¬ S po) :
    Calls Tryd.prog 67 #[.pointer (some ⟨po, 0, none⟩), .pointer (some ⟨p, 0, none⟩), .int .u8 97] w (SignPost w S po p (rdSign (o, r) 97)) := by
  obtain ⟨k, a, b, n, q⟩ := o
  have HP : Hid (rdPart ⟨k, a, b, n, q⟩ r 97 = (⟨k, mkS (rText r 65535).2, b, n, q⟩, (rText r 65535).1)) := rfl
  have hcl := optext_calls w S p r h
  generalize (rText r 65535) = rr at *
  obtain ⟨r1, x⟩ := rr
  simp only [] at *
  have xf : w.frozen? ⟨po, 1, none⟩ = false := hb.free _
  have x0 := hb.cell (k := 1) (v := .string a) rfl
  go_enter Tryd.func67, Tryd.ntmps67
  go_wp2_with fail
  refine hcl.mono ?_
  rintro e w1 ⟨rfl, h1, f1⟩
  have hb1 := hb.fr f1 hS
  have yf : w1.frozen? ⟨po, 1, none⟩ = false := hb1.free _
  have y0 := hb1.cell (k := 1) (v := .string a) rfl
  have fs := fr_set1 w1 po 1 (.string (mkS x))
  have hb2 : BlkAt (w1.setCell ⟨po, 1, none⟩ (.string (mkS x))) po 24 (⟨k, mkS x, b, n, q⟩ : OpV).C := by simpa [OpV.C] using hb1.set 1 (.string (mkS x))
  have h2 := h1.fr fs (fun j hj hs e => hS (by unfold eqB at e; exact e ▸ hs))
  have F : Fr (orB S po) w (w1.setCell ⟨po, 1, none⟩ (.string (mkS x))) := (f1.mono fun _ _ h => Or.inl h).then' (fs.mono fun _ _ h => Or.inr h)
  clear f1 h1 hb1 fs hcl hb h x0 xf
  go_wp2_with fail
  generalize (w1.setCell ⟨po, 1, none⟩ (.string (mkS x))) = w2 at *
  have hE := errRd_calls w2 S p r1 h2
  by_cases he : r1.e = 0
  · rw [he] at hE
    refine hE.mono ?_
    rintro e w3 ⟨rfl, rfl⟩
    have z0 := hb2.cell (k := 0) (v := .int .u8 k) rfl
    have z1 := hb2.cell (k := 1) (v := .string (mkS x)) rfl
    have z2 := hb2.cell (k := 2) (v := .string b) rfl
    have z3 := hb2.cell (k := 3) (v := .int .u8 n) rfl
    have z4 := hb2.cell (k := 4) (v := .int .u8 q) rfl
    have hr := right_calls w2 ⟨k, mkS x, b, n, q⟩ 97
    cases hv : rightV ⟨k, mkS x, b, n, q⟩ 97
    · rw [hv] at hr
      have HE := hid (rdSign_fail HP.out he hv)
      clear he hE hv
      go_wp2_with fail
      refine hr.mono ?_
      rintro e w4 ⟨rfl, f4⟩
      have hb4 := hb2.fr f4 id
      have h4 := h2.fr f4 (fun _ _ _ => id)
      have F4 := F.then' (f4.mono (T := orB S po) fun _ _ h => h.elim)
      clear hr z0 z1 z2 z3 z4 hb2 h2 F f4
      go_wp2_with fail
      refine (fail_calls w4 S p r1 4 h4).mono ?_
      rintro e w5 ⟨rfl, h5, f5⟩
      have hb5 := hb4.fr f5 hS
      have F5 := F4.then' (f5.mono (T := orB S po) fun _ _ h => Or.inl h)
      clear hb4 h4 F4 f5
      go_wp2_with fail
      go_end0
      rw [HE.out]
      exact ⟨rfl, hb5, h5, F5⟩
    · rw [hv] at hr
      have HE := hid (rdSign_keep HP.out (Or.inr hv))
      clear he hE hv
      go_wp2_with fail
      refine hr.mono ?_
      rintro e w4 ⟨rfl, f4⟩
      have hb4 := hb2.fr f4 id
      have h4 := h2.fr f4 (fun _ _ _ => id)
      have F4 := F.then' (f4.mono (T := orB S po) fun _ _ h => h.elim)
      clear hr z0 z1 z2 z3 z4 hb2 h2 F f4
      go_wp2_with fail
      go_end0
      rw [HE.out]
      exact ⟨rfl, hb4, h4, F4⟩
  · have t1 : ((r1.e : Int) == 0) = false := by rw [beq_eq_false_iff_ne]; omega
    have HE := hid (rdSign_keep HP.out (Or.inl he))
    generalize hre : (r1.e : Int) = re at *
    have HRE := hid hre
    clear he hre
    refine hE.mono ?_
    rintro e w3 ⟨rfl, rfl⟩
    clear hE
    go_wp2_with fail
    go_end0
    rw [HE.out]
    exact ⟨rfl, hb2, h2, F⟩

set_option maxHeartbeats 1600000 in
theorem opread98_calls (w : World) (S : Nat → Prop) (po p : Nat) (o : OpV) (r : Rd) (hb : BlkAt w po 24 o.C) (h : RdAt w S p r) (hS : ¬ S po) :
    Calls Tryd.prog 67 #[.pointer (some ⟨po, 0, none⟩), .pointer (some ⟨p, 0, none⟩), .int .u8 98] w (SignPost w S po p (rdSign (o, r) 98)) := by
  obtain ⟨k, a, b, n, q⟩ := o
  have HP : Hid (rdPart ⟨k, a, b, n, q⟩ r 98 = (⟨k, a, mkS (rText r 65535).2, n, q⟩, (rText r 65535).1)) := rfl
  have hcl := optext_calls w S p r h
  generalize (rText r 65535) = rr at *
  obtain ⟨r1, x⟩ := rr
  simp only [] at *
  have xf : w.frozen? ⟨po, 2, none⟩ = false := hb.free _
  have x0 := hb.cell (k := 2) (v := .string b) rfl
  go_enter Tryd.func67, Tryd.ntmps67
  go_wp2_with fail
  refine hcl.mono ?_
  rintro e w1 ⟨rfl, h1, f1⟩
  have hb1 := hb.fr f1 hS
  have yf : w1.frozen? ⟨po, 2, none⟩ = false := hb1.free _
  have y0 := hb1.cell (k := 2) (v := .string b) rfl
  have fs := fr_set1 w1 po 2 (.string (mkS x))
  have hb2 : BlkAt (w1.setCell ⟨po, 2, none⟩ (.string (mkS x))) po 24 (⟨k, a, mkS x, n, q⟩ : OpV).C := by simpa [OpV.C] using hb1.set 2 (.string (mkS x))
  have h2 := h1.fr fs (fun j hj hs e => hS (by unfold eqB at e; exact e ▸ hs))
  have F : Fr (orB S po) w (w1.setCell ⟨po, 2, none⟩ (.string (mkS x))) := (f1.mono fun _ _ h => Or.inl h).then' (fs.mono fun _ _ h => Or.inr h)
  clear f1 h1 hb1 fs hcl hb h x0 xf
  go_wp2_with fail
  generalize (w1.setCell ⟨po, 2, none⟩ (.string (mkS x))) = w2 at *
  have hE := errRd_calls w2 S p r1 h2
  by_cases he : r1.e = 0
  · rw [he] at hE
    refine hE.mono ?_
    rintro e w3 ⟨rfl, rfl⟩
    have z0 := hb2.cell (k := 0) (v := .int .u8 k) rfl
    have z1 := hb2.cell (k := 1) (v := .string a) rfl
    have z2 := hb2.cell (k := 2) (v := .string (mkS x)) rfl
    have z3 := hb2.cell (k := 3) (v := .int .u8 n) rfl
    have z4 := hb2.cell (k := 4) (v := .int .u8 q) rfl
    have hr := right_calls w2 ⟨k, a, mkS x, n, q⟩ 98
    cases hv : rightV ⟨k, a, mkS x, n, q⟩ 98
    · rw [hv] at hr
      have HE := hid (rdSign_fail HP.out he hv)
      clear he hE hv
      go_wp2_with fail
      refine hr.mono ?_
      rintro e w4 ⟨rfl, f4⟩
      have hb4 := hb2.fr f4 id
      have h4 := h2.fr f4 (fun _ _ _ => id)
      have F4 := F.then' (f4.mono (T := orB S po) fun _ _ h => h.elim)
      clear hr z0 z1 z2 z3 z4 hb2 h2 F f4
      go_wp2_with fail
      refine (fail_calls w4 S p r1 4 h4).mono ?_
      rintro e w5 ⟨rfl, h5, f5⟩
      have hb5 := hb4.fr f5 hS
      have F5 := F4.then' (f5.mono (T := orB S po) fun _ _ h => Or.inl h)
      clear hb4 h4 F4 f5
      go_wp2_with fail
      go_end0
      rw [HE.out]
      exact ⟨rfl, hb5, h5, F5⟩
    · rw [hv] at hr
      have HE := hid (rdSign_keep HP.out (Or.inr hv))
      clear he hE hv
      go_wp2_with fail
      refine hr.mono ?_
      rintro e w4 ⟨rfl, f4⟩
      have hb4 := hb2.fr f4 id
      have h4 := h2.fr f4 (fun _ _ _ => id)
      have F4 := F.then' (f4.mono (T := orB S po) fun _ _ h => h.elim)
      clear hr z0 z1 z2 z3 z4 hb2 h2 F f4
      go_wp2_with fail
      go_end0
      rw [HE.out]
      exact ⟨rfl, hb4, h4, F4⟩
  · have t1 : ((r1.e : Int) == 0) = false := by rw [beq_eq_false_iff_ne]; omega
    have HE := hid (rdSign_keep HP.out (Or.inl he))
    generalize hre : (r1.e : Int) = re at *
    have HRE := hid hre
    clear he hre
    refine hE.mono ?_
    rintro e w3 ⟨rfl, rfl⟩
    clear hE
    go_wp2_with fail
    go_end0
    rw [HE.out]
    exact ⟨rfl, hb2, h2, F⟩

set_option maxHeartbeats 1600000 in
theorem opread110_calls (w : World) (S : Nat → Prop) (po p : Nat) (o : OpV) (r : Rd) (hb : BlkAt w po 24 o.C) (h : RdAt w S p r) (hS : ¬ S po) :
    Calls Tryd.prog 67 #[.pointer (some ⟨po, 0, none⟩), .pointer (some ⟨p, 0, none⟩), .int .u8 110] w (SignPost w S po p (rdSign (o, r) 110)) := by
  obtain ⟨k, a, b, n, q⟩ := o
  have HP : Hid (rdPart ⟨k, a, b, n, q⟩ r 110 = (⟨k, a, b, (rNum r 1).2, q⟩, (rNum r 1).1)) := rfl
  have hcl := byteRd_calls w S p r h
  generalize (rNum r 1) = rr at *
  obtain ⟨r1, x⟩ := rr
  simp only [] at *
  have xf : w.frozen? ⟨po, 3, none⟩ = false := hb.free _
  have x0 := hb.cell (k := 3) (v := .int .u8 n) rfl
  go_enter Tryd.func67, Tryd.ntmps67
  go_wp2_with fail
  refine hcl.mono ?_
  rintro e w1 ⟨rfl, h1, f1⟩
  have hb1 := hb.fr f1 hS
  have yf : w1.frozen? ⟨po, 3, none⟩ = false := hb1.free _
  have y0 := hb1.cell (k := 3) (v := .int .u8 n) rfl
  have fs := fr_set1 w1 po 3 (.int .u8 (x : Nat))
  have hb2 : BlkAt (w1.setCell ⟨po, 3, none⟩ (.int .u8 (x : Nat))) po 24 (⟨k, a, b, x, q⟩ : OpV).C := by simpa [OpV.C] using hb1.set 3 (.int .u8 (x : Nat))
  have h2 := h1.fr fs (fun j hj hs e => hS (by unfold eqB at e; exact e ▸ hs))
  have F : Fr (orB S po) w (w1.setCell ⟨po, 3, none⟩ (.int .u8 (x : Nat))) := (f1.mono fun _ _ h => Or.inl h).then' (fs.mono fun _ _ h => Or.inr h)
  clear f1 h1 hb1 fs hcl hb h x0 xf
  go_wp2_with fail
  generalize (w1.setCell ⟨po, 3, none⟩ (.int .u8 (x : Nat))) = w2 at *
  have hE := errRd_calls w2 S p r1 h2
  by_cases he : r1.e = 0
  · rw [he] at hE
    refine hE.mono ?_
    rintro e w3 ⟨rfl, rfl⟩
    have z0 := hb2.cell (k := 0) (v := .int .u8 k) rfl
    have z1 := hb2.cell (k := 1) (v := .string a) rfl
    have z2 := hb2.cell (k := 2) (v := .string b) rfl
    have z3 := hb2.cell (k := 3) (v := .int .u8 x) rfl
    have z4 := hb2.cell (k := 4) (v := .int .u8 q) rfl
    have hr := right_calls w2 ⟨k, a, b, x, q⟩ 110
    cases hv : rightV ⟨k, a, b, x, q⟩ 110
    · rw [hv] at hr
      have HE := hid (rdSign_fail HP.out he hv)
      clear he hE hv
      go_wp2_with fail
      refine hr.mono ?_
      rintro e w4 ⟨rfl, f4⟩
      have hb4 := hb2.fr f4 id
      have h4 := h2.fr f4 (fun _ _ _ => id)
      have F4 := F.then' (f4.mono (T := orB S po) fun _ _ h => h.elim)
      clear hr z0 z1 z2 z3 z4 hb2 h2 F f4
      go_wp2_with fail
      refine (fail_calls w4 S p r1 4 h4).mono ?_
      rintro e w5 ⟨rfl, h5, f5⟩
      have hb5 := hb4.fr f5 hS
      have F5 := F4.then' (f5.mono (T := orB S po) fun _ _ h => Or.inl h)
      clear hb4 h4 F4 f5
      go_wp2_with fail
      go_end0
      rw [HE.out]
      exact ⟨rfl, hb5, h5, F5⟩
    · rw [hv] at hr
      have HE := hid (rdSign_keep HP.out (Or.inr hv))
      clear he hE hv
      go_wp2_with fail
      refine hr.mono ?_
      rintro e w4 ⟨rfl, f4⟩
      have hb4 := hb2.fr f4 id
      have h4 := h2.fr f4 (fun _ _ _ => id)
      have F4 := F.then' (f4.mono (T := orB S po) fun _ _ h => h.elim)
      clear hr z0 z1 z2 z3 z4 hb2 h2 F f4
      go_wp2_with fail
      go_end0
      rw [HE.out]
      exact ⟨rfl, hb4, h4, F4⟩
  · have t1 : ((r1.e : Int) == 0) = false := by rw [beq_eq_false_iff_ne]; omega
    have HE := hid (rdSign_keep HP.out (Or.inl he))
    generalize hre : (r1.e : Int) = re at *
    have HRE := hid hre
    clear he hre
    refine hE.mono ?_
    rintro e w3 ⟨rfl, rfl⟩
    clear hE
    go_wp2_with fail
    go_end0
    rw [HE.out]
    exact ⟨rfl, hb2, h2, F⟩

set_option maxHeartbeats 1600000 in
theorem opread114_calls (w : World) (S : Nat → Prop) (po p : Nat) (o : OpV) (r : Rd) (hb : BlkAt w po 24 o.C) (h : RdAt w S p r) (hS : ¬ S po) :
    Calls Tryd.prog 67 #[.pointer (some ⟨po, 0, none⟩), .pointer (some ⟨p, 0, none⟩), .int .u8 114] w (SignPost w S po p (rdSign (o, r) 114)) := by
  obtain ⟨k, a, b, n, q⟩ := o
  have HP : Hid (rdPart ⟨k, a, b, n, q⟩ r 114 = (⟨k, a, b, n, (rNum r 1).2⟩, (rNum r 1).1)) := rfl
  have hcl := byteRd_calls w S p r h
  generalize (rNum r 1) = rr at *
  obtain ⟨r1, x⟩ := rr
  simp only [] at *
  have xf : w.frozen? ⟨po, 4, none⟩ = false := hb.free _
  have x0 := hb.cell (k := 4) (v := .int .u8 q) rfl
  go_enter Tryd.func67, Tryd.ntmps67
  go_wp2_with fail
  refine hcl.mono ?_
  rintro e w1 ⟨rfl, h1, f1⟩
  have hb1 := hb.fr f1 hS
  have yf : w1.frozen? ⟨po, 4, none⟩ = false := hb1.free _
  have y0 := hb1.cell (k := 4) (v := .int .u8 q) rfl
  have fs := fr_set1 w1 po 4 (.int .u8 (x : Nat))
  have hb2 : BlkAt (w1.setCell ⟨po, 4, none⟩ (.int .u8 (x : Nat))) po 24 (⟨k, a, b, n, x⟩ : OpV).C := by simpa [OpV.C] using hb1.set 4 (.int .u8 (x : Nat))
  have h2 := h1.fr fs (fun j hj hs e => hS (by unfold eqB at e; exact e ▸ hs))
  have F : Fr (orB S po) w (w1.setCell ⟨po, 4, none⟩ (.int .u8 (x : Nat))) := (f1.mono fun _ _ h => Or.inl h).then' (fs.mono fun _ _ h => Or.inr h)
  clear f1 h1 hb1 fs hcl hb h x0 xf
  go_wp2_with fail
  generalize (w1.setCell ⟨po, 4, none⟩ (.int .u8 (x : Nat))) = w2 at *
  have hE := errRd_calls w2 S p r1 h2
  by_cases he : r1.e = 0
  · rw [he] at hE
    refine hE.mono ?_
    rintro e w3 ⟨rfl, rfl⟩
    have z0 := hb2.cell (k := 0) (v := .int .u8 k) rfl
    have z1 := hb2.cell (k := 1) (v := .string a) rfl
    have z2 := hb2.cell (k := 2) (v := .string b) rfl
    have z3 := hb2.cell (k := 3) (v := .int .u8 n) rfl
    have z4 := hb2.cell (k := 4) (v := .int .u8 x) rfl
    have hr := right_calls w2 ⟨k, a, b, n, x⟩ 114
    cases hv : rightV ⟨k, a, b, n, x⟩ 114
    · rw [hv] at hr
      have HE := hid (rdSign_fail HP.out he hv)
      clear he hE hv
      go_wp2_with fail
      refine hr.mono ?_
      rintro e w4 ⟨rfl, f4⟩
      have hb4 := hb2.fr f4 id
      have h4 := h2.fr f4 (fun _ _ _ => id)
      have F4 := F.then' (f4.mono (T := orB S po) fun _ _ h => h.elim)
      clear hr z0 z1 z2 z3 z4 hb2 h2 F f4
      go_wp2_with fail
      refine (fail_calls w4 S p r1 4 h4).mono ?_
      rintro e w5 ⟨rfl, h5, f5⟩
      have hb5 := hb4.fr f5 hS
      have F5 := F4.then' (f5.mono (T := orB S po) fun _ _ h => Or.inl h)
      clear hb4 h4 F4 f5
      go_wp2_with fail
      go_end0
      rw [HE.out]
      exact ⟨rfl, hb5, h5, F5⟩
    · rw [hv] at hr
      have HE := hid (rdSign_keep HP.out (Or.inr hv))
      clear he hE hv
      go_wp2_with fail
      refine hr.mono ?_
      rintro e w4 ⟨rfl, f4⟩
      have hb4 := hb2.fr f4 id
      have h4 := h2.fr f4 (fun _ _ _ => id)
      have F4 := F.then' (f4.mono (T := orB S po) fun _ _ h => h.elim)
      clear hr z0 z1 z2 z3 z4 hb2 h2 F f4
      go_wp2_with fail
      go_end0
      rw [HE.out]
      exact ⟨rfl, hb4, h4, F4⟩
  · have t1 : ((r1.e : Int) == 0) = false := by rw [beq_eq_false_iff_ne]; omega
    have HE := hid (rdSign_keep HP.out (Or.inl he))
    generalize hre : (r1.e : Int) = re at *
    have HRE := hid hre
    clear he hre
    refine hE.mono ?_
    rintro e w3 ⟨rfl, rfl⟩
    clear hE
    go_wp2_with fail
    go_end0
    rw [HE.out]
    exact ⟨rfl, hb2, h2, F⟩
theorem opread_calls (w : World) (S : Nat → Prop) (po p : Nat) (o : OpV) (r : Rd) (c : UInt8) (hb : BlkAt w po 24 o.C) (h : RdAt w S p r) (hS : ¬ S po) (hc : c = 97 ∨ c = 98 ∨ c = 110 ∨ c = 114) :
    Calls Tryd.prog 67 #[.pointer (some ⟨po, 0, none⟩), .pointer (some ⟨p, 0, none⟩), .int .u8 c.toNat] w (SignPost w S po p (rdSign (o, r) c)) := by
  rcases hc with rfl | rfl | rfl | rfl
  · exact opread97_calls w S po p o r hb h hS
  · exact opread98_calls w S po p o r hb h hS
  · exact opread110_calls w S po p o r hb h hS
  · exact opread114_calls w S po p o r hb h hS
end Go.Proofs.YtdngcheimohamaaDoor
/- op.Read. -/
namespace Go.Proofs.YtdngcheimohamaaDoor
open Go.RowKit

def zeroOp : OpV := ⟨0, ⟨#[]⟩, ⟨#[]⟩, 0, 0⟩
def opRd (bs : List UInt8) : Rd × Nat := rNum ⟨bs, 0⟩ 1
def opIn (bs : List UInt8) : OpV × Rd := if (opRd bs).1.e = 0 then (signsL.getD (opRd bs).2 []).foldl rdSign (⟨(opRd bs).2, ⟨#[]⟩, ⟨#[]⟩, 0, 0⟩, (opRd bs).1) else (⟨(opRd bs).2, ⟨#[]⟩, ⟨#[]⟩, 0, 0⟩, (opRd bs).1)
/-- op.Read, as a function. -/
def opRead (bs : List UInt8) : OpV × Nat :=
  if 64 < bs.length then (zeroOp, 3) else if 17 ≤ (opRd bs).2 then (zeroOp, 4) else if rEnd (opIn bs).2 = 0 then ((opIn bs).1, 0) else (zeroOp, rEnd (opIn bs).2)
def OpEPost (w : World) (q : OpV × Nat) (e : Ending) (w' : World) : Prop := e = .returned (.tuple #[q.1.v, .int .i64 (q.2 : Nat)]) ∧ Fr noB w w'
theorem rdSigns_snoc (s : OpV × Rd) {z : List UInt8} {k : Nat} {c : UInt8} (hc : z[k]? = some c) : (z.take (k + 1)).foldl rdSign s = rdSign ((z.take k).foldl rdSign s) c := by
  rw [take_snoc' hc, List.foldl_append]; rfl
theorem fr_set5 (w : World) (b : Nat) (u0 u1 u2 u3 u4 : Value) : Fr (eqB b) w (((((w.setCell ⟨b, 0, none⟩ u0).setCell ⟨b, 1, none⟩ u1).setCell ⟨b, 2, none⟩ u2).setCell ⟨b, 3, none⟩ u3).setCell ⟨b, 4, none⟩ u4) :=
  ((((fr_set1 w b 0 u0).then' (fr_set1 _ b 1 u1)).then' (fr_set1 _ b 2 u2)).then' (fr_set1 _ b 3 u3)).then' (fr_set1 _ b 4 u4)

set_option maxRecDepth 100000 in
set_option maxHeartbeats 1600000 in
theorem opRead_calls (w : World) (A : Option Addr) (n c : Nat) (bs : List UInt8) (ht : SignsAt w) (hx : RowAt w A (bcells bs)) (hn : bs.length = n) (hB : A = none → n = 0 ∧ c = 0) :
    Calls Tryd.prog 49 #[.slice A n c] w (OpEPost w (opRead bs)) := by
  have hb0 : BlkAt (w.alloc (.cells #[.int .u8 0, .string ⟨#[]⟩, .string ⟨#[]⟩, .int .u8 0, .int .u8 0] 24)) w.heap.size 24 zeroOp.C := BlkAt.new _ _ _
  have f0 : Fr noB w (w.alloc (.cells #[.int .u8 0, .string ⟨#[]⟩, .string ⟨#[]⟩, .int .u8 0, .int .u8 0] 24)) := (Fr.refl noB w).alloc _
  have hz0 := al_size w (.cells #[.int .u8 0, .string ⟨#[]⟩, .string ⟨#[]⟩, .int .u8 0, .int .u8 0] 24)
  by_cases h64 : 64 < n
  · have d1 : decide ((64 : Int) < n) = true := decide_eq_true (by omega)
    have HV : Hid (opRead bs = (zeroOp, 3)) := by unfold Hid opRead; rw [if_pos (by omega)]
    clear hn h64
    go_enter Tryd.func49, Tryd.ntmps49
    go_wp2_with fail
    have hr : Tryd.f49.results = #[.cell 2 24, .tmp 3] := by kernel_rfl
    exact bodyPost_ret (v := .tuple #[zeroOp.v, .int .i64 3]) (by simp [results, hr, go_sem, zeroOp, OpV.v]) rfl ⟨by rw [HV.out]; rfl, f0⟩
  · have d1 : decide ((64 : Int) < n) = false := decide_eq_false (by omega)
    have hoc := of_calls (w.alloc (.cells #[.int .u8 0, .string ⟨#[]⟩, .string ⟨#[]⟩, .int .u8 0, .int .u8 0] 24)) A n c bs (hx.fr0 f0) hn hB (by omega)
    have HR : Hid (opRead bs = if 17 ≤ (opRd bs).2 then (zeroOp, 4) else if rEnd (opIn bs).2 = 0 then ((opIn bs).1, 0) else (zeroOp, rEnd (opIn bs).2)) := by
      show opRead bs = _
      conv => lhs; unfold opRead
      rw [if_neg (by omega)]
    clear hn h64 hx
    go_enter Tryd.func49, Tryd.ntmps49
    go_wp2_with fail
    refine hoc.mono ?_
    rintro e w1 ⟨p, rfl, hp1, hp2, h1, f1⟩
    have hi1 := h1.inn
    obtain ⟨S, hS, HSd⟩ : ∃ S : Nat → Prop, RdAt w1 S p ⟨bs, 0⟩ ∧ ∀ k, S k → w.heap.size < k ∧ k < w1.heap.size := ⟨_, hi1, fun k hk => by have := hk.1; unfold upB at this; omega⟩
    have hb1 := hb0.fr f1 id
    have F1 := f0.then' f1
    clear h1 hi1 f1 f0 hb0 hoc
    go_wp2_with fail
    refine (byteRd_calls w1 S p ⟨bs, 0⟩ hS).mono ?_
    have hk2 := rNum_lt ⟨bs, 0⟩ 1
    have HO : Hid (opRd bs = rNum ⟨bs, 0⟩ 1) := rfl
    generalize rNum ⟨bs, 0⟩ 1 = q at *
    obtain ⟨r, k⟩ := q
    simp only [] at *
    rintro e w2 ⟨rfl, h2, f2⟩
    have hb2 := hb1.fr f2 (fun h => by have := HSd _ h; omega)
    have F2 : Fr noB w w2 := F1.trans f2 (fun i hi h => by have := HSd _ h; omega)
    have hs2 := f2.size
    clear hS hb1 F1 f2
    have hbo : BlkAt (w2.alloc (.cells #[.int .u8 k, .string ⟨#[]⟩, .string ⟨#[]⟩, .int .u8 0, .int .u8 0] 24)) w2.heap.size 24 (⟨k, ⟨#[]⟩, ⟨#[]⟩, 0, 0⟩ : OpV).C := BlkAt.new _ _ _
    have hb3 := hb2.al (.cells #[.int .u8 k, .string ⟨#[]⟩, .string ⟨#[]⟩, .int .u8 0, .int .u8 0] 24)
    have h3 := h2.fr ((Fr.refl noB w2).alloc (.cells #[.int .u8 k, .string ⟨#[]⟩, .string ⟨#[]⟩, .int .u8 0, .int .u8 0] 24)) (fun _ _ _ => id)
    have F3 := F2.alloc (.cells #[.int .u8 k, .string ⟨#[]⟩, .string ⟨#[]⟩, .int .u8 0, .int .u8 0] 24)
    have hs3 := al_size w2 (.cells #[.int .u8 k, .string ⟨#[]⟩, .string ⟨#[]⟩, .int .u8 0, .int .u8 0] 24)
    obtain ⟨po, hpo⟩ : ∃ po, w2.heap.size = po := ⟨_, rfl⟩
    obtain ⟨y0, y1, y2, y3, y4, yf⟩ := BlkAt.c5 hb3
    clear hb2 h2 F2
    by_cases h17 : 17 ≤ k
    · have d2 : decide ((17 : Int) ≤ k) = true := decide_eq_true (by omega)
      rw [HO.out, if_pos h17] at HR
      clear h17 HO
      go_wp2_with fail
      generalize (w2.alloc (.cells #[.int .u8 k, .string ⟨#[]⟩, .string ⟨#[]⟩, .int .u8 0, .int .u8 0] 24)) = w3 at *
      have hr : Tryd.f49.results = #[.cell 2 24, .tmp 3] := by kernel_rfl
      exact bodyPost_ret (v := .tuple #[zeroOp.v, .int .i64 4]) (by simp [results, hr, go_sem, zeroOp, OpV.v, y0, y1, y2, y3, y4]) rfl ⟨by rw [HR.out]; rfl, F3.trans (fr_set5 w3 w.heap.size _ _ _ _ _) (fun i hi h => by unfold eqB at h; omega)⟩
    · have d2 : decide ((17 : Int) ≤ k) = false := decide_eq_false (by omega)
      rw [HO.out, if_neg h17] at HR
      obtain ⟨z, hz⟩ : ∃ z, signsL[k]? = some z := ⟨_, List.getElem?_eq_getElem (by simp [signsL]; omega)⟩
      have hok := signs_ok z (List.mem_of_getElem? hz)
      have hz2 := signs_two z (List.mem_of_getElem? hz)
      have hkb : 0 ≤ (k : Int) ∧ (k : Int) < 17 := ⟨by omega, by omega⟩
      have HI : Hid (opIn bs = if r.e = 0 then z.foldl rdSign (⟨k, ⟨#[]⟩, ⟨#[]⟩, 0, 0⟩, r) else (⟨k, ⟨#[]⟩, ⟨#[]⟩, 0, 0⟩, r)) := by
        show opIn bs = _
        unfold opIn; rw [HO.out, List.getD_eq_getElem?_getD, hz]; rfl
      have cz := F3.cell (ht k _ hz) id
      have hE := errRd_calls _ S p r h3
      have x0 := hbo.cell (k := 0) (v := .int .u8 k) rfl
      have hpS : ¬ S po := fun h => by have := HSd _ h; omega
      have hpw : w.heap.size < po := by have := F3.size; omega
      rw [hpo] at hbo hs3 x0
      have HZ := hid hz
      clear h17 HO hk2 hz
      go_wp2_with fail
      generalize (w2.alloc (.cells #[.int .u8 k, .string ⟨#[]⟩, .string ⟨#[]⟩, .int .u8 0, .int .u8 0] 24)) = w3 at *
      have hr : Hid (Tryd.f49.results = #[.cell 2 24, .tmp 3]) := by unfold Hid; kernel_rfl
      by_cases he : r.e = 0
      · rw [HI.out, if_pos he] at HR
        clear HI
        rw [he] at hE
        refine hE.mono ?_
        rintro e w4 ⟨rfl, rfl⟩
        have hcv := Tryd.fromStr w3 (mkS z)
        have hwf := bytesW_fr w3 (mkS z)
        have hwr := bytesW_row w3 (mkS z)
        rw [mkS_data] at hwr
        rw [mkS_size] at hcv
        generalize Lib.bytesWorld w3 5 (mkS z) = wc at *
        have had : ¬ orB S po (⟨w3.heap.size, 0, none⟩ : Addr).block := by
          rintro (h | h)
          · have := HSd _ h; simp only [] at this; omega
          · simp only [] at h; omega
        generalize (⟨w3.heap.size, 0, none⟩ : Addr) = ad at *
        have FC := F3.then' hwf
        have hbc := hbo.fr hwf id
        have hrc := h3.fr hwf (fun _ _ _ => id)
        have hb0 := hb3.fr hwf id
        obtain ⟨m, hm⟩ : ∃ m, z.length = m := ⟨_, rfl⟩
        rw [hm] at hcv hz2
        have HM := hid hm
        have hs4 := hwf.size
        clear hm hE hbo h3 hb3 hwf F3 he y0 y1 y2 y3 y4 yf hpo HZ hB ht
        go_wp2_with fail
        have HRW := hid hwr
        clear hwr hcv cz x0
        go_loopw [32] (fun i wr => ∃ j : Nat, j ≤ m ∧ i = .int .i64 j ∧ BlkAt wr po 24 ((z.take j).foldl rdSign (⟨k, ⟨#[]⟩, ⟨#[]⟩, 0, 0⟩, r)).1.C ∧ RdAt wr S p ((z.take j).foldl rdSign (⟨k, ⟨#[]⟩, ⟨#[]⟩, 0, 0⟩, r)).2 ∧ BlkAt wr w.heap.size 24 zeroOp.C ∧ Fr noB w wr ∧ RowAt wr (some ad) (bcells z)) (fun i _ => m - (intOf i).toNat)
        case atStart => exact ⟨0, Nat.zero_le _, rfl, hbc, hrc, hb0, FC, HRW.out⟩
        case round =>
          clear hbc hrc hb0 FC HRW
          obtain ⟨j, hj, rfl, hb1, hr1, hz1, hf, hrow⟩ := hrel
          by_cases hjm : j < m
          · obtain ⟨c, hc⟩ : ∃ c, z[j]? = some c := ⟨_, List.getElem?_eq_getElem (by rw [HM.out]; exact hjm)⟩
            have hcx : wr.cell? (ad.add j) = some (.int .u8 c.toNat) := hrow.cell (by unfold bcells; rw [List.getElem?_map, hc]; rfl)
            have HS := hid (rdSigns_snoc (⟨k, ⟨#[]⟩, ⟨#[]⟩, 0, 0⟩, r) hc)
            have hc4 := hok c (List.mem_of_getElem? hc)
            generalize (z.take j).foldl rdSign (⟨k, ⟨#[]⟩, ⟨#[]⟩, 0, 0⟩, r) = s at *
            obtain ⟨o', r'⟩ := s
            have HN := hid hc
            clear hc
            go_wp2_with fail
            refine (opread_calls wr S po p o' r' c hb1 hr1 hpS hc4).mono ?_
            rintro e w5 ⟨rfl, hb5, hr5, f5⟩
            have hz5 := hz1.fr f5 (by
              rintro (h | h)
              · have := HSd _ h; omega
              · omega)
            have F5 := hf.trans f5 (fun i hi h => by
              rcases h with h | h
              · have := HSd _ h; omega
              · omega)
            have hrow5 := hrow.fr f5 (fun a e _ _ => by cases e; exact had)
            clear f5 hb1 hr1 hz1 hf hrow hcx
            go_wp2_with fail
            go_roundw
            case rel => exact ⟨j + 1, by omega, by go_num, by rw [HS.out]; exact hb5, by rw [HS.out]; exact hr5, hz5, F5, hrow5⟩
            case measure => simp [intOf]; omega
          · have : j = m := by omega
            subst this
            rw [List.take_of_length_le (by rw [HM.out]; exact Nat.le_refl _)] at hb1 hr1
            generalize z.foldl rdSign (⟨k, ⟨#[]⟩, ⟨#[]⟩, 0, 0⟩, r) = s at *
            obtain ⟨o', r'⟩ := s
            simp only [] at hb1 hr1 HR
            clear hrow
            have hE := endRd_calls wr S p r' hr1
            by_cases h0 : rEnd r' = 0
            · rw [if_pos h0] at HR
              rw [h0] at hE
              obtain ⟨q0, q1, q2, q3, q4, qf⟩ := BlkAt.c5 hb1
              obtain ⟨y0, y1, y2, y3, y4, yf⟩ := BlkAt.c5 hz1
              have FF := hf.trans (fr_set5 wr w.heap.size (.int .u8 o'.k) (.string o'.a) (.string o'.b) (.int .u8 o'.n) (.int .u8 o'.r)) (fun i hi h => by unfold eqB at h; omega)
              clear h0
              go_wp2_with fail
              refine hE.mono ?_
              rintro e w6 ⟨rfl, rfl⟩
              go_wp2_with fail
              have hr := hr.out
              exact bodyPost_ret (v := .tuple #[o'.v, .int .i64 0]) (by simp [results, hr, go_sem, OpV.v, y0, y1, y2, y3, y4]) rfl ⟨by rw [HR.out] <;> rfl, FF⟩
            · rw [if_neg h0] at HR
              generalize rEnd r' = re at *
              have t1 : ((re : Int) != 0) = true := by rw [bne_iff_ne]; omega
              obtain ⟨y0, y1, y2, y3, y4, yf⟩ := BlkAt.c5 hz1
              have FF := hf.trans (fr_set5 wr w.heap.size (.int .u8 0) (.string ⟨#[]⟩) (.string ⟨#[]⟩) (.int .u8 0) (.int .u8 0)) (fun i hi h => by unfold eqB at h; omega)
              clear h0
              go_wp2_with fail
              refine hE.mono ?_
              rintro e w6 ⟨rfl, rfl⟩
              go_wp2_with fail
              have hr := hr.out
              exact bodyPost_ret (v := .tuple #[zeroOp.v, .int .i64 re]) (by simp [results, hr, go_sem, zeroOp, OpV.v, y0, y1, y2, y3, y4]) rfl ⟨by rw [HR.out] <;> rfl, FF⟩
      · rw [HI.out, if_neg he] at HR
        simp only [] at HR
        clear HI
        have t1 : ((r.e : Int) == 0) = false := by rw [beq_eq_false_iff_ne]; omega
        generalize hre : (r.e : Int) = re1 at *
        refine hE.mono ?_
        rintro e w4 ⟨rfl, rfl⟩
        clear hE cz hre he x0
        obtain ⟨o', ho'⟩ : ∃ o' : OpV, (⟨k, ⟨#[]⟩, ⟨#[]⟩, 0, 0⟩ : OpV) = o' := ⟨_, rfl⟩
        rw [ho'] at hbo HR
        have hE := endRd_calls w3 S p r h3
        by_cases h0 : rEnd r = 0
        · rw [if_pos h0] at HR
          rw [h0] at hE
          obtain ⟨q0, q1, q2, q3, q4, qf⟩ := BlkAt.c5 hbo
          obtain ⟨y0, y1, y2, y3, y4, yf⟩ := BlkAt.c5 hb3
          have FF := F3.trans (fr_set5 w3 w.heap.size (.int .u8 o'.k) (.string o'.a) (.string o'.b) (.int .u8 o'.n) (.int .u8 o'.r)) (fun i hi h => by unfold eqB at h; omega)
          clear h0
          go_wp2_with fail
          refine hE.mono ?_
          rintro e w6 ⟨rfl, rfl⟩
          go_wp2_with fail
          have hr := hr.out
          exact bodyPost_ret (v := .tuple #[o'.v, .int .i64 0]) (by simp [results, hr, go_sem, OpV.v, y0, y1, y2, y3, y4]) rfl ⟨by rw [HR.out] <;> rfl, FF⟩
        · rw [if_neg h0] at HR
          generalize rEnd r = re at *
          have t1 : ((re : Int) != 0) = true := by rw [bne_iff_ne]; omega
          obtain ⟨y0, y1, y2, y3, y4, yf⟩ := BlkAt.c5 hb3
          have FF := F3.trans (fr_set5 w3 w.heap.size (.int .u8 0) (.string ⟨#[]⟩) (.string ⟨#[]⟩) (.int .u8 0) (.int .u8 0)) (fun i hi h => by unfold eqB at h; omega)
          clear h0
          go_wp2_with fail
          refine hE.mono ?_
          rintro e w6 ⟨rfl, rfl⟩
          go_wp2_with fail
          have hr := hr.out
          exact bodyPost_ret (v := .tuple #[zeroOp.v, .int .i64 re]) (by simp [results, hr, go_sem, zeroOp, OpV.v, y0, y1, y2, y3, y4]) rfl ⟨by rw [HR.out] <;> rfl, FF⟩
end Go.Proofs.YtdngcheimohamaaDoor
/- Contracts of interrexref01's Reader. -/
namespace Go.Proofs.YtdngcheimohamaaDoor
open Go.RowKit

def Rd.inv (r : Rd) : Prop := r.e ≠ 0 → r.bs = []
/-- A Reader of the reference, as a value. -/
def Rd.val (r : Rd) : Value := .agg #[.string (mkS r.bs), .int .i64 (r.e : Nat)]
theorem rFail_inv {r : Rd} (k : Nat) (h : r.inv) : (rFail r k).inv := by
  unfold rFail Rd.inv at *
  split
  · intro _; rfl
  · exact h
theorem rTake_inv {r : Rd} (n : Nat) (h : r.inv) : (rTake r n).1.inv := by
  unfold rTake
  split
  · exact rFail_inv 2 h
  · intro e; simp only at e ⊢; rw [h e]; simp
set_option maxRecDepth 100000 in
theorem failR_calls (w : World) (r : Rd) (k : Nat) : Calls Tryd.prog 59 #[.agg #[.string (mkS r.bs), .int .i64 (r.e : Nat)], .int .i64 k] w (fun e w' => e = .returned (rFail r k).val ∧ Fr noB w w') := by
  obtain ⟨bs, ee⟩ := r
  by_cases e0 : ee = 0
  · by_cases k0 : k = 0
    · have HF : Hid (rFail ⟨bs, ee⟩ k = ⟨bs, ee⟩) := by unfold Hid rFail; rw [if_neg (by simp [k0])]
      have t0 : ((ee : Int) != 0) = false := by simp; exact e0
      have t1 : ((k : Int) == 0) = true := by simp; exact k0
      have HE := hid (And.intro e0 k0); clear e0 k0
      go_enter Tryd.func59, Tryd.ntmps59
      go_wp2_with fail
      exact bodyPost_ret (v := .agg #[.string (mkS bs), .int .i64 (ee : Nat)]) (by simp [results, Tryd.results59, go_sem]) rfl ⟨by rw [HF.out]; rfl, ((Fr.refl _ _).alloc _).alloc _⟩
    · have HF : Hid (rFail ⟨bs, ee⟩ k = ⟨[], k⟩) := by unfold Hid rFail; rw [if_pos ⟨e0, k0⟩]
      have t0 : ((ee : Int) != 0) = false := by simp; exact e0
      have t1 : ((k : Int) == 0) = false := by simp; exact k0
      have HE := hid (And.intro e0 k0); clear e0 k0
      go_enter Tryd.func59, Tryd.ntmps59
      go_wp2_with fail
      exact bodyPost_ret (v := .agg #[.string (mkS []), .int .i64 (k : Nat)]) (by simp [results, Tryd.results59, go_sem]; rfl) rfl ⟨by rw [HF.out]; rfl, ((Fr.refl _ _).alloc _).alloc _⟩
  · have HF : Hid (rFail ⟨bs, ee⟩ k = ⟨bs, ee⟩) := by unfold Hid rFail; rw [if_neg (by simp [e0])]
    have t0 : ((ee : Int) != 0) = true := by simp; exact e0
    have HE := hid e0; clear e0
    go_enter Tryd.func59, Tryd.ntmps59
    go_wp2_with fail
    exact bodyPost_ret (v := .agg #[.string (mkS bs), .int .i64 (ee : Nat)]) (by simp [results, Tryd.results59, go_sem]) rfl ⟨by rw [HF.out]; rfl, ((Fr.refl _ _).alloc _).alloc _⟩

theorem fr_set2 (W : World) (b : Nat) (u v : Value) : Fr (eqB b) W ((W.setCell ⟨b, 0, none⟩ u).setCell ⟨b, 1, none⟩ v) :=
  Fr.setCell (S := eqB b) (Fr.setCell (S := eqB b) (Fr.refl _ W) (p := ⟨b, 0, none⟩) (Or.inl rfl) u) (p := ⟨b, 1, none⟩) (Or.inl rfl) v
theorem set2 {w : World} {b : Nat} {x y u v : Value} {t : TypeId} (h : w.heap[b]? = some (.cells #[x, y] t (0, 0))) : ((w.setCell ⟨b, 0, none⟩ u).setCell ⟨b, 1, none⟩ v).heap[b]? = some (.cells #[u, v] t (0, 0)) := two_set1 (two_set0 h)
theorem cells2 {W : World} {b : Nat} {x y : Value} {t : TypeId} (h : W.heap[b]? = some (.cells #[x, y] t (0, 0))) : W.cell? ⟨b, 0, none⟩ = some x ∧ W.cell? ⟨b, 1, none⟩ = some y := by
  constructor <;> simp [World.cell?, h]
theorem heap_al {W : World} {b : Nat} {o : Obj} (h : W.heap[b]? = some o) (o' : Obj) : (W.alloc o').heap[b]? = some o := ((Fr.refl noB W).alloc o').heap h id
theorem fr_cells {W w1 : World} {S : Nat → Prop} (f : Fr S W w1) {b : Nat} {c : Array Value} {t : TypeId} (h : W.heap[b]? = some (.cells c t (0, 0))) (hS : ¬ S b) :
    (∀ j v, c[j]? = some v → w1.cell? ⟨b, j, none⟩ = some v) ∧ ∀ j, w1.frozen? ⟨b, j, none⟩ = false := by
  have h1 := f.heap h hS
  exact ⟨fun j v hv => by simp [World.cell?, h1, hv], fun j => by simp [World.frozen?, h1]⟩
theorem heap_two (w : World) (A B : Obj) : ((w.alloc A).alloc B).heap[w.heap.size]? = some A ∧ ((w.alloc A).alloc B).heap[w.heap.size + 1]? = some B := by
  constructor
  · rw [Below.heap_alloc _ _ _ (by simp)]; exact heap_alloc_new w A
  · have := heap_alloc_new (w.alloc A) B
    rwa [World.size_alloc] at this
theorem mkS_from (bs : List UInt8) (k : Nat) : (mkS bs).extract k bs.length = mkS (bs.drop k) := by
  apply ByteArray.ext; apply Array.ext'
  simp [mkS]
  exact List.take_of_length_le (by simp)
theorem mkS_to (bs : List UInt8) (k : Nat) : (mkS bs).extract 0 k = mkS (bs.take k) := by
  apply ByteArray.ext; apply Array.ext'
  simp [mkS]

set_option maxRecDepth 100000 in
set_option maxHeartbeats 1600000 in
theorem takeR_calls (w : World) (r : Rd) (k : Nat) (hi : r.inv) (hl : r.bs.length ≤ 1000000000000) (hk : k ≤ 9223372036854775807) :
    Calls Tryd.prog 68 #[.agg #[.string (mkS r.bs), .int .i64 (r.e : Nat)], .int .i64 k] w
      (fun e w' => ∃ b, e = .returned (.tuple #[(rTake r k).1.val, .string (mkS (rTake r k).2), .bool b]) ∧ Fr noB w w') := by
  have hf := fun w => failR_calls w r 2
  have hsz : (mkS r.bs).size = r.bs.length := mkS_size _
  obtain ⟨bs, ee⟩ := r
  simp only [] at *
  have hA : (ee ≠ 0 ∨ bs.length < k) → rTake ⟨bs, ee⟩ k = (rFail ⟨bs, ee⟩ 2, []) := by
    rintro (h | h)
    · have hb : bs = [] := hi h
      subst hb
      unfold rTake rFail
      simp [h]
    · unfold rTake; rw [if_pos h]
  by_cases e0 : ee = 0
  · have t0 : ((ee : Int) != 0) = false := by simp; exact e0
    by_cases hn : bs.length < k
    · have HF := hid (hA (Or.inr hn))
      have hn2 : (mkS bs).size < k := by rw [hsz]; exact hn
      have HE := hid e0; clear e0 hsz hA
      go_enter Tryd.func68, Tryd.ntmps68
      go_wp2_with fail
      refine (hf _).mono ?_
      generalize rFail ⟨bs, ee⟩ 2 = q at *
      obtain ⟨qb, qe⟩ := q
      rintro e w1 ⟨rfl, f1⟩
      simp only [Rd.val]
      obtain ⟨g1, g2⟩ := fr_cells f1 (heap_two _ _ _).2 id
      have g3 := g1 0 _ rfl
      have g4 := g1 1 _ rfl
      clear g1
      have f2 : Fr noB w w1 := (((Fr.refl _ _).alloc _).alloc _).then' f1
      have F1 := hid f1
      clear f1
      go_wp2_with fail
      exact bodyPost_ret (v := .tuple #[.agg #[.string (mkS qb), .int .i64 (qe : Nat)], .string ⟨#[]⟩, .bool false]) (by simp [results, Tryd.results68, go_sem, g3, g4]) rfl
        ⟨false, by rw [HF.out]; rfl, (f2.setCell (Or.inr (Nat.le_succ _)) _).setCell (p := ⟨w.heap.size + 1, 1, none⟩) (Or.inr (Nat.le_succ _)) _⟩
    · have HF : Hid (rTake ⟨bs, ee⟩ k = (⟨bs.drop k, ee⟩, bs.take k)) := by unfold Hid rTake; rw [if_neg hn]
      have hn2 : k ≤ (mkS bs).size := by rw [hsz]; omega
      have hn3 : (mkS bs).size ≤ 9223372036854775807 := by rw [hsz]; omega
      have HN : Hid (k ≤ bs.length) := by unfold Hid; omega
      have HS := hid hsz
      have HE := hid e0; clear e0 hsz hA hf hn
      go_enter Tryd.func68, Tryd.ntmps68
      go_wp2_with fail
      have h1 := (heap_two w (.cells #[.string (mkS bs), .int .i64 (ee : Nat)] 71) (.cells #[.string ⟨#[]⟩, .int .i64 0] 71)).1
      have h2 := (heap_two w (.cells #[.string (mkS bs), .int .i64 (ee : Nat)] 71) (.cells #[.string ⟨#[]⟩, .int .i64 0] 71)).2
      have f0 : Fr noB w ((w.alloc (.cells #[.string (mkS bs), .int .i64 (ee : Nat)] 71)).alloc (.cells #[.string ⟨#[]⟩, .int .i64 0] 71)) := ((Fr.refl _ _).alloc _).alloc _
      generalize (w.alloc (.cells #[.string (mkS bs), .int .i64 (ee : Nat)] 71)).alloc (.cells #[.string ⟨#[]⟩, .int .i64 0] 71) = wa at *
      refine wp_region_calm (R := Fr (eqB (w.heap.size + 1))) (C := fun q W => Fr (eqB (w.heap.size + 1)) wa W ∧ W.heap[w.heap.size]? = some (.cells #[.string (mkS bs), .int .i64 (ee : Nat)] 71 (0, 0)) ∧ W.heap[w.heap.size + 1]? = some (.cells (if q = 0 then #[.string ⟨#[]⟩, .int .i64 0] else #[.string (mkS (bs.drop k)), .int .i64 0]) 71 (0, 0))) [false, false, false, false, false, false, false, false, false, true, false, false]
        [eqv (.pointer (some ⟨w.heap.size, 0, none⟩)), eqv (.string (mkS bs)), eqv (.int .i64 k), eqv (.string (mkS (bs.drop k))), eqv (.agg #[.string (mkS (bs.drop k)), .int .i64 0]), eqv (.pointer (some ⟨w.heap.size, 0, none⟩)), eqv (.string (mkS bs)), eqv (.int .i64 k), eqv (.string (mkS (bs.take k))), anyv, eqv (.string (mkS (bs.take k))), eqv (.bool true)]
        (by kernel_rfl) (by kernel_rfl) (fun _ _ _ h1 h2 => h1.then' h2) ((Fr.refl _ _).drew) ⟨(Fr.refl _ _).drew, h1, h2⟩ (by kernel_rfl) ?_ ?_
      · refine ⟨?_, ?_, ?_, ?_, ?_, ?_, ?_, ?_, ?_, ?_, ?_, ?_, trivial⟩
        · rw [if_neg (by decide)]; intro kq
          intro a W K hC hd hK
          have d2 : a.tmps[2]?.getD undef = .pointer (some ⟨w.heap.size, 0, none⟩) := hd 2 (by decide)
          refine wpOp_plain rfl rfl ?_
          go_wp2_with fail
          exact hK _ _ (Fr.refl _ _) hC rfl
        · rw [if_neg (by decide)]; intro kq
          intro a W K hC hd hK
          have d19 : a.tmps[19]?.getD undef = .pointer (some ⟨w.heap.size, 0, none⟩) := hd 19 (by decide)
          have b0 : W.cell? ⟨w.heap.size, 0, none⟩ = some (.string (mkS bs)) := by simp [World.cell?, hC.2.1]
          refine wpOp_plain rfl rfl ?_
          go_wp2_with fail
          exact hK _ _ (Fr.refl _ _) hC rfl
        · rw [if_neg (by decide)]; intro kq
          exact calm_mv 1 rfl rfl (Or.inl rfl) (Fr.refl _) (by decide) fun v w hd => hd
        · rw [if_neg (by decide)]; intro kq
          intro a W K hC hd hK
          have d20 : a.tmps[20]?.getD undef = .string (mkS bs) := hd 20 (by decide)
          have d21 : a.tmps[21]?.getD undef = .int .i64 k := hd 21 (by decide)
          refine wpOp_plain rfl rfl ?_
          have hx := mkS_from bs k
          rw [← HS.out] at hx
          go_wp2_with fail
          exact hK _ _ (Fr.refl _ _) hC rfl
        · rw [if_neg (by decide)]; intro kq
          intro a W K hC hd hK
          have d22 : a.tmps[22]?.getD undef = .string (mkS (bs.drop k)) := hd 22 (by decide)
          refine wpOp_plain rfl rfl ?_
          go_wp2_with fail
          exact hK _ _ (Fr.refl _ _) hC rfl
        · rw [if_neg (by decide)]; intro kq
          intro a W K hC hd hK
          have d2 : a.tmps[2]?.getD undef = .pointer (some ⟨w.heap.size, 0, none⟩) := hd 2 (by decide)
          refine wpOp_plain rfl rfl ?_
          go_wp2_with fail
          exact hK _ _ (Fr.refl _ _) hC rfl
        · rw [if_neg (by decide)]; intro kq
          intro a W K hC hd hK
          have d24 : a.tmps[24]?.getD undef = .pointer (some ⟨w.heap.size, 0, none⟩) := hd 24 (by decide)
          have b0 : W.cell? ⟨w.heap.size, 0, none⟩ = some (.string (mkS bs)) := by simp [World.cell?, hC.2.1]
          refine wpOp_plain rfl rfl ?_
          go_wp2_with fail
          exact hK _ _ (Fr.refl _ _) hC rfl
        · rw [if_neg (by decide)]; intro kq
          exact calm_mv 1 rfl rfl (Or.inl rfl) (Fr.refl _) (by decide) fun v w hd => hd
        · rw [if_neg (by decide)]; intro kq
          intro a W K hC hd hK
          have d25 : a.tmps[25]?.getD undef = .string (mkS bs) := hd 25 (by decide)
          have d26 : a.tmps[26]?.getD undef = .int .i64 k := hd 26 (by decide)
          refine wpOp_plain rfl rfl ?_
          have hx := mkS_to bs k
          go_wp2_with fail
          exact hK _ _ (Fr.refl _ _) hC rfl
        · rw [if_pos (by decide)]
          intro a W K hC hd hK
          replace hC : (fun q W => Fr (eqB (w.heap.size + 1)) wa W ∧ W.heap[w.heap.size]? = some (.cells #[.string (mkS bs), .int .i64 (ee : Nat)] 71 (0, 0)) ∧ W.heap[w.heap.size + 1]? = some (.cells (if q = 0 then #[.string ⟨#[]⟩, .int .i64 0] else #[.string (mkS (bs.drop k)), .int .i64 0]) 71 (0, 0))) 0 W := hC
          have d4 : a.tmps[4]?.getD undef = .pointer (some ⟨w.heap.size + 1, 0, none⟩) := hd 4 (by decide)
          have d23 : a.tmps[23]?.getD undef = .agg #[.string (mkS (bs.drop k)), .int .i64 0] := hd 23 (by decide)
          have hz : W.heap[w.heap.size + 1]? = some (.cells #[.string ⟨#[]⟩, .int .i64 0] 71 (0, 0)) := hC.2.2
          have b0 : W.cell? ⟨w.heap.size + 1, 0, none⟩ = some (.string ⟨#[]⟩) := by simp [World.cell?, hz]
          have b1 : W.cell? ⟨w.heap.size + 1, 1, none⟩ = some (.int .i64 0) := by simp [World.cell?, hz]
          have z0 : ∀ j, W.frozen? ⟨w.heap.size + 1, j, none⟩ = false := fun j => by simp [World.frozen?, hz]
          refine wpOp_plain rfl rfl ?_
          go_wp2_with fail
          have fs := fr_set2 W (w.heap.size + 1) (.string (mkS (bs.drop k))) (.int .i64 0)
          exact hK undef _ fs ⟨hC.1.then' fs, fs.heap hC.2.1 (by unfold eqB; omega), two_set1 (two_set0 hz)⟩ trivial
        · rw [if_neg (by decide)]; intro kq
          exact calm_mv 27 rfl rfl (Or.inr rfl) (Fr.refl _) (by decide) fun v w hd => hd
        · rw [if_neg (by decide)]; intro kq
          intro a W K hC hd hK
          refine wpOp_plain rfl rfl ?_
          go_wp2_with fail
          exact hK _ _ (Fr.refl _ _) hC rfl
      · intro vs w9 fw9 cw9 hV
        have v5 : vs 10 = .string (mkS (bs.take k)) := hV 10 _ _ rfl rfl (by decide)
        have v6 : vs 11 = .bool true := hV 11 _ _ rfl rfl (by decide)
        clear hV
        simp only [putL, Act.put, List.setIfInBounds_toArray, List.set_cons_zero, List.set_cons_succ, v5, v6]
        have hz : w9.heap[w.heap.size + 1]? = some (.cells #[.string (mkS (bs.drop k)), .int .i64 0] 71 (0, 0)) := cw9.2.2
        have b0 : w9.cell? ⟨w.heap.size + 1, 0, none⟩ = some (.string (mkS (bs.drop k))) := by simp [World.cell?, hz]
        have b1 : w9.cell? ⟨w.heap.size + 1, 1, none⟩ = some (.int .i64 0) := by simp [World.cell?, hz]
        go_wp2_with fail
        have hE := HE.out
        subst hE
        exact bodyPost_ret (v := .tuple #[.agg #[.string (mkS (bs.drop k)), .int .i64 0], .string (mkS (bs.take k)), .bool true]) (by simp [results, Tryd.results68, go_sem, b0, b1]) rfl
          ⟨true, by rw [HF.out]; rfl, f0.trans fw9 (fun i hi h => by unfold eqB at h; omega)⟩
  · have t0 : ((ee : Int) != 0) = true := by simp; exact e0
    have HF := hid (hA (Or.inl e0))
    have HE := hid e0; clear e0 hsz hA
    go_enter Tryd.func68, Tryd.ntmps68
    go_wp2_with fail
    refine (hf _).mono ?_
    generalize rFail ⟨bs, ee⟩ 2 = q at *
    obtain ⟨qb, qe⟩ := q
    rintro e w1 ⟨rfl, f1⟩
    simp only [Rd.val]
    obtain ⟨g1, g2⟩ := fr_cells f1 (heap_two _ _ _).2 id
    have g3 := g1 0 _ rfl
    have g4 := g1 1 _ rfl
    clear g1
    have f2 : Fr noB w w1 := (((Fr.refl _ _).alloc _).alloc _).then' f1
    have F1 := hid f1
    clear f1
    go_wp2_with fail
    exact bodyPost_ret (v := .tuple #[.agg #[.string (mkS qb), .int .i64 (qe : Nat)], .string ⟨#[]⟩, .bool false]) (by simp [results, Tryd.results68, go_sem, g3, g4]) rfl
      ⟨false, by rw [HF.out]; rfl, (f2.setCell (Or.inr (Nat.le_succ _)) _).setCell (p := ⟨w.heap.size + 1, 1, none⟩) (Or.inr (Nat.le_succ _)) _⟩
end Go.Proofs.YtdngcheimohamaaDoor
/- Contracts of interrexref01: Value, Get, GetTruth. -/
namespace Go.Proofs.YtdngcheimohamaaDoor
open Go.RowKit

theorem u64_wrap (x : Nat) (h : x < 18446744073709551616) : IntKind.u64.wrap (x : Int) = x := by
  rw [IntKind.wrap_u64]; omega
theorem leV_drop {bs : List UInt8} {m : Nat} (h : m < bs.length) : leV (bs.drop m) = (bs.getD m 0).toNat + 256 * leV (bs.drop (m + 1)) := by
  rw [List.drop_eq_getElem_cons h, leV, List.getD_eq_getElem?_getD, List.getElem?_eq_getElem h]
  rfl
theorem value_step {bs : List UInt8} {m : Nat} (hl : bs.length ≤ 8) (h : m < bs.length) :
    IntKind.u64.wrap (IntKind.u64.wrap ((leV (bs.drop (m + 1)) : Nat) * 256 : Int) + IntKind.u64.wrap (((bs[m]?.getD 0).toNat : Nat) : Int)) = ((leV (bs.drop m) : Nat) : Int) := by
  have h1 := leV_drop h
  have h2 := leV_lt (bs.drop m)
  have h3 : (256 : Nat) ^ (bs.drop m).length ≤ 256 ^ 8 := Nat.pow_le_pow_right (by omega) (by rw [List.length_drop]; omega)
  have h4 : (256 : Nat) ^ 8 = 18446744073709551616 := by decide
  rw [List.getD_eq_getElem?_getD] at h1
  have hb := (bs[m]?.getD 0).toNat_lt
  generalize (bs[m]?.getD 0).toNat = b at *
  generalize leV (bs.drop (m + 1)) = x at *
  generalize leV (bs.drop m) = y at *
  have e1 : ((x : Int) * 256) = ((x * 256 : Nat) : Int) := (Int.natCast_mul x 256).symm
  rw [e1, u64_wrap _ (by omega), u64_wrap _ (by omega), ← Int.natCast_add, u64_wrap _ (by omega)]
  omega
set_option maxRecDepth 100000 in
set_option maxHeartbeats 1600000 in
theorem valueR_calls (w : World) (bs : List UInt8) (hl : bs.length ≤ 8) : Calls Tryd.prog 69 #[.string (mkS bs)] w (fun e w' => e = .returned (.int .u64 (leV bs : Nat)) ∧ w = w') := by
  have hsz : (mkS bs).size = bs.length := mkS_size _
  have hx : ∀ (j : Nat) (h : j < (mkS bs).size), ((mkS bs)[j]'h).toNat = (bs.getD j 0).toNat := fun j h => by
    rw [hsz] at h
    rw [List.getD_eq_getElem?_getD, List.getElem?_eq_getElem h]
    simp [mkS]
    rfl
  generalize hS : mkS bs = s at *
  generalize hn : bs.length = n at *
  have HS := hid hS; clear hS
  have HN := hid hn; clear hn
  have HZ := hid hsz
  have h64 : s.size ≤ 8 := by omega
  clear hsz
  go_enter Tryd.func69, Tryd.ntmps69
  go_wp2_with fail
  go_loop [3, 4] (fun x i => ∃ j : Nat, j ≤ s.size ∧ i = .int .i64 ((j : Int) - 1) ∧ x = .int .u64 (leV (bs.drop j) : Nat)) (fun _ i => (intOf i + 1).toNat)
  case atStart =>
    refine ⟨s.size, Nat.le_refl _, rfl, ?_⟩
    rw [HZ.out, List.drop_eq_nil_of_le (by rw [HN.out]; exact Nat.le_refl _)]
    rfl
  case round =>
    obtain ⟨j, hj, rfl, rfl⟩ := hrel
    by_cases hj0 : j = 0
    · subst hj0
      go_wp2_with fail
      go_ret
      exact ⟨rfl, rfl⟩
    · obtain ⟨m, rfl⟩ : ∃ m, j = m + 1 := ⟨j - 1, by omega⟩
      have hst := value_step (bs := bs) (m := m) (by rw [HN.out]; exact hl) (by rw [HN.out, ← HZ.out]; omega)
      have HST := hid hst; clear hst
      go_wp2_with fail
      go_round
      case rel => exact ⟨m, by omega, rfl, by rw [HST.out]⟩
      case measure => simp [intOf]

set_option maxRecDepth 100000 in
set_option maxHeartbeats 1600000 in
theorem getR_calls (w : World) (r : Rd) (k : Nat) (hi : r.inv) (hl : r.bs.length ≤ 1000000000000) (hk : k ≤ 8) :
    Calls Tryd.prog 53 #[.agg #[.string (mkS r.bs), .int .i64 (r.e : Nat)], .int .i64 k] w
      (fun e w' => e = .returned (.tuple #[(rNum r k).1.val, .int .u64 ((rNum r k).2 : Nat)]) ∧ Fr noB w w') := by
  have hc := fun W => takeR_calls W r k hi hl (by omega)
  have hx := rTake_len r k
  have HF : Hid (rNum r k = ((rTake r k).1, leV (rTake r k).2)) := rfl
  generalize (rTake r k).1 = q at *
  generalize (rTake r k).2 = xs at *
  obtain ⟨bs, ee⟩ := r
  obtain ⟨qb, qe⟩ := q
  simp only [Rd.val] at *
  go_enter Tryd.func53, Tryd.ntmps53
  go_wp2_with fail
  refine (hc _).mono ?_
  rintro e w1 ⟨b, rfl, f1⟩
  clear hc
  obtain ⟨g1, g2⟩ := fr_cells f1 (heap_two _ _ _).2 id
  have hz := f1.heap (heap_two _ _ _).2 id
  have z1 := f1.size
  have f2 : Fr noB w w1 := (((Fr.refl _ _).alloc _).alloc _).then' f1
  have F1 := hid f1
  clear f1 g1
  go_wp2_with fail
  have hb0 : (w1.alloc (.cells #[.string (mkS qb), .int .i64 (qe : Nat)] 71)).heap[w1.heap.size]? = some (.cells #[.string (mkS qb), .int .i64 (qe : Nat)] 71 (0, 0)) := heap_alloc_new _ _
  have hres : (w1.alloc (.cells #[.string (mkS qb), .int .i64 (qe : Nat)] 71)).heap[w.heap.size + 1]? = some (.cells #[.string ⟨#[]⟩, .int .i64 0] 71 (0, 0)) := ((Fr.refl noB w1).alloc _).heap hz id
  have f3 : Fr noB w (w1.alloc (.cells #[.string (mkS qb), .int .i64 (qe : Nat)] 71)) := f2.alloc _
  have z2 : w.heap.size + 1 < w1.heap.size := by simp at z1; omega
  generalize w1.alloc (.cells #[.string (mkS qb), .int .i64 (qe : Nat)] 71) = wa at *
  refine wp_region_calm (R := Fr (eqB (w.heap.size + 1))) (C := fun q W => Fr (eqB (w.heap.size + 1)) wa W ∧ W.heap[w1.heap.size]? = some (.cells #[.string (mkS qb), .int .i64 (qe : Nat)] 71 (0, 0)) ∧ W.heap[w.heap.size + 1]? = some (.cells (if q = 0 then #[.string ⟨#[]⟩, .int .i64 0] else #[.string (mkS qb), .int .i64 (qe : Nat)]) 71 (0, 0))) [false, false, false, true, false]
    [eqv (.agg #[.string (mkS qb), .int .i64 (qe : Nat)]), eqv (.string (mkS xs)), eqv (.int .u64 (leV xs : Nat)), anyv, eqv (.int .u64 (leV xs : Nat))]
    (by kernel_rfl) (by kernel_rfl) (fun _ _ _ h1 h2 => h1.then' h2) ((Fr.refl _ _).drew) ⟨(Fr.refl _ _).drew, hb0, hres⟩ (by kernel_rfl) ?_ ?_
  · refine ⟨?_, ?_, ?_, ?_, ?_, trivial⟩
    · rw [if_neg (by decide)]; intro kq
      intro a W K hC hd hK
      have d6 : a.tmps[6]?.getD undef = .pointer (some ⟨w1.heap.size, 0, none⟩) := hd 6 (by decide)
      have c0 : W.cell? ⟨w1.heap.size, 0, none⟩ = some (.string (mkS qb)) := by simp [World.cell?, hC.2.1]
      have c1 : W.cell? ⟨w1.heap.size, 1, none⟩ = some (.int .i64 (qe : Nat)) := by simp [World.cell?, hC.2.1]
      refine wpOp_plain rfl rfl ?_
      go_wp2_with fail
      exact hK _ _ (Fr.refl _ _) hC rfl
    · rw [if_neg (by decide)]; intro kq
      exact calm_mv 7 rfl rfl (Or.inl rfl) (Fr.refl _) (by decide) fun v w hd => hd
    · rw [if_neg (by decide)]; intro kq
      intro a W K hC hd hK
      have d17 : a.tmps[17]?.getD undef = .string (mkS xs) := hd 17 (by decide)
      refine wpOp_plain rfl rfl ?_
      go_wp2_with fail
      refine (valueR_calls W xs (by omega)).mono ?_
      rintro e w' ⟨rfl, rfl⟩
      exact hK _ _ (Fr.refl _ _) hC rfl
    · rw [if_pos (by decide)]
      intro a W K hC hd hK
      replace hC : (fun q W => Fr (eqB (w.heap.size + 1)) wa W ∧ W.heap[w1.heap.size]? = some (.cells #[.string (mkS qb), .int .i64 (qe : Nat)] 71 (0, 0)) ∧ W.heap[w.heap.size + 1]? = some (.cells (if q = 0 then #[.string ⟨#[]⟩, .int .i64 0] else #[.string (mkS qb), .int .i64 (qe : Nat)]) 71 (0, 0))) 0 W := hC
      have d4 : a.tmps[4]?.getD undef = .pointer (some ⟨w.heap.size + 1, 0, none⟩) := hd 4 (by decide)
      have d16 : a.tmps[16]?.getD undef = .agg #[.string (mkS qb), .int .i64 (qe : Nat)] := hd 16 (by decide)
      have hz : W.heap[w.heap.size + 1]? = some (.cells #[.string ⟨#[]⟩, .int .i64 0] 71 (0, 0)) := hC.2.2
      have b0 : W.cell? ⟨w.heap.size + 1, 0, none⟩ = some (.string ⟨#[]⟩) := by simp [World.cell?, hz]
      have b1 : W.cell? ⟨w.heap.size + 1, 1, none⟩ = some (.int .i64 0) := by simp [World.cell?, hz]
      have z0 : ∀ j, W.frozen? ⟨w.heap.size + 1, j, none⟩ = false := fun j => by simp [World.frozen?, hz]
      refine wpOp_plain rfl rfl ?_
      have fs := fr_set2 W (w.heap.size + 1) (.string (mkS qb)) (.int .i64 (qe : Nat))
      go_wp2_with fail
      exact hK undef _ fs ⟨hC.1.then' fs, fs.heap hC.2.1 (by unfold eqB; omega), set2 hz⟩ trivial
    · rw [if_neg (by decide)]; intro kq
      exact calm_mv 18 rfl rfl (Or.inr rfl) (Fr.refl _) (by decide) fun v w hd => hd
  · intro vs w9 fw9 cw9 hV
    have v5 : vs 4 = .int .u64 (leV xs : Nat) := hV 4 _ _ rfl rfl (by decide)
    clear hV
    simp only [putL, Act.put, List.setIfInBounds_toArray, List.set_cons_zero, List.set_cons_succ, v5]
    have hz9 : w9.heap[w.heap.size + 1]? = some (.cells #[.string (mkS qb), .int .i64 (qe : Nat)] 71 (0, 0)) := cw9.2.2
    have b0 : w9.cell? ⟨w.heap.size + 1, 0, none⟩ = some (.string (mkS qb)) := by simp [World.cell?, hz9]
    have b1 : w9.cell? ⟨w.heap.size + 1, 1, none⟩ = some (.int .i64 (qe : Nat)) := by simp [World.cell?, hz9]
    go_wp2_with fail
    exact bodyPost_ret (v := .tuple #[.agg #[.string (mkS qb), .int .i64 (qe : Nat)], .int .u64 (leV xs : Nat)]) (by simp [results, Tryd.results53, go_sem, b0, b1]) rfl
      ⟨by rw [HF.out], f3.trans fw9 (fun i hi h => by unfold eqB at h; omega)⟩
end Go.Proofs.YtdngcheimohamaaDoor
/- Contracts of interrexref01: GetTruth, GetText. -/
namespace Go.Proofs.YtdngcheimohamaaDoor
open Go.RowKit

theorem rNum_pos {r : Rd} {n : Nat} (hi : r.inv) (h : 0 < (rNum r n).2) : (rNum r n).1.e = 0 := by
  unfold rNum rTake at *
  split
  · rename_i h1; rw [if_pos h1] at h; simp [leV] at h
  · rename_i h1
    rw [if_neg h1] at h
    simp only at h ⊢
    rcases Nat.eq_zero_or_pos r.e with e | e
    · exact e
    · have := hi (by omega)
      rw [this] at h; simp [leV] at h
theorem rNum_inv {r : Rd} (n : Nat) (hi : r.inv) : (rNum r n).1.inv := rTake_inv n hi
theorem rFail_len (r : Rd) (k : Nat) : (rFail r k).bs.length ≤ r.bs.length := by
  unfold rFail; split <;> simp
theorem rTake_left (r : Rd) (n : Nat) : (rTake r n).1.bs.length ≤ r.bs.length := by
  unfold rTake; split
  · exact rFail_len r 2
  · simp
/-- The result's block and the box of a struct: what a call leaves. -/
def RRPost (w : World) (r : Rd) (v : Value) (e : Ending) (w' : World) : Prop := e = .returned (.tuple #[r.val, v]) ∧ Fr noB w w'

theorem rFail_ne {r : Rd} (k : Nat) (h : r.e ≠ 0) : rFail r k = r := by unfold rFail; rw [if_neg (by simp [h])]
set_option maxRecDepth 100000 in
set_option maxHeartbeats 1600000 in
theorem textGetR_calls (w : World) (r : Rd) (most : Int) (hi : r.inv) (hl : r.bs.length ≤ 1000000000000) (hm1 : -9223372036854775808 ≤ most) (hm2 : most ≤ 9223372036854775807) :
    Calls Tryd.prog 54 #[.agg #[.string (mkS r.bs), .int .i64 (r.e : Nat)], .int .i64 most] w (RRPost w (rText r most).1 (.string (mkS (rText r most).2))) := by
  have hc := fun W => getR_calls W r 2 hi hl (by omega)
  have hx : (rNum r 2).2 < 65536 := rNum_lt r 2
  have hp := rNum_pos (n := 2) hi
  have hv := rNum_inv 2 hi
  have hle : (rNum r 2).1.bs.length ≤ 1000000000000 := Nat.le_trans (rTake_left r 2) hl
  have HF : Hid (rText r most = rTake (if max 0 most < ((rNum r 2).2 : Int) then (rFail (rNum r 2).1 3, 0) else ((rNum r 2).1, (rNum r 2).2)).1 (if max 0 most < ((rNum r 2).2 : Int) then (rFail (rNum r 2).1 3, 0) else ((rNum r 2).1, (rNum r 2).2)).2) := rfl
  generalize (rNum r 2).1 = q at *
  generalize (rNum r 2).2 = x at *
  obtain ⟨bs, ee⟩ := r
  obtain ⟨qb, qe⟩ := q
  simp only [Rd.val] at *
  by_cases hx1 : max 0 most < (x : Int)
  · have q0 : qe = 0 := hp (by omega)
    have h1 : rFail ⟨qb, qe⟩ 3 = ⟨[], 3⟩ := by unfold rFail; rw [if_pos ⟨q0, by decide⟩]
    rw [if_pos hx1, h1] at HF
    have t0 : ((qe : Int) == 0) = true := by simp; exact q0
    have Q0 := hid q0; clear q0 hp h1
    go_enter Tryd.func54, Tryd.ntmps54
    go_wp2_with fail
    refine (hc _).mono ?_
    rintro e w1 ⟨rfl, f1⟩
    clear hc
    obtain ⟨g1, g2⟩ := fr_cells f1 (heap_two _ _ _).2 id
    have hz := f1.heap (heap_two _ _ _).2 id
    have g3 := g1 0 (.string ⟨#[]⟩) rfl
    have g4 := g1 1 (.int .i64 0) rfl
    have z1 := f1.size
    have z2 : w.heap.size + 1 < w1.heap.size := by simp at z1; omega
    have f2 : Fr noB w w1 := (((Fr.refl _ _).alloc _).alloc _).then' f1
    have F1 := hid f1
    clear f1 g1 z1
    have g5 := cell_al g3
    have g6 := cell_al g4
    go_wp2_with fail
    all_goals
      obtain ⟨b0, b1⟩ := cells2 (heap_al (set2 (u := .string ⟨#[]⟩) (v := .int .i64 3) hz) (.cells #[.string (mkS qb), .int .i64 (qe : Nat)] 71))
      exact bodyPost_ret (v := .tuple #[.agg #[.string ⟨#[]⟩, .int .i64 3], .string ⟨#[]⟩]) (by simp [results, Tryd.results54, go_sem, b0, b1]) rfl
        ⟨by rw [HF.out]; rfl, ((f2.setCell (p := ⟨w.heap.size + 1, 0, none⟩) (Or.inr (Nat.le_succ _)) _).setCell (p := ⟨w.heap.size + 1, 1, none⟩) (Or.inr (Nat.le_succ _)) _).alloc _⟩
  · rw [if_neg hx1] at HF
    have ht := fun W => takeR_calls W ⟨qb, qe⟩ x hv hle (by omega)
    simp only [] at HF
    generalize rTake ⟨qb, qe⟩ x = q2 at *
    obtain ⟨⟨tb, te⟩, tx⟩ := q2
    simp only [Rd.val] at ht
    have hm : ((qe : Int) == 0) = false ∨ (((qe : Int) == 0) = true ∧ ((0 < most ∧ (x : Int) ≤ most) ∨ (most ≤ 0 ∧ (x : Int) ≤ 0))) := by
      rcases Nat.eq_zero_or_pos qe with h | h
      · refine Or.inr ⟨by simp [h], ?_⟩; omega
      · exact Or.inl (by simp; omega)
    clear hp hx1
    go_enter Tryd.func54, Tryd.ntmps54
    go_wp2_with fail
    refine (hc _).mono ?_
    rintro e w1 ⟨rfl, f1⟩
    clear hc
    obtain ⟨g1, g2⟩ := fr_cells f1 (heap_two _ _ _).2 id
    have hz := f1.heap (heap_two _ _ _).2 id
    have g3 := g1 0 (.string ⟨#[]⟩) rfl
    have g4 := g1 1 (.int .i64 0) rfl
    have z1 := f1.size
    have z2 : w.heap.size + 1 < w1.heap.size := by simp at z1; omega
    have f2 : Fr noB w w1 := (((Fr.refl _ _).alloc _).alloc _).then' f1
    have F1 := hid f1
    clear f1 g1 z1
    have g5 := cell_al g3
    have g6 := cell_al g4
    rcases hm with t0 | ⟨t0, ⟨m1, m2⟩ | ⟨m1, m2⟩⟩
    all_goals
      go_wp2_with fail
      refine (ht _).mono ?_
      rintro e w2 ⟨b, rfl, f3⟩
      clear ht
      obtain ⟨-, k2⟩ := fr_cells f3 (heap_alloc_new w1 _) id
      obtain ⟨-, l2⟩ := fr_cells f3 (heap_al hz _) id
      have hz2 := f3.heap (heap_al hz _) id
      have hz1 := f3.heap (heap_alloc_new w1 _) id
      obtain ⟨k3, k4⟩ := cells2 hz1
      obtain ⟨l3, l4⟩ := cells2 hz2
      have z3 := f3.size
      have z4 : w1.heap.size < w2.heap.size := by simp at z3; omega
      have f4 : Fr noB w w2 := (f2.alloc _).then' f3
      have F3 := hid f3
      clear f3 z3
      go_wp2_with fail
      have hz3 := (fr_set2 w2 w1.heap.size (.string (mkS tb)) (.int .i64 (te : Nat))).heap hz2 (by unfold eqB; omega)
      obtain ⟨b0, b1⟩ := cells2 (set2 (u := .string (mkS tb)) (v := .int .i64 (te : Nat)) hz3)
      exact bodyPost_ret (v := .tuple #[.agg #[.string (mkS tb), .int .i64 (te : Nat)], .string (mkS tx)]) (by simp [results, Tryd.results54, go_sem, b0, b1]) rfl
        ⟨by rw [HF.out]; rfl, (((f4.setCell (p := ⟨w1.heap.size, 0, none⟩) (Or.inr (by show w.heap.size ≤ w1.heap.size; omega)) _).setCell (p := ⟨w1.heap.size, 1, none⟩) (Or.inr (by show w.heap.size ≤ w1.heap.size; omega)) _).setCell (p := ⟨w.heap.size + 1, 0, none⟩) (Or.inr (Nat.le_succ _)) _).setCell (p := ⟨w.heap.size + 1, 1, none⟩) (Or.inr (Nat.le_succ _)) _⟩
end Go.Proofs.YtdngcheimohamaaDoor
/- Contract of interrexref01.GetRow. -/
namespace Go.Proofs.YtdngcheimohamaaDoor
open Go.RowKit

theorem rText_err {r : Rd} (hi : r.inv) (h : r.e ≠ 0) (long : Int) : rText r long = (r, []) := by
  have hb := hi h
  obtain ⟨bs, ee⟩ := r
  subst hb
  have h1 : rTake ⟨[], ee⟩ 2 = (⟨[], ee⟩, []) := by unfold rTake; rw [if_pos (by simp), rFail_ne 2 h]
  have h2 : rNum ⟨[], ee⟩ 2 = (⟨[], ee⟩, 0) := by unfold rNum; rw [h1]; rfl
  have h3 : rCount ⟨[], ee⟩ long = (⟨[], ee⟩, 0) := by unfold rCount; rw [h2, if_neg (by simp; omega)]
  unfold rText
  rw [h3]
  rfl
theorem rText_inv {r : Rd} (hi : r.inv) (long : Int) : (rText r long).1.inv := by
  unfold rText rCount
  refine rTake_inv _ ?_
  split
  · exact rFail_inv 3 (rNum_inv 2 hi)
  · exact rNum_inv 2 hi
theorem rCount_left (r : Rd) (most : Int) : (rCount r most).1.bs.length ≤ r.bs.length := by
  unfold rCount
  split
  · exact Nat.le_trans (rFail_len _ 3) (rTake_left r 2)
  · exact rTake_left r 2
theorem rText_left (r : Rd) (long : Int) : (rText r long).1.bs.length ≤ r.bs.length := Nat.le_trans (rTake_left _ _) (rCount_left r long)
theorem rTexts_inv {r : Rd} (hi : r.inv) (long : Int) (n : Nat) : (rTexts r long n).1.inv := by
  induction n with
  | zero => exact hi
  | succ n ih => exact rText_inv ih long
theorem rTexts_left (r : Rd) (long : Int) (n : Nat) : (rTexts r long n).1.bs.length ≤ r.bs.length := by
  induction n with
  | zero => exact Nat.le_refl _
  | succ n ih => exact Nat.le_trans (rText_left _ long) ih
theorem rTexts_err {r : Rd} (hi : r.inv) (long : Int) {n : Nat} (h : (rTexts r long n).1.e ≠ 0) : ∀ m, (rTexts r long (n + m)).1 = (rTexts r long n).1 := by
  intro m
  induction m with
  | zero => rfl
  | succ m ih =>
    show (rText (rTexts r long (n + m)).1 long).1 = _
    rw [rText_err (rTexts_inv hi long _) (by rw [ih]; exact h), ih]
theorem rRow_err {r r1 : Rd} {x : Nat} (hi : r1.inv) (most long : Int) (hc : rCount r most = (r1, x)) {k : Nat} (hk : k ≤ x) (h : (rTexts r1 long k).1.e ≠ 0) : rRow r most long = ((rTexts r1 long k).1, []) := by
  obtain ⟨m, rfl⟩ := Nat.exists_eq_add_of_le hk
  unfold rRow
  rw [hc]
  simp only
  rw [rTexts_err hi long h m, if_neg h]
theorem rRow_ok {r r1 : Rd} {x : Nat} (most long : Int) (hc : rCount r most = (r1, x)) (h : (rTexts r1 long x).1.e = 0) : rRow r most long = rTexts r1 long x := by
  unfold rRow
  rw [hc]
  simp only
  rw [if_pos h]

theorem cell_one_row' (w : World) (x : Value) (t : TypeId) {n : Nat} (h : w.heap.size = n) : RowAt (w.alloc (.cells #[x] t)) (some ⟨n, 0, none⟩) [x] := h ▸ cell_one_row w x t
/-- What GetRow leaves. -/
def RowRPost (w : World) (q : Rd × List ByteArray) (e : Ending) (w' : World) : Prop :=
  ∃ A n c, e = .returned (.tuple #[q.1.val, .slice A n c]) ∧ Hid (q.2.length = n) ∧ n ≤ 65535 ∧ RowAt w' A (strs q.2) ∧ (∀ ad, A = some ad → w.heap.size ≤ ad.block) ∧ Fr noB w w'

end Go.Proofs.YtdngcheimohamaaDoor
