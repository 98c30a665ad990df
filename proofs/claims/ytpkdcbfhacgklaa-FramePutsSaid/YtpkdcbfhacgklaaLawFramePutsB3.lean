/- What the row leans on, part 3: contracts and plain laws. -/
import Derived.Test.YtpkdcbfhacgklaaProg
import Derived.WalkKit
import Derived.Maps.AppendAt
import Derived.Lib.AppendStr
import Derived.Laws.AppendOwnNone
import Derived.Deep.Draws
import Derived.WalkSpells
import Derived.Laws.IdiomStrings
import Derived.Lib.ConvBytes
import Derived.Defers
import Derived.Laws.Pointers
import Derived.Laws.LoneSync
import Derived.RegionTactic
import Derived.RegionCalls
import Derived.ChangeAlike
import Derived.Laws.NewBlocks
import Derived.Laws.Bits64b
import Derived.Lib.SlBytesConst
import Derived.LaidEqlPtr
import Derived.Deep.RegionHeld3
import Derived.Deep.Cut
import Derived.SliceStrings
import Derived.Deep.Slices
import Derived.Laws.ResultCell
import Derived.Lib.AppendZerosOnto
import Derived.Test.YtpkdcbfhacgklaaLawFramePutsB2
/- Contracts of interrexref01's Reader. -/
namespace Go.Proofs.Ytpkdcbfhacgklaa
open Go.RowKit

def Rd.inv (r : Rd) : Prop := r.e ≠ 0 → r.bs = []
/-- A Reader of the reference, as a value. -/
def Rd.val (r : Rd) : Value := .agg #[.string (mkS r.bs), .int .i64 (r.e : Nat)]
theorem rFail_inv {r : Rd} (k : Nat) (h : r.inv) : (rFail r k).inv := by
  unfold rFail Rd.inv at *
  split
  · intro _; rfl
  · exact h
theorem rTake_inv {r : Rd} (n : Nat) (h : r.inv) : (rTake r n).1.inv := by
  unfold rTake
  split
  · exact rFail_inv 2 h
  · intro e; simp only at e ⊢; rw [h e]; simp
theorem fr_set2 (W : World) (b : Nat) (u v : Value) : Fr (eqB b) W ((W.setCell ⟨b, 0, none⟩ u).setCell ⟨b, 1, none⟩ v) :=
  Fr.setCell (S := eqB b) (Fr.setCell (S := eqB b) (Fr.refl _ W) (p := ⟨b, 0, none⟩) (Or.inl rfl) u) (p := ⟨b, 1, none⟩) (Or.inl rfl) v
theorem set2 {w : World} {b : Nat} {x y u v : Value} {t : TypeId} (h : w.heap[b]? = some (.cells #[x, y] t (0, 0))) : ((w.setCell ⟨b, 0, none⟩ u).setCell ⟨b, 1, none⟩ v).heap[b]? = some (.cells #[u, v] t (0, 0)) := two_set1 (two_set0 h)
theorem cells2 {W : World} {b : Nat} {x y : Value} {t : TypeId} (h : W.heap[b]? = some (.cells #[x, y] t (0, 0))) : W.cell? ⟨b, 0, none⟩ = some x ∧ W.cell? ⟨b, 1, none⟩ = some y := by
  constructor <;> simp [World.cell?, h]
theorem heap_al {W : World} {b : Nat} {o : Obj} (h : W.heap[b]? = some o) (o' : Obj) : (W.alloc o').heap[b]? = some o := ((Fr.refl noB W).alloc o').heap h id
theorem fr_cells {W w1 : World} {S : Nat → Prop} (f : Fr S W w1) {b : Nat} {c : Array Value} {t : TypeId} (h : W.heap[b]? = some (.cells c t (0, 0))) (hS : ¬ S b) :
    (∀ j v, c[j]? = some v → w1.cell? ⟨b, j, none⟩ = some v) ∧ ∀ j, w1.frozen? ⟨b, j, none⟩ = false := by
  have h1 := f.heap h hS
  exact ⟨fun j v hv => by simp [World.cell?, h1, hv], fun j => by simp [World.frozen?, h1]⟩
theorem heap_two (w : World) (A B : Obj) : ((w.alloc A).alloc B).heap[w.heap.size]? = some A ∧ ((w.alloc A).alloc B).heap[w.heap.size + 1]? = some B := by
  constructor
  · rw [Below.heap_alloc _ _ _ (by simp)]; exact heap_alloc_new w A
  · have := heap_alloc_new (w.alloc A) B
    rwa [World.size_alloc] at this
theorem mkS_from (bs : List UInt8) (k : Nat) : (mkS bs).extract k bs.length = mkS (bs.drop k) := by
  apply ByteArray.ext; apply Array.ext'
  simp [mkS]
  exact List.take_of_length_le (by simp)
theorem mkS_to (bs : List UInt8) (k : Nat) : (mkS bs).extract 0 k = mkS (bs.take k) := by
  apply ByteArray.ext; apply Array.ext'
  simp [mkS]

end Go.Proofs.Ytpkdcbfhacgklaa
/- Contracts of interrexref01: Value, Get, GetTruth. -/
namespace Go.Proofs.Ytpkdcbfhacgklaa
open Go.RowKit

theorem u64_wrap (x : Nat) (h : x < 18446744073709551616) : IntKind.u64.wrap (x : Int) = x := by
  rw [IntKind.wrap_u64]; omega
theorem leV_drop {bs : List UInt8} {m : Nat} (h : m < bs.length) : leV (bs.drop m) = (bs.getD m 0).toNat + 256 * leV (bs.drop (m + 1)) := by
  rw [List.drop_eq_getElem_cons h, leV, List.getD_eq_getElem?_getD, List.getElem?_eq_getElem h]
  rfl
theorem value_step {bs : List UInt8} {m : Nat} (hl : bs.length ≤ 8) (h : m < bs.length) :
    IntKind.u64.wrap (IntKind.u64.wrap ((leV (bs.drop (m + 1)) : Nat) * 256 : Int) + IntKind.u64.wrap (((bs[m]?.getD 0).toNat : Nat) : Int)) = ((leV (bs.drop m) : Nat) : Int) := by
  have h1 := leV_drop h
  have h2 := leV_lt (bs.drop m)
  have h3 : (256 : Nat) ^ (bs.drop m).length ≤ 256 ^ 8 := Nat.pow_le_pow_right (by omega) (by rw [List.length_drop]; omega)
  have h4 : (256 : Nat) ^ 8 = 18446744073709551616 := by decide
  rw [List.getD_eq_getElem?_getD] at h1
  have hb := (bs[m]?.getD 0).toNat_lt
  generalize (bs[m]?.getD 0).toNat = b at *
  generalize leV (bs.drop (m + 1)) = x at *
  generalize leV (bs.drop m) = y at *
  have e1 : ((x : Int) * 256) = ((x * 256 : Nat) : Int) := (Int.natCast_mul x 256).symm
  rw [e1, u64_wrap _ (by omega), u64_wrap _ (by omega), ← Int.natCast_add, u64_wrap _ (by omega)]
  omega
set_option maxRecDepth 100000 in
set_option maxHeartbeats 1600000 in
theorem valueR_calls (w : World) (bs : List UInt8) (hl : bs.length ≤ 8) : Calls Try.prog 73 #[.string (mkS bs)] w (fun e w' => e = .returned (.int .u64 (leV bs : Nat)) ∧ w = w') := by
  have hsz : (mkS bs).size = bs.length := mkS_size _
  have hx : ∀ (j : Nat) (h : j < (mkS bs).size), ((mkS bs)[j]'h).toNat = (bs.getD j 0).toNat := fun j h => by
    rw [hsz] at h
    rw [List.getD_eq_getElem?_getD, List.getElem?_eq_getElem h]
    simp [mkS]
    rfl
  generalize hS : mkS bs = s at *
  generalize hn : bs.length = n at *
  have HS := hid hS; clear hS
  have HN := hid hn; clear hn
  have HZ := hid hsz
  have h64 : s.size ≤ 8 := by omega
  clear hsz
  go_enter Try.func73, Try.ntmps73
  go_wp2_with fail
  go_loop [3, 4] (fun x i => ∃ j : Nat, j ≤ s.size ∧ i = .int .i64 ((j : Int) - 1) ∧ x = .int .u64 (leV (bs.drop j) : Nat)) (fun _ i => (intOf i + 1).toNat)
  case atStart =>
    refine ⟨s.size, Nat.le_refl _, rfl, ?_⟩
    rw [HZ.out, List.drop_eq_nil_of_le (by rw [HN.out]; exact Nat.le_refl _)]
    rfl
  case round =>
    obtain ⟨j, hj, rfl, rfl⟩ := hrel
    by_cases hj0 : j = 0
    · subst hj0
      go_wp2_with fail
      go_ret
      exact ⟨rfl, rfl⟩
    · obtain ⟨m, rfl⟩ : ∃ m, j = m + 1 := ⟨j - 1, by omega⟩
      have hst := value_step (bs := bs) (m := m) (by rw [HN.out]; exact hl) (by rw [HN.out, ← HZ.out]; omega)
      have HST := hid hst; clear hst
      go_wp2_with fail
      go_round
      case rel => exact ⟨m, by omega, rfl, by rw [HST.out]⟩
      case measure => simp [intOf]

end Go.Proofs.Ytpkdcbfhacgklaa
/- interrexref03: Put, Size, Get; interrexlaw03.lives. -/
namespace Go.Proofs.Ytpkdcbfhacgklaa
open Go.RowKit
def SlB (bs : List UInt8) : Stb (Fr noB) :=
  ⟨fun v w => ∃ A m c, v = .slice A m c ∧ bs.length = m ∧ RowAt w A (bcells bs), fun _ _ _ ⟨A, m, c, e, hm, h⟩ f => ⟨A, m, c, e, hm, h.fr0 f⟩⟩
theorem mkS_sub (b : List UInt8) (i j : Nat) : (mkS b).extract i j = mkS ((b.drop i).take (j - i)) := by
  apply ByteArray.ext; apply Array.ext'
  simp [mkS]
set_option maxRecDepth 100000 in
set_option maxHeartbeats 1600000 in
theorem putFR_calls (w : World) (k : Nat) (b : List UInt8) (hk : k < 256) (hn : b.length ≤ 65526) :
    Calls Try.prog 26 #[.int .u8 k, .string (mkS b)] w (fun e w' => e = .returned (.tuple #[.string (mkS (frameB k b)), .int .i64 0]) ∧ Fr noB w w') := by
  have hsz : (mkS b).size = b.length := mkS_size _
  have d0 : wrap64 (((mkS b).size : Int) + 10) = ((mkS b).size : Int) + 10 := by unfold wrap64; omega
  have d1 : decide ((65536 : Int) < ((mkS b).size : Int) + 10) = false := decide_eq_false (by omega)
  have hwrap : IntKind.u64.wrap ((mkS b).size : Int) = (mkS b).size := by rw [IntKind.wrap_u64]; omega
  have hnum := fun W => numR_calls W (mkS b).size 4 (by omega) (by decide)
  have hseal := fun W => sealR_calls W (mkS (frB k b)) (by rw [mkS_size, frB_length]; omega)
  rw [mkS_data] at hseal
  obtain ⟨o1, ho1⟩ : ∃ x, (⟨#[1]⟩ : ByteArray) = x := ⟨_, rfl⟩
  obtain ⟨sk, hsk⟩ : ∃ x, mkS (leB 1 k) = x := ⟨_, rfl⟩
  obtain ⟨s4, hs4⟩ : ∃ x, mkS (leB 4 (mkS b).size) = x := ⟨_, rfl⟩
  obtain ⟨s13, h13⟩ : ∃ x, o1 ++ sk = x := ⟨_, rfl⟩
  obtain ⟨s18, h18⟩ : ∃ x, s13 ++ s4 = x := ⟨_, rfl⟩
  have ho : o1 = mkS (leB 1 1) := by rw [← ho1]; decide
  have h13' : s13 = mkS (leB 1 1 ++ leB 1 k) := by rw [← h13, ho, ← hsk, mkS_append]
  have h18' : s18 = mkS (leB 1 1 ++ leB 1 k ++ leB 4 b.length) := by rw [← h18, h13', ← hs4, hsz, mkS_append]
  have HFB : Hid (s18 ++ mkS b = mkS (frB k b)) := by unfold Hid frB; rw [h18', mkS_append]
  have Z1 : Hid (o1.size + sk.size ≤ 9223372036854775807) := by unfold Hid; rw [ho, ← hsk]; simp only [mkS_size, leB_length]; omega
  have Z2 : Hid (s13.size + s4.size ≤ 9223372036854775807) := by unfold Hid; rw [h13', ← hs4]; simp only [mkS_size, List.length_append, leB_length]; omega
  have Z3 : Hid (s18.size + (mkS b).size ≤ 9223372036854775807) := by unfold Hid; rw [h18']; simp only [mkS_size, List.length_append, leB_length]; omega
  have H13 := hid h13
  have H18 := hid h18
  have HSK := hid hsk
  have HS4 := hid hs4
  have HO1 := hid ho1
  clear ho h13' h18' h13 h18 hs4 ho1
  have hkw : ∀ W : World, RowAt (W.alloc (.cells #[.int .u8 k] 5)) (some ⟨W.heap.size, 0, none⟩) (bcells (leB 1 k)) := fun W => by
    have := new_row W #[.int .u8 k] 5
    have e : bcells (leB 1 k) = (#[Value.int .u8 k] : Array Value).toList := by simp [leB, bcells]; omega
    rw [e]; exact this
  clear hsk
  generalize hfb : frB k b = fb at *
  have HFF := hid hfb
  clear hfb
  generalize hs : mkS b = s at *
  have HS := hid hs
  have HK := hid hk
  have HL : Hid ((frameB k b).length = b.length + 10) := frameB_length k b
  have HFR : Hid (frameB k b = sealB fb) := by unfold Hid frameB; rw [← HFF.out]
  clear hk hsz hs
  go_enter Try.func26, Try.ntmps26
  go_wp2_with fail
  apply wp_region_calm (R := Fr noB) (C := fun q W => Fr noB w W) [false, false, false, false, false, false, false, false, false, false, false, false, false, false]
    [eqv _, SlB (leB 1 k), eqv (.string sk), eqv (.string s13), eqv _, eqv _, eqv _, eqv (.string s4), eqv (.string s18), eqv _, eqv (.string (mkS fb)), eqv _, eqv _, eqv _]
    (by kernel_rfl) (by kernel_rfl) (fun _ _ _ h1 h2 => h1.then' h2) ((Fr.refl _ _).drew) ((Fr.refl _ _).drew) (by kernel_rfl)
  · refine ⟨?_, ?_, ?_, ?_, ?_, ?_, ?_, ?_, ?_, ?_, ?_, ?_, ?_, ?_, trivial⟩
    · rw [if_neg (by decide)]; intro kq
      exact calm_mv 0 rfl rfl (Or.inl rfl) (Fr.refl _) (by decide) fun v w hd => hd
    · rw [if_neg (by decide)]; intro kq
      intro a W K hC hd hK
      have d10 : _ = _ := hd 10 (by decide)
      refine wpOp_plain rfl rfl ?_
      have hr9 := hkw W
      go_wp2_with fail
      exact hK _ _ ((Fr.refl noB W).alloc _) (hC.alloc _) ⟨_, 1, 1, rfl, leB_length 1 k, hr9⟩
    · rw [if_neg (by decide)]; intro kq
      intro a W K hC hd hK
      have d11 : (SlB (leB 1 k)).V (a.tmps[11]?.getD undef) W := hd 11 (by decide)
      refine wpOp_plain rfl rfl ?_
      obtain ⟨A9, m9, c9, d11, hm9, h9⟩ := d11
      have hst := Try.toStr h9 hm9 c9
      rw [HSK.out] at hst
      go_wp2_with fail
      exact hK _ _ (Fr.refl _ _) hC rfl
    · rw [if_neg (by decide)]; intro kq
      intro a W K hC hd hK
      have d12 : a.tmps[12]?.getD undef = .string sk := hd 12 (by decide)
      refine wpOp_plain rfl rfl ?_
      have hk9 := HO1.out
      have z9 := Z1.out
      rw [hk9]
      clear hk9
      go_wp2_with fail
      exact hK (.string (o1 ++ sk)) _ (Fr.refl _ _) hC (congrArg Value.string H13.out)
    · rw [if_neg (by decide)]; intro kq
      exact calm_mv 1 rfl rfl (Or.inl rfl) (Fr.refl _) (by decide) fun v w hd => hd
    · rw [if_neg (by decide)]; intro kq
      intro a W K hC hd hK
      have d14 : _ = _ := hd 14 (by decide)
      refine wpOp_plain rfl rfl ?_
      go_wp2_with fail
      exact hK _ _ (Fr.refl _ _) hC rfl
    · rw [if_neg (by decide)]; intro kq
      intro a W K hC hd hK
      have d15 : _ = _ := hd 15 (by decide)
      refine wpOp_plain rfl rfl ?_
      go_wp2_with fail
      exact hK _ _ (Fr.refl _ _) hC rfl
    · rw [if_neg (by decide)]; intro kq
      intro a W K hC hd hK
      have d16 : _ = _ := hd 16 (by decide)
      refine wpOp_plain rfl rfl ?_
      go_wp2_with fail
      refine (hnum W).mono ?_
      rintro e9 w9 ⟨rfl, f9⟩
      exact hK _ _ f9 (hC.then' f9) (congrArg Value.string HS4.out)
    · rw [if_neg (by decide)]; intro kq
      intro a W K hC hd hK
      have d13 : a.tmps[13]?.getD undef = .string s13 := hd 13 (by decide)
      have d17 : a.tmps[17]?.getD undef = .string s4 := hd 17 (by decide)
      refine wpOp_plain rfl rfl ?_
      have z9 := Z2.out
      go_wp2_with fail
      exact hK (.string (s13 ++ s4)) _ (Fr.refl _ _) hC (congrArg Value.string H18.out)
    · rw [if_neg (by decide)]; intro kq
      exact calm_mv 1 rfl rfl (Or.inl rfl) (Fr.refl _) (by decide) fun v w hd => hd
    · rw [if_neg (by decide)]; intro kq
      intro a W K hC hd hK
      have d18 : a.tmps[18]?.getD undef = .string s18 := hd 18 (by decide)
      have d19 : _ = _ := hd 19 (by decide)
      refine wpOp_plain rfl rfl ?_
      have z9 := Z3.out
      go_wp2_with fail
      exact hK (.string (s18 ++ s)) _ (Fr.refl _ _) hC (congrArg Value.string HFB.out)
    · rw [if_neg (by decide)]; intro kq
      intro a W K hC hd hK
      have d20 : a.tmps[20]?.getD undef = .string (mkS fb) := hd 20 (by decide)
      refine wpOp_plain rfl rfl ?_
      go_wp2_with fail
      refine (hseal W).mono ?_
      rintro e9 w9 ⟨rfl, f9⟩
      exact hK _ _ f9 (hC.then' f9) rfl
    · rw [if_neg (by decide)]; intro kq
      exact calm_mv 21 rfl rfl (Or.inr rfl) (Fr.refl _) (by decide) fun v w hd => hd
    · rw [if_neg (by decide)]; intro kq
      intro a W K hC hd hK
      refine wpOp_plain rfl rfl ?_
      go_wp2_with fail
      exact hK _ _ (Fr.refl _ _) hC rfl
  · intro vs w8 fw8 cw8 hV
    have v10 : vs 0 = _ := hV 0 _ _ rfl rfl (by decide)
    have v11 : (SlB (leB 1 k)).V (vs 1) w8 := hV 1 _ _ rfl rfl (by decide)
    have v12 : vs 2 = .string sk := hV 2 _ _ rfl rfl (by decide)
    have v13 : vs 3 = .string s13 := hV 3 _ _ rfl rfl (by decide)
    have v14 : vs 4 = _ := hV 4 _ _ rfl rfl (by decide)
    have v15 : vs 5 = _ := hV 5 _ _ rfl rfl (by decide)
    have v16 : vs 6 = _ := hV 6 _ _ rfl rfl (by decide)
    have v17 : vs 7 = .string s4 := hV 7 _ _ rfl rfl (by decide)
    have v18 : vs 8 = .string s18 := hV 8 _ _ rfl rfl (by decide)
    have v19 : vs 9 = _ := hV 9 _ _ rfl rfl (by decide)
    have v20 : vs 10 = .string (mkS fb) := hV 10 _ _ rfl rfl (by decide)
    have v21 : vs 11 = _ := hV 11 _ _ rfl rfl (by decide)
    have v4 : vs 12 = _ := hV 12 _ _ rfl rfl (by decide)
    have v5 : vs 13 = _ := hV 13 _ _ rfl rfl (by decide)
    clear hV
    simp only [putL, Act.put, Nat.reduceAdd, List.setIfInBounds_toArray, List.set_cons_zero, List.set_cons_succ, v10, v12, v13, v14, v15, v16, v17, v18, v19, v20, v21, v4, v5]
    go_wp2_with fail
    go_ret2
    rw [HFR.out]
    exact ⟨rfl, fw8⟩
theorem putFR_long (w : World) (k : Nat) (s : ByteArray) (hn : 65526 < s.size) (hm : s.size ≤ 1000000000000) :
    Calls Try.prog 26 #[.int .u8 k, .string s] w (fun e w' => e = .returned (.tuple #[.string ⟨#[]⟩, .int .i64 3]) ∧ w = w') := by
  have d0 : wrap64 ((s.size : Int) + 10) = (s.size : Int) + 10 := by unfold wrap64; omega
  have d1 : decide ((65536 : Int) < (s.size : Int) + 10) = true := decide_eq_true (by omega)
  go_enter Try.func26, Try.ntmps26
  go_wp2_with fail
  go_ret2
  exact ⟨rfl, rfl⟩
set_option maxRecDepth 100000 in
set_option maxHeartbeats 1600000 in
theorem sizeR_calls (w : World) (b : List UInt8) (hn : b.length ≤ 1000000000000) :
    Calls Try.prog 30 #[.string (mkS b)] w (fun e w' => e = .returned (.tuple #[.int .u64 ((sizeV b).1 : Nat), .int .i64 ((sizeV b).2 : Nat)]) ∧ w' = w) := by
  have hsz : (mkS b).size = b.length := mkS_size _
  by_cases h10 : b.length < 10
  · have d1 : decide (((mkS b).size : Int) < 10) = true := decide_eq_true (by omega)
    have HV : Hid (sizeV b = (0, 2)) := by unfold Hid sizeV; rw [if_pos h10]
    clear h10 hsz
    generalize mkS b = s at *
    go_enter Try.func30, Try.ntmps30
    go_wp2_with fail
    go_ret2
    exact ⟨by rw [HV.out]; rfl, rfl⟩
  · have d1 : decide (((mkS b).size : Int) < 10) = false := decide_eq_false (by omega)
    obtain ⟨x, hx⟩ : ∃ x, b[0]? = some x := ⟨_, List.getElem?_eq_getElem (by omega)⟩
    have hh : b.headD 0 = x := by
      cases b with
      | nil => simp at hx
      | cons y b => simp at hx; exact hx
    have hx0 : ∀ h : 0 < (mkS b).size, ((mkS b)[0]'h) = x := fun h => by
      rw [hsz] at h
      rw [List.getElem?_eq_getElem h] at hx
      cases hx; rfl
    have hsub : (mkS b).extract 2 6 = mkS ((b.drop 2).take 4) := mkS_sub b 2 6
    have hs0 : 0 < (mkS b).size := by omega
    have hs2 : 6 ≤ (mkS b).size := by omega
    have hs3 : (mkS b).size ≤ 9223372036854775807 := by omega
    have hval := valueR_calls w ((b.drop 2).take 4) (by rw [List.length_take]; omega)
    by_cases h1 : x = 1
    · have t1 : ((x.toNat : Int) != 1) = false := by rw [bne_eq_false_iff_eq, h1]; rfl
      have HV : Hid (sizeV b = (leV ((b.drop 2).take 4) + 10, 0)) := by unfold Hid sizeV; rw [if_neg h10, if_neg (by rw [hh]; simp [h1])]
      have h4 := leV4_lt b
      generalize leV ((b.drop 2).take 4) = v at *
      have hw3 : IntKind.u64.wrap ((v : Int) + 10) = ((v + 10 : Nat) : Int) := by rw [IntKind.wrap_u64]; omega
      clear hh hx h1 h4 h10 hsz hn
      generalize mkS ((b.drop 2).take 4) = s4 at *
      generalize mkS b = s at *
      go_enter Try.func30, Try.ntmps30
      go_wp2_with fail
      refine hval.mono ?_
      rintro e w1 ⟨rfl, rfl⟩
      go_wp2_with fail
      go_ret2
      exact ⟨by rw [HV.out]; rfl, rfl⟩
    · have t1 : ((x.toNat : Int) != 1) = true := by
        rw [bne_iff_ne]; intro h; exact h1 (UInt8.toNat_inj.1 (by simpa using (by omega : x.toNat = 1)))
      have HV : Hid (sizeV b = (0, 6)) := by unfold Hid sizeV; rw [if_neg h10, if_pos (by rw [hh]; exact h1)]
      clear hh hx h1 h10 hsz hn hval hsub
      generalize mkS b = s at *
      go_enter Try.func30, Try.ntmps30
      go_wp2_with fail
      go_ret2
      exact ⟨by rw [HV.out]; rfl, rfl⟩
def FGetR (w : World) (q : (Nat × List UInt8) × Nat) (e : Ending) (w' : World) : Prop := e = .returned (.tuple #[.int .u8 (q.1.1 : Nat), .string (mkS q.1.2), .int .i64 (q.2 : Nat)]) ∧ Fr noB w w'
set_option maxRecDepth 100000 in
set_option maxHeartbeats 1600000 in
theorem getFR_calls (w : World) (b : List UInt8) (hn : b.length ≤ 1000000) :
    Calls Try.prog 28 #[.string (mkS b)] w (FGetR w (frGet b)) := by
  have hsz : (mkS b).size = b.length := mkS_size _
  by_cases hl : 65536 < b.length
  · have d1 : decide ((65536 : Int) < (mkS b).size) = true := decide_eq_true (by omega)
    have HV : Hid (frGet b = ((0, []), 3)) := by unfold Hid frGet; rw [if_pos hl]
    clear hl hsz
    generalize mkS b = s at *
    go_enter Try.func28, Try.ntmps28
    go_wp2_with fail
    go_ret3
    rw [HV.out]
    exact ⟨rfl, Fr.refl _ _⟩
  · have d1 : decide ((65536 : Int) < (mkS b).size) = false := decide_eq_false (by omega)
    have hsv := sizeR_calls w b (by omega)
    have hop := openR_calls w (mkS b) (by omega)
    rw [mkS_data] at hop
    have HV : Hid (frGet b = if (sizeV b).2 ≠ 0 then ((0, []), (sizeV b).2) else if b.length < (sizeV b).1 then ((0, []), 2) else if (sizeV b).1 < b.length then ((0, []), 3) else if (openB b).2 ≠ 0 then ((0, []), (openB b).2) else ((((openB b).1.getD 1 0).toNat, (openB b).1.drop 6), 0)) := by
      show frGet b = _
      conv => lhs; unfold frGet
      rw [if_neg hl]
    have hz := sizeV_lt b
    have hz10 : (sizeV b).2 = 0 → 10 ≤ b.length := fun h0 => by
      unfold sizeV at h0
      split at h0
      · cases h0
      · omega
    have hob : (openB b).2 = 0 → 10 ≤ b.length → (openB b).1.length = b.length - 4 := fun h0 h1 => openB_len h0 (by omega)
    rw [← hsz] at HV hz10 hob hn hl
    generalize frGet b = res at *
    generalize sizeV b = sv at *
    generalize openB b = ob at *
    obtain ⟨v, ev⟩ := sv
    obtain ⟨al, ae⟩ := ob
    simp only [] at *
    clear hsz
    generalize mkS b = s at *
    have HZ := hid hz
    have HL := hid hl
    clear hz hl
    go_enter Try.func28, Try.ntmps28
    go_wp2_with fail
    refine hsv.mono ?_
    rintro e w1 ⟨rfl, rfl⟩
    by_cases he : ev = 0
    · have t1 : ((ev : Int) != 0) = false := by rw [bne_eq_false_iff_eq]; omega
      have hn10 := hz10 he
      rw [if_neg (by rw [he]; decide)] at HV
      have hw1 : IntKind.u64.wrap (s.size : Int) = s.size := by rw [IntKind.wrap_u64]; omega
      clear he hz10
      by_cases h1 : s.size < v
      · have d2 : decide (s.size < v) = true := decide_eq_true h1
        rw [if_pos h1] at HV
        clear h1
        go_wp2_with fail
        go_ret3
        rw [HV.out]
        exact ⟨rfl, Fr.refl _ _⟩
      · have d2 : decide (s.size < v) = false := decide_eq_false h1
        rw [if_neg h1] at HV
        by_cases h2 : v < s.size
        · have d3 : decide (v < s.size) = true := decide_eq_true h2
          rw [if_pos h2] at HV
          clear h1 h2
          go_wp2_with fail
          go_ret3
          rw [HV.out]
          exact ⟨rfl, Fr.refl _ _⟩
        · have d3 : decide (v < s.size) = false := decide_eq_false h2
          rw [if_neg h2] at HV
          clear h1 h2
          go_wp2_with fail
          refine hop.mono ?_
          rintro e w2 ⟨rfl, f2⟩
          clear hop
          by_cases ha : ae = 0
          · have t2 : ((ae : Int) != 0) = false := by rw [bne_eq_false_iff_eq]; omega
            have hk := hob ha hn10
            rw [if_neg (by rw [ha]; decide)] at HV
            clear ha hob
            obtain ⟨x, hx⟩ : ∃ x, al[1]? = some x := ⟨_, List.getElem?_eq_getElem (by omega)⟩
            have hgx : al.getD 1 0 = x := by rw [List.getD_eq_getElem?_getD, hx]; rfl
            rw [hgx] at HV
            have haz : (mkS al).size = al.length := mkS_size _
            have hx1 : ∀ h : 1 < (mkS al).size, ((mkS al)[1]'h) = x := fun h => by
              rw [haz] at h
              rw [List.getElem?_eq_getElem h] at hx
              cases hx; rfl
            have hs1 : 1 < (mkS al).size := by omega
            have hs6 : 6 ≤ (mkS al).size := by omega
            have hsm : (mkS al).size ≤ 9223372036854775807 := by omega
            have hex : (mkS al).extract 6 (mkS al).size = mkS (al.drop 6) := by rw [haz]; exact mkS_from al 6
            have HK := hid hk
            clear hx hgx haz hk
            generalize hsd : mkS (al.drop 6) = sd at *
            have HSD := hid hsd
            clear hsd
            generalize mkS al = sa at *
            go_wp2_with fail
            apply wp_region_calm (R := Fr noB) (C := fun q W => Fr noB w2 W) [false, false, false, false, false, false, false]
              [eqv _, eqv _, eqv _, eqv _, eqv _, eqv _, eqv _]
              (by kernel_rfl) (by kernel_rfl) (fun _ _ _ h1 h2 => h1.then' h2) ((Fr.refl _ _).drew) ((Fr.refl _ _).drew) (by kernel_rfl)
            · refine ⟨?_, ?_, ?_, ?_, ?_, ?_, ?_, trivial⟩
              · rw [if_neg (by decide)]; intro kq
                exact calm_mv 7 rfl rfl (Or.inl rfl) (Fr.refl _) (by decide) fun v w hd => hd
              · rw [if_neg (by decide)]; intro kq
                intro a W K hC hd hK
                have d38 : _ = _ := hd 38 (by decide)
                refine wpOp_plain rfl rfl ?_
                go_wp2_with fail
                exact hK _ _ (Fr.refl _ _) hC rfl
              · rw [if_neg (by decide)]; intro kq
                exact calm_mv 7 rfl rfl (Or.inl rfl) (Fr.refl _) (by decide) fun v w hd => hd
              · rw [if_neg (by decide)]; intro kq
                intro a W K hC hd hK
                have d40 : _ = _ := hd 40 (by decide)
                refine wpOp_plain rfl rfl ?_
                go_wp2_with fail
                exact hK _ _ (Fr.refl _ _) hC rfl
              · rw [if_neg (by decide)]; intro kq
                exact calm_mv 39 rfl rfl (Or.inr rfl) (Fr.refl _) (by decide) fun v w hd => hd
              · rw [if_neg (by decide)]; intro kq
                exact calm_mv 41 rfl rfl (Or.inr rfl) (Fr.refl _) (by decide) fun v w hd => hd
              · rw [if_neg (by decide)]; intro kq
                intro a W K hC hd hK
                refine wpOp_plain rfl rfl ?_
                go_wp2_with fail
                exact hK _ _ (Fr.refl _ _) hC rfl
            · intro vs w8 fw8 cw8 hV
              have v38 : vs 0 = _ := hV 0 _ _ rfl rfl (by decide)
              have v39 : vs 1 = _ := hV 1 _ _ rfl rfl (by decide)
              have v40 : vs 2 = _ := hV 2 _ _ rfl rfl (by decide)
              have v41 : vs 3 = _ := hV 3 _ _ rfl rfl (by decide)
              have v2 : vs 4 = _ := hV 4 _ _ rfl rfl (by decide)
              have v3 : vs 5 = _ := hV 5 _ _ rfl rfl (by decide)
              have v4 : vs 6 = _ := hV 6 _ _ rfl rfl (by decide)
              clear hV
              simp only [putL, Act.put, Nat.reduceAdd, List.setIfInBounds_toArray, List.set_cons_zero, List.set_cons_succ, v38, v39, v40, v41, v2, v3, v4]
              go_wp2_with fail
              go_ret3
              rw [HV.out]
              refine ⟨?_, f2.then' fw8⟩
              simp only []
              rw [HSD.out]; rfl
          · have t2 : ((ae : Int) != 0) = true := by rw [bne_iff_ne]; omega
            rw [if_pos ha] at HV
            clear ha hob
            go_wp2_with fail
            go_ret3
            rw [HV.out]
            exact ⟨rfl, f2⟩
    · have t1 : ((ev : Int) != 0) = true := by rw [bne_iff_ne]; omega
      rw [if_pos he] at HV
      clear he hz10
      go_wp2_with fail
      go_ret3
      rw [HV.out]
      exact ⟨rfl, Fr.refl _ _⟩
end Go.Proofs.Ytpkdcbfhacgklaa
/- interrexlaw03.lives. -/
namespace Go.Proofs.Ytpkdcbfhacgklaa
open Go.RowKit

set_option maxRecDepth 100000 in
set_option maxHeartbeats 1600000 in
theorem lives03_calls (w : World) : Calls Try.prog 23 #[] w (BoolPost w true) := by
  have hf : (frB 7 [] : List UInt8) = [1, 7, 0, 0, 0, 0] := by decide +kernel
  have hl10 : (frameB 7 []).length = 10 := by rw [frameB_length]; rfl
  have ht6 : (frameB 7 []).take 6 = [1, 7, 0, 0, 0, 0] := by
    unfold frameB sealB; rw [hf]; rfl
  go_enter Try.func23, Try.ntmps23
  go_wp2_with fail
  refine (newF_calls w).mono ?_
  rintro e w1 ⟨rfl, h1, f1, z1⟩
  have Z1 := hid z1; clear z1
  have hput := putF_calls w1 w.heap.size 7 false none 0 0 [] h1 (by decide) (RowAt.nil _ _) rfl (by decide) (fun _ => ⟨rfl, rfl⟩)
  clear h1
  generalize frameB 7 [] = bs at *
  go_wp2_with fail
  refine hput.mono ?_
  clear hput
  rintro e w2 ⟨A, c, rfl, hown, ht, f2⟩
  have hnl : Hid (bs.length = 10) := hl10
  rw [hl10] at hown ⊢
  obtain ⟨g, rfl⟩ : ∃ g, A = some ⟨g, 0, none⟩ := by
    rcases hown.2 with ⟨e, e2⟩ | ⟨g, cap, cur, e, _⟩
    · injection e with _ h; omega
    · injection e with e; exact ⟨g, e⟩
  have hc10 : 10 ≤ c := by
    rcases hown.2 with ⟨e, _⟩ | ⟨g', cap, cur, e, _, _, h3, _⟩
    · cases e
    · cases e; exact h3
  have hcm := own_capB hown
  have hr6 : RowAt w2 (some ⟨g, 0, none⟩) (bcells [1, 7, 0, 0, 0, 0]) := by
    have := (own_row hown).sub 0 6
    rw [← bcells_sub, List.drop_zero, ht6, add_zero'] at this
    exact this
  have F2 := hid ((f1.up0 w.heap.size).then' (f2.mono fun b _ hb => by unfold eqB at hb; unfold upB; omega)).none
  have hcv := Try.toStr hr6 (n := 6) rfl c
  clear hown ht hl10
  go_wp2_with fail
  go_ret
  exact ⟨by rw [mkS_toList]; rfl, F2.out⟩
end Go.Proofs.Ytpkdcbfhacgklaa
/- append(xs, make([]uint8, k)...). -/
namespace Go.Proofs.Ytpkdcbfhacgklaa
open Go.RowKit Go.Lib

def zs (k : Nat) : List UInt8 := List.replicate k 0
theorem zs_length (k : Nat) : (zs k).length = k := by simp [zs]
theorem zeroCells_zs (k : Nat) : Builtin.zeroCells (Value.int .u8 0).cells k = (bcells (zs k)).toArray := by
  apply Array.ext'
  have h1 : (Value.int IntKind.u8 0).cells = #[.int .u8 0] := rfl
  simp only [Builtin.zeroCells, h1, bcells, zs, List.map_replicate]
  simp [Nat.mod_one]
  rw [List.eq_replicate_iff]
  simp
theorem run_append_room_zeros {P : Program} (w : World) (t tn ty e : TypeId) (i : TypeInfo) (kq kn : IntKind) (ht : P.underlying t = some (.slice e)) (htn : P.underlying tn = some (.int kn)) (hi : P.info? e = some i) (hz : i.zero = some (.int .u8 0)) (hs1 : i.size = 1) (hb1 : i.bytes = 1)
    (g sLen sCap : Nat) (cur : Array Value) (hg : w.heap[g]? = some (.cells cur e (0, 0))) (k : Nat) (h0 : 0 < k) (hk : k ≤ 140737488355328)
    (hroom : sLen + k ≤ sCap) (hfit : sLen + k ≤ cur.size) :
    (Builtin.append_ #[t, tn] ty #[.slice (some ⟨g, 0, none⟩) sLen sCap, .int kq k]).run P w =
      .ok (.slice (some ⟨g, 0, none⟩) (sLen + k) sCap) (w.setRow g (cur.toList.take sLen ++ bcells (zs k) ++ cur.toList.drop (sLen + k)).toArray) := by
  have hst := run_storeCells_at P g sLen e (bcells (zs k)) 0 cur w hg (by simpa [bcells_length, zs_length] using hfit) (bcells_one _)
  have hk0 : k ≠ 0 := by omega
  have hw : IntKind.i64.wrap (k : Int) = k := by rw [IntKind.wrap_i64]; omega
  have hneg : ¬ ((k : Int) < 0) := by omega
  have h48 : ¬ (281474976710656 < (k : Int)) := by omega
  simp only [Nat.add_zero, bcells_length, zs_length] at hst
  simp [Builtin.append_, run_underlying ht, run_underlying htn, sizeOf, typeInfo, zeroValue, hi, hz, hs1, hb1, asInt, asIntOf, hw, hneg, h48, hk0, hroom, Addr.add_lit, zeroCells_zs, hst]
/-- Zero bytes put behind an owned row, and where the row lies then. -/
theorem run_app_zeros {P : Program} (w : World) (t tn ty e : TypeId) (i : TypeInfo) (kq kn : IntKind) (ht : P.underlying t = some (.slice e)) (htn : P.underlying tn = some (.int kn)) (hi : P.info? e = some i) (hz : i.zero = some (.int .u8 0))
    (hsize : i.size = 1) (hby : i.bytes = 1) (v : Value) (n : Nat) (xs : List Value) (hown : w.ownsRow 0 e 1 v n xs) (k : Nat) (h0 : 0 < k)
    (h63 : n + k ≤ 140737488355328) :
    ∃ v' w', (Builtin.append_ #[t, tn] ty #[v, .int kq k]).run P w = .ok v' w' ∧ w'.ownsRow 0 e 1 v' (n + k) (xs ++ bcells (zs k)) ∧ w.grownBy w' v.ownBlock ∧ (v'.ownBlock = v.ownBlock ∨ v'.ownBlock = some w.heap.size) := by
  have h63' : n + k ≤ maxLen := by simp only [maxLen]; omega
  have hxl : xs.length = n := by simpa using hown.1
  have hlen : (xs ++ bcells (zs k)).length = (n + k) * 1 := by rw [List.length_append, hxl, bcells_length, zs_length, Nat.mul_one]
  have grown : ∀ (old : Nat), old < n + k → ∀ (row : Option Nat),
      (w.drew.alloc (.cells (xs.toArray ++ (bcells (zs k)).toArray ++ Builtin.zeroCells (Value.int .u8 0).cells (grownCap w (n + k) old e - (n + k))) e)).ownsRow 0 e 1
        (.slice (some ⟨w.heap.size, 0, none⟩) (n + k) (grownCap w (n + k) old e)) (n + k) (xs ++ bcells (zs k)) ∧
      w.grownBy (w.drew.alloc (.cells (xs.toArray ++ (bcells (zs k)).toArray ++ Builtin.zeroCells (Value.int .u8 0).cells (grownCap w (n + k) old e - (n + k))) e)) row := by
    intro old ho row
    have hge := grownCap_ge w (n + k) old e
    have hcm : grownCap w (n + k) old e ≤ maxLen := grownCap_le_maxLen w (n + k) old e h63'
    refine ⟨⟨hlen, .inr ⟨w.heap.size, _, _, rfl, Nat.zero_le _, heap_alloc_new w.drew _, hge, hcm, ?_, ?_⟩⟩, ⟨rfl, rfl, rfl, by simp, fun j hj _ => Below.heap_alloc w.drew _ j hj⟩⟩
    · have hz1 : (Value.int IntKind.u8 0).cells.size = 1 := rfl
      simp only [Array.size_append, List.size_toArray, size_zeroCells, hz1, hxl, bcells_length, zs_length]
      omega
    · simp only [Array.toList_append, List.append_assoc]
      rw [← List.append_assoc, ← hlen]
      exact List.take_left
  rcases hown.2 with ⟨rfl, rfl⟩ | ⟨g, cap, cur, rfl, hbg, hg, hnc, hcm, hcs, htake⟩
  · obtain rfl : xs = [] := List.eq_nil_of_length_eq_zero hxl
    have hr := run_append_nil_zeros (P := P) w t tn ty e i (.int .u8 0) kq kn ht htn hi hz k h0 (by omega) (by omega) (by rw [hby]; omega)
    have hgr := grown 0 (by omega) (Value.ownBlock (.slice none 0 0))
    simp only [Nat.zero_add, List.nil_append, Array.empty_append] at hgr ⊢
    rw [zeroCells_zs k] at hr
    exact ⟨_, _, hr, hgr.1, hgr.2, Or.inr rfl⟩
  · by_cases hroom : n + k ≤ cap
    · have hcs' : cur.size = cap := by simpa using hcs
      have hr := run_append_room_zeros (P := P) w t tn ty e i kq kn ht htn hi hz hsize hby g n cap cur hg k h0 (by omega) hroom (by omega)
      refine ⟨_, _, hr, ⟨hlen, .inr ⟨g, cap, _, rfl, hbg, setRow_heap w g cur _ e _ hg, hroom, hcm, ?_, ?_⟩⟩, ⟨rfl, rfl, rfl, by simp, fun j _ hj => setRow_other w g j _ (fun e => hj (by simp [Value.ownBlock, e]))⟩, Or.inl rfl⟩
      · simp only [List.size_toArray, List.length_append, List.length_take, List.length_drop, Array.length_toList, bcells_length, zs_length]
        omega
      · have ht' : cur.toList.take n = xs := by simpa using htake
        rw [ht', ← hlen]
        exact List.take_left
    · have holds : ∀ j u, xs[j]? = some u → w.cell? ((⟨g, 0, none⟩ : Addr).add j) = some u := hown.cells (g := g) rfl
      have hold := run_firstCells_some (P := P) w.drew i.size n ⟨g, 0, none⟩ n cap xs (by rw [hsize]; simpa using hxl) (by simpa using holds)
      have hr := run_append_grow_zeros (P := P) w t tn ty e i (.int .u8 0) kq kn ht htn hi hz (some ⟨g, 0, none⟩) n cap xs hold k h0 (by omega) (by omega) (by omega) (by rw [hby]; omega) (by rw [hby]; exact growslice_fits (by omega) (by omega))
      have hgr := grown cap (by omega) (Value.ownBlock (.slice (some ⟨g, 0, none⟩) n cap))
      rw [zeroCells_zs k] at hr
      exact ⟨_, _, hr, hgr.1, hgr.2, Or.inr rfl⟩
theorem wpList_app_zeros {P : Program} {ops : Array Oper} {rest : List Oper} {o : Oper} {a : Act} {w : World} {Q : Exit → Act → World → Prop} {t tn e : TypeId} {kn : IntKind} (A : AppTy P t e (.int .u8 0) 1 1) (hu : P.underlying tn = some (.int kn))
    (hgd : o.guard = none) (sl x : Operand) (ho : o.op = .call { callee := .builtin .append, args := #[sl, x], argTypes := #[t, tn] })
    (v : Value) (n : Nat) (xs : List Value) (hs : a.eval sl = v) (hown : w.ownsRow 0 e 1 v n xs) (kq : IntKind) (k : Nat) (hx : a.eval x = .int kq k) (h0 : 0 < k)
    (h63 : n + k ≤ 140737488355328)
    (h : ∀ A' c' w', w'.ownsRow 0 e 1 (.slice A' (n + k) c') (n + k) (xs ++ bcells (zs k)) → w.grownBy w' v.ownBlock → ((Value.slice A' (n + k) c').ownBlock = v.ownBlock ∨ (Value.slice A' (n + k) c').ownBlock = some w.heap.size) → wpList P ops Q rest (a.put o.dst (.slice A' (n + k) c')) w') :
    wpList P ops Q (o :: rest) a w := by
  obtain ⟨i, hi, hz, hsz, hby⟩ := info_parts A.info
  refine wpList_plain hgd fun K hK => ?_
  obtain ⟨v', w', hr, h2, h3, h4⟩ := run_app_zeros (P := P) w t tn o.type e i kq kn A.und hu hi hz hsz hby v n xs hown k h0 h63
  obtain ⟨A', c', rfl⟩ := own_slice h2
  unfold Oper.wp execOp
  simp only [ho, resolve, invoke, builtin, Sem.run_bind, Sem.run_pure, Result.andThen_ok, List.map_toArray, List.map_cons, List.map_nil, hs, hx, hr]
  exact hK _ _ (h A' c' w' h2 h3 h4)
end Go.Proofs.Ytpkdcbfhacgklaa
/- Turned bits are told: plain laws. -/
namespace Go.Proofs.Ytpkdcbfhacgklaa
open Go.RowKit

theorem add_xor (n a v : Nat) (h : a < 2 ^ n) : a + 2 ^ n * v = a ^^^ (2 ^ n * v) := by
  have := low_high n (a + 2 ^ n * v)
  rw [Nat.add_mul_mod_self_left, Nat.mod_eq_of_lt h, Nat.add_mul_div_left _ _ (Nat.two_pow_pos n), Nat.div_eq_of_lt h, Nat.zero_add] at this
  exact this.symm
theorem leV_cons (x : UInt8) (l : List UInt8) : leV (x :: l) = x.toNat ^^^ (2 ^ 8 * leV l) := by
  rw [← add_xor 8 _ _ x.toNat_lt]; rfl
theorem crcReg_leV (r : Nat) (l : List UInt8) : crcReg r l = crcIter (8 * l.length) (r ^^^ leV l) := by
  induction l generalizing r with
  | nil => simp [crcReg, leV, crcIter]
  | cons x l ih =>
    have e : crcReg r (x :: l) = crcReg (crcByte r x.toNat) l := rfl
    rw [e, ih, crcByte_eq, List.length_cons, Nat.mul_succ, crcIter_add, leV_cons, ← Nat.xor_assoc, crcIter_xor 8 (r ^^^ x.toNat), crcIter_shift]
theorem xor_not {x : Nat} (h : x < 4294967296) : x ^^^ not32 x = 4294967295 := by
  unfold not32
  rw [← not_nat x h, Nat.xor_comm 4294967295 x, ← Nat.xor_assoc, Nat.xor_self, Nat.zero_xor]
/-- What a good seal leaves in the register. -/
theorem crcReg_good {l : List UInt8} {k : Nat} (hl : l.length = k + 4) (h : leV (l.drop k) = crcSum (l.take k)) : crcReg (not32 0) l = crcIter 32 4294967295 := by
  have e : crcReg (not32 0) l = crcReg (crcReg (not32 0) (l.take k)) (l.drop k) := by rw [← crcReg_append, List.take_append_drop]
  have h4 : (l.drop k).length = 4 := by rw [List.length_drop, hl]; omega
  rw [e, crcReg_leV, h4, h]
  have hlt := crcReg_lt (not32_lt 0) (l.take k)
  unfold crcSum crcMore
  rw [xor_not hlt]
theorem turned_told {b l : List UInt8} {a t : Nat} (hl : l.length = (sealB b).length) (hv : leV l = leV (sealB b) ^^^ (2 ^ a * t)) (ht : t ≠ 0) (ht2 : t < 4294967296) (ha : a ≤ 8 * l.length) : openB l = ([], 5) := by
  have hsl := sealB_length b
  have hk : l.length = b.length + 4 := by omega
  unfold openB
  rw [if_neg (by omega), hk, Nat.add_sub_cancel]
  split
  · rename_i h
    exfalso
    have g1 := crcReg_good hk h
    have hb : (sealB b).take b.length = b := by unfold sealB; simp
    have hs2 : leV ((sealB b).drop b.length) = crcSum ((sealB b).take b.length) := by
      rw [hb]; unfold sealB
      rw [List.drop_left, leV_leB]
      exact Nat.mod_eq_of_lt (crcSum_lt b)
    have g2 := crcReg_good hsl hs2
    rw [crcReg_leV] at g1 g2
    rw [hl] at g1
    have g3 : crcIter (8 * (sealB b).length) (2 ^ a * t) = 0 := by
      have e : 2 ^ a * t = (not32 0 ^^^ leV l) ^^^ (not32 0 ^^^ leV (sealB b)) := by
        rw [hv]
        refine Nat.eq_of_testBit_eq fun i => ?_
        simp only [Nat.testBit_xor]
        cases (not32 0).testBit i <;> cases (leV (sealB b)).testBit i <;> cases (2 ^ a * t).testBit i <;> rfl
      rw [e, crcIter_xor, g1, g2, Nat.xor_self]
    have e : 8 * (sealB b).length = (8 * (sealB b).length - a) + a := by omega
    rw [e, crcIter_add, crcIter_shift] at g3
    exact ht (crcIter_inj ht2 _ g3)
  · rfl
/-- A bit of a row of bytes is turned. -/
theorem leV_flip (l : List UInt8) (j e : Nat) (x y : UInt8) (he : e < 8) (hx : l[j]? = some x) (hy : y.toNat = x.toNat ^^^ 2 ^ e) : leV (l.set j y) = leV l ^^^ 2 ^ (8 * j + e) := by
  induction l generalizing j with
  | nil => simp at hx
  | cons z l ih =>
    cases j with
    | zero =>
      simp at hx; subst hx
      rw [List.set_cons_zero, leV_cons, leV_cons, hy, Nat.mul_zero, Nat.zero_add, Nat.xor_assoc, Nat.xor_assoc]
      congr 1
      exact Nat.xor_comm _ _
    | succ j =>
      rw [List.set_cons_succ, leV_cons, leV_cons, ih j (by simpa using hx), Nat.xor_assoc]
      congr 1
      rw [Nat.mul_comm, Nat.mul_comm (2 ^ 8) (leV l)]
      refine Nat.eq_of_testBit_eq fun i => ?_
      simp only [Nat.testBit_xor, Nat.testBit_mul_two_pow, Nat.testBit_two_pow]
      by_cases h : 8 ≤ i
      · simp only [h, decide_true, Bool.true_and]
        congr 1
        rw [decide_eq_decide]; omega
      · simp only [h, decide_false, Bool.false_and, Bool.false_bne]
        symm; rw [decide_eq_false_iff_not]; omega
theorem turn_step (a t k : Nat) : 2 ^ a * (t % 2 ^ (k + 1)) = (2 ^ a * (t % 2 ^ k)) ^^^ (if t.testBit k then 2 ^ (a + k) else 0) := by
  rw [Nat.mul_comm, Nat.mul_comm (2 ^ a) (t % 2 ^ k)]
  refine Nat.eq_of_testBit_eq fun i => ?_
  have h0 : ∀ c : Bool, (if c = true then 2 ^ (a + k) else 0).testBit i = (c && decide (a + k = i)) := fun c => by cases c <;> simp [Nat.testBit_two_pow]
  rw [Nat.testBit_xor, h0, Nat.testBit_mul_two_pow, Nat.testBit_mul_two_pow, Nat.testBit_mod_two_pow, Nat.testBit_mod_two_pow]
  by_cases h : a ≤ i
  · simp only [h, decide_true, Bool.true_and]
    by_cases h1 : i - a = k
    · rw [h1]
      have : a + k = i := by omega
      simp [this]
    · have h2 : ¬ (a + k = i) := by omega
      have h3 : decide (i - a < k + 1) = decide (i - a < k) := by rw [decide_eq_decide]; omega
      simp [h2, h3]
  · have h2 : ¬ (a + k = i) := by omega
    simp [h, h2]
end Go.Proofs.Ytpkdcbfhacgklaa
/- Frames: plain laws. -/
namespace Go.Proofs.Ytpkdcbfhacgklaa
open Go.RowKit

theorem openB_sealB (b : List UInt8) : openB (sealB b) = (b, 0) := by
  unfold openB
  rw [sealB_length, if_neg (by omega), Nat.add_sub_cancel]
  unfold sealB
  rw [List.drop_left, List.take_left, leV_leB, if_pos (Nat.mod_eq_of_lt (crcSum_lt b))]
theorem frB_eq (k : Nat) (b : List UInt8) : ∃ c0 c1 c2 c3, leB 4 b.length = [c0, c1, c2, c3] ∧ frB k b = [1, UInt8.ofNat k, c0, c1, c2, c3] ++ b := by
  have h1 : leB 1 1 = [1] := by decide
  have hk : leB 1 k = [UInt8.ofNat k] := by
    unfold leB
    simp [leB]
  have h4 := leB_length 4 b.length
  unfold frB
  rw [h1, hk]
  match h : leB 4 b.length, h4 with
  | [c0, c1, c2, c3], _ => exact ⟨c0, c1, c2, c3, rfl, rfl⟩
theorem sizeV_frame {k : Nat} {b : List UInt8} (hb : b.length < 4294967296) : sizeV (frameB k b) = (b.length + 10, 0) := by
  obtain ⟨c0, c1, c2, c3, h1, h2⟩ := frB_eq k b
  have hl := frameB_length k b
  unfold sizeV
  rw [if_neg (by omega)]
  unfold frameB sealB
  rw [h2]
  simp only [List.cons_append, List.headD_cons, ne_eq, not_true, if_false]
  have hv := leV_leB 4 b.length
  rw [h1, Nat.mod_eq_of_lt (by simpa using hb)] at hv
  exact congrArg (fun x => (x + 10, 0)) hv
theorem frGet_frame {k : Nat} {b : List UInt8} (hk : k < 256) (hb : b.length ≤ 65526) : frGet (frameB k b) = ((k, b), 0) := by
  obtain ⟨c0, c1, c2, c3, h1, h2⟩ := frB_eq k b
  have hl := frameB_length k b
  have hs := sizeV_frame (k := k) (b := b) (by omega)
  unfold frGet
  rw [if_neg (by omega), hs, hl, if_neg (by simp), if_neg (by simp), if_neg (by simp)]
  unfold frameB
  rw [openB_sealB, if_neg (by simp), h2]
  simp [Nat.mod_eq_of_lt hk]
theorem frGet_bad {l : List UInt8} (h : (openB l).2 ≠ 0) : ∃ e, frGet l = ((0, []), e) ∧ e ≠ 0 := by
  unfold frGet
  by_cases h1 : 65536 < l.length
  · rw [if_pos h1]; exact ⟨3, rfl, by decide⟩
  · rw [if_neg h1]
    by_cases h2 : (sizeV l).2 ≠ 0
    · rw [if_pos h2]; exact ⟨_, rfl, h2⟩
    · rw [if_neg h2]
      by_cases h3 : l.length < (sizeV l).1
      · rw [if_pos h3]; exact ⟨2, rfl, by decide⟩
      · rw [if_neg h3]
        by_cases h4 : (sizeV l).1 < l.length
        · rw [if_pos h4]; exact ⟨3, rfl, by decide⟩
        · rw [if_neg h4, if_pos h]; exact ⟨_, rfl, h⟩
theorem frGet_turned {k : Nat} {b l : List UInt8} {a t : Nat} (hl : l.length = b.length + 10) (hv : leV l = leV (frameB k b) ^^^ (2 ^ a * t)) (ht : t ≠ 0) (ht2 : t < 4294967296) (ha : a ≤ 8 * l.length) : ∃ e, frGet l = ((0, []), e) ∧ e ≠ 0 := by
  refine frGet_bad ?_
  have := turned_told (b := frB k b) (l := l) (a := a) (t := t) (by rw [hl]; exact (frameB_length k b).symm) hv ht ht2 ha
  rw [this]; decide
end Go.Proofs.Ytpkdcbfhacgklaa
/- interrexlaw03.FramePuts: the walk. -/
namespace Go.Proofs.Ytpkdcbfhacgklaa
open Go.RowKit

set_option maxRecDepth 100000 in
set_option maxHeartbeats 6400000 in
theorem frPuts_walk (w : World) (kd : Nat) (hkd : kd < 256) (A : Option Addr) (n c : Nat) (b : List UInt8) (mo : Nat) (hmo : mo < 256) (hr : RowAt w A (bcells b)) (HN : Hid (b.length = n)) (hnc : n ≤ c) (hc : c ≤ maxLen) (hnil : A = none → n = 0 ∧ c = 0) :
    Calls Try.prog 5 #[.int .u8 kd, .slice A n c, .int .u8 mo] w (BoolPost w true) := by
  have hlv := @lives03_calls
  unfold maxLen at hc
  by_cases h300 : 300 < n
  · have t12 : decide (300 < (n : Int)) = true := by simp; omega
    clear hr
    go_enter Try.func5, Try.ntmps5
    go_wp2_with fail
    refine (hlv _).mono ?_
    rintro e w1 ⟨rfl, f1⟩
    go_wp2_with fail
    refine (hlv _).mono ?_
    rintro e w2 ⟨rfl, f2⟩
    go_wp2_with fail
    go_ret
    exact ⟨rfl, f1.then' f2⟩
  · have t12 : decide (300 < (n : Int)) = false := by simp; omega
    have h300' : n ≤ 300 := by omega
    by_cases hm : 250 < mo
    · have t13 : decide ((250 : Int) < (mo : Int)) = true := by simp; omega
      have t14 : decide ((mo : Int) ≤ 250) = false := by simp; omega
      go_enter Try.func5, Try.ntmps5
      go_wp2_with fail
      refine (hlv _).mono ?_
      rintro e w1 ⟨rfl, f1⟩
      have hr1 := hr.fr0 (f1.alloc (.cells #[] 5))
      have z1 := f1.size
      have hown : (w1.alloc (.cells #[] 5)).ownsRow 0 5 1 (.slice (some ⟨w1.heap.size, 0, none⟩) 0 0) 0 [] := World.ownsRow_made w1 #[] 0 (Nat.zero_le _) (by unfold maxLen; omega) rfl
      clear hr
      go_wp2_with (at_builtin; refine wpList_app Try.app8 rfl (.tmp 24) (.tmp 25) rfl _ 0 [] rfl hown A n c (bcells b) rfl (by rw [bcells_length, HN.out, Nat.mul_one]) hr1 (bcells_one _) hnil (by omega) (by omega) ?_)
      intro B d w2 hown2 hg hat
      have f12 : Fr noB w1 w2 := Fr.grown ((Fr.refl noB w1).alloc _) hg (fun k hk => Or.inr (by simp [Value.ownBlock] at hk; omega))
      have f02 := f1.then' f12
      have hb2 : ∀ g, (Value.slice B n d).ownBlock = some g → w1.heap.size ≤ g := fun g e => by
        rcases hat with h | h <;> (rw [e] at h; simp [Value.ownBlock] at h; omega)
      clear hg hat hown hr1
      obtain ⟨k5, hk5i⟩ : ∃ k5 : Nat, 65526 - (n : Int) + (mo : Int) - 253 = (k5 : Int) := ⟨65526 - n + mo - 253, by omega⟩
      have hk5 : Hid (n + k5 = 65273 + mo) := by unfold Hid; omega
      have hk5l : k5 ≤ 70000 := by omega
      have hk5p : 0 < k5 := by omega
      go_wp2_with (at_builtin; refine wpList_app_zeros Try.app8 Try.underlying3 rfl (.tmp 29) (.tmp 36) rfl _ n _ rfl hown2 .i64 k5 rfl hk5p (by omega) ?_)
      intro B3 d3 w3 hown3 hg hat
      have z2 := f12.size
      have f3 : Fr noB w1 w3 := Fr.grown f12 hg (fun k hk => Or.inr (hb2 k hk))
      have hc3 := own_capB hown3
      have hr3 : RowAt w3 B3 (bcells (b ++ zs k5)) := by rw [bcells_append]; exact own_row hown3
      have hlt5 : ∀ a, B3 = some a → 0 < n + k5 → a.block < w3.heap.size := fun a e _ => own_lt hown3 (by rw [e]; rfl)
      have hnil3 := own_nilB hown3
      obtain ⟨n5, hn5⟩ : ∃ n5, n + k5 = n5 := ⟨_, rfl⟩
      rw [hn5] at hc3 hlt5 hnil3 ⊢
      have HN5 : Hid ((b ++ zs k5).length = n5) := by unfold Hid; rw [List.length_append, zs_length, HN.out, hn5]
      have f03 := f1.then' f3
      generalize b ++ zs k5 = b5 at *
      have hcc := hc3.2
      have hcn := hc3.1
      clear hg hat hown2 hown3 hb2 f12 f02 f3 hc3
      have hn5m : Hid (n5 = 65273 + mo) := by unfold Hid; rw [← hn5]; exact hk5.out
      have hn5l : n5 ≤ 70000 := by omega
      clear hn5 hk5i hk5l hk5p
      by_cases hL : 253 < mo
      · have t15 : decide ((65526 : Int) < (n5 : Int)) = true := by have := hn5m.out; simp; omega
        have hn5g : 65526 < n5 := by have := hn5m.out; omega
        go_wp2_with fail
        refine (newF_calls w3).mono ?_
        rintro e w6 ⟨rfl, h6, f6, z6⟩
        have Z6 := hid z6; clear z6
        have zz6 := f6.size
        have zzF := f03.size
        have hput := putF_long w6 w3.heap.size kd B3 n5 d3 (by omega)
        clear h6 hr3
        go_wp2_with fail
        refine hput.mono ?_
        clear hput
        rintro e w7 ⟨rfl, rfl⟩
        go_wp2_with fail
        go_ret
        exact ⟨rfl, f03.then' f6⟩
      · have t15 : decide ((65526 : Int) < (n5 : Int)) = false := by have := hn5m.out; simp; omega
        have hn5g : n5 ≤ 65526 := by have := hn5m.out; omega
        go_wp2_with fail
        refine (newF_calls w3).mono ?_
        rintro e w6 ⟨rfl, h6, f6, z6⟩
        have Z6 := hid z6; clear z6
        have zz6 := f6.size
        have zzF := f03.size
        have hr6 := (hr3).fr0 f6
        have hput := putF_calls w6 w3.heap.size kd false B3 n5 d3 b5 h6 hkd hr6 HN5 (by omega) hnil3
        clear h6
        go_wp2_with fail
        refine hput.mono ?_
        clear hput
        rintro e w7 ⟨B7, d7, rfl, hown7, ht7, f7⟩
        have HFL : Hid ((frameB kd b5).length = n5 + 10) := by unfold Hid; rw [frameB_length, HN5.out]
        have HFG : Hid (frGet (frameB kd b5) = ((kd, b5), 0)) := frGet_frame hkd (by rw [HN5.out]; omega)
        rw [HFL.out] at hown7 ⊢
        have hr7 := own_row hown7
        have hb7 := own_base hown7
        have hc7 := own_capB hown7
        have zz7 := f7.size
        have hro7 := hr6.fr f7 (fun a e h0 _ he => by unfold eqB at he; have := hlt5 a e (by rw [bcells_length, HN5.out] at h0; exact h0); omega)
        have F7 : Hid (Fr noB w w7) := (((f03.up0 w.heap.size).then' (f6.up0 _)).then' (f7.mono fun b _ hb => by unfold eqB at hb; unfold upB; omega)).none
        have hcv7 := Try.toStr hr7 HFL.out d7
        clear hown7 f7 f6 hr6
        have hc7a := hc7.1
        have hc7b := hc7.2
        clear hc7
        go_wp2_with fail
        have hget := getF_calls w7 w3.heap.size true B7 (n5 + 10) d7 (frameB kd b5) ht7 hr7 HFL hc7a hc7b (fun a e h0 he => by have := hb7 a e; have := Z6.out; omega)
        rw [HFG.out] at hget
        go_wp2_with fail
        refine hget.mono ?_
        clear hget
        rintro e w9 ⟨B9, m9, d9, rfl, HM9, hr9, _, _, f9⟩
        have F9 : Hid (Fr noB w w9) := ((F7.out.up0 w.heap.size).then' (f9.mono fun b _ hb => by unfold eqB at hb; unfold upB; omega)).none
        have hro9 := (hro7).fr f9 (fun a e h0 _ he => by unfold eqB at he; have := hlt5 a e (by rw [bcells_length, HN5.out] at h0; exact h0); omega)
        simp only [] at *
        have hm9 : m9 = n5 := by rw [← HM9.out, HN5.out]
        subst hm9
        have hcv1 := Try.toStr hr9 HN5.out d9
        have hcv2 := Try.toStr hro9 HN5.out d3
        clear hr9 hro9 f9
        generalize mkS b5 = sb at *
        go_wp2_with fail
        go_ret
        exact ⟨by simp, F9.out⟩
    · have t13 : decide ((250 : Int) < (mo : Int)) = false := by simp; omega
      have t14 : decide ((mo : Int) ≤ 250) = true := by simp; omega
      go_enter Try.func5, Try.ntmps5
      go_wp2_with fail
      refine (hlv _).mono ?_
      rintro e w1 ⟨rfl, f1⟩
      have hr1 := hr.fr0 (f1.alloc (.cells #[] 5))
      have z1 := f1.size
      have hown : (w1.alloc (.cells #[] 5)).ownsRow 0 5 1 (.slice (some ⟨w1.heap.size, 0, none⟩) 0 0) 0 [] := World.ownsRow_made w1 #[] 0 (Nat.zero_le _) (by unfold maxLen; omega) rfl
      clear hr
      go_wp2_with (at_builtin; refine wpList_app Try.app8 rfl (.tmp 24) (.tmp 25) rfl _ 0 [] rfl hown A n c (bcells b) rfl (by rw [bcells_length, HN.out, Nat.mul_one]) hr1 (bcells_one _) hnil (by omega) (by omega) ?_)
      intro B d w2 hown2 hg hat
      have f12 : Fr noB w1 w2 := Fr.grown ((Fr.refl noB w1).alloc _) hg (fun k hk => Or.inr (by simp [Value.ownBlock] at hk; omega))
      have f02 := f1.then' f12
      have hc3 := own_capB hown2
      have hr3 := own_row hown2
      have hlt5 : ∀ a, B = some a → 0 < n → a.block < w2.heap.size := fun a e _ => own_lt hown2 (by rw [e]; rfl)
      have hnil3 := own_nilB hown2
      have t15 : decide ((65526 : Int) < (n : Int)) = false := by simp; omega
      have hcc := hc3.2
      have hcn := hc3.1
      clear hg hat hown2 hown hr1 f12 hc3
      go_wp2_with fail
      refine (newF_calls w2).mono ?_
      rintro e w6 ⟨rfl, h6, f6, z6⟩
      have Z6 := hid z6; clear z6
      have zz6 := f6.size
      have zzF := f02.size
      have hr6 := (hr3).fr0 f6
      have hput := putF_calls w6 w2.heap.size kd false B n d b h6 hkd hr6 HN (by omega) hnil3
      clear h6
      go_wp2_with fail
      refine hput.mono ?_
      clear hput
      rintro e w7 ⟨B7, d7, rfl, hown7, ht7, f7⟩
      have HFL : Hid ((frameB kd b).length = n + 10) := by unfold Hid; rw [frameB_length, HN.out]
      have HFG : Hid (frGet (frameB kd b) = ((kd, b), 0)) := frGet_frame hkd (by rw [HN.out]; omega)
      rw [HFL.out] at hown7 ⊢
      have hr7 := own_row hown7
      have hb7 := own_base hown7
      have hc7 := own_capB hown7
      have zz7 := f7.size
      have hro7 := hr6.fr f7 (fun a e h0 _ he => by unfold eqB at he; have := hlt5 a e (by rw [bcells_length, HN.out] at h0; exact h0); omega)
      have F7 : Hid (Fr noB w w7) := (((f02.up0 w.heap.size).then' (f6.up0 _)).then' (f7.mono fun b _ hb => by unfold eqB at hb; unfold upB; omega)).none
      have hcv7 := Try.toStr hr7 HFL.out d7
      clear hown7 f7 f6 hr6
      have hc7a := hc7.1
      have hc7b := hc7.2
      clear hc7
      have hcvb := Try.toStr hro7 HN.out d
      have hpr := putFR_calls w7 kd b hkd (by rw [HN.out]; omega)
      generalize hsfm : mkS (frameB kd b) = sf at *
      have HSF := hid hsfm
      clear hsfm
      generalize hsbm : mkS b = sb0 at *
      go_wp2_with fail
      refine hpr.mono ?_
      clear hpr
      rintro e w8 ⟨rfl, f8⟩
      have hro8 := hro7.fr0 f8
      have hr8 := hr7.fr0 f8
      have ht8 := ht7.fr f8 id
      have zz8 := f8.size
      clear hcvb hcv7 hsbm
      have hcv7 := Try.toStr hr8 HFL.out d7
      rw [HSF.out] at hcv7
      clear hro7 hr7 ht7
      go_wp2_with fail
      have hget := getF_calls w8 w2.heap.size true B7 (n + 10) d7 (frameB kd b) ht8 hr8 HFL hc7a hc7b (fun a e h0 he => by have := hb7 a e; have := Z6.out; omega)
      rw [HFG.out] at hget
      go_wp2_with fail
      refine hget.mono ?_
      clear hget
      rintro e w9 ⟨B9, m9, d9, rfl, HM9, hr9, _, _, f9⟩
      have F9 : Hid (Fr noB w w9) := (((F7.out.then' f8).up0 w.heap.size).then' (f9.mono fun b _ hb => by unfold eqB at hb; unfold upB; omega)).none
      have hro9 := (hro8).fr f9 (fun a e h0 _ he => by unfold eqB at he; have := hlt5 a e (by rw [bcells_length, HN.out] at h0; exact h0); omega)
      simp only [] at *
      have hm9 : m9 = n := by rw [← HM9.out, HN.out]
      subst hm9
      have hcv1 := Try.toStr hr9 HN.out d9
      have hcv2 := Try.toStr hro9 HN.out d
      clear hr9 hro9 f9
      generalize mkS b = sb at *
      go_wp2_with fail
      go_ret
      exact ⟨by simp, F9.out⟩
theorem frPuts_law (w : World) (a0 : Int) (w0 : (Lit.int .u8 a0).wf = true) (A : Option Addr) (n c : Nat) (b : List UInt8) (o : RowAt w A (bcells b) ∧ b.length = n ∧ n ≤ c ∧ c ≤ maxLen ∧ (A = none → n = 0 ∧ c = 0)) (a2 : Int) (w2 : (Lit.int .u8 a2).wf = true) :
    Calls Try.prog 5 #[.int .u8 a0, .slice A n c, .int .u8 a2] w (BoolPost w true) := by
  simp [Lit.wf, IntKind.min, IntKind.max, IntKind.bits, IntKind.signed] at w0 w2
  obtain ⟨k, rfl⟩ := Int.eq_ofNat_of_zero_le w0.1
  obtain ⟨m, rfl⟩ := Int.eq_ofNat_of_zero_le w2.1
  exact frPuts_walk w k (by omega) A n c b m (by omega) o.1 o.2.1 o.2.2.1 o.2.2.2.1 o.2.2.2.2
end Go.Proofs.Ytpkdcbfhacgklaa
