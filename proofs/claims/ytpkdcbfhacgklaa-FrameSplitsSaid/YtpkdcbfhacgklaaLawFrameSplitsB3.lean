/- What the row leans on, part 3: contracts and plain laws. -/
import Derived.Test.YtpkdcbfhacgklaaProg
import Derived.WalkKit
import Derived.Maps.AppendAt
import Derived.Lib.AppendStr
import Derived.Laws.AppendOwnNone
import Derived.Deep.Draws
import Derived.WalkSpells
import Derived.Laws.IdiomStrings
import Derived.Lib.ConvBytes
import Derived.Defers
import Derived.Laws.Pointers
import Derived.Laws.LoneSync
import Derived.RegionTactic
import Derived.RegionCalls
import Derived.ChangeAlike
import Derived.Laws.NewBlocks
import Derived.Laws.Bits64b
import Derived.Lib.SlBytesConst
import Derived.LaidEqlPtr
import Derived.Deep.RegionHeld3
import Derived.Deep.Cut
import Derived.SliceStrings
import Derived.Deep.Slices
import Derived.Laws.ResultCell
import Derived.Test.YtpkdcbfhacgklaaLawFrameSplitsB2
/- Contracts of interrexref01's Reader. -/
namespace Go.Proofs.Ytpkdcbfhacgklaa
open Go.RowKit

def Rd.inv (r : Rd) : Prop := r.e ≠ 0 → r.bs = []
/-- A Reader of the reference, as a value. -/
def Rd.val (r : Rd) : Value := .agg #[.string (mkS r.bs), .int .i64 (r.e : Nat)]
theorem rFail_inv {r : Rd} (k : Nat) (h : r.inv) : (rFail r k).inv := by
  unfold rFail Rd.inv at *
  split
  · intro _; rfl
  · exact h
theorem rTake_inv {r : Rd} (n : Nat) (h : r.inv) : (rTake r n).1.inv := by
  unfold rTake
  split
  · exact rFail_inv 2 h
  · intro e; simp only at e ⊢; rw [h e]; simp
theorem fr_set2 (W : World) (b : Nat) (u v : Value) : Fr (eqB b) W ((W.setCell ⟨b, 0, none⟩ u).setCell ⟨b, 1, none⟩ v) :=
  Fr.setCell (S := eqB b) (Fr.setCell (S := eqB b) (Fr.refl _ W) (p := ⟨b, 0, none⟩) (Or.inl rfl) u) (p := ⟨b, 1, none⟩) (Or.inl rfl) v
theorem set2 {w : World} {b : Nat} {x y u v : Value} {t : TypeId} (h : w.heap[b]? = some (.cells #[x, y] t (0, 0))) : ((w.setCell ⟨b, 0, none⟩ u).setCell ⟨b, 1, none⟩ v).heap[b]? = some (.cells #[u, v] t (0, 0)) := two_set1 (two_set0 h)
theorem cells2 {W : World} {b : Nat} {x y : Value} {t : TypeId} (h : W.heap[b]? = some (.cells #[x, y] t (0, 0))) : W.cell? ⟨b, 0, none⟩ = some x ∧ W.cell? ⟨b, 1, none⟩ = some y := by
  constructor <;> simp [World.cell?, h]
theorem heap_al {W : World} {b : Nat} {o : Obj} (h : W.heap[b]? = some o) (o' : Obj) : (W.alloc o').heap[b]? = some o := ((Fr.refl noB W).alloc o').heap h id
theorem fr_cells {W w1 : World} {S : Nat → Prop} (f : Fr S W w1) {b : Nat} {c : Array Value} {t : TypeId} (h : W.heap[b]? = some (.cells c t (0, 0))) (hS : ¬ S b) :
    (∀ j v, c[j]? = some v → w1.cell? ⟨b, j, none⟩ = some v) ∧ ∀ j, w1.frozen? ⟨b, j, none⟩ = false := by
  have h1 := f.heap h hS
  exact ⟨fun j v hv => by simp [World.cell?, h1, hv], fun j => by simp [World.frozen?, h1]⟩
theorem heap_two (w : World) (A B : Obj) : ((w.alloc A).alloc B).heap[w.heap.size]? = some A ∧ ((w.alloc A).alloc B).heap[w.heap.size + 1]? = some B := by
  constructor
  · rw [Below.heap_alloc _ _ _ (by simp)]; exact heap_alloc_new w A
  · have := heap_alloc_new (w.alloc A) B
    rwa [World.size_alloc] at this
theorem mkS_from (bs : List UInt8) (k : Nat) : (mkS bs).extract k bs.length = mkS (bs.drop k) := by
  apply ByteArray.ext; apply Array.ext'
  simp [mkS]
  exact List.take_of_length_le (by simp)
theorem mkS_to (bs : List UInt8) (k : Nat) : (mkS bs).extract 0 k = mkS (bs.take k) := by
  apply ByteArray.ext; apply Array.ext'
  simp [mkS]

end Go.Proofs.Ytpkdcbfhacgklaa
/- Contracts of interrexref01: Value, Get, GetTruth. -/
namespace Go.Proofs.Ytpkdcbfhacgklaa
open Go.RowKit

theorem u64_wrap (x : Nat) (h : x < 18446744073709551616) : IntKind.u64.wrap (x : Int) = x := by
  rw [IntKind.wrap_u64]; omega
theorem leV_drop {bs : List UInt8} {m : Nat} (h : m < bs.length) : leV (bs.drop m) = (bs.getD m 0).toNat + 256 * leV (bs.drop (m + 1)) := by
  rw [List.drop_eq_getElem_cons h, leV, List.getD_eq_getElem?_getD, List.getElem?_eq_getElem h]
  rfl
theorem value_step {bs : List UInt8} {m : Nat} (hl : bs.length ≤ 8) (h : m < bs.length) :
    IntKind.u64.wrap (IntKind.u64.wrap ((leV (bs.drop (m + 1)) : Nat) * 256 : Int) + IntKind.u64.wrap (((bs[m]?.getD 0).toNat : Nat) : Int)) = ((leV (bs.drop m) : Nat) : Int) := by
  have h1 := leV_drop h
  have h2 := leV_lt (bs.drop m)
  have h3 : (256 : Nat) ^ (bs.drop m).length ≤ 256 ^ 8 := Nat.pow_le_pow_right (by omega) (by rw [List.length_drop]; omega)
  have h4 : (256 : Nat) ^ 8 = 18446744073709551616 := by decide
  rw [List.getD_eq_getElem?_getD] at h1
  have hb := (bs[m]?.getD 0).toNat_lt
  generalize (bs[m]?.getD 0).toNat = b at *
  generalize leV (bs.drop (m + 1)) = x at *
  generalize leV (bs.drop m) = y at *
  have e1 : ((x : Int) * 256) = ((x * 256 : Nat) : Int) := (Int.natCast_mul x 256).symm
  rw [e1, u64_wrap _ (by omega), u64_wrap _ (by omega), ← Int.natCast_add, u64_wrap _ (by omega)]
  omega
set_option maxRecDepth 100000 in
set_option maxHeartbeats 1600000 in
theorem valueR_calls (w : World) (bs : List UInt8) (hl : bs.length ≤ 8) : Calls Try.prog 73 #[.string (mkS bs)] w (fun e w' => e = .returned (.int .u64 (leV bs : Nat)) ∧ w = w') := by
  have hsz : (mkS bs).size = bs.length := mkS_size _
  have hx : ∀ (j : Nat) (h : j < (mkS bs).size), ((mkS bs)[j]'h).toNat = (bs.getD j 0).toNat := fun j h => by
    rw [hsz] at h
    rw [List.getD_eq_getElem?_getD, List.getElem?_eq_getElem h]
    simp [mkS]
    rfl
  generalize hS : mkS bs = s at *
  generalize hn : bs.length = n at *
  have HS := hid hS; clear hS
  have HN := hid hn; clear hn
  have HZ := hid hsz
  have h64 : s.size ≤ 8 := by omega
  clear hsz
  go_enter Try.func73, Try.ntmps73
  go_wp2_with fail
  go_loop [3, 4] (fun x i => ∃ j : Nat, j ≤ s.size ∧ i = .int .i64 ((j : Int) - 1) ∧ x = .int .u64 (leV (bs.drop j) : Nat)) (fun _ i => (intOf i + 1).toNat)
  case atStart =>
    refine ⟨s.size, Nat.le_refl _, rfl, ?_⟩
    rw [HZ.out, List.drop_eq_nil_of_le (by rw [HN.out]; exact Nat.le_refl _)]
    rfl
  case round =>
    obtain ⟨j, hj, rfl, rfl⟩ := hrel
    by_cases hj0 : j = 0
    · subst hj0
      go_wp2_with fail
      go_ret
      exact ⟨rfl, rfl⟩
    · obtain ⟨m, rfl⟩ : ∃ m, j = m + 1 := ⟨j - 1, by omega⟩
      have hst := value_step (bs := bs) (m := m) (by rw [HN.out]; exact hl) (by rw [HN.out, ← HZ.out]; omega)
      have HST := hid hst; clear hst
      go_wp2_with fail
      go_round
      case rel => exact ⟨m, by omega, rfl, by rw [HST.out]⟩
      case measure => simp [intOf]

end Go.Proofs.Ytpkdcbfhacgklaa
/- interrexref03: Put, Size, Get; interrexlaw03.lives. -/
namespace Go.Proofs.Ytpkdcbfhacgklaa
open Go.RowKit
def SlB (bs : List UInt8) : Stb (Fr noB) :=
  ⟨fun v w => ∃ A m c, v = .slice A m c ∧ bs.length = m ∧ RowAt w A (bcells bs), fun _ _ _ ⟨A, m, c, e, hm, h⟩ f => ⟨A, m, c, e, hm, h.fr0 f⟩⟩
theorem mkS_sub (b : List UInt8) (i j : Nat) : (mkS b).extract i j = mkS ((b.drop i).take (j - i)) := by
  apply ByteArray.ext; apply Array.ext'
  simp [mkS]
set_option maxRecDepth 100000 in
set_option maxHeartbeats 1600000 in
theorem putFR_calls (w : World) (k : Nat) (b : List UInt8) (hk : k < 256) (hn : b.length ≤ 65526) :
    Calls Try.prog 26 #[.int .u8 k, .string (mkS b)] w (fun e w' => e = .returned (.tuple #[.string (mkS (frameB k b)), .int .i64 0]) ∧ Fr noB w w') := by
  have hsz : (mkS b).size = b.length := mkS_size _
  have d0 : wrap64 (((mkS b).size : Int) + 10) = ((mkS b).size : Int) + 10 := by unfold wrap64; omega
  have d1 : decide ((65536 : Int) < ((mkS b).size : Int) + 10) = false := decide_eq_false (by omega)
  have hwrap : IntKind.u64.wrap ((mkS b).size : Int) = (mkS b).size := by rw [IntKind.wrap_u64]; omega
  have hnum := fun W => numR_calls W (mkS b).size 4 (by omega) (by decide)
  have hseal := fun W => sealR_calls W (mkS (frB k b)) (by rw [mkS_size, frB_length]; omega)
  rw [mkS_data] at hseal
  obtain ⟨o1, ho1⟩ : ∃ x, (⟨#[1]⟩ : ByteArray) = x := ⟨_, rfl⟩
  obtain ⟨sk, hsk⟩ : ∃ x, mkS (leB 1 k) = x := ⟨_, rfl⟩
  obtain ⟨s4, hs4⟩ : ∃ x, mkS (leB 4 (mkS b).size) = x := ⟨_, rfl⟩
  obtain ⟨s13, h13⟩ : ∃ x, o1 ++ sk = x := ⟨_, rfl⟩
  obtain ⟨s18, h18⟩ : ∃ x, s13 ++ s4 = x := ⟨_, rfl⟩
  have ho : o1 = mkS (leB 1 1) := by rw [← ho1]; decide
  have h13' : s13 = mkS (leB 1 1 ++ leB 1 k) := by rw [← h13, ho, ← hsk, mkS_append]
  have h18' : s18 = mkS (leB 1 1 ++ leB 1 k ++ leB 4 b.length) := by rw [← h18, h13', ← hs4, hsz, mkS_append]
  have HFB : Hid (s18 ++ mkS b = mkS (frB k b)) := by unfold Hid frB; rw [h18', mkS_append]
  have Z1 : Hid (o1.size + sk.size ≤ 9223372036854775807) := by unfold Hid; rw [ho, ← hsk]; simp only [mkS_size, leB_length]; omega
  have Z2 : Hid (s13.size + s4.size ≤ 9223372036854775807) := by unfold Hid; rw [h13', ← hs4]; simp only [mkS_size, List.length_append, leB_length]; omega
  have Z3 : Hid (s18.size + (mkS b).size ≤ 9223372036854775807) := by unfold Hid; rw [h18']; simp only [mkS_size, List.length_append, leB_length]; omega
  have H13 := hid h13
  have H18 := hid h18
  have HSK := hid hsk
  have HS4 := hid hs4
  have HO1 := hid ho1
  clear ho h13' h18' h13 h18 hs4 ho1
  have hkw : ∀ W : World, RowAt (W.alloc (.cells #[.int .u8 k] 5)) (some ⟨W.heap.size, 0, none⟩) (bcells (leB 1 k)) := fun W => by
    have := new_row W #[.int .u8 k] 5
    have e : bcells (leB 1 k) = (#[Value.int .u8 k] : Array Value).toList := by simp [leB, bcells]; omega
    rw [e]; exact this
  clear hsk
  generalize hfb : frB k b = fb at *
  have HFF := hid hfb
  clear hfb
  generalize hs : mkS b = s at *
  have HS := hid hs
  have HK := hid hk
  have HL : Hid ((frameB k b).length = b.length + 10) := frameB_length k b
  have HFR : Hid (frameB k b = sealB fb) := by unfold Hid frameB; rw [← HFF.out]
  clear hk hsz hs
  go_enter Try.func26, Try.ntmps26
  go_wp2_with fail
  apply wp_region_calm (R := Fr noB) (C := fun q W => Fr noB w W) [false, false, false, false, false, false, false, false, false, false, false, false, false, false]
    [eqv _, SlB (leB 1 k), eqv (.string sk), eqv (.string s13), eqv _, eqv _, eqv _, eqv (.string s4), eqv (.string s18), eqv _, eqv (.string (mkS fb)), eqv _, eqv _, eqv _]
    (by kernel_rfl) (by kernel_rfl) (fun _ _ _ h1 h2 => h1.then' h2) ((Fr.refl _ _).drew) ((Fr.refl _ _).drew) (by kernel_rfl)
  · refine ⟨?_, ?_, ?_, ?_, ?_, ?_, ?_, ?_, ?_, ?_, ?_, ?_, ?_, ?_, trivial⟩
    · rw [if_neg (by decide)]; intro kq
      exact calm_mv 0 rfl rfl (Or.inl rfl) (Fr.refl _) (by decide) fun v w hd => hd
    · rw [if_neg (by decide)]; intro kq
      intro a W K hC hd hK
      have d10 : _ = _ := hd 10 (by decide)
      refine wpOp_plain rfl rfl ?_
      have hr9 := hkw W
      go_wp2_with fail
      exact hK _ _ ((Fr.refl noB W).alloc _) (hC.alloc _) ⟨_, 1, 1, rfl, leB_length 1 k, hr9⟩
    · rw [if_neg (by decide)]; intro kq
      intro a W K hC hd hK
      have d11 : (SlB (leB 1 k)).V (a.tmps[11]?.getD undef) W := hd 11 (by decide)
      refine wpOp_plain rfl rfl ?_
      obtain ⟨A9, m9, c9, d11, hm9, h9⟩ := d11
      have hst := Try.toStr h9 hm9 c9
      rw [HSK.out] at hst
      go_wp2_with fail
      exact hK _ _ (Fr.refl _ _) hC rfl
    · rw [if_neg (by decide)]; intro kq
      intro a W K hC hd hK
      have d12 : a.tmps[12]?.getD undef = .string sk := hd 12 (by decide)
      refine wpOp_plain rfl rfl ?_
      have hk9 := HO1.out
      have z9 := Z1.out
      rw [hk9]
      clear hk9
      go_wp2_with fail
      exact hK (.string (o1 ++ sk)) _ (Fr.refl _ _) hC (congrArg Value.string H13.out)
    · rw [if_neg (by decide)]; intro kq
      exact calm_mv 1 rfl rfl (Or.inl rfl) (Fr.refl _) (by decide) fun v w hd => hd
    · rw [if_neg (by decide)]; intro kq
      intro a W K hC hd hK
      have d14 : _ = _ := hd 14 (by decide)
      refine wpOp_plain rfl rfl ?_
      go_wp2_with fail
      exact hK _ _ (Fr.refl _ _) hC rfl
    · rw [if_neg (by decide)]; intro kq
      intro a W K hC hd hK
      have d15 : _ = _ := hd 15 (by decide)
      refine wpOp_plain rfl rfl ?_
      go_wp2_with fail
      exact hK _ _ (Fr.refl _ _) hC rfl
    · rw [if_neg (by decide)]; intro kq
      intro a W K hC hd hK
      have d16 : _ = _ := hd 16 (by decide)
      refine wpOp_plain rfl rfl ?_
      go_wp2_with fail
      refine (hnum W).mono ?_
      rintro e9 w9 ⟨rfl, f9⟩
      exact hK _ _ f9 (hC.then' f9) (congrArg Value.string HS4.out)
    · rw [if_neg (by decide)]; intro kq
      intro a W K hC hd hK
      have d13 : a.tmps[13]?.getD undef = .string s13 := hd 13 (by decide)
      have d17 : a.tmps[17]?.getD undef = .string s4 := hd 17 (by decide)
      refine wpOp_plain rfl rfl ?_
      have z9 := Z2.out
      go_wp2_with fail
      exact hK (.string (s13 ++ s4)) _ (Fr.refl _ _) hC (congrArg Value.string H18.out)
    · rw [if_neg (by decide)]; intro kq
      exact calm_mv 1 rfl rfl (Or.inl rfl) (Fr.refl _) (by decide) fun v w hd => hd
    · rw [if_neg (by decide)]; intro kq
      intro a W K hC hd hK
      have d18 : a.tmps[18]?.getD undef = .string s18 := hd 18 (by decide)
      have d19 : _ = _ := hd 19 (by decide)
      refine wpOp_plain rfl rfl ?_
      have z9 := Z3.out
      go_wp2_with fail
      exact hK (.string (s18 ++ s)) _ (Fr.refl _ _) hC (congrArg Value.string HFB.out)
    · rw [if_neg (by decide)]; intro kq
      intro a W K hC hd hK
      have d20 : a.tmps[20]?.getD undef = .string (mkS fb) := hd 20 (by decide)
      refine wpOp_plain rfl rfl ?_
      go_wp2_with fail
      refine (hseal W).mono ?_
      rintro e9 w9 ⟨rfl, f9⟩
      exact hK _ _ f9 (hC.then' f9) rfl
    · rw [if_neg (by decide)]; intro kq
      exact calm_mv 21 rfl rfl (Or.inr rfl) (Fr.refl _) (by decide) fun v w hd => hd
    · rw [if_neg (by decide)]; intro kq
      intro a W K hC hd hK
      refine wpOp_plain rfl rfl ?_
      go_wp2_with fail
      exact hK _ _ (Fr.refl _ _) hC rfl
  · intro vs w8 fw8 cw8 hV
    have v10 : vs 0 = _ := hV 0 _ _ rfl rfl (by decide)
    have v11 : (SlB (leB 1 k)).V (vs 1) w8 := hV 1 _ _ rfl rfl (by decide)
    have v12 : vs 2 = .string sk := hV 2 _ _ rfl rfl (by decide)
    have v13 : vs 3 = .string s13 := hV 3 _ _ rfl rfl (by decide)
    have v14 : vs 4 = _ := hV 4 _ _ rfl rfl (by decide)
    have v15 : vs 5 = _ := hV 5 _ _ rfl rfl (by decide)
    have v16 : vs 6 = _ := hV 6 _ _ rfl rfl (by decide)
    have v17 : vs 7 = .string s4 := hV 7 _ _ rfl rfl (by decide)
    have v18 : vs 8 = .string s18 := hV 8 _ _ rfl rfl (by decide)
    have v19 : vs 9 = _ := hV 9 _ _ rfl rfl (by decide)
    have v20 : vs 10 = .string (mkS fb) := hV 10 _ _ rfl rfl (by decide)
    have v21 : vs 11 = _ := hV 11 _ _ rfl rfl (by decide)
    have v4 : vs 12 = _ := hV 12 _ _ rfl rfl (by decide)
    have v5 : vs 13 = _ := hV 13 _ _ rfl rfl (by decide)
    clear hV
    simp only [putL, Act.put, Nat.reduceAdd, List.setIfInBounds_toArray, List.set_cons_zero, List.set_cons_succ, v10, v12, v13, v14, v15, v16, v17, v18, v19, v20, v21, v4, v5]
    go_wp2_with fail
    go_ret2
    rw [HFR.out]
    exact ⟨rfl, fw8⟩
theorem putFR_long (w : World) (k : Nat) (s : ByteArray) (hn : 65526 < s.size) (hm : s.size ≤ 1000000000000) :
    Calls Try.prog 26 #[.int .u8 k, .string s] w (fun e w' => e = .returned (.tuple #[.string ⟨#[]⟩, .int .i64 3]) ∧ w = w') := by
  have d0 : wrap64 ((s.size : Int) + 10) = (s.size : Int) + 10 := by unfold wrap64; omega
  have d1 : decide ((65536 : Int) < (s.size : Int) + 10) = true := decide_eq_true (by omega)
  go_enter Try.func26, Try.ntmps26
  go_wp2_with fail
  go_ret2
  exact ⟨rfl, rfl⟩
set_option maxRecDepth 100000 in
set_option maxHeartbeats 1600000 in
theorem sizeR_calls (w : World) (b : List UInt8) (hn : b.length ≤ 1000000000000) :
    Calls Try.prog 30 #[.string (mkS b)] w (fun e w' => e = .returned (.tuple #[.int .u64 ((sizeV b).1 : Nat), .int .i64 ((sizeV b).2 : Nat)]) ∧ w' = w) := by
  have hsz : (mkS b).size = b.length := mkS_size _
  by_cases h10 : b.length < 10
  · have d1 : decide (((mkS b).size : Int) < 10) = true := decide_eq_true (by omega)
    have HV : Hid (sizeV b = (0, 2)) := by unfold Hid sizeV; rw [if_pos h10]
    clear h10 hsz
    generalize mkS b = s at *
    go_enter Try.func30, Try.ntmps30
    go_wp2_with fail
    go_ret2
    exact ⟨by rw [HV.out]; rfl, rfl⟩
  · have d1 : decide (((mkS b).size : Int) < 10) = false := decide_eq_false (by omega)
    obtain ⟨x, hx⟩ : ∃ x, b[0]? = some x := ⟨_, List.getElem?_eq_getElem (by omega)⟩
    have hh : b.headD 0 = x := by
      cases b with
      | nil => simp at hx
      | cons y b => simp at hx; exact hx
    have hx0 : ∀ h : 0 < (mkS b).size, ((mkS b)[0]'h) = x := fun h => by
      rw [hsz] at h
      rw [List.getElem?_eq_getElem h] at hx
      cases hx; rfl
    have hsub : (mkS b).extract 2 6 = mkS ((b.drop 2).take 4) := mkS_sub b 2 6
    have hs0 : 0 < (mkS b).size := by omega
    have hs2 : 6 ≤ (mkS b).size := by omega
    have hs3 : (mkS b).size ≤ 9223372036854775807 := by omega
    have hval := valueR_calls w ((b.drop 2).take 4) (by rw [List.length_take]; omega)
    by_cases h1 : x = 1
    · have t1 : ((x.toNat : Int) != 1) = false := by rw [bne_eq_false_iff_eq, h1]; rfl
      have HV : Hid (sizeV b = (leV ((b.drop 2).take 4) + 10, 0)) := by unfold Hid sizeV; rw [if_neg h10, if_neg (by rw [hh]; simp [h1])]
      have h4 := leV4_lt b
      generalize leV ((b.drop 2).take 4) = v at *
      have hw3 : IntKind.u64.wrap ((v : Int) + 10) = ((v + 10 : Nat) : Int) := by rw [IntKind.wrap_u64]; omega
      clear hh hx h1 h4 h10 hsz hn
      generalize mkS ((b.drop 2).take 4) = s4 at *
      generalize mkS b = s at *
      go_enter Try.func30, Try.ntmps30
      go_wp2_with fail
      refine hval.mono ?_
      rintro e w1 ⟨rfl, rfl⟩
      go_wp2_with fail
      go_ret2
      exact ⟨by rw [HV.out]; rfl, rfl⟩
    · have t1 : ((x.toNat : Int) != 1) = true := by
        rw [bne_iff_ne]; intro h; exact h1 (UInt8.toNat_inj.1 (by simpa using (by omega : x.toNat = 1)))
      have HV : Hid (sizeV b = (0, 6)) := by unfold Hid sizeV; rw [if_neg h10, if_pos (by rw [hh]; exact h1)]
      clear hh hx h1 h10 hsz hn hval hsub
      generalize mkS b = s at *
      go_enter Try.func30, Try.ntmps30
      go_wp2_with fail
      go_ret2
      exact ⟨by rw [HV.out]; rfl, rfl⟩
def FGetR (w : World) (q : (Nat × List UInt8) × Nat) (e : Ending) (w' : World) : Prop := e = .returned (.tuple #[.int .u8 (q.1.1 : Nat), .string (mkS q.1.2), .int .i64 (q.2 : Nat)]) ∧ Fr noB w w'
set_option maxRecDepth 100000 in
set_option maxHeartbeats 1600000 in
theorem getFR_calls (w : World) (b : List UInt8) (hn : b.length ≤ 1000000) :
    Calls Try.prog 28 #[.string (mkS b)] w (FGetR w (frGet b)) := by
  have hsz : (mkS b).size = b.length := mkS_size _
  by_cases hl : 65536 < b.length
  · have d1 : decide ((65536 : Int) < (mkS b).size) = true := decide_eq_true (by omega)
    have HV : Hid (frGet b = ((0, []), 3)) := by unfold Hid frGet; rw [if_pos hl]
    clear hl hsz
    generalize mkS b = s at *
    go_enter Try.func28, Try.ntmps28
    go_wp2_with fail
    go_ret3
    rw [HV.out]
    exact ⟨rfl, Fr.refl _ _⟩
  · have d1 : decide ((65536 : Int) < (mkS b).size) = false := decide_eq_false (by omega)
    have hsv := sizeR_calls w b (by omega)
    have hop := openR_calls w (mkS b) (by omega)
    rw [mkS_data] at hop
    have HV : Hid (frGet b = if (sizeV b).2 ≠ 0 then ((0, []), (sizeV b).2) else if b.length < (sizeV b).1 then ((0, []), 2) else if (sizeV b).1 < b.length then ((0, []), 3) else if (openB b).2 ≠ 0 then ((0, []), (openB b).2) else ((((openB b).1.getD 1 0).toNat, (openB b).1.drop 6), 0)) := by
      show frGet b = _
      conv => lhs; unfold frGet
      rw [if_neg hl]
    have hz := sizeV_lt b
    have hz10 : (sizeV b).2 = 0 → 10 ≤ b.length := fun h0 => by
      unfold sizeV at h0
      split at h0
      · cases h0
      · omega
    have hob : (openB b).2 = 0 → 10 ≤ b.length → (openB b).1.length = b.length - 4 := fun h0 h1 => openB_len h0 (by omega)
    rw [← hsz] at HV hz10 hob hn hl
    generalize frGet b = res at *
    generalize sizeV b = sv at *
    generalize openB b = ob at *
    obtain ⟨v, ev⟩ := sv
    obtain ⟨al, ae⟩ := ob
    simp only [] at *
    clear hsz
    generalize mkS b = s at *
    have HZ := hid hz
    have HL := hid hl
    clear hz hl
    go_enter Try.func28, Try.ntmps28
    go_wp2_with fail
    refine hsv.mono ?_
    rintro e w1 ⟨rfl, rfl⟩
    by_cases he : ev = 0
    · have t1 : ((ev : Int) != 0) = false := by rw [bne_eq_false_iff_eq]; omega
      have hn10 := hz10 he
      rw [if_neg (by rw [he]; decide)] at HV
      have hw1 : IntKind.u64.wrap (s.size : Int) = s.size := by rw [IntKind.wrap_u64]; omega
      clear he hz10
      by_cases h1 : s.size < v
      · have d2 : decide (s.size < v) = true := decide_eq_true h1
        rw [if_pos h1] at HV
        clear h1
        go_wp2_with fail
        go_ret3
        rw [HV.out]
        exact ⟨rfl, Fr.refl _ _⟩
      · have d2 : decide (s.size < v) = false := decide_eq_false h1
        rw [if_neg h1] at HV
        by_cases h2 : v < s.size
        · have d3 : decide (v < s.size) = true := decide_eq_true h2
          rw [if_pos h2] at HV
          clear h1 h2
          go_wp2_with fail
          go_ret3
          rw [HV.out]
          exact ⟨rfl, Fr.refl _ _⟩
        · have d3 : decide (v < s.size) = false := decide_eq_false h2
          rw [if_neg h2] at HV
          clear h1 h2
          go_wp2_with fail
          refine hop.mono ?_
          rintro e w2 ⟨rfl, f2⟩
          clear hop
          by_cases ha : ae = 0
          · have t2 : ((ae : Int) != 0) = false := by rw [bne_eq_false_iff_eq]; omega
            have hk := hob ha hn10
            rw [if_neg (by rw [ha]; decide)] at HV
            clear ha hob
            obtain ⟨x, hx⟩ : ∃ x, al[1]? = some x := ⟨_, List.getElem?_eq_getElem (by omega)⟩
            have hgx : al.getD 1 0 = x := by rw [List.getD_eq_getElem?_getD, hx]; rfl
            rw [hgx] at HV
            have haz : (mkS al).size = al.length := mkS_size _
            have hx1 : ∀ h : 1 < (mkS al).size, ((mkS al)[1]'h) = x := fun h => by
              rw [haz] at h
              rw [List.getElem?_eq_getElem h] at hx
              cases hx; rfl
            have hs1 : 1 < (mkS al).size := by omega
            have hs6 : 6 ≤ (mkS al).size := by omega
            have hsm : (mkS al).size ≤ 9223372036854775807 := by omega
            have hex : (mkS al).extract 6 (mkS al).size = mkS (al.drop 6) := by rw [haz]; exact mkS_from al 6
            have HK := hid hk
            clear hx hgx haz hk
            generalize hsd : mkS (al.drop 6) = sd at *
            have HSD := hid hsd
            clear hsd
            generalize mkS al = sa at *
            go_wp2_with fail
            apply wp_region_calm (R := Fr noB) (C := fun q W => Fr noB w2 W) [false, false, false, false, false, false, false]
              [eqv _, eqv _, eqv _, eqv _, eqv _, eqv _, eqv _]
              (by kernel_rfl) (by kernel_rfl) (fun _ _ _ h1 h2 => h1.then' h2) ((Fr.refl _ _).drew) ((Fr.refl _ _).drew) (by kernel_rfl)
            · refine ⟨?_, ?_, ?_, ?_, ?_, ?_, ?_, trivial⟩
              · rw [if_neg (by decide)]; intro kq
                exact calm_mv 7 rfl rfl (Or.inl rfl) (Fr.refl _) (by decide) fun v w hd => hd
              · rw [if_neg (by decide)]; intro kq
                intro a W K hC hd hK
                have d38 : _ = _ := hd 38 (by decide)
                refine wpOp_plain rfl rfl ?_
                go_wp2_with fail
                exact hK _ _ (Fr.refl _ _) hC rfl
              · rw [if_neg (by decide)]; intro kq
                exact calm_mv 7 rfl rfl (Or.inl rfl) (Fr.refl _) (by decide) fun v w hd => hd
              · rw [if_neg (by decide)]; intro kq
                intro a W K hC hd hK
                have d40 : _ = _ := hd 40 (by decide)
                refine wpOp_plain rfl rfl ?_
                go_wp2_with fail
                exact hK _ _ (Fr.refl _ _) hC rfl
              · rw [if_neg (by decide)]; intro kq
                exact calm_mv 39 rfl rfl (Or.inr rfl) (Fr.refl _) (by decide) fun v w hd => hd
              · rw [if_neg (by decide)]; intro kq
                exact calm_mv 41 rfl rfl (Or.inr rfl) (Fr.refl _) (by decide) fun v w hd => hd
              · rw [if_neg (by decide)]; intro kq
                intro a W K hC hd hK
                refine wpOp_plain rfl rfl ?_
                go_wp2_with fail
                exact hK _ _ (Fr.refl _ _) hC rfl
            · intro vs w8 fw8 cw8 hV
              have v38 : vs 0 = _ := hV 0 _ _ rfl rfl (by decide)
              have v39 : vs 1 = _ := hV 1 _ _ rfl rfl (by decide)
              have v40 : vs 2 = _ := hV 2 _ _ rfl rfl (by decide)
              have v41 : vs 3 = _ := hV 3 _ _ rfl rfl (by decide)
              have v2 : vs 4 = _ := hV 4 _ _ rfl rfl (by decide)
              have v3 : vs 5 = _ := hV 5 _ _ rfl rfl (by decide)
              have v4 : vs 6 = _ := hV 6 _ _ rfl rfl (by decide)
              clear hV
              simp only [putL, Act.put, Nat.reduceAdd, List.setIfInBounds_toArray, List.set_cons_zero, List.set_cons_succ, v38, v39, v40, v41, v2, v3, v4]
              go_wp2_with fail
              go_ret3
              rw [HV.out]
              refine ⟨?_, f2.then' fw8⟩
              simp only []
              rw [HSD.out]; rfl
          · have t2 : ((ae : Int) != 0) = true := by rw [bne_iff_ne]; omega
            rw [if_pos ha] at HV
            clear ha hob
            go_wp2_with fail
            go_ret3
            rw [HV.out]
            exact ⟨rfl, f2⟩
    · have t1 : ((ev : Int) != 0) = true := by rw [bne_iff_ne]; omega
      rw [if_pos he] at HV
      clear he hz10
      go_wp2_with fail
      go_ret3
      rw [HV.out]
      exact ⟨rfl, Fr.refl _ _⟩
end Go.Proofs.Ytpkdcbfhacgklaa
/- interrexlaw03.lives. -/
namespace Go.Proofs.Ytpkdcbfhacgklaa
open Go.RowKit

set_option maxRecDepth 100000 in
set_option maxHeartbeats 1600000 in
theorem lives03_calls (w : World) : Calls Try.prog 23 #[] w (BoolPost w true) := by
  have hf : (frB 7 [] : List UInt8) = [1, 7, 0, 0, 0, 0] := by decide +kernel
  have hl10 : (frameB 7 []).length = 10 := by rw [frameB_length]; rfl
  have ht6 : (frameB 7 []).take 6 = [1, 7, 0, 0, 0, 0] := by
    unfold frameB sealB; rw [hf]; rfl
  go_enter Try.func23, Try.ntmps23
  go_wp2_with fail
  refine (newF_calls w).mono ?_
  rintro e w1 ⟨rfl, h1, f1, z1⟩
  have Z1 := hid z1; clear z1
  have hput := putF_calls w1 w.heap.size 7 false none 0 0 [] h1 (by decide) (RowAt.nil _ _) rfl (by decide) (fun _ => ⟨rfl, rfl⟩)
  clear h1
  generalize frameB 7 [] = bs at *
  go_wp2_with fail
  refine hput.mono ?_
  clear hput
  rintro e w2 ⟨A, c, rfl, hown, ht, f2⟩
  have hnl : Hid (bs.length = 10) := hl10
  rw [hl10] at hown ⊢
  obtain ⟨g, rfl⟩ : ∃ g, A = some ⟨g, 0, none⟩ := by
    rcases hown.2 with ⟨e, e2⟩ | ⟨g, cap, cur, e, _⟩
    · injection e with _ h; omega
    · injection e with e; exact ⟨g, e⟩
  have hc10 : 10 ≤ c := by
    rcases hown.2 with ⟨e, _⟩ | ⟨g', cap, cur, e, _, _, h3, _⟩
    · cases e
    · cases e; exact h3
  have hcm := own_capB hown
  have hr6 : RowAt w2 (some ⟨g, 0, none⟩) (bcells [1, 7, 0, 0, 0, 0]) := by
    have := (own_row hown).sub 0 6
    rw [← bcells_sub, List.drop_zero, ht6, add_zero'] at this
    exact this
  have F2 := hid ((f1.up0 w.heap.size).then' (f2.mono fun b _ hb => by unfold eqB at hb; unfold upB; omega)).none
  have hcv := Try.toStr hr6 (n := 6) rfl c
  clear hown ht hl10
  go_wp2_with fail
  go_ret
  exact ⟨by rw [mkS_toList]; rfl, F2.out⟩
end Go.Proofs.Ytpkdcbfhacgklaa
/- Framer.Split. -/
namespace Go.Proofs.Ytpkdcbfhacgklaa
open Go.RowKit

def splitV (b : List UInt8) : (List UInt8 × List UInt8) × Nat :=
  if (sizeV b).2 ≠ 0 then (([], []), (sizeV b).2) else if 65536 < (sizeV b).1 then (([], []), 3) else if b.length < (sizeV b).1 then (([], []), 2)
  else ((b.take (sizeV b).1, b.drop (sizeV b).1), 0)
/-- Bytes that lie somewhere. -/
def SubN (bs : List UInt8) : Stb (Fr noB) :=
  ⟨fun v W => ∃ a m c, v = .slice (some a) m c ∧ bs.length = m ∧ RowAt W (some a) (bcells bs), fun _ _ _ ⟨A, m, c, h1, h2, h3⟩ f => ⟨A, m, c, h1, h2, h3.fr0 f⟩⟩
def OwnN (n0 : Nat) (bs : List UInt8) : Stb (Fr noB) :=
  ⟨fun v W => ∃ A m c, v = .slice A m c ∧ bs.length = m ∧ W.ownsRow n0 5 1 (.slice A m c) m (bcells bs),
   fun _ _ _ ⟨A, m, c, e, h1, h⟩ f => ⟨A, m, c, e, h1, own_fr h f (fun _ _ => id)⟩⟩
def FSplit (w : World) (q : (List UInt8 × List UInt8) × Nat) (e : Ending) (w' : World) : Prop :=
  ∃ B m d B2 m2 d2, e = .returned (.tuple #[.slice B m d, .slice B2 m2 d2, .int .i64 (q.2 : Nat)]) ∧ Hid (q.1.1.length = m) ∧ Hid (q.1.2.length = m2)
    ∧ w'.ownsRow w.heap.size 5 1 (.slice B m d) m (bcells q.1.1) ∧ w'.ownsRow w.heap.size 5 1 (.slice B2 m2 d2) m2 (bcells q.1.2) ∧ Fr noB w w'
theorem FSplit.none {w w' : World} {k : Nat} (f : Fr noB w w') : FSplit w (([], []), k) (.returned (.tuple #[.slice none 0 0, .slice none 0 0, .int .i64 k])) w' :=
  ⟨Option.none, 0, 0, Option.none, 0, 0, rfl, rfl, rfl, World.ownsRow_nil _ _ _ _, World.ownsRow_nil _ _ _ _, f⟩
set_option maxRecDepth 100000 in
set_option maxHeartbeats 1600000 in
theorem split_calls (w : World) (P : Option Addr) (A : Option Addr) (n c : Nat) (b : List UInt8) (hr : RowAt w A (bcells b)) (HN : Hid (b.length = n)) (hnc : n ≤ c) (hc : c ≤ 9223372036854775807) (hl : n ≤ 1000000) :
    Calls Try.prog 29 #[.pointer P, .slice A n c] w (FSplit w (splitV b)) := by
  have hsz := size_calls w A n c b hr HN hnc hc (by omega)
  have HV : Hid (splitV b = if (sizeV b).2 ≠ 0 then (([], []), (sizeV b).2) else if 65536 < (sizeV b).1 then (([], []), 3) else if b.length < (sizeV b).1 then (([], []), 2) else ((b.take (sizeV b).1, b.drop (sizeV b).1), 0)) := rfl
  have hz := sizeV_lt b
  have hz10 : (sizeV b).2 = 0 → 10 ≤ n ∧ 10 ≤ (sizeV b).1 := fun h0 => by
    unfold sizeV at h0 ⊢
    rw [HN.out] at h0 ⊢
    split at h0
    · cases h0
    · split at h0
      · cases h0
      · rw [if_neg (by assumption), if_neg (by assumption)]
        exact ⟨by omega, by simp only []; omega⟩
  generalize splitV b = res at *
  generalize sizeV b = sv at *
  obtain ⟨v, ev⟩ := sv
  simp only [] at *
  rw [HN.out] at HV
  have HZ := hid hz
  clear hz
  go_enter Try.func29, Try.ntmps29
  go_wp2_with fail
  refine hsz.mono ?_
  rintro e w1 ⟨rfl, f1⟩
  have hr1 := hr.fr0 f1
  clear hsz hr
  by_cases he : ev = 0
  · have t1 : ((ev : Int) != 0) = false := by rw [bne_eq_false_iff_eq]; omega
    have hn10 := hz10 he
    rw [if_neg (by rw [he]; decide)] at HV
    have hw1 : IntKind.u64.wrap (n : Int) = n := by rw [IntKind.wrap_u64]; omega
    clear he hz10
    by_cases h1 : 65536 < v
    · have d2 : decide ((65536 : Int) < (v : Int)) = true := by simp; omega
      rw [if_pos h1] at HV
      clear h1
      go_wp2_with fail
      go_ret3
      rw [HV.out]
      exact FSplit.none f1
    · have d2 : decide ((65536 : Int) < (v : Int)) = false := by simp; omega
      rw [if_neg h1] at HV
      by_cases h2 : n < v
      · have d3 : decide (n < v) = true := decide_eq_true h2
        rw [if_pos h2] at HV
        clear h1 h2
        go_wp2_with fail
        go_ret3
        rw [HV.out]
        exact FSplit.none f1
      · have d3 : decide (n < v) = false := decide_eq_false h2
        rw [if_neg h2] at HV
        have hvn : v ≤ n := by omega
        have hv10 := hn10.2
        have hvc : v ≤ c := by omega
        clear h1 h2
        obtain ⟨ad, rfl⟩ := hr1.some_of (by rw [bcells_length, HN.out]; omega)
        have HTL : Hid ((b.take v).length = v) := by unfold Hid; rw [List.length_take, HN.out]; omega
        have HDL : Hid ((b.drop v).length = n - v) := by unfold Hid; rw [List.length_drop, HN.out]
        have hrT : RowAt w1 (some ad) (bcells (b.take v)) := by
          have := hr1.sub 0 v
          rw [← bcells_sub, add_zero', List.drop_zero] at this
          exact this
        have hs1 := f1.size
        have hn1 : n ≤ 1000000 := by omega
        clear hn10
        go_wp2_with fail
        apply wp_region_calm (R := Fr noB) (C := fun q W => Fr noB w1 W) [false, false, false, false, false, false, false, false, false, false, false]
          [eqv _, eqv _, eqv _, OwnN w1.heap.size (b.take v), eqv _, eqv _, SubN (b.drop v), OwnN w1.heap.size (b.drop v), OwnN w1.heap.size (b.take v), OwnN w1.heap.size (b.drop v), eqv _]
          (by kernel_rfl) (by kernel_rfl) (fun _ _ _ h1 h2 => h1.then' h2) ((Fr.refl _ _).drew) ((Fr.refl _ _).drew) (by kernel_rfl)
        · refine ⟨?_, ?_, ?_, ?_, ?_, ?_, ?_, ?_, ?_, ?_, ?_, trivial⟩
          · rw [if_neg (by decide)]; intro kq
            exact calm_mv 1 rfl rfl (Or.inl rfl) (Fr.refl _) (by decide) fun v w hd => hd
          · rw [if_neg (by decide)]; intro kq
            exact calm_mv 7 rfl rfl (Or.inl rfl) (Fr.refl _) (by decide) fun v w hd => hd
          · rw [if_neg (by decide)]; intro kq
            intro a W K hC hd hK
            have d26 : _ = _ := hd 26 (by decide)
            have d27 : _ = _ := hd 27 (by decide)
            refine wpOp_plain rfl rfl ?_
            go_wp2_with fail
            exact hK _ _ (Fr.refl _ _) hC rfl
          · rw [if_neg (by decide)]; intro kq
            intro a W K hC hd hK
            have d28 : _ = _ := hd 28 (by decide)
            refine wpOp_plain rfl rfl ?_
            have hcl := clone_calls W (some ad) v c (b.take v) (hrT.fr0 hC) HTL.out (fun e => by cases e) (by omega)
            go_wp2_with fail
            refine hcl.mono ?_
            rintro e9 w9 ⟨A9, c9, rfl, h9, f9, _⟩
            exact hK _ _ f9 (hC.then' f9) ⟨A9, v, c9, rfl, HTL.out, own_mono h9 (fun g hg => Nat.le_trans hC.size (h9.lt g hg).1)⟩
          · rw [if_neg (by decide)]; intro kq
            exact calm_mv 1 rfl rfl (Or.inl rfl) (Fr.refl _) (by decide) fun v w hd => hd
          · rw [if_neg (by decide)]; intro kq
            exact calm_mv 7 rfl rfl (Or.inl rfl) (Fr.refl _) (by decide) fun v w hd => hd
          · rw [if_neg (by decide)]; intro kq
            intro a W K hC hd hK
            have d30 : _ = _ := hd 30 (by decide)
            have d31 : _ = _ := hd 31 (by decide)
            refine wpOp_plain rfl rfl ?_
            have hr8 := (hr1.fr0 hC).sub v (n - v)
            rw [← bcells_sub, List.take_of_length_le (by rw [HDL.out]; exact Nat.le_refl _)] at hr8
            by_cases h6 : c = v
            · have h60 : n = v := by omega
              have hal : b.drop v = [] := List.drop_eq_nil_of_le (by rw [HN.out]; omega)
              have HAL := hid hal
              clear hal
              subst h6
              subst h60
              go_wp2_with fail
              exact hK _ _ (Fr.refl _ _) hC ⟨ad, 0, 0, rfl, by rw [HAL.out]; rfl, by rw [HAL.out]; exact RowAt.nil _ _⟩
            · go_wp2_with fail
              exact hK _ _ (Fr.refl _ _) hC ⟨ad.add v, n - v, c - v, rfl, HDL.out, hr8⟩
          · rw [if_neg (by decide)]; intro kq
            intro a W K hC hd hK
            have d32 : (SubN (b.drop v)).V (a.tmps[32]?.getD undef) W := hd 32 (by decide)
            refine wpOp_plain rfl rfl ?_
            obtain ⟨a9, m9, d9, d32, hm9, hr9⟩ := d32
            have hcl := clone_calls W (some a9) m9 d9 (b.drop v) hr9 hm9 (fun e => by cases e) (by rw [← hm9, HDL.out]; omega)
            go_wp2_with fail
            refine hcl.mono ?_
            rintro e9 w9 ⟨A9, c9, rfl, h9, f9, _⟩
            exact hK _ _ f9 (hC.then' f9) ⟨A9, m9, c9, rfl, hm9, own_mono h9 (fun g hg => Nat.le_trans hC.size (h9.lt g hg).1)⟩
          · rw [if_neg (by decide)]; intro kq
            exact calm_mv 29 rfl rfl (Or.inr rfl) (Fr.refl _) (by decide) fun v w hd => hd
          · rw [if_neg (by decide)]; intro kq
            exact calm_mv 33 rfl rfl (Or.inr rfl) (Fr.refl _) (by decide) fun v w hd => hd
          · rw [if_neg (by decide)]; intro kq
            intro a W K hC hd hK
            refine wpOp_plain rfl rfl ?_
            go_wp2_with fail
            exact hK _ _ (Fr.refl _ _) hC rfl
        · intro vs w8 fw8 cw8 hV
          have v26 : vs 0 = _ := hV 0 _ _ rfl rfl (by decide)
          have v27 : vs 1 = _ := hV 1 _ _ rfl rfl (by decide)
          have v28 : vs 2 = _ := hV 2 _ _ rfl rfl (by decide)
          have v29 : (OwnN w1.heap.size (b.take v)).V (vs 3) w8 := hV 3 _ _ rfl rfl (by decide)
          have v30 : vs 4 = _ := hV 4 _ _ rfl rfl (by decide)
          have v31 : vs 5 = _ := hV 5 _ _ rfl rfl (by decide)
          have v32 : (SubN (b.drop v)).V (vs 6) w8 := hV 6 _ _ rfl rfl (by decide)
          have v33 : (OwnN w1.heap.size (b.drop v)).V (vs 7) w8 := hV 7 _ _ rfl rfl (by decide)
          have v4 : (OwnN w1.heap.size (b.take v)).V (vs 8) w8 := hV 8 _ _ rfl rfl (by decide)
          have v5 : (OwnN w1.heap.size (b.drop v)).V (vs 9) w8 := hV 9 _ _ rfl rfl (by decide)
          have v6 : vs 10 = _ := hV 10 _ _ rfl rfl (by decide)
          clear hV
          simp only [putL, Act.put, Nat.reduceAdd, List.setIfInBounds_toArray, List.set_cons_zero, List.set_cons_succ, v26, v27, v28, v30, v31, v6]
          obtain ⟨A8, m8, c8, e8, hm8, h8⟩ := v4
          obtain ⟨B8, k8, d8, e9, hk8, g8⟩ := v5
          have F8 := f1.then' fw8
          rw [e8, e9]
          clear cw8 v29 v33 v32 e8 e9
          go_wp2_with fail
          go_ret3
          rw [HV.out]
          exact ⟨A8, m8, c8, B8, k8, d8, rfl, hm8, hk8, own_mono h8 (fun g hg => Nat.le_trans hs1 (h8.lt g hg).1), own_mono g8 (fun g hg => Nat.le_trans hs1 (g8.lt g hg).1), F8⟩
  · have t1 : ((ev : Int) != 0) = true := by rw [bne_iff_ne]; omega
    rw [if_pos he] at HV
    clear he hz10
    go_wp2_with fail
    go_ret3
    rw [HV.out]
    exact FSplit.none f1
end Go.Proofs.Ytpkdcbfhacgklaa
/- Turned bits are told: plain laws. -/
namespace Go.Proofs.Ytpkdcbfhacgklaa
open Go.RowKit

theorem add_xor (n a v : Nat) (h : a < 2 ^ n) : a + 2 ^ n * v = a ^^^ (2 ^ n * v) := by
  have := low_high n (a + 2 ^ n * v)
  rw [Nat.add_mul_mod_self_left, Nat.mod_eq_of_lt h, Nat.add_mul_div_left _ _ (Nat.two_pow_pos n), Nat.div_eq_of_lt h, Nat.zero_add] at this
  exact this.symm
theorem leV_cons (x : UInt8) (l : List UInt8) : leV (x :: l) = x.toNat ^^^ (2 ^ 8 * leV l) := by
  rw [← add_xor 8 _ _ x.toNat_lt]; rfl
theorem crcReg_leV (r : Nat) (l : List UInt8) : crcReg r l = crcIter (8 * l.length) (r ^^^ leV l) := by
  induction l generalizing r with
  | nil => simp [crcReg, leV, crcIter]
  | cons x l ih =>
    have e : crcReg r (x :: l) = crcReg (crcByte r x.toNat) l := rfl
    rw [e, ih, crcByte_eq, List.length_cons, Nat.mul_succ, crcIter_add, leV_cons, ← Nat.xor_assoc, crcIter_xor 8 (r ^^^ x.toNat), crcIter_shift]
theorem xor_not {x : Nat} (h : x < 4294967296) : x ^^^ not32 x = 4294967295 := by
  unfold not32
  rw [← not_nat x h, Nat.xor_comm 4294967295 x, ← Nat.xor_assoc, Nat.xor_self, Nat.zero_xor]
/-- What a good seal leaves in the register. -/
theorem crcReg_good {l : List UInt8} {k : Nat} (hl : l.length = k + 4) (h : leV (l.drop k) = crcSum (l.take k)) : crcReg (not32 0) l = crcIter 32 4294967295 := by
  have e : crcReg (not32 0) l = crcReg (crcReg (not32 0) (l.take k)) (l.drop k) := by rw [← crcReg_append, List.take_append_drop]
  have h4 : (l.drop k).length = 4 := by rw [List.length_drop, hl]; omega
  rw [e, crcReg_leV, h4, h]
  have hlt := crcReg_lt (not32_lt 0) (l.take k)
  unfold crcSum crcMore
  rw [xor_not hlt]
theorem turned_told {b l : List UInt8} {a t : Nat} (hl : l.length = (sealB b).length) (hv : leV l = leV (sealB b) ^^^ (2 ^ a * t)) (ht : t ≠ 0) (ht2 : t < 4294967296) (ha : a ≤ 8 * l.length) : openB l = ([], 5) := by
  have hsl := sealB_length b
  have hk : l.length = b.length + 4 := by omega
  unfold openB
  rw [if_neg (by omega), hk, Nat.add_sub_cancel]
  split
  · rename_i h
    exfalso
    have g1 := crcReg_good hk h
    have hb : (sealB b).take b.length = b := by unfold sealB; simp
    have hs2 : leV ((sealB b).drop b.length) = crcSum ((sealB b).take b.length) := by
      rw [hb]; unfold sealB
      rw [List.drop_left, leV_leB]
      exact Nat.mod_eq_of_lt (crcSum_lt b)
    have g2 := crcReg_good hsl hs2
    rw [crcReg_leV] at g1 g2
    rw [hl] at g1
    have g3 : crcIter (8 * (sealB b).length) (2 ^ a * t) = 0 := by
      have e : 2 ^ a * t = (not32 0 ^^^ leV l) ^^^ (not32 0 ^^^ leV (sealB b)) := by
        rw [hv]
        refine Nat.eq_of_testBit_eq fun i => ?_
        simp only [Nat.testBit_xor]
        cases (not32 0).testBit i <;> cases (leV (sealB b)).testBit i <;> cases (2 ^ a * t).testBit i <;> rfl
      rw [e, crcIter_xor, g1, g2, Nat.xor_self]
    have e : 8 * (sealB b).length = (8 * (sealB b).length - a) + a := by omega
    rw [e, crcIter_add, crcIter_shift] at g3
    exact ht (crcIter_inj ht2 _ g3)
  · rfl
/-- A bit of a row of bytes is turned. -/
theorem leV_flip (l : List UInt8) (j e : Nat) (x y : UInt8) (he : e < 8) (hx : l[j]? = some x) (hy : y.toNat = x.toNat ^^^ 2 ^ e) : leV (l.set j y) = leV l ^^^ 2 ^ (8 * j + e) := by
  induction l generalizing j with
  | nil => simp at hx
  | cons z l ih =>
    cases j with
    | zero =>
      simp at hx; subst hx
      rw [List.set_cons_zero, leV_cons, leV_cons, hy, Nat.mul_zero, Nat.zero_add, Nat.xor_assoc, Nat.xor_assoc]
      congr 1
      exact Nat.xor_comm _ _
    | succ j =>
      rw [List.set_cons_succ, leV_cons, leV_cons, ih j (by simpa using hx), Nat.xor_assoc]
      congr 1
      rw [Nat.mul_comm, Nat.mul_comm (2 ^ 8) (leV l)]
      refine Nat.eq_of_testBit_eq fun i => ?_
      simp only [Nat.testBit_xor, Nat.testBit_mul_two_pow, Nat.testBit_two_pow]
      by_cases h : 8 ≤ i
      · simp only [h, decide_true, Bool.true_and]
        congr 1
        rw [decide_eq_decide]; omega
      · simp only [h, decide_false, Bool.false_and, Bool.false_bne]
        symm; rw [decide_eq_false_iff_not]; omega
theorem turn_step (a t k : Nat) : 2 ^ a * (t % 2 ^ (k + 1)) = (2 ^ a * (t % 2 ^ k)) ^^^ (if t.testBit k then 2 ^ (a + k) else 0) := by
  rw [Nat.mul_comm, Nat.mul_comm (2 ^ a) (t % 2 ^ k)]
  refine Nat.eq_of_testBit_eq fun i => ?_
  have h0 : ∀ c : Bool, (if c = true then 2 ^ (a + k) else 0).testBit i = (c && decide (a + k = i)) := fun c => by cases c <;> simp [Nat.testBit_two_pow]
  rw [Nat.testBit_xor, h0, Nat.testBit_mul_two_pow, Nat.testBit_mul_two_pow, Nat.testBit_mod_two_pow, Nat.testBit_mod_two_pow]
  by_cases h : a ≤ i
  · simp only [h, decide_true, Bool.true_and]
    by_cases h1 : i - a = k
    · rw [h1]
      have : a + k = i := by omega
      simp [this]
    · have h2 : ¬ (a + k = i) := by omega
      have h3 : decide (i - a < k + 1) = decide (i - a < k) := by rw [decide_eq_decide]; omega
      simp [h2, h3]
  · have h2 : ¬ (a + k = i) := by omega
    simp [h, h2]
end Go.Proofs.Ytpkdcbfhacgklaa
/- Frames: plain laws. -/
namespace Go.Proofs.Ytpkdcbfhacgklaa
open Go.RowKit

theorem openB_sealB (b : List UInt8) : openB (sealB b) = (b, 0) := by
  unfold openB
  rw [sealB_length, if_neg (by omega), Nat.add_sub_cancel]
  unfold sealB
  rw [List.drop_left, List.take_left, leV_leB, if_pos (Nat.mod_eq_of_lt (crcSum_lt b))]
theorem frB_eq (k : Nat) (b : List UInt8) : ∃ c0 c1 c2 c3, leB 4 b.length = [c0, c1, c2, c3] ∧ frB k b = [1, UInt8.ofNat k, c0, c1, c2, c3] ++ b := by
  have h1 : leB 1 1 = [1] := by decide
  have hk : leB 1 k = [UInt8.ofNat k] := by
    unfold leB
    simp [leB]
  have h4 := leB_length 4 b.length
  unfold frB
  rw [h1, hk]
  match h : leB 4 b.length, h4 with
  | [c0, c1, c2, c3], _ => exact ⟨c0, c1, c2, c3, rfl, rfl⟩
theorem sizeV_frame {k : Nat} {b : List UInt8} (hb : b.length < 4294967296) : sizeV (frameB k b) = (b.length + 10, 0) := by
  obtain ⟨c0, c1, c2, c3, h1, h2⟩ := frB_eq k b
  have hl := frameB_length k b
  unfold sizeV
  rw [if_neg (by omega)]
  unfold frameB sealB
  rw [h2]
  simp only [List.cons_append, List.headD_cons, ne_eq, not_true, if_false]
  have hv := leV_leB 4 b.length
  rw [h1, Nat.mod_eq_of_lt (by simpa using hb)] at hv
  exact congrArg (fun x => (x + 10, 0)) hv
theorem frGet_frame {k : Nat} {b : List UInt8} (hk : k < 256) (hb : b.length ≤ 65526) : frGet (frameB k b) = ((k, b), 0) := by
  obtain ⟨c0, c1, c2, c3, h1, h2⟩ := frB_eq k b
  have hl := frameB_length k b
  have hs := sizeV_frame (k := k) (b := b) (by omega)
  unfold frGet
  rw [if_neg (by omega), hs, hl, if_neg (by simp), if_neg (by simp), if_neg (by simp)]
  unfold frameB
  rw [openB_sealB, if_neg (by simp), h2]
  simp [Nat.mod_eq_of_lt hk]
theorem frGet_bad {l : List UInt8} (h : (openB l).2 ≠ 0) : ∃ e, frGet l = ((0, []), e) ∧ e ≠ 0 := by
  unfold frGet
  by_cases h1 : 65536 < l.length
  · rw [if_pos h1]; exact ⟨3, rfl, by decide⟩
  · rw [if_neg h1]
    by_cases h2 : (sizeV l).2 ≠ 0
    · rw [if_pos h2]; exact ⟨_, rfl, h2⟩
    · rw [if_neg h2]
      by_cases h3 : l.length < (sizeV l).1
      · rw [if_pos h3]; exact ⟨2, rfl, by decide⟩
      · rw [if_neg h3]
        by_cases h4 : (sizeV l).1 < l.length
        · rw [if_pos h4]; exact ⟨3, rfl, by decide⟩
        · rw [if_neg h4, if_pos h]; exact ⟨_, rfl, h⟩
theorem frGet_turned {k : Nat} {b l : List UInt8} {a t : Nat} (hl : l.length = b.length + 10) (hv : leV l = leV (frameB k b) ^^^ (2 ^ a * t)) (ht : t ≠ 0) (ht2 : t < 4294967296) (ha : a ≤ 8 * l.length) : ∃ e, frGet l = ((0, []), e) ∧ e ≠ 0 := by
  refine frGet_bad ?_
  have := turned_told (b := frB k b) (l := l) (a := a) (t := t) (by rw [hl]; exact (frameB_length k b).symm) hv ht ht2 ha
  rw [this]; decide
end Go.Proofs.Ytpkdcbfhacgklaa
/- interrexlaw02.CrcParts: the walk. -/
namespace Go.Proofs.Ytpkdcbfhacgklaa
open Go.RowKit Go.ChangeShapes Go.WideShapes

theorem crcMore_sum (a b : List UInt8) : crcMore (crcSum a) b = crcSum (a ++ b) := by
  unfold crcSum crcMore
  rw [not32_not32 (crcReg_lt (not32_lt 0) a), crcReg_append]
theorem crcSum_nil : crcSum [] = 0 := by decide +kernel
theorem crcMore_lt (s : Nat) (b : List UInt8) : crcMore s b < 4294967296 := not32_lt _
/-- A []byte as it lies in memory. -/
structure Part where
  A : Option Addr
  c : Nat
  bs : List UInt8
instance : Inhabited Part := ⟨⟨none, 0, []⟩⟩
def Part.cells (i : Part) : List Value := [.slice i.A i.bs.length i.c]
theorem Part.cells_length (i : Part) : i.cells.length = 1 := rfl
structure PartOK (w : World) (i : Part) : Prop where
  row : RowAt w i.A (bcells i.bs)
  cap : i.bs.length ≤ i.c
  max : i.c ≤ maxLen
  nil : i.A = none → i.bs.length = 0 ∧ i.c = 0
section
variable {H : Type} {enc : TypeId × Value → H} {w : World}
theorem open_part (n : Nat) (cs : List Value) (y : DataW H × List MemPlace) (h : DataW.trod enc Try.prog w 0 (fun _ => true) true n 46 cs = some y) :
    ∃ i : Part, cs = i.cells ∧ PartOK w i := by
  obtain ⟨A, len, cap, rfl⟩ : ∃ A len cap, cs = [.slice A len cap] := by
    rcases DataW.trod_slice Try.underlying46 h with ⟨e, _⟩ | ⟨a, len, cap, _, _, _, _, e, _⟩
    · exact ⟨_, _, _, e⟩
    · exact ⟨_, _, _, e⟩
  obtain ⟨l, h1, rfl, h3, h4, h5⟩ := open_bytes (w := w) (enc := enc) (d := y.1) (ps := y.2) ⟨n, by simpa [Value.cells] using h⟩
  exact ⟨⟨A, cap, l⟩, rfl, ⟨h1, h3, h4, h5⟩⟩
theorem open_parts {A : Option Addr} {len cap : Nat} {d : DataW H} {ps : List MemPlace} (h : DataW.Trod enc Try.prog w 0 (fun _ => true) true 62 (.slice A len cap) d ps) :
    ∃ l : List Part, RowAt w A (l.flatMap Part.cells) ∧ l.length = len ∧ len ≤ cap ∧ cap ≤ maxLen ∧ (∀ i ∈ l, PartOK w i) ∧ (A = none → len = 0 ∧ cap = 0) := by
  obtain ⟨l, h1, h2, h3, h4, h5, h6⟩ := open_rows Part.cells (fun i => PartOK w i) Try.underlying62 open_part h
  exact ⟨l, h1, h2, h3, h4, h5, h6⟩
end
def partsB (l : List Part) : List UInt8 := l.flatMap Part.bs
theorem partsB_snoc {l : List Part} {k : Nat} {i : Part} (h : l[k]? = some i) : partsB (l.take (k + 1)) = partsB (l.take k) ++ i.bs := by
  unfold partsB; rw [take_snoc' h, List.flatMap_append]; simp only [List.flatMap_cons, List.flatMap_nil, List.append_nil]

end Go.Proofs.Ytpkdcbfhacgklaa
/- interrexlaw03.FrameSplits: the walk. -/
namespace Go.Proofs.Ytpkdcbfhacgklaa
open Go.RowKit

def fsB : Nat → List Part → List UInt8
  | _, [] => []
  | i, x :: l => frameB i x.bs ++ fsB (i + 1) l
theorem fsB_snoc {l : List Part} {k : Nat} {it : Part} (h : l[k]? = some it) (i : Nat) : fsB i (l.take (k + 1)) = fsB i (l.take k) ++ frameB (i + k) it.bs := by
  induction l generalizing i k with
  | nil => simp at h
  | cons x l ih =>
    cases k with
    | zero =>
      simp at h; subst h
      simp [fsB]
    | succ k =>
      rw [List.take_succ_cons, List.take_succ_cons]
      show frameB i x.bs ++ fsB (i + 1) (l.take (k + 1)) = (frameB i x.bs ++ fsB (i + 1) (l.take k)) ++ _
      rw [ih (by simpa using h), List.append_assoc, show i + 1 + k = i + (k + 1) by omega]
theorem fsB_drop {l : List Part} {k : Nat} {it : Part} (h : l[k]? = some it) : fsB k (l.drop k) = frameB k it.bs ++ fsB (k + 1) (l.drop (k + 1)) := by
  obtain ⟨hk, rfl⟩ := List.getElem?_eq_some_iff.1 h
  rw [List.drop_eq_getElem_cons hk]; rfl
theorem splitV_frame {k : Nat} {b m : List UInt8} (hb : b.length ≤ 65526) : splitV (frameB k b ++ m) = ((frameB k b, m), 0) := by
  obtain ⟨c0, c1, c2, c3, h1, h2⟩ := frB_eq k b
  have hl := frameB_length k b
  have hs : sizeV (frameB k b ++ m) = (b.length + 10, 0) := by
    unfold sizeV
    rw [if_neg (by rw [List.length_append]; omega)]
    unfold frameB sealB
    rw [h2]
    simp only [List.cons_append, List.headD_cons, ne_eq, not_true, if_false]
    have hv := leV_leB 4 b.length
    rw [h1, Nat.mod_eq_of_lt (by omega)] at hv
    exact congrArg (fun x => (x + 10, 0)) hv
  unfold splitV
  rw [hs, if_neg (by simp), if_neg (by simp; omega), if_neg (by rw [List.length_append]; simp; omega), ← hl, List.take_left, List.drop_left]

set_option maxRecDepth 100000 in
set_option maxHeartbeats 6400000 in
theorem frSplits_walk (w : World) (A : Option Addr) (n c : Nat) (l : List Part) (h : RowAt w A (l.flatMap Part.cells)) (HN : Hid (l.length = n)) (hn : n ≤ maxLen) (hok : ∀ i ∈ l, PartOK w i)
    (A2 : Option Addr) (n2 c2 : Nat) (b2 : List UInt8) (hr2 : RowAt w A2 (bcells b2)) (HN2 : Hid (b2.length = n2)) (hnc2 : n2 ≤ c2) (hc2 : c2 ≤ maxLen) (hnil2 : A2 = none → n2 = 0 ∧ c2 = 0) :
    Calls Try.prog 8 #[.slice A n c, .slice A2 n2 c2] w (BoolPost w true) := by
  have hlv := @lives03_calls
  unfold maxLen at hn hc2
  by_cases hbad : 8 < n ∨ 100 < n2
  · obtain ⟨q1, hq1⟩ : ∃ q1, decide (8 < (n : Int)) = q1 := ⟨_, rfl⟩
    obtain ⟨q2, hq2⟩ : ∃ q2, decide (100 < (n2 : Int)) = q2 := ⟨_, rfl⟩
    have hqq : q1 = true ∨ (q1 = false ∧ q2 = true) := by
      rw [← hq1, ← hq2]; simp; omega
    clear hbad h hok hr2
    rcases hqq with e1 | ⟨e1, e2⟩
    all_goals
      subst e1
      try subst e2
      go_enter Try.func8, Try.ntmps8
      go_wp2_with fail
      refine (hlv _).mono ?_
      rintro e w1 ⟨rfl, f1⟩
      go_wp2_with fail
      refine (hlv _).mono ?_
      rintro e w2 ⟨rfl, f2⟩
      go_wp2_with fail
      go_ret
      exact ⟨rfl, f1.then' f2⟩
  · have t1 : decide (8 < (n : Int)) = false := by simp; omega
    have t2 : decide (100 < (n2 : Int)) = false := by simp; omega
    have hn8 : n ≤ 8 := by omega
    have hn100 : n2 ≤ 100 := by omega
    clear hbad
    go_enter Try.func8, Try.ntmps8
    go_wp2_with fail
    refine (hlv _).mono ?_
    rintro e w1 ⟨rfl, f1⟩
    go_wp2_with fail
    refine (newF_calls w1).mono ?_
    rintro e w2 ⟨rfl, h2, f2, z2⟩
    have Z2 := hid z2; clear z2
    have f02 : Fr (upB w.heap.size) w w2 := (f1.then' f2).up0 _
    have z1 := f1.size
    clear f1 f2
    generalize hp : w1.heap.size = p at *
    have HP := hid hp; clear hp
    go_wp2_with fail
    go_loopw [6, 40] (fun a i wr => ∃ k : Nat, k ≤ n ∧ i = .int .i64 k ∧ (∃ mk, TabAt wr p mk) ∧ (∀ it ∈ l.take k, it.bs.length ≤ 100) ∧ (∃ B m d, Hid ((fsB 0 (l.take k)).length = m) ∧ m ≤ 110 * k ∧ a = .slice B m d ∧ wr.ownsRow (p + 1) 5 1 a m (bcells (fsB 0 (l.take k)))) ∧ Fr (upB w.heap.size) w wr) (fun _ i _ => n - (intOf i).toNat)
    case atStart => exact ⟨0, Nat.zero_le _, rfl, ⟨_, h2⟩, (by simp), ⟨none, 0, 0, rfl, by omega, rfl, World.ownsRow_nil _ _ _ _⟩, f02⟩
    case round =>
      clear h2 f02
      obtain ⟨k, hk, rfl, ⟨mk, htb⟩, hall, ⟨B, m, d, HM, hmk, rfl, hown⟩, hf⟩ := hrel
      by_cases hkn : k < n
      · obtain ⟨it, hit⟩ : ∃ it, l[k]? = some it := ⟨_, List.getElem?_eq_getElem (by rw [HN.out]; exact hkn)⟩
        obtain ⟨ad, rfl⟩ := h.some_flat (by simp [Part.cells]) hit
        have c0 := ((h.seg 1 Part.cells_length hit).fr hf (by
          have := (h.seg 1 Part.cells_length hit) 0 _ rfl
          have := World.block_lt_of_cell? w _ this
          rw [add_block] at this
          unfold upB; omega)).c1
        rw [Nat.mul_one] at c0
        have hpo := hok it (List.mem_of_getElem? hit)
        have HS := hid (fsB_snoc hit 0)
        rw [Nat.zero_add] at HS
        have hall2 : it.bs.length ≤ 100 → ∀ it ∈ l.take (k + 1), it.bs.length ≤ 100 := fun hq j hj => by
          rw [take_snoc' hit, List.mem_append] at hj
          rcases hj with hj | hj
          · exact hall j hj
          · rw [List.mem_singleton.1 hj]; exact hq
        obtain ⟨PA, pc, bs⟩ := it
        obtain ⟨hrow, hcap, hmax, hnil⟩ := hpo
        simp only [] at hrow hcap hmax hnil c0 HS hall2
        obtain ⟨q, HQ⟩ : ∃ q, Hid (bs.length = q) := ⟨_, rfl⟩
        rw [HQ.out] at hcap hnil c0 hall2
        unfold maxLen at hmax
        clear hit hall
        by_cases h100 : 100 < q
        · go_wp2_with fail
          go_ret
          exact ⟨rfl, hf.none⟩
        · have hall3 := hid (hall2 (by omega))
          have hq100 : q ≤ 100 := by omega
          have hk256 : k < 256 := by omega
          have hwk : IntKind.u8.wrap (k : Int) = k := by rw [IntKind.wrap_u8]; omega
          have hput := putF_calls wr p k mk PA q pc bs htb hk256 (hrow.up hf) HQ (by omega) hnil
          have HFL : Hid ((frameB k bs).length = q + 10) := by unfold Hid; rw [frameB_length, HQ.out]
          have hpw : p < wr.heap.size := htb.lt
          clear hall2 htb hrow
          go_wp2_with fail
          refine hput.mono ?_
          clear hput
          rintro e w5 ⟨A5, d5, rfl, hown5, htb5, f5⟩
          rw [HFL.out] at hown5 ⊢
          have hlt5 := own_base hown5
          have hbase : ∀ g, (Value.slice B m d).ownBlock = some g → p + 1 ≤ g := fun g hg => (hown.lt g hg).1
          have hown0 : w5.ownsRow 0 5 1 (.slice B m d) m (bcells (fsB 0 (l.take k))) := own_mono (own_fr hown f5 (fun g hg he => by have := hbase g hg; unfold eqB at he; omega)) (fun _ _ => Nat.zero_le _)
          have hf5 : Fr (upB w.heap.size) w w5 := hf.then' (f5.mono fun b _ hb => by unfold eqB at hb; unfold upB; omega)
          have hz5 := f5.size
          clear hown hf f5
          go_wp2_with (at_builtin; refine wpList_app Try.app8 rfl (.tmp 58) (.tmp 59) rfl _ m (bcells (fsB 0 (l.take k))) rfl hown0 A5 (q + 10) d5 (bcells (frameB k bs)) rfl (by rw [bcells_length, HFL.out, Nat.mul_one]) (own_row hown5) (bcells_one _) (own_nilB hown5) (by omega) (by omega) ?_)
          intro B' d' w6 hown' hg hat
          have f6 : Fr (fun b => p + 1 ≤ b) w5 w6 := Fr.grown (Fr.refl _ w5) hg (fun g hg => Or.inl (hbase g hg))
          have hown6 : w6.ownsRow (p + 1) 5 1 (.slice B' (m + (q + 10)) d') (m + (q + 10)) (bcells (fsB 0 (l.take (k + 1)))) := by
            rw [HS.out, bcells_append]
            refine own_mono hown' (fun g hg => ?_)
            rcases hat with e | e
            · exact hbase g (e ▸ hg)
            · rw [hg] at e; simp at e; omega
          have htb6 := htb5.fr f6 (fun h => by omega)
          have hf6 : Fr (upB w.heap.size) w w6 := hf5.then' (f6.mono fun b _ hb => by unfold upB; omega)
          have HM6 : Hid ((fsB 0 (l.take (k + 1))).length = m + (q + 10)) := by unfold Hid; rw [HS.out, List.length_append, HM.out, HFL.out]
          clear hown' hg hat hown0 htb5 hf5 f6 hown5 hlt5
          generalize hm6 : m + (q + 10) = m6 at *
          have hm6l : m6 ≤ 110 * (k + 1) := by omega
          clear hm6
          go_wp2_with fail
          go_roundw
          case rel => exact ⟨k + 1, by omega, by go_num, ⟨_, htb6⟩, hall3.out, ⟨B', m6, d', HM6, hm6l, rfl, hown6⟩, hf6⟩
          case measure => simp [intOf]; omega
      · have hkn2 : n = k := by omega
        subst hkn2
        have hta : l.take n = l := List.take_of_length_le (by rw [HN.out]; exact Nat.le_refl _)
        rw [hta] at hall HM hown
        clear hta
        have hbase : ∀ g, (Value.slice B m d).ownBlock = some g → p + 1 ≤ g := fun g hg => (hown.lt g hg).1
        have hown0 : wr.ownsRow 0 5 1 (.slice B m d) m (bcells (fsB 0 l)) := own_mono hown (fun _ _ => Nat.zero_le _)
        have hpw : p < wr.heap.size := htb.lt
        go_wp2_with (at_builtin; refine wpList_app Try.app8 rfl (.tmp 62) (.tmp 63) rfl _ m (bcells (fsB 0 l)) rfl hown0 A2 n2 c2 (bcells b2) rfl (by rw [bcells_length, HN2.out, Nat.mul_one]) (hr2.up hf) (bcells_one _) hnil2 (by omega) (by omega) ?_)
        intro B' d' w6 hown' hg hat
        have f6 : Fr (fun b => p + 1 ≤ b) wr w6 := Fr.grown (Fr.refl _ wr) hg (fun g hg => Or.inl (hbase g hg))
        have hown6 : w6.ownsRow (p + 1) 5 1 (.slice B' (m + n2) d') (m + n2) (bcells (fsB 0 l ++ b2)) := by
          rw [bcells_append]
          refine own_mono hown' (fun g hg => ?_)
          rcases hat with e | e
          · exact hbase g (e ▸ hg)
          · rw [hg] at e; simp at e; omega
        have htb6 := htb.fr f6 (fun h => by omega)
        have hf6 : Fr (upB w.heap.size) w w6 := hf.then' (f6.mono fun b _ hb => by unfold upB; omega)
        have HM6 : Hid ((fsB 0 l ++ b2).length = m + n2) := by unfold Hid; rw [List.length_append, HM.out, HN2.out]
        have hm6l : m + n2 ≤ 2000 := by omega
        generalize m + n2 = m6 at *
        clear hown' hg hat hown0 htb hf f6 hown hbase HM hmk hpw
        go_wp2_with fail
        go_loopw [6, 67] (fun a i wr => ∃ k : Nat, k ≤ n ∧ i = .int .i64 k ∧ (∃ mk, TabAt wr p mk) ∧ (∃ B m d, Hid ((fsB k (l.drop k) ++ b2).length = m) ∧ m ≤ 2000 ∧ a = .slice B m d ∧ wr.ownsRow (p + 1) 5 1 a m (bcells (fsB k (l.drop k) ++ b2))) ∧ Fr (upB w.heap.size) w wr) (fun _ i _ => n - (intOf i).toNat)
        case atStart => exact ⟨0, Nat.zero_le _, rfl, ⟨_, htb6⟩, ⟨B', m6, d', HM6, hm6l, rfl, hown6⟩, hf6⟩
        case round =>
          clear htb6 hf6 HM6 hm6l hown6
          obtain ⟨k, hk, rfl, ⟨mk, htb⟩, ⟨B, m, d, HM, hmk, rfl, hown⟩, hf⟩ := hrel
          have hpw : p < wr.heap.size := htb.lt
          by_cases hkn : k < n
          · obtain ⟨it, hit⟩ : ∃ it, l[k]? = some it := ⟨_, List.getElem?_eq_getElem (by rw [HN.out]; exact hkn)⟩
            obtain ⟨ad, rfl⟩ := h.some_flat (by simp [Part.cells]) hit
            have c0 := ((h.seg 1 Part.cells_length hit).fr hf (by
              have := (h.seg 1 Part.cells_length hit) 0 _ rfl
              have := World.block_lt_of_cell? w _ this
              rw [add_block] at this
              unfold upB; omega)).c1
            rw [Nat.mul_one] at c0
            have hpo := hok it (List.mem_of_getElem? hit)
            have HS := hid (fsB_drop hit)
            have hall2 := hall it (List.mem_of_getElem? hit)
            obtain ⟨PA, pc, bs⟩ := it
            obtain ⟨hrow, hcap, hmax, hnil⟩ := hpo
            simp only [] at hrow hcap hmax hnil c0 HS hall2
            obtain ⟨q, HQ⟩ : ∃ q, Hid (bs.length = q) := ⟨_, rfl⟩
            rw [HQ.out] at hcap hnil c0 hall2
            unfold maxLen at hmax
            clear hit
            have hk256 : k < 256 := by omega
            have hwk : IntKind.u8.wrap (k : Int) = k := by rw [IntKind.wrap_u8]; omega
            have HFL : Hid ((frameB k bs).length = q + 10) := by unfold Hid; rw [frameB_length, HQ.out]
            have HFG : Hid (frGet (frameB k bs) = ((k, bs), 0)) := frGet_frame hk256 (by rw [HQ.out]; omega)
            obtain ⟨mo, HMO⟩ : ∃ mo, Hid (fsB (k + 1) (l.drop (k + 1)) ++ b2 = mo) := ⟨_, rfl⟩
            have HS2 : Hid (fsB k (l.drop k) ++ b2 = frameB k bs ++ mo) := by unfold Hid; rw [HS.out, List.append_assoc, HMO.out]
            have hsp := split_calls wr (some ⟨p, 0, none⟩) B m d (fsB k (l.drop k) ++ b2) (own_row hown) HM (own_capB hown).1 (own_capB hown).2 (by omega)
            rw [HS2.out, splitV_frame (by rw [HQ.out]; omega)] at hsp
            have HMM : Hid (m = q + 10 + mo.length) := by unfold Hid; rw [← HM.out, HS2.out, List.length_append, HFL.out]
            clear hown HS HS2 HM
            go_wp2_with fail
            refine hsp.mono ?_
            clear hsp
            rintro e w5 ⟨B1, m1, d1, B2, m2, d2, rfl, hm1, hm2, ho1, ho2, f5⟩
            simp only [] at *
            have hmm1 : m1 = q + 10 := by rw [← hm1.out, HFL.out]
            have t9 : ((m1 : Int) + (m2 : Int) != (m : Int)) = false := by
              rw [bne_eq_false_iff_eq]; have := HMM.out; have := hm2.out; omega
            have hm2l : m2 ≤ 2000 := by have := HMM.out; have := hm2.out; omega
            have hm1l : m1 ≤ 200 := by omega
            have hget := getF_calls w5 p mk B1 m1 d1 (frameB k bs) (htb.fr f5 id) (own_row ho1) hm1 (own_capB ho1).1 (own_capB ho1).2 (fun a e _ he => by have := own_base ho1 a e; omega)
            rw [HFG.out] at hget
            have hf5 := hf.then' (f5.up0 _)
            have hz5 := f5.size
            clear HMM hmm1 ho1 hf f5 htb
            go_wp2_with fail
            refine hget.mono ?_
            clear hget
            rintro e w6 ⟨B3, m3, d3, rfl, hm3, hr3, ⟨mk6, htb6⟩, _, f6⟩
            simp only [] at *
            have hm3q : m3 = q := by rw [← hm3.out, HQ.out]
            subst hm3q
            have ho6 := own_fr ho2 f6 (fun g hg he => by have := (ho2.lt g hg).1; unfold eqB at he; omega)
            have ho6' : w6.ownsRow (p + 1) 5 1 (.slice B2 m2 d2) m2 (bcells mo) := own_mono ho6 (fun g hg => by have := (ho2.lt g hg).1; omega)
            have hf6 : Fr (upB w.heap.size) w w6 := hf5.then' (f6.mono fun b _ hb => by unfold eqB at hb; unfold upB; omega)
            have hcv1 := Try.toStr hr3 HQ.out d3
            have hcv2 := Try.toStr (hrow.up hf6) HQ.out pc
            clear hr3 ho6 ho2 hf5 f6 hrow HFG HFL
            generalize mkS bs = sb at *
            go_wp2_with fail
            go_roundw
            case rel => exact ⟨k + 1, by omega, by go_num, ⟨_, htb6⟩, ⟨B2, m2, d2, by rw [HMO.out]; exact hm2, hm2l, rfl, by rw [HMO.out]; exact ho6'⟩, hf6⟩
            case measure => simp [intOf]; omega
          · clear hown HM hmk
            have hnk : k = n := by omega
            subst hnk
            have hsp := split_calls wr (some ⟨p, 0, none⟩) A2 n2 c2 b2 (hr2.up hf) HN2 hnc2 hc2 (by omega)
            have hsr := fun W => sizeR_calls W b2 (by rw [HN2.out]; omega)
            have hcv := Try.toStr (hr2.up hf) HN2.out c2
            have HV : Hid (splitV b2 = if (sizeV b2).2 ≠ 0 then (([], []), (sizeV b2).2) else if 65536 < (sizeV b2).1 then (([], []), 3) else if b2.length < (sizeV b2).1 then (([], []), 2) else ((b2.take (sizeV b2).1, b2.drop (sizeV b2).1), 0)) := rfl
            have hz := sizeV_lt b2
            have hz10 : (sizeV b2).2 = 0 → 10 ≤ n2 ∧ 10 ≤ (sizeV b2).1 := fun h0 => by
              unfold sizeV at h0 ⊢
              rw [HN2.out] at h0 ⊢
              split at h0
              · cases h0
              · split at h0
                · cases h0
                · rw [if_neg (by assumption), if_neg (by assumption)]
                  exact ⟨by omega, by simp only []; omega⟩
            generalize splitV b2 = res at *
            generalize sizeV b2 = sv at *
            obtain ⟨v, ev⟩ := sv
            obtain ⟨⟨rf, rm⟩, re⟩ := res
            simp only [] at *
            rw [HN2.out] at HV
            generalize hsb : mkS b2 = sb at *
            go_wp2_with fail
            refine hsp.mono ?_
            clear hsp
            rintro e w5 ⟨B1, m1, d1, B2, m2, d2, rfl, hm1, hm2, ho1, ho2, f5⟩
            simp only [] at hm1 hm2 ho1 ho2
            have hr5 := (hr2.up hf).fr0 f5
            have hcv5 := Try.toStr hr5 HN2.out c2
            rw [hsb] at hcv5
            have hf5 := hf.then' (f5.up0 _)
            clear hcv hsb hf f5
            go_wp2_with fail
            refine (hsr w5).mono ?_
            clear hsr hcv5
            rintro e w6 ⟨rfl, rfl⟩
            have HF5 := hid hf5.none
            have nilv : ∀ {x y : List UInt8}, x = y → y = [] → x.length = 0 := fun h1 h2 => by rw [h1, h2]; rfl
            by_cases he : ev = 0
            · have t1 : ((ev : Int) != 0) = false := by rw [bne_eq_false_iff_eq]; omega
              have hn10 := hz10 he
              rw [if_neg (by rw [he]; decide)] at HV
              have hw1 : IntKind.u64.wrap (n2 : Int) = n2 := by rw [IntKind.wrap_u64]; omega
              clear he hz10
              by_cases h1 : 65536 < v
              · have td2 : decide ((65536 : Int) < (v : Int)) = true := by simp; omega
                rw [if_pos h1] at HV
                obtain ⟨⟨rfl, rfl⟩, rfl⟩ : (rf = [] ∧ rm = []) ∧ re = 3 := by have := HV.out; simpa using this
                have hm1' : m1 = 0 := hm1.out.symm
                subst hm1'
                clear h1 HV hm1 hm2 ho1 ho2 hn10
                go_wp2_with fail
                go_ret
                exact ⟨rfl, HF5.out⟩
              · have td2 : decide ((65536 : Int) < (v : Int)) = false := by simp; omega
                rw [if_neg h1] at HV
                by_cases h2 : n2 < v
                · have td3 : decide (n2 < v) = true := decide_eq_true h2
                  rw [if_pos h2] at HV
                  obtain ⟨⟨rfl, rfl⟩, rfl⟩ : (rf = [] ∧ rm = []) ∧ re = 2 := by have := HV.out; simpa using this
                  have hm1' : m1 = 0 := hm1.out.symm
                  subst hm1'
                  clear h1 h2 HV hm1 hm2 ho1 ho2 hn10
                  go_wp2_with fail
                  go_ret
                  exact ⟨rfl, HF5.out⟩
                · have td3 : decide (n2 < v) = false := decide_eq_false h2
                  rw [if_neg h2] at HV
                  obtain ⟨⟨rfl, rfl⟩, rfl⟩ : (rf = b2.take v ∧ rm = b2.drop v) ∧ re = 0 := by have := HV.out; simpa using this
                  have hv10 := hn10.2
                  have hvn : v ≤ n2 := by omega
                  have hvc : v ≤ c2 := by omega
                  obtain ⟨ad2, rfl⟩ := hr5.some_of (by rw [bcells_length, HN2.out]; omega)
                  have HTL : Hid ((b2.take v).length = v) := by unfold Hid; rw [List.length_take, HN2.out]; omega
                  have HDL : Hid ((b2.drop v).length = n2 - v) := by unfold Hid; rw [List.length_drop, HN2.out]
                  have hrT : RowAt w6 (some ad2) (bcells (b2.take v)) := by
                    have := hr5.sub 0 v
                    rw [← bcells_sub, add_zero', List.drop_zero] at this
                    exact this
                  have hrF := own_row ho1
                  have hrM := own_row ho2
                  clear h1 h2 HV hn10 ho1 ho2
                  obtain ⟨sT, HST⟩ : ∃ sT, Hid (mkS (b2.take v) = sT) := ⟨_, rfl⟩
                  obtain ⟨sD, HSD⟩ : ∃ sD, Hid (mkS (b2.drop v) = sD) := ⟨_, rfl⟩
                  go_wp2_with fail
                  apply wp_region_calm (R := Fr noB) (C := fun q W => Fr noB w6 W) [false, false, false, false, false, false, false, false, false, false, false, false, false, false, false, false, false, false, false, false, false]
                    [eqv _, eqv _, eqv _, eqv _, eqv (.string sT), eqv _, eqv _, eqv _, eqv (.string sT), eqv _, eqv _, eqv _, eqv _, eqv (.string sD), eqv _, eqv _, SubN (b2.drop v), eqv (.string sD), eqv (.bool true), eqv (.bool true), eqv (.bool true)]
                    (by kernel_rfl) (by kernel_rfl) (fun _ _ _ h1 h2 => h1.then' h2) ((Fr.refl _ _).drew) ((Fr.refl _ _).drew) (by kernel_rfl)
                  · refine ⟨?_, ?_, ?_, ?_, ?_, ?_, ?_, ?_, ?_, ?_, ?_, ?_, ?_, ?_, ?_, ?_, ?_, ?_, ?_, ?_, ?_, trivial⟩
                    · rw [if_neg (by decide)]; intro kq
                      exact calm_mv 21 rfl rfl (Or.inl rfl) (Fr.refl _) (by decide) fun v w hd => hd
                    · rw [if_neg (by decide)]; intro kq
                      intro a W K hC hd hK
                      have d169 : _ = _ := hd 169 (by decide)
                      refine wpOp_plain rfl rfl ?_
                      go_wp2_with fail
                      exact hK _ _ (Fr.refl _ _) hC rfl
                    · rw [if_neg (by decide)]; intro kq
                      exact calm_mv 170 rfl rfl (Or.inl rfl) (Fr.refl _) (by decide) fun v w hd => hd
                    · rw [if_neg (by decide)]; intro kq
                      intro a W K hC hd hK
                      have d19 : a.tmps[19]?.getD undef = .slice B1 m1 d1 := hd 19 (by decide)
                      have d171 : _ = _ := hd 171 (by decide)
                      first | (exact wpOp_skip rfl (wanted_of (want := true) (b := false) rfl rfl (by rw [eval_get]; exact d171)) (hK _ _ (Fr.refl _ _) hC rfl)) | (refine wpOp_want rfl (wanted_of (want := true) (b := true) rfl rfl (by rw [eval_get]; exact d171)) ?_)
                      all_goals (
                        go_wp2_with fail
                        exact hK _ _ (Fr.refl _ _) hC rfl)
                    · rw [if_neg (by decide)]; intro kq
                      intro a W K hC hd hK
                      have d172 : _ = _ := hd 172 (by decide)
                      have d171 : _ = _ := hd 171 (by decide)
                      first | (exact wpOp_skip rfl (wanted_of (want := true) (b := false) rfl rfl (by rw [eval_get]; exact d171)) (hK _ _ (Fr.refl _ _) hC rfl)) | (refine wpOp_want rfl (wanted_of (want := true) (b := true) rfl rfl (by rw [eval_get]; exact d171)) ?_)
                      all_goals (
                        have hcv9 := Try.toStr (hrF.fr0 hC) hm1.out d1
                        rw [HST.out] at hcv9
                        go_wp2_with fail
                        exact hK _ _ (Fr.refl _ _) hC rfl)
                    · rw [if_neg (by decide)]; intro kq
                      intro a W K hC hd hK
                      have d1 : a.tmps[1]?.getD undef = .slice (some ad2) n2 c2 := hd 1 (by decide)
                      have d171 : _ = _ := hd 171 (by decide)
                      first | (exact wpOp_skip rfl (wanted_of (want := true) (b := false) rfl rfl (by rw [eval_get]; exact d171)) (hK _ _ (Fr.refl _ _) hC rfl)) | (refine wpOp_want rfl (wanted_of (want := true) (b := true) rfl rfl (by rw [eval_get]; exact d171)) ?_)
                      all_goals (
                        go_wp2_with fail
                        exact hK _ _ (Fr.refl _ _) hC rfl)
                    · rw [if_neg (by decide)]; intro kq
                      intro a W K hC hd hK
                      have d22 : a.tmps[22]?.getD undef = .int .u64 v := hd 22 (by decide)
                      have d171 : _ = _ := hd 171 (by decide)
                      first | (exact wpOp_skip rfl (wanted_of (want := true) (b := false) rfl rfl (by rw [eval_get]; exact d171)) (hK _ _ (Fr.refl _ _) hC rfl)) | (refine wpOp_want rfl (wanted_of (want := true) (b := true) rfl rfl (by rw [eval_get]; exact d171)) ?_)
                      all_goals (
                        go_wp2_with fail
                        exact hK _ _ (Fr.refl _ _) hC rfl)
                    · rw [if_neg (by decide)]; intro kq
                      intro a W K hC hd hK
                      have d174 : _ = _ := hd 174 (by decide)
                      have d175 : _ = _ := hd 175 (by decide)
                      have d171 : _ = _ := hd 171 (by decide)
                      first | (exact wpOp_skip rfl (wanted_of (want := true) (b := false) rfl rfl (by rw [eval_get]; exact d171)) (hK _ _ (Fr.refl _ _) hC rfl)) | (refine wpOp_want rfl (wanted_of (want := true) (b := true) rfl rfl (by rw [eval_get]; exact d171)) ?_)
                      all_goals (
                        go_wp2_with fail
                        exact hK _ _ (Fr.refl _ _) hC rfl)
                    · rw [if_neg (by decide)]; intro kq
                      intro a W K hC hd hK
                      have d176 : _ = _ := hd 176 (by decide)
                      have d171 : _ = _ := hd 171 (by decide)
                      first | (exact wpOp_skip rfl (wanted_of (want := true) (b := false) rfl rfl (by rw [eval_get]; exact d171)) (hK _ _ (Fr.refl _ _) hC rfl)) | (refine wpOp_want rfl (wanted_of (want := true) (b := true) rfl rfl (by rw [eval_get]; exact d171)) ?_)
                      all_goals (
                        have hcv9 := Try.toStr (hrT.fr0 hC) HTL.out c2
                        rw [HST.out] at hcv9
                        go_wp2_with fail
                        exact hK _ _ (Fr.refl _ _) hC rfl)
                    · rw [if_neg (by decide)]; intro kq
                      intro a W K hC hd hK
                      have d173 : a.tmps[173]?.getD undef = .string sT := hd 173 (by decide)
                      have d177 : a.tmps[177]?.getD undef = .string sT := hd 177 (by decide)
                      have d171 : _ = _ := hd 171 (by decide)
                      first | (exact wpOp_skip rfl (wanted_of (want := true) (b := false) rfl rfl (by rw [eval_get]; exact d171)) (hK _ _ (Fr.refl _ _) hC rfl)) | (refine wpOp_want rfl (wanted_of (want := true) (b := true) rfl rfl (by rw [eval_get]; exact d171)) ?_)
                      all_goals (
                        go_wp2_with fail
                        exact hK _ _ (Fr.refl _ _) hC rfl)
                    · rw [if_neg (by decide)]; intro kq
                      intro a W K hC hd hK
                      have d171 : _ = _ := hd 171 (by decide)
                      have d178 : _ = _ := hd 178 (by decide)
                      refine wpOp_plain rfl rfl ?_
                      go_wp2_with fail
                      exact hK _ _ (Fr.refl _ _) hC rfl
                    · rw [if_neg (by decide)]; intro kq
                      exact calm_mv 179 rfl rfl (Or.inl rfl) (Fr.refl _) (by decide) fun v w hd => hd
                    · rw [if_neg (by decide)]; intro kq
                      intro a W K hC hd hK
                      have d20 : a.tmps[20]?.getD undef = .slice B2 m2 d2 := hd 20 (by decide)
                      have d180 : _ = _ := hd 180 (by decide)
                      first | (exact wpOp_skip rfl (wanted_of (want := true) (b := false) rfl rfl (by rw [eval_get]; exact d180)) (hK _ _ (Fr.refl _ _) hC rfl)) | (refine wpOp_want rfl (wanted_of (want := true) (b := true) rfl rfl (by rw [eval_get]; exact d180)) ?_)
                      all_goals (
                        go_wp2_with fail
                        exact hK _ _ (Fr.refl _ _) hC rfl)
                    · rw [if_neg (by decide)]; intro kq
                      intro a W K hC hd hK
                      have d181 : _ = _ := hd 181 (by decide)
                      have d180 : _ = _ := hd 180 (by decide)
                      first | (exact wpOp_skip rfl (wanted_of (want := true) (b := false) rfl rfl (by rw [eval_get]; exact d180)) (hK _ _ (Fr.refl _ _) hC rfl)) | (refine wpOp_want rfl (wanted_of (want := true) (b := true) rfl rfl (by rw [eval_get]; exact d180)) ?_)
                      all_goals (
                        have hcv9 := Try.toStr (hrM.fr0 hC) hm2.out d2
                        rw [HSD.out] at hcv9
                        go_wp2_with fail
                        exact hK _ _ (Fr.refl _ _) hC rfl)
                    · rw [if_neg (by decide)]; intro kq
                      intro a W K hC hd hK
                      have d1 : a.tmps[1]?.getD undef = .slice (some ad2) n2 c2 := hd 1 (by decide)
                      have d180 : _ = _ := hd 180 (by decide)
                      first | (exact wpOp_skip rfl (wanted_of (want := true) (b := false) rfl rfl (by rw [eval_get]; exact d180)) (hK _ _ (Fr.refl _ _) hC rfl)) | (refine wpOp_want rfl (wanted_of (want := true) (b := true) rfl rfl (by rw [eval_get]; exact d180)) ?_)
                      all_goals (
                        go_wp2_with fail
                        exact hK _ _ (Fr.refl _ _) hC rfl)
                    · rw [if_neg (by decide)]; intro kq
                      intro a W K hC hd hK
                      have d22 : a.tmps[22]?.getD undef = .int .u64 v := hd 22 (by decide)
                      have d180 : _ = _ := hd 180 (by decide)
                      first | (exact wpOp_skip rfl (wanted_of (want := true) (b := false) rfl rfl (by rw [eval_get]; exact d180)) (hK _ _ (Fr.refl _ _) hC rfl)) | (refine wpOp_want rfl (wanted_of (want := true) (b := true) rfl rfl (by rw [eval_get]; exact d180)) ?_)
                      all_goals (
                        go_wp2_with fail
                        exact hK _ _ (Fr.refl _ _) hC rfl)
                    · rw [if_neg (by decide)]; intro kq
                      intro a W K hC hd hK
                      have d183 : _ = _ := hd 183 (by decide)
                      have d184 : _ = _ := hd 184 (by decide)
                      have d180 : _ = _ := hd 180 (by decide)
                      first | (exact wpOp_skip rfl (wanted_of (want := true) (b := false) rfl rfl (by rw [eval_get]; exact d180)) (hK _ _ (Fr.refl _ _) hC rfl)) | (refine wpOp_want rfl (wanted_of (want := true) (b := true) rfl rfl (by rw [eval_get]; exact d180)) ?_)
                      all_goals (
                        have hr8 := (hr5.fr0 hC).sub v (n2 - v)
                        rw [← bcells_sub, List.take_of_length_le (by rw [HDL.out]; exact Nat.le_refl _)] at hr8
                        by_cases h6 : c2 = v
                        · have h60 : n2 = v := by omega
                          have hal : b2.drop v = [] := List.drop_eq_nil_of_le (by rw [HN2.out]; omega)
                          have HAL := hid hal
                          clear hal
                          subst h6
                          subst h60
                          go_wp2_with fail
                          exact hK _ _ (Fr.refl _ _) hC ⟨ad2, 0, 0, rfl, by rw [HAL.out]; rfl, by rw [HAL.out]; exact RowAt.nil _ _⟩
                        · go_wp2_with fail
                          exact hK _ _ (Fr.refl _ _) hC ⟨ad2.add v, n2 - v, c2 - v, rfl, HDL.out, hr8⟩)
                    · rw [if_neg (by decide)]; intro kq
                      intro a W K hC hd hK
                      have d185 : (SubN (b2.drop v)).V (a.tmps[185]?.getD undef) W := hd 185 (by decide)
                      have d180 : _ = _ := hd 180 (by decide)
                      first | (exact wpOp_skip rfl (wanted_of (want := true) (b := false) rfl rfl (by rw [eval_get]; exact d180)) (hK _ _ (Fr.refl _ _) hC rfl)) | (refine wpOp_want rfl (wanted_of (want := true) (b := true) rfl rfl (by rw [eval_get]; exact d180)) ?_)
                      all_goals (
                        obtain ⟨a9, m9, d9, d185, hm9, hr9⟩ := d185
                        have hcv9 := Try.toStr hr9 hm9 d9
                        rw [HSD.out] at hcv9
                        go_wp2_with fail
                        exact hK _ _ (Fr.refl _ _) hC rfl)
                    · rw [if_neg (by decide)]; intro kq
                      intro a W K hC hd hK
                      have d182 : a.tmps[182]?.getD undef = .string sD := hd 182 (by decide)
                      have d186 : a.tmps[186]?.getD undef = .string sD := hd 186 (by decide)
                      have d180 : _ = _ := hd 180 (by decide)
                      first | (exact wpOp_skip rfl (wanted_of (want := true) (b := false) rfl rfl (by rw [eval_get]; exact d180)) (hK _ _ (Fr.refl _ _) hC rfl)) | (refine wpOp_want rfl (wanted_of (want := true) (b := true) rfl rfl (by rw [eval_get]; exact d180)) ?_)
                      all_goals (
                        go_wp2_with fail
                        exact hK _ _ (Fr.refl _ _) hC rfl)
                    · rw [if_neg (by decide)]; intro kq
                      intro a W K hC hd hK
                      have d180 : _ = _ := hd 180 (by decide)
                      have d187 : a.tmps[187]?.getD undef = .bool true := hd 187 (by decide)
                      refine wpOp_plain rfl rfl ?_
                      go_wp2_with fail
                      exact hK _ _ (Fr.refl _ _) hC rfl
                    · rw [if_neg (by decide)]; intro kq
                      exact calm_mv 188 rfl rfl (Or.inr rfl) (Fr.refl _) (by decide) fun v w hd => hd
                  · intro vs w8 fw8 cw8 hV
                    have v169 : vs 0 = _ := hV 0 _ _ rfl rfl (by decide)
                    have v170 : vs 1 = _ := hV 1 _ _ rfl rfl (by decide)
                    have v171 : vs 2 = _ := hV 2 _ _ rfl rfl (by decide)
                    have v172 : vs 3 = _ := hV 3 _ _ rfl rfl (by decide)
                    have v173 : vs 4 = .string sT := hV 4 _ _ rfl rfl (by decide)
                    have v174 : vs 5 = _ := hV 5 _ _ rfl rfl (by decide)
                    have v175 : vs 6 = _ := hV 6 _ _ rfl rfl (by decide)
                    have v176 : vs 7 = _ := hV 7 _ _ rfl rfl (by decide)
                    have v177 : vs 8 = .string sT := hV 8 _ _ rfl rfl (by decide)
                    have v178 : vs 9 = _ := hV 9 _ _ rfl rfl (by decide)
                    have v179 : vs 10 = _ := hV 10 _ _ rfl rfl (by decide)
                    have v180 : vs 11 = _ := hV 11 _ _ rfl rfl (by decide)
                    have v181 : vs 12 = _ := hV 12 _ _ rfl rfl (by decide)
                    have v182 : vs 13 = .string sD := hV 13 _ _ rfl rfl (by decide)
                    have v183 : vs 14 = _ := hV 14 _ _ rfl rfl (by decide)
                    have v184 : vs 15 = _ := hV 15 _ _ rfl rfl (by decide)
                    have v185 : (SubN (b2.drop v)).V (vs 16) w8 := hV 16 _ _ rfl rfl (by decide)
                    have v186 : vs 17 = .string sD := hV 17 _ _ rfl rfl (by decide)
                    have v187 : vs 18 = .bool true := hV 18 _ _ rfl rfl (by decide)
                    have v188 : vs 19 = .bool true := hV 19 _ _ rfl rfl (by decide)
                    have v4 : vs 20 = .bool true := hV 20 _ _ rfl rfl (by decide)
                    clear hV
                    simp only [putL, Act.put, Nat.reduceAdd, List.setIfInBounds_toArray, List.set_cons_zero, List.set_cons_succ, v169, v170, v171, v172, v173, v174, v175, v176, v177, v178, v179, v180, v181, v182, v183, v184, v186, v187, v188, v4]
                    go_wp2_with fail
                    go_ret
                    exact ⟨rfl, HF5.out.then' fw8⟩
            · have t1 : ((ev : Int) != 0) = true := by rw [bne_iff_ne]; omega
              rw [if_pos he] at HV
              obtain ⟨⟨rfl, rfl⟩, rfl⟩ : (rf = [] ∧ rm = []) ∧ re = ev := by have := HV.out; simpa using this
              have hm1' : m1 = 0 := hm1.out.symm
              have hm2' : m2 = 0 := hm2.out.symm
              subst hm1'
              subst hm2'
              clear he hz10 HV hm1 hm2 ho1 ho2
              go_wp2_with fail
              go_ret
              exact ⟨by simp, HF5.out⟩
theorem frSplits_law (w : World) (A : Option Addr) (n c : Nat) (l : List Part) (o : RowAt w A (l.flatMap Part.cells) ∧ l.length = n ∧ n ≤ c ∧ c ≤ maxLen ∧ (∀ i ∈ l, PartOK w i) ∧ (A = none → n = 0 ∧ c = 0)) (A2 : Option Addr) (n2 c2 : Nat) (b2 : List UInt8) (o2 : RowAt w A2 (bcells b2) ∧ b2.length = n2 ∧ n2 ≤ c2 ∧ c2 ≤ maxLen ∧ (A2 = none → n2 = 0 ∧ c2 = 0)) :
    Calls Try.prog 8 #[.slice A n c, .slice A2 n2 c2] w (BoolPost w true) :=
  frSplits_walk w A n c l o.1 o.2.1 (Nat.le_trans o.2.2.1 o.2.2.2.1) o.2.2.2.2.1 A2 n2 c2 b2 o2.1 o2.2.1 o2.2.2.1 o2.2.2.2.1 o2.2.2.2.2
end Go.Proofs.Ytpkdcbfhacgklaa
