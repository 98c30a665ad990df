/- Contracts, several texts in one. -/
import Derived.Test.YtnkdlmmdaagonaaSup2b
import Derived.Test.YtnkdlmmdaagonaaOpenT
import Derived.Test.YtnkdlmmdaagonaaRd3
import Derived.Test.YtnkdlmmdaagonaaBackLaw
import Derived.Deep.Cut
/- Super blocks as bytes (no program). -/
namespace Go.Proofs.Ytnkdlmmdaagonaa
open Go.RowKit
theorem openB_sealU (b : List UInt8) : openB (sealB b) = (b, 0) := by
  unfold openB
  rw [sealB_length, if_neg (by omega), Nat.add_sub_cancel]
  unfold sealB
  rw [List.drop_left, List.take_left, leV_leB, if_pos (Nat.mod_eq_of_lt (crcSum_lt b))]
theorem openB_len {b : List UInt8} (h : (openB b).2 = 0) : (openB b).1.length = b.length - 4 := by
  unfold openB at *
  split at h
  · cases h
  · split at h
    · rw [if_neg (by assumption), if_pos (by assumption), List.length_take]; omega
    · cases h
theorem pair_exU {α β : Type} (x : α × β) : ∃ a b, x = (a, b) := ⟨x.1, x.2, rfl⟩
theorem rNum_ltU {r r1 : Rd} {n k : Nat} (h : rNum r n = (r1, k)) : k < 256 ^ n := by have := rNum_lt r n; rw [h] at this; exact this
def suR1 (x : List UInt8) : Rd × Nat := rNum ⟨x, 0⟩ 8
def suR2 (x : List UInt8) : Rd × Nat := rNum (suR1 x).1 8
def suR3 (x : List UInt8) : Rd × Nat := rNum (suR2 x).1 8
def suR4 (x : List UInt8) : Rd × Nat := rNum (suR3 x).1 8
def suR5 (x : List UInt8) : Rd × Nat := rNum (suR4 x).1 1
def suR6 (x : List UInt8) : Rd × Nat := rNum (suR5 x).1 1
def suR7 (x : List UInt8) : Rd × Nat := rNum (suR6 x).1 8
def suR8 (x : List UInt8) : Rd × Nat := rNum (suR7 x).1 4
def suR9 (x : List UInt8) : Rd × Nat := rNum (suR8 x).1 4
def suX (x : List UInt8) : SuV := ⟨(suR1 x).2, (suR2 x).2, (suR3 x).2, (suR4 x).2, (suR5 x).2, (suR6 x).2, (suR7 x).2, (suR8 x).2, (suR9 x).2⟩
/-- What is read of bytes, and the error's number. -/
def suRead (bs : List UInt8) : SuV × Nat :=
  if bs.length < 54 then (zeroS, 2) else if (openB (bs.take 54)).2 ≠ 0 then (zeroS, (openB (bs.take 54)).2) else if checkS (suX (openB (bs.take 54)).1) ≠ 0 then (zeroS, checkS (suX (openB (bs.take 54)).1)) else (suX (openB (bs.take 54)).1, 0)
theorem su_wf9 {a1 a2 a3 a4 a5 a6 a7 a8 a9 : Nat} (h1 : a1 < 256 ^ 8) (h2 : a2 < 256 ^ 8) (h3 : a3 < 256 ^ 8) (h4 : a4 < 256 ^ 8) (h5 : a5 < 256 ^ 1) (h6 : a6 < 256 ^ 1) (h7 : a7 < 256 ^ 8) (h8 : a8 < 256 ^ 4) (h9 : a9 < 256 ^ 4) : (⟨a1, a2, a3, a4, a5, a6, a7, a8, a9⟩ : SuV).wf := by
  have g8 : (256 : Nat) ^ 8 = 18446744073709551616 := by decide
  have g4 : (256 : Nat) ^ 4 = 4294967296 := by decide
  have g1 : (256 : Nat) ^ 1 = 256 := by decide
  rw [g8] at h1 h2 h3 h4 h7
  rw [g4] at h8 h9
  rw [g1] at h5 h6
  exact ⟨h1, h2, h3, h4, h5, h6, h7, h8, h9⟩
theorem suX_wf (x : List UInt8) : (suX x).wf := by
  unfold suX suR9 suR8 suR7 suR6 suR5 suR4 suR3 suR2 suR1
  exact su_wf9 (rNum_lt _ _) (rNum_lt _ _) (rNum_lt _ _) (rNum_lt _ _) (rNum_lt _ _) (rNum_lt _ _) (rNum_lt _ _) (rNum_lt _ _) (rNum_lt _ _)
theorem suX_body {s : SuV} (hw : s.wf) : suX (bodyS s) = s := by
  have g8 : (256 : Nat) ^ 8 = 18446744073709551616 := by decide
  have g4 : (256 : Nat) ^ 4 = 4294967296 := by decide
  have g1 : (256 : Nat) ^ 1 = 256 := by decide
  have e1 : suR1 (bodyS s) = (⟨leB 8 s.view ++ (leB 8 s.normal ++ (leB 8 s.gen ++ (leB 1 s.half ++ (leB 1 s.slot ++ (leB 8 s.base ++ (leB 4 s.size ++ (leB 4 s.sum))))))), 0⟩, s.seq) := by
    unfold suR1 bodyS; rw [rNum_app, g8, Nat.mod_eq_of_lt hw.seq]
  have e2 : suR2 (bodyS s) = (⟨leB 8 s.normal ++ (leB 8 s.gen ++ (leB 1 s.half ++ (leB 1 s.slot ++ (leB 8 s.base ++ (leB 4 s.size ++ (leB 4 s.sum)))))), 0⟩, s.view) := by
    unfold suR2; rw [e1, rNum_app, g8, Nat.mod_eq_of_lt hw.view]
  have e3 : suR3 (bodyS s) = (⟨leB 8 s.gen ++ (leB 1 s.half ++ (leB 1 s.slot ++ (leB 8 s.base ++ (leB 4 s.size ++ (leB 4 s.sum))))), 0⟩, s.normal) := by
    unfold suR3; rw [e2, rNum_app, g8, Nat.mod_eq_of_lt hw.normal]
  have e4 : suR4 (bodyS s) = (⟨leB 1 s.half ++ (leB 1 s.slot ++ (leB 8 s.base ++ (leB 4 s.size ++ (leB 4 s.sum)))), 0⟩, s.gen) := by
    unfold suR4; rw [e3, rNum_app, g8, Nat.mod_eq_of_lt hw.gen]
  have e5 : suR5 (bodyS s) = (⟨leB 1 s.slot ++ (leB 8 s.base ++ (leB 4 s.size ++ (leB 4 s.sum))), 0⟩, s.half) := by
    unfold suR5; rw [e4, rNum_app, g1, Nat.mod_eq_of_lt hw.half]
  have e6 : suR6 (bodyS s) = (⟨leB 8 s.base ++ (leB 4 s.size ++ (leB 4 s.sum)), 0⟩, s.slot) := by
    unfold suR6; rw [e5, rNum_app, g1, Nat.mod_eq_of_lt hw.slot]
  have e7 : suR7 (bodyS s) = (⟨leB 4 s.size ++ (leB 4 s.sum), 0⟩, s.base) := by
    unfold suR7; rw [e6, rNum_app, g8, Nat.mod_eq_of_lt hw.base]
  have e8 : suR8 (bodyS s) = (⟨leB 4 s.sum, 0⟩, s.size) := by
    unfold suR8; rw [e7, rNum_app, g4, Nat.mod_eq_of_lt hw.size]
  have e9 : suR9 (bodyS s) = (⟨[], 0⟩, s.sum) := by
    unfold suR9; rw [e8]
    have := rNum_app 4 s.sum []
    rw [List.append_nil] at this
    rw [this, g4, Nat.mod_eq_of_lt hw.sum]
  unfold suX
  rw [e1, e2, e3, e4, e5, e6, e7, e8, e9]
theorem suRead_app {s : SuV} (hw : s.wf) (h : checkS s = 0) (b : List UInt8) : suRead (superB s ++ b) = (s, 0) := by
  have hl := superB_length s
  have ht : (superB s ++ b).take 54 = superB s := by rw [← hl, List.take_left]
  unfold suRead
  rw [ht, if_neg (by rw [List.length_append]; omega)]
  unfold superB
  rw [openB_sealU, suX_body hw, h]
  rfl
theorem suRead_wf (bs : List UInt8) : (suRead bs).1.wf := by
  unfold suRead
  split
  · exact zeroS_wf
  · split
    · exact zeroS_wf
    · split
      · exact zeroS_wf
      · exact suX_wf _
theorem suRead_ok {bs : List UInt8} (h : (suRead bs).2 = 0) : checkS (suRead bs).1 = 0 := by
  unfold suRead at *
  split at h
  · cases h
  · split at h
    · exact absurd h (by assumption)
    · split at h
      · exact absurd h (by assumption)
      · rename_i h1 h2 h3
        rw [if_neg h1, if_neg h2, if_neg h3]
        exact Decidable.not_not.1 h3
/-- The fields as the document tells them. -/
theorem suX_eq {x : List UInt8} (h : x.length = 50) : suX x = ⟨leV (x.take 8), leV ((x.drop 8).take 8), leV ((x.drop 16).take 8), leV ((x.drop 24).take 8), leV ((x.drop 32).take 1), leV ((x.drop 33).take 1), leV ((x.drop 34).take 8), leV ((x.drop 42).take 4), leV ((x.drop 46).take 4)⟩ := by
  have hn : ∀ j n, j + n ≤ 50 → rNum ⟨x.drop j, 0⟩ n = (⟨x.drop (j + n), 0⟩, leV ((x.drop j).take n)) := fun j n hj => by
    have e : x.drop j = (x.drop j).take n ++ x.drop (j + n) := by rw [← List.drop_drop, List.take_append_drop]
    unfold rNum
    have := rTake_app ((x.drop j).take n) (x.drop (j + n)) 0 n (by simp; omega)
    rw [← e] at this
    rw [this]
  have e1 : suR1 x = (⟨x.drop 8, 0⟩, leV (x.take 8)) := hn 0 8 (by omega)
  have e2 : suR2 x = (⟨x.drop 16, 0⟩, leV ((x.drop 8).take 8)) := by unfold suR2; rw [e1]; exact hn 8 8 (by omega)
  have e3 : suR3 x = (⟨x.drop 24, 0⟩, leV ((x.drop 16).take 8)) := by unfold suR3; rw [e2]; exact hn 16 8 (by omega)
  have e4 : suR4 x = (⟨x.drop 32, 0⟩, leV ((x.drop 24).take 8)) := by unfold suR4; rw [e3]; exact hn 24 8 (by omega)
  have e5 : suR5 x = (⟨x.drop 33, 0⟩, leV ((x.drop 32).take 1)) := by unfold suR5; rw [e4]; exact hn 32 1 (by omega)
  have e6 : suR6 x = (⟨x.drop 34, 0⟩, leV ((x.drop 33).take 1)) := by unfold suR6; rw [e5]; exact hn 33 1 (by omega)
  have e7 : suR7 x = (⟨x.drop 42, 0⟩, leV ((x.drop 34).take 8)) := by unfold suR7; rw [e6]; exact hn 34 8 (by omega)
  have e8 : suR8 x = (⟨x.drop 46, 0⟩, leV ((x.drop 42).take 4)) := by unfold suR8; rw [e7]; exact hn 42 4 (by omega)
  have e9 : suR9 x = (⟨x.drop 50, 0⟩, leV ((x.drop 46).take 4)) := by unfold suR9; rw [e8]; exact hn 46 4 (by omega)
  unfold suX
  rw [e1, e2, e3, e4, e5, e6, e7, e8, e9]
end Go.Proofs.Ytnkdlmmdaagonaa
/- super.Read. -/
namespace Go.Proofs.Ytnkdlmmdaagonaa
open Go.RowKit
def SuEPost (w : World) (q : SuV × Nat) (e : Ending) (w' : World) : Prop := e = .returned (.tuple #[q.1.v, .int .i64 (q.2 : Nat)]) ∧ Fr noB w w'
theorem fr_setU9 (w : World) (b : Nat) (u0 u1 u2 u3 u4 u5 u6 u7 u8 : Value) : Fr (eqB b) w (((((((((w.setCell ⟨b, 0, none⟩ u0).setCell ⟨b, 1, none⟩ u1).setCell ⟨b, 2, none⟩ u2).setCell ⟨b, 3, none⟩ u3).setCell ⟨b, 4, none⟩ u4).setCell ⟨b, 5, none⟩ u5).setCell ⟨b, 6, none⟩ u6).setCell ⟨b, 7, none⟩ u7).setCell ⟨b, 8, none⟩ u8) :=
  (((((((((fr_set1 w b 0 u0).then' (fr_set1 _ b 1 u1)).then' (fr_set1 _ b 2 u2)).then' (fr_set1 _ b 3 u3)).then' (fr_set1 _ b 4 u4)).then' (fr_set1 _ b 5 u5)).then' (fr_set1 _ b 6 u6)).then' (fr_set1 _ b 7 u7)).then' (fr_set1 _ b 8 u8))
def SuOC (n1 : Nat) : Nat → World → Prop
  | 0, W => W.heap.size = n1
  | 1, W => TabAt W n1 false
  | _, _ => True
/-- A slice of what was opened. -/
def OpSU (p : Nat) (x : List UInt8) : Stb (Fr (eqB p)) :=
  ⟨fun v W => ∃ B k d, v = .slice B k d ∧ Hid (x.length = k) ∧ RowAt W B (bcells x) ∧ (∀ a, B = some a → a.block ≠ p),
   fun _ _ _ ⟨B, k, d, h1, h2, h3, h4⟩ f => ⟨B, k, d, h1, h2, h3.fr f (fun ad e _ _ => h4 ad e), h4⟩⟩
def OpTU (p : Nat) (x : List UInt8) (q : Nat) : Stb (Fr (eqB p)) :=
  ⟨fun v W => ∃ s, v = .tuple #[s, .int .i64 q] ∧ (OpSU p x).V s W,
   fun _ _ _ ⟨s, h1, h2⟩ f => ⟨s, h1, (OpSU p x).st _ _ _ h2 f⟩⟩
set_option maxRecDepth 100000 in
set_option maxHeartbeats 3200000 in
theorem suRead_calls (w : World) (A : Option Addr) (n c : Nat) (bs : List UInt8) (hx : RowAt w A (bcells bs)) (hn : bs.length = n) (hnc : n ≤ c) (hc : c ≤ 9223372036854775807) :
    Calls Try.prog 34 #[.slice A n c] w (SuEPost w (suRead bs)) := by
  have hb0 : BlkAt (w.alloc (.cells #[.int .u64 0, .int .u64 0, .int .u64 0, .int .u64 0, .int .u8 0, .int .u8 0, .int .u64 0, .int .u32 0, .int .u32 0] 61)) w.heap.size 61 #[.int .u64 0, .int .u64 0, .int .u64 0, .int .u64 0, .int .u8 0, .int .u8 0, .int .u64 0, .int .u32 0, .int .u32 0] := BlkAt.new _ _ _
  have f0 : Fr noB w (w.alloc (.cells #[.int .u64 0, .int .u64 0, .int .u64 0, .int .u64 0, .int .u8 0, .int .u8 0, .int .u64 0, .int .u32 0, .int .u32 0] 61)) := (Fr.refl noB w).alloc _
  have HRES : Hid (Try.f34.results = #[.cell 2 61, .tmp 3]) := by unfold Hid; kernel_rfl
  by_cases h54 : n < 54
  · have HR : Hid (suRead bs = (zeroS, 2)) := by unfold Hid suRead; rw [if_pos (by omega)]
    have t1 : decide ((n : Int) < 54) = true := by simp; omega
    have FF := f0.trans (fr_setU9 _ w.heap.size (.int .u64 0) (.int .u64 0) (.int .u64 0) (.int .u64 0) (.int .u8 0) (.int .u8 0) (.int .u64 0) (.int .u32 0) (.int .u32 0)) (fun i hi h => by unfold eqB at h; omega)
    clear hn hnc hc hx h54 f0
    go_enter Try.func34, Try.ntmps34
    go_upto_region 1 with fail
    generalize (w.alloc _) = wa at *
    obtain ⟨y0, y1, y2, y3, y4, y5, y6, y7, y8, yf⟩ := BlkAt.c9 hb0
    go_wp2_with fail
    have hr := HRES.out
    exact bodyPost_ret (v := .tuple #[zeroS.v, .int .i64 2]) (by simp [results, hr, go_sem, zeroS, SuV.v, SuV.C, y0, y1, y2, y3, y4, y5, y6, y7, y8]) rfl ⟨by rw [HR.out] <;> rfl, FF⟩
  · have t1 : decide ((n : Int) < 54) = false := by simp; omega
    have hL54 : (bs.take 54).length = 54 := by rw [List.length_take]; omega
    obtain ⟨ad, rfl⟩ := hx.some_of (by rw [bcells_length]; omega)
    have hx54 : RowAt w (some ad) (bcells (bs.take 54)) := fun j u hu => by
      refine ⟨_, rfl, hx.cell ?_⟩
      simp only [bcells, List.map_take] at hu
      rw [List.getElem?_take] at hu
      split at hu
      · exact hu
      · cases hu
    have HR : Hid (suRead bs = if (openB (bs.take 54)).2 ≠ 0 then (zeroS, (openB (bs.take 54)).2) else if checkS (suX (openB (bs.take 54)).1) ≠ 0 then (zeroS, checkS (suX (openB (bs.take 54)).1)) else (suX (openB (bs.take 54)).1, 0)) := by
      unfold Hid suRead; rw [if_neg (by omega)]
    have hol : (openB (bs.take 54)).2 = 0 → (openB (bs.take 54)).1.length = 50 := fun h => by rw [openB_len h, hL54]
    have hop := fun W p cc ht hr h1 h2 hA => open_calls W p false (some ad) 54 cc (bs.take 54) ht hr hL54 (by omega) h1 h2 hA
    rw [if_neg (by decide)] at hop
    obtain ⟨⟨x, q⟩, hq⟩ : ∃ z, openB (bs.take 54) = z := ⟨_, rfl⟩
    rw [hq] at HR hol hop
    simp only [] at HR hol
    generalize bs.take 54 = b54 at *
    have hcb : 54 ≤ c := by omega
    clear hn hq h54 hx
    have had := hx54.lt (by rw [bcells_length, hL54]; omega)
    have HX := hid hx54
    clear hx54 hL54
    obtain ⟨n1, hn1⟩ : ∃ n1, (w.alloc (.cells #[.int .u64 0, .int .u64 0, .int .u64 0, .int .u64 0, .int .u8 0, .int .u8 0, .int .u64 0, .int .u32 0, .int .u32 0] 61)).heap.size = n1 := ⟨_, rfl⟩
    have hn1' : w.heap.size < n1 := by rw [← hn1]; simp
    go_enter Try.func34, Try.ntmps34
    go_upto_region 3 with fail
    generalize (w.alloc _) = wa at *
    apply wp_region_calmL (R := Fr (eqB n1)) (C := fun q W => Fr (eqB n1) wa W ∧ Fr noB wa W ∧ SuOC n1 q W) [true, false, false, true, false, false, false, false, false] [0, 0, 0, 1, 2, 2, 2, 2, 2]
      [eqv (.pointer (some ⟨n1, 0, none⟩)), eqv _, eqv (.slice (some ad) 54 c), OpTU n1 x q, OpTU n1 x q, OpSU n1 x, eqv (.int .i64 q), OpSU n1 x, eqv (.int .i64 q)]
      (by kernel_rfl) (by kernel_rfl) (fun _ _ _ h1 h2 => h1.then' h2) ((Fr.refl _ _).drew) ⟨(Fr.refl _ _).drew, (Fr.refl _ _).drew, hn1⟩ (by kernel_rfl)
    · refine ⟨?_, ?_, ?_, ?_, ?_, ?_, ?_, ?_, ?_, trivial⟩
      · rw [if_pos (by decide)]
        intro a W K hC hd hK
        replace hC : (fun q W => Fr (eqB n1) wa W ∧ Fr noB wa W ∧ SuOC n1 q W) 0 W := hC
        refine wpOp_plain rfl rfl ?_
        have hz : W.heap.size = n1 := hC.2.2
        go_wp2_with fail
        refine (newT_calls W).mono ?_
        rintro e9 w9 ⟨rfl, h9, f9, s9⟩
        rw [hz] at h9
        exact hK _ _ (f9.mono fun _ _ h => h.elim) ⟨hC.1.then' (f9.mono fun _ _ h => h.elim), hC.2.1.then' f9, h9⟩ (by rw [hz]; rfl)
      · rw [if_neg (by decide)]; intro kq
        exact calm_mv 0 rfl rfl (Or.inl rfl) (Fr.refl _) (by decide) fun v w hd => hd
      · rw [if_neg (by decide)]; intro kq
        intro a W K hC hd hK
        have d15 : _ = _ := hd 15 (by decide)
        refine wpOp_plain rfl rfl ?_
        go_wp2_with fail
        exact hK _ _ (Fr.refl _ _) hC rfl
      · rw [if_pos (by decide)]
        intro a W K hC hd hK
        replace hC : (fun q W => Fr (eqB n1) wa W ∧ Fr noB wa W ∧ SuOC n1 q W) 1 W := hC
        have d14 : a.tmps[14]?.getD undef = .pointer (some ⟨n1, 0, none⟩) := hd 14 (by decide)
        have d16 : a.tmps[16]?.getD undef = .slice (some ad) 54 c := hd 16 (by decide)
        refine wpOp_plain rfl rfl ?_
        have ht : TabAt W n1 false := hC.2.2
        go_wp2_with fail
        refine (hop W n1 c ht ((HX.out.fr0 (f0.then' hC.2.1))) hcb hc (fun a e _ => by cases e; omega)).mono ?_
        rintro e9 w9 ⟨B, k, d, rfl, h1, h2, h3, -, f9⟩
        have hh := hC.2.1.size
        exact hK _ _ f9 ⟨hC.1.then' f9, hC.2.1.trans f9 (fun i hi h => by unfold eqB at h; omega), trivial⟩ ⟨_, rfl, B, k, d, rfl, h1, h2, fun a e => by have := h3 a e; have := ht.lt; omega⟩
      · rw [if_neg (by decide)]; intro kq
        exact calm_mv 17 rfl rfl (Or.inl rfl) (Fr.refl _) (by decide) fun v w hd => hd
      · rw [if_neg (by decide)]; intro kq
        intro a W K hC hd hK
        have d13 : (OpTU n1 x q).V (a.tmps[13]?.getD undef) W := hd 13 (by decide)
        refine wpOp_plain rfl rfl ?_
        obtain ⟨s, e13, hs⟩ := d13
        go_wp2_with fail
        exact hK _ _ (Fr.refl _ _) hC hs
      · rw [if_neg (by decide)]; intro kq
        intro a W K hC hd hK
        have d13 : (OpTU n1 x q).V (a.tmps[13]?.getD undef) W := hd 13 (by decide)
        refine wpOp_plain rfl rfl ?_
        obtain ⟨s, e13, hs⟩ := d13
        go_wp2_with fail
        exact hK _ _ (Fr.refl _ _) hC rfl
      · rw [if_neg (by decide)]; intro kq
        exact calm_mv 18 rfl rfl (Or.inr rfl) (Fr.refl _) (by decide) fun v w hd => hd
      · rw [if_neg (by decide)]; intro kq
        exact calm_mv 19 rfl rfl (Or.inr rfl) (Fr.refl _) (by decide) fun v w hd => hd
    · intro vs w2 fw2 cw2 hV
      have v4 : (OpSU n1 x).V (vs 7) w2 := hV 7 _ _ rfl rfl (by decide)
      have v5 : vs 8 = .int .i64 q := hV 8 _ _ rfl rfl (by decide)
      clear hV
      simp only [putL, Act.put, Nat.reduceAdd, List.setIfInBounds_toArray, List.set_cons_zero, List.set_cons_succ, v5]
      obtain ⟨B, k, d, e4, HK, hB, hBn⟩ := v4
      rw [e4]
      have F2 : Fr noB w w2 := f0.then' cw2.2.1
      have hb2 := hb0.fr cw2.2.1 id
      clear e4 v5 hop HX f0 hb0 cw2 fw2 hBn had hn1 hn1' t1
      by_cases h0 : q = 0
      · subst h0
        have hx50 := hol rfl
        have hk50 : k = 50 := by have := HK.out; omega
        subst hk50
        rw [if_neg (by decide)] at HR
        obtain ⟨ab, rfl⟩ := hB.some_of (by rw [bcells_length]; omega)
        obtain ⟨r1, k1, q1⟩ := pair_exU (suR1 x)
        obtain ⟨r2, k2, q2⟩ := pair_exU (suR2 x)
        obtain ⟨r3, k3, q3⟩ := pair_exU (suR3 x)
        obtain ⟨r4, k4, q4⟩ := pair_exU (suR4 x)
        obtain ⟨r5, k5, q5⟩ := pair_exU (suR5 x)
        obtain ⟨r6, k6, q6⟩ := pair_exU (suR6 x)
        obtain ⟨r7, k7, q7⟩ := pair_exU (suR7 x)
        obtain ⟨r8, k8, q8⟩ := pair_exU (suR8 x)
        obtain ⟨r9, k9, q9⟩ := pair_exU (suR9 x)
        have e1 : rNum ⟨x, 0⟩ 8 = (r1, k1) := q1
        have e2 : rNum r1 8 = (r2, k2) := by rw [← q2]; unfold suR2; rw [q1]
        have e3 : rNum r2 8 = (r3, k3) := by rw [← q3]; unfold suR3; rw [q2]
        have e4 : rNum r3 8 = (r4, k4) := by rw [← q4]; unfold suR4; rw [q3]
        have e5 : rNum r4 1 = (r5, k5) := by rw [← q5]; unfold suR5; rw [q4]
        have e6 : rNum r5 1 = (r6, k6) := by rw [← q6]; unfold suR6; rw [q5]
        have e7 : rNum r6 8 = (r7, k7) := by rw [← q7]; unfold suR7; rw [q6]
        have e8 : rNum r7 4 = (r8, k8) := by rw [← q8]; unfold suR8; rw [q7]
        have e9 : rNum r8 4 = (r9, k9) := by rw [← q9]; unfold suR9; rw [q8]
        have HX : suX x = ⟨k1, k2, k3, k4, k5, k6, k7, k8, k9⟩ := by unfold suX; rw [q1, q2, q3, q4, q5, q6, q7, q8, q9]
        rw [HX] at HR
        have c1 := fun W S p h => eightRd_calls W S p ⟨x, 0⟩ h
        rw [e1] at c1
        have c2 := fun W S p h => eightRd_calls W S p r1 h
        rw [e2] at c2
        have c3 := fun W S p h => eightRd_calls W S p r2 h
        rw [e3] at c3
        have c4 := fun W S p h => eightRd_calls W S p r3 h
        rw [e4] at c4
        have c5 := fun W S p h => byteRd_calls W S p r4 h
        rw [e5] at c5
        have c6 := fun W S p h => byteRd_calls W S p r5 h
        rw [e6] at c6
        have c7 := fun W S p h => eightRd_calls W S p r6 h
        rw [e7] at c7
        have c8 := fun W S p h => fourRd_calls W S p r7 h
        rw [e8] at c8
        have c9 := fun W S p h => fourRd_calls W S p r8 h
        rw [e9] at c9
        simp only [] at c1 c2 c3 c4 c5 c6 c7 c8 c9
        clear q1 q2 q3 q4 q5 q6 q7 q8 q9 e1 e2 e3 e4 e5 e6 e7 e8 e9 HX hol
        have hck := fun W => checkS_calls W ⟨k1, k2, k3, k4, k5, k6, k7, k8, k9⟩
        generalize checkS ⟨k1, k2, k3, k4, k5, k6, k7, k8, k9⟩ = cv at *
        unfold SuV.v SuV.C at hck
        simp only [] at hck
        obtain ⟨m2, hm2⟩ : ∃ m, w2.heap.size = m := ⟨_, rfl⟩
        have hoc := of_calls w2 (some ab) 50 d x hB hx50 (fun e => nomatch e) (by omega)
        unfold OfPost at hoc
        rw [hm2] at hoc
        have hqm : w.heap.size < m2 := by have := hb2.lt; omega
        clear hB hx50 HK hm2
        go_wp2_with fail
        refine hoc.mono ?_
        rintro ed w3 ⟨p, rfl, hp1, hp2, h3, f3⟩
        have F3 := F2.then' f3
        replace hb2 := hb2.fr f3 id
        clear hoc F2 f3
        go_wp2_with fail
        refine (c1 _ _ p h3).mono ?_
        rintro ed w4 ⟨rfl, h4, f4⟩
        go_wp2_with fail
        refine (c2 _ _ p h4).mono ?_
        rintro ed w5 ⟨rfl, h5, f5⟩
        go_wp2_with fail
        refine (c3 _ _ p h5).mono ?_
        rintro ed w6 ⟨rfl, h6, f6⟩
        go_wp2_with fail
        refine (c4 _ _ p h6).mono ?_
        rintro ed w7 ⟨rfl, h7, f7⟩
        go_wp2_with fail
        refine (c5 _ _ p h7).mono ?_
        rintro ed w8 ⟨rfl, h8, f8⟩
        go_wp2_with fail
        refine (c6 _ _ p h8).mono ?_
        rintro ed w9 ⟨rfl, h9, f9⟩
        go_wp2_with fail
        refine (c7 _ _ p h9).mono ?_
        rintro ed w10 ⟨rfl, h10, f10⟩
        go_wp2_with fail
        refine (c8 _ _ p h10).mono ?_
        rintro ed w11 ⟨rfl, h11, f11⟩
        go_wp2_with fail
        refine (c9 _ _ p h11).mono ?_
        rintro ed w12 ⟨rfl, h12, f12⟩
        have fr := f4.then' (f5.then' (f6.then' (f7.then' (f8.then' (f9.then' (f10.then' (f11.then' f12)))))))
        have F12 : Fr noB w w12 := F3.trans fr (fun i hi h => by unfold upB at h; omega)
        replace hb2 := hb2.fr fr (fun h => by unfold upB at h; omega)
        clear c1 c2 c3 c4 c5 c6 c7 c8 c9 h3 h4 h5 h6 h7 h8 h9 h10 h11 h12 f4 f5 f6 f7 f8 f9 f10 f11 f12 fr F3
        have f13 := (Fr.refl noB w12).alloc (.cells #[.int .u64 k1, .int .u64 k2, .int .u64 k3, .int .u64 k4, .int .u8 k5, .int .u8 k6, .int .u64 k7, .int .u32 k8, .int .u32 k9] 61)
        have hbo : BlkAt (w12.alloc (.cells #[.int .u64 k1, .int .u64 k2, .int .u64 k3, .int .u64 k4, .int .u8 k5, .int .u8 k6, .int .u64 k7, .int .u32 k8, .int .u32 k9] 61)) w12.heap.size 61 #[.int .u64 k1, .int .u64 k2, .int .u64 k3, .int .u64 k4, .int .u8 k5, .int .u8 k6, .int .u64 k7, .int .u32 k8, .int .u32 k9] := BlkAt.new _ _ _
        have F13 := F12.then' f13
        replace hb2 := hb2.fr f13 id
        go_upto_region 8 with fail
        generalize (w12.alloc (.cells #[.int .u64 k1, .int .u64 k2, .int .u64 k3, .int .u64 k4, .int .u8 k5, .int .u8 k6, .int .u64 k7, .int .u32 k8, .int .u32 k9] 61)) = w13 at *
        clear f13 F12
        obtain ⟨x0, x1, x2, x3, x4, x5, x6, x7, x8, xf⟩ := BlkAt.c9 hbo
        go_wp2_with fail
        refine (hck w13).mono ?_
        rintro ed w14 ⟨rfl, f14⟩
        have F14 := F13.then' f14
        replace hb2 := hb2.fr f14 id
        replace hbo := hbo.fr f14 id
        clear x0 x1 x2 x3 x4 x5 x6 x7 x8 xf hck f14 F13
        obtain ⟨x0, x1, x2, x3, x4, x5, x6, x7, x8, xf⟩ := BlkAt.c9 hbo
        obtain ⟨y0, y1, y2, y3, y4, y5, y6, y7, y8, yf⟩ := BlkAt.c9 hb2
        by_cases h2 : cv = 0
        · rw [if_neg (by omega)] at HR
          subst h2
          have FF := F14.trans (fr_setU9 w14 w.heap.size (.int .u64 k1) (.int .u64 k2) (.int .u64 k3) (.int .u64 k4) (.int .u8 k5) (.int .u8 k6) (.int .u64 k7) (.int .u32 k8) (.int .u32 k9)) (fun i hi h => by unfold eqB at h; omega)
          go_wp2_with fail
          have hr := HRES.out
          exact bodyPost_ret (v := .tuple #[(⟨k1, k2, k3, k4, k5, k6, k7, k8, k9⟩ : SuV).v, .int .i64 0]) (by simp [results, hr, go_sem, SuV.v, SuV.C, y0, y1, y2, y3, y4, y5, y6, y7, y8]) rfl ⟨by rw [HR.out] <;> rfl, FF⟩
        · rw [if_pos h2] at HR
          have t2 : ((cv : Int) != 0) = true := by rw [bne_iff_ne]; omega
          clear h2
          have FF := F14.trans (fr_setU9 w14 w.heap.size (.int .u64 0) (.int .u64 0) (.int .u64 0) (.int .u64 0) (.int .u8 0) (.int .u8 0) (.int .u64 0) (.int .u32 0) (.int .u32 0)) (fun i hi h => by unfold eqB at h; omega)
          go_wp2_with fail
          have hr := HRES.out
          exact bodyPost_ret (v := .tuple #[zeroS.v, .int .i64 cv]) (by simp [results, hr, go_sem, zeroS, SuV.v, SuV.C, y0, y1, y2, y3, y4, y5, y6, y7, y8]) rfl ⟨by rw [HR.out] <;> rfl, FF⟩
      · rw [if_pos h0] at HR
        have t2 : ((q : Int) != 0) = true := by rw [bne_iff_ne]; omega
        have FF := F2.trans (fr_setU9 w2 w.heap.size (.int .u64 0) (.int .u64 0) (.int .u64 0) (.int .u64 0) (.int .u8 0) (.int .u8 0) (.int .u64 0) (.int .u32 0) (.int .u32 0)) (fun i hi h => by unfold eqB at h; omega)
        obtain ⟨y0, y1, y2, y3, y4, y5, y6, y7, y8, yf⟩ := BlkAt.c9 hb2
        clear h0 hol hB HK
        go_wp2_with fail
        have hr := HRES.out
        exact bodyPost_ret (v := .tuple #[zeroS.v, .int .i64 q]) (by simp [results, hr, go_sem, zeroS, SuV.v, SuV.C, y0, y1, y2, y3, y4, y5, y6, y7, y8]) rfl ⟨by rw [HR.out] <;> rfl, FF⟩
end Go.Proofs.Ytnkdlmmdaagonaa
