/- interrexlaw02.CrcOpens: the walk. -/
import Derived.Test.YtcpcmcdfncjnaaaCrcOpens
namespace Go.Proofs.Ytcpcmcdfncjnaaa
open Go.RowKit

theorem openB_short (b : List UInt8) : ((openB b).2 = 2) ↔ b.length < 4 := by
  unfold openB
  split
  · simp [*]
  · split <;> simp <;> omega
set_option maxRecDepth 100000 in
set_option maxHeartbeats 6400000 in
theorem opens_walk (w : World) (A : Option Addr) (n c : Nat) (b : List UInt8) (sl : Bool) (hr : RowAt w A (bcells b)) (HN : Hid (b.length = n)) (hnc : n ≤ c) (hc : c ≤ maxLen) (hnil : A = none → n = 0 ∧ c = 0) :
    Calls Try.prog 12 #[.slice A n c, .bool sl] w (BoolPost w true) := by
  have hlv := @lives2_calls
  unfold maxLen at hc
  by_cases h300 : 300 < n
  · have t12 : decide (300 < (n : Int)) = true := by simp; omega
    go_enter Try.func12, Try.ntmps12
    go_wp2_with fail
    refine (hlv _).mono ?_
    rintro e w1 ⟨rfl, f1⟩
    go_wp2_with fail
    refine (hlv _).mono ?_
    rintro e w2 ⟨rfl, f2⟩
    go_wp2_with fail
    go_ret
    exact ⟨rfl, f1.then' f2⟩
  · have t12 : decide (300 < (n : Int)) = false := by simp; omega
    have hlt : ∀ a, A = some a → 0 < n → a.block < w.heap.size := fun a e h0 => by
      subst e; exact hr.lt (by rw [bcells_length, HN.out]; exact h0)
    cases sl with
    | false =>
      go_enter Try.func12, Try.ntmps12
      go_wp2_with fail
      refine (hlv _).mono ?_
      rintro e w1 ⟨rfl, f1⟩
      have hr1 := hr.fr0 f1
      have hlt1 : ∀ a, A = some a → 0 < n → a.block < w1.heap.size := fun a e h0 => Nat.lt_of_lt_of_le (hlt a e h0) f1.size
      have F1 := hid f1
      clear hr f1
      go_wp2_with fail
      have HNX := HN
      have hncX := hnc
      have hccX : c ≤ 9223372036854775807 := by omega
      have ht := newT_calls w1
      refine ht.mono ?_
      clear ht
      rintro e w2 ⟨rfl, h2, f2, z2⟩
      have Z2 := hid z2; clear z2
      have hr2 := hr1.fr0 f2
      have F2 : Hid (Fr (upB w.heap.size) w w2) := (F1.out.then' f2).up0 _
      have zw := F1.out.size
      generalize hp : w1.heap.size = p at *
      have HP := hid hp; clear hp
      have hop := open_calls w2 p false A n c b h2 hr2 HNX (by omega) hncX hccX (fun a e h0 he => by have := hlt1 a e h0; omega)
      clear hr1 f2
      go_wp2_with fail
      refine hop.mono ?_
      clear hop
      rintro e w3 ⟨B, k, d, rfl, hk3, hr3, _, ht3, f3⟩
      have hrb := hr2.fr f3 (fun a e h0 _ he => by have := hlt1 a e (by rw [bcells_length, HNX.out] at h0; exact h0); unfold eqB at he; omega)
      have hcv := Try.toStr hrb HNX.out c
      have F3 : Hid (Fr (upB w.heap.size) w w3) := F2.out.then' (f3.mono fun x _ he => by unfold eqB at he; unfold upB; omega)
      have hor := openR_calls w3 (mkS b) (by rw [mkS_size, HNX.out]; omega)
      rw [mkS_data] at hor
      have HSH := hid (openB_short b)
      clear hr2 f3 hrb h2
      generalize openB b = ob at *
      go_wp2_with fail
      refine hor.mono ?_
      clear hor
      rintro e w4 ⟨rfl, f4⟩
      have hcv2 := Try.toStr (hr3.fr0 f4) hk3.out d
      have F4 : Hid (Fr (upB w.heap.size) w w4) := F3.out.then' (f4.up0 _)
      have hmd := madeT_calls w4 p _ (ht3.fr f4 id)
      have hself : ((mkS ob.1).toList == (mkS ob.1).toList) = true := by simp
      generalize mkS ob.1 = xs at *
      have he2 : ((ob.2 : Int) == 2) = !(if n < 4 then false else true) := by
        have := HSH.out
        rw [HNX.out] at this
        rw [Bool.eq_iff_iff]
        split <;> simp <;> omega
      generalize (if n < 4 then false else true) = md at *
      generalize ob.2 = ee at *
      clear hcv hr3 ht3 f4
      go_wp2_with fail
      refine hmd.mono ?_
      clear hmd
      rintro e w5 ⟨rfl, rfl⟩
      go_wp2_with fail
      go_ret
      exact ⟨by cases md <;> simp, F4.out.none⟩
    | true =>
      go_enter Try.func12, Try.ntmps12
      go_wp2_with fail
      refine (hlv _).mono ?_
      rintro e w0 ⟨rfl, f0⟩
      have hcv := Try.toStr (hr.fr0 f0) HN.out c
      have hsl := sealR_calls w0 (mkS b) (by rw [mkS_size, HN.out]; omega)
      rw [mkS_data] at hsl
      go_wp2_with fail
      refine hsl.mono ?_
      clear hsl hcv
      rintro e w1 ⟨rfl, f1⟩
      have hfs := Try.fromStr w1 (mkS (sealB b))
      have hrow := bytesW_row w1 (mkS (sealB b))
      have ffs := bytesW_fr w1 (mkS (sealB b))
      have hwz : (Lib.bytesWorld w1 5 (mkS (sealB b))).heap.size = w1.heap.size + 1 := by rw [Lib.bytesWorld_size]
      rw [mkS_data] at hrow
      have hsz : (mkS (sealB b)).size = n + 4 := by rw [mkS_size, sealB_length, HN.out]
      have hgc := grownCap_ge w1 (n + 4) 0 5
      have hgm := grownCap_le_maxLen w1 (n + 4) 0 5 (by unfold maxLen; omega)
      unfold maxLen at hgm
      rw [hsz] at hfs
      generalize grownCap w1 (n + 4) 0 5 = gc at *
      have HSB : Hid ((sealB b).length = n + 4) := by unfold Hid; rw [sealB_length, HN.out]
      have h304 : n + 4 ≤ 304 := by omega
      have F01 := hid ((f0.then' f1).then' ffs)
      clear hnil hlt hr HN hnc hc h300 t12 f0 f1 hsz ffs
      generalize n + 4 = n4 at *
      go_wp2_with fail
      generalize Lib.bytesWorld w1 5 (mkS (sealB b)) = wb at *
      generalize w1.heap.size = g at *
      have HNX : Hid ((sealB b).length = n4) := HSB.out
      have hr1 := hrow
      have hncX := hgc
      have hccX := hgm
      have F1 := F01
      have hlt1 : ∀ a, some (⟨g, 0, none⟩ : Addr) = some a → 0 < n4 → a.block < wb.heap.size := fun a e _ => by cases e; simp only []; omega
      clear hrow hgc hgm F01 HSB hwz
      generalize sealB b = sb at *
      have ht := newT_calls wb
      refine ht.mono ?_
      clear ht
      rintro e w2 ⟨rfl, h2, f2, z2⟩
      have Z2 := hid z2; clear z2
      have hr2 := hr1.fr0 f2
      have F2 : Hid (Fr (upB w.heap.size) w w2) := (F1.out.then' f2).up0 _
      have zw := F1.out.size
      generalize hp : wb.heap.size = p at *
      have HP := hid hp; clear hp
      have hop := open_calls w2 p false (some ⟨g, 0, none⟩) n4 gc sb h2 hr2 HNX (by omega) hncX hccX (fun a e h0 he => by have := hlt1 a e h0; omega)
      clear hr1 f2
      go_wp2_with fail
      refine hop.mono ?_
      clear hop
      rintro e w3 ⟨B, k, d, rfl, hk3, hr3, _, ht3, f3⟩
      have hrb := hr2.fr f3 (fun a e h0 _ he => by have := hlt1 a e (by rw [bcells_length, HNX.out] at h0; exact h0); unfold eqB at he; omega)
      have hcv := Try.toStr hrb HNX.out gc
      have F3 : Hid (Fr (upB w.heap.size) w w3) := F2.out.then' (f3.mono fun x _ he => by unfold eqB at he; unfold upB; omega)
      have hor := openR_calls w3 (mkS sb) (by rw [mkS_size, HNX.out]; omega)
      rw [mkS_data] at hor
      have HSH := hid (openB_short sb)
      clear hr2 f3 hrb h2
      generalize openB sb = ob at *
      go_wp2_with fail
      refine hor.mono ?_
      clear hor
      rintro e w4 ⟨rfl, f4⟩
      have hcv2 := Try.toStr (hr3.fr0 f4) hk3.out d
      have F4 : Hid (Fr (upB w.heap.size) w w4) := F3.out.then' (f4.up0 _)
      have hmd := madeT_calls w4 p _ (ht3.fr f4 id)
      have hself : ((mkS ob.1).toList == (mkS ob.1).toList) = true := by simp
      generalize mkS ob.1 = xs at *
      have he2 : ((ob.2 : Int) == 2) = !(if n4 < 4 then false else true) := by
        have := HSH.out
        rw [HNX.out] at this
        rw [Bool.eq_iff_iff]
        split <;> simp <;> omega
      generalize (if n4 < 4 then false else true) = md at *
      generalize ob.2 = ee at *
      clear hcv hr3 ht3 f4
      go_wp2_with fail
      refine hmd.mono ?_
      clear hmd
      rintro e w5 ⟨rfl, rfl⟩
      go_wp2_with fail
      go_ret
      exact ⟨by cases md <;> simp, F4.out.none⟩
theorem opens_law (w : World) (A : Option Addr) (n c : Nat) (b : List UInt8) (o : RowAt w A (bcells b) ∧ b.length = n ∧ n ≤ c ∧ c ≤ maxLen ∧ (A = none → n = 0 ∧ c = 0)) (sl : Bool) :
    Calls Try.prog 12 #[.slice A n c, .bool sl] w (BoolPost w true) :=
  opens_walk w A n c b sl o.1 o.2.1 o.2.2.1 o.2.2.2.1 o.2.2.2.2
end Go.Proofs.Ytcpcmcdfncjnaaa
