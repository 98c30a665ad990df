/- crc.Table's Open. -/
import Derived.Test.YtnkdlmmdaagonaaSeal
import Derived.Test.YtnkdlmmdaagonaaCalmG
import Derived.Test.YtnkdlmmdaagonaaBackLaw
namespace Go.Proofs.Ytnkdlmmdaagonaa
open Go.RowKit

/-- What was sealed, and the error's number. -/
def openB (b : List UInt8) : List UInt8 × Nat := if b.length < 4 then ([], 2) else if leV (b.drop (b.length - 4)) = crcSum (b.take (b.length - 4)) then (b.take (b.length - 4), 0) else ([], 5)
def OpenC (wa : World) (p : Nat) (m : Bool) (tail : List UInt8) (k : Nat) (g : Value) (W : World) : Prop :=
  match k with
  | 0 => Fr (fun x => x = p ∨ wa.heap.size ≤ x) wa W ∧ TabAt W p m
  | 1 => Fr (fun x => x = p ∨ wa.heap.size ≤ x) wa W ∧ TabAt W p m ∧ ∃ q, g = .pointer (some ⟨q, 0, none⟩) ∧ RdAt W (upB wa.heap.size) q ⟨tail, 0⟩
  | 2 => Fr (fun x => x = p ∨ wa.heap.size ≤ x) wa W ∧ TabAt W p m
  | _ => Fr (fun x => x = p ∨ wa.heap.size ≤ x) wa W ∧ TabAt W p true
def OpenPost (w : World) (p : Nat) (m : Bool) (r : List UInt8 × Nat) (e : Ending) (w' : World) : Prop :=
  ∃ B k d, e = .returned (.tuple #[.slice B k d, .int .i64 (r.2 : Nat)]) ∧ Hid (r.1.length = k) ∧ RowAt w' B (bcells r.1) ∧ (∀ a, B = some a → w.heap.size ≤ a.block) ∧ TabAt w' p m ∧ Fr (eqB p) w w'
theorem own_nilB {w : World} {base n : Nat} {e : TypeId} {size : Nat} {A : Option Addr} {m c : Nat} {xs : List Value} (h : w.ownsRow base e size (.slice A m c) n xs) : A = none → m = 0 ∧ c = 0 := by
  rintro rfl
  rcases h.2 with ⟨e1, _⟩ | ⟨g, cap, cur, e1, _⟩
  · injection e1 with _ h1 h2; exact ⟨h1, h2⟩
  · injection e1 with h1; cases h1
theorem own_base {w : World} {base n : Nat} {e : TypeId} {size : Nat} {A : Option Addr} {m c : Nat} {xs : List Value} (h : w.ownsRow base e size (.slice A m c) n xs) : ∀ a, A = some a → base ≤ a.block := by
  rintro a rfl
  rcases h.2 with ⟨e1, _⟩ | ⟨g, cap, cur, e1, hb, _⟩
  · injection e1 with h1; cases h1
  · injection e1 with h1; cases h1; exact hb
theorem own_capB {w : World} {base n : Nat} {e : TypeId} {size : Nat} {A : Option Addr} {m c : Nat} {xs : List Value} (h : w.ownsRow base e size (.slice A m c) n xs) : m ≤ c ∧ c ≤ 9223372036854775807 := by
  rcases h.2 with ⟨e1, _⟩ | ⟨g, cap, cur, e1, _, _, hc, hm, _⟩
  · injection e1 with _ h1 h2; subst h1 h2; exact ⟨Nat.le_refl _, by decide⟩
  · injection e1 with _ h1 h2; subst h1 h2; exact ⟨hc, Nat.le_trans hm (by decide)⟩
def OpenPost2 (w : World) (p : Nat) (m : Bool) (r : List UInt8 × Nat) (e : Ending) (w' : World) : Prop :=
  ∃ B k d, e = .returned (.tuple #[.slice B k d, .int .i64 (r.2 : Nat)]) ∧ Hid (r.1.length = k) ∧ RowAt w' B (bcells r.1) ∧ (∀ a, B = some a → w.heap.size ≤ a.block) ∧ TabAt w' p m ∧ Fr (eqB p) w w' ∧ k ≤ d ∧ d ≤ 9223372036854775807
set_option maxRecDepth 100000 in
set_option maxHeartbeats 3200000 in
theorem open2_calls (w : World) (p : Nat) (m : Bool) (A : Option Addr) (n c : Nat) (b : List UInt8) (htab : TabAt w p m) (hr : RowAt w A (bcells b)) (HN : Hid (b.length = n)) (hn : n ≤ 100000000000) (hnc : n ≤ c) (hc : c ≤ 9223372036854775807) (hA : ∀ a, A = some a → 0 < n → a.block ≠ p) :
    Calls Try.prog 62 #[.pointer (some ⟨p, 0, none⟩), .slice A n c] w (OpenPost2 w p (if n < 4 then m else true) (openB b)) := by
  by_cases h4 : n < 4
  · have HO : Hid (openB b = ([], 2)) := by unfold Hid openB; rw [if_pos (by rw [HN.out]; exact h4)]
    rw [HO.out, if_pos h4]
    have hm4 : ((n : Int) - 4 < 0) := by omega
    have t4 : decide ((n : Int) - 4 < 0) = true := by simp; omega
    have HT := hid htab; clear htab
    go_enter Try.func62, Try.ntmps62
    go_wp2_with fail
    go_ret2
    exact ⟨none, 0, 0, rfl, rfl, RowAt.nil _ _, (fun a e => by cases e), HT.out, Fr.refl _ _, Nat.le_refl _, by decide⟩
  · obtain ⟨k, rfl⟩ : ∃ k, n = k + 4 := ⟨n - 4, by omega⟩
    have hm4 : (((k + 4 : Nat) : Int) - 4) = (k : Int) := by omega
    obtain ⟨ad, rfl⟩ := hr.some_of (by rw [bcells_length, HN.out]; omega)
    have hap : ad.block ≠ p := hA ad rfl (by omega)
    have halt : ad.block < w.heap.size := hr.lt (by rw [bcells_length, HN.out]; omega)
    have hpl := htab.lt
    have HTL : Hid ((b.drop k).length = 4) := by unfold Hid; rw [List.length_drop, HN.out]; omega
    have HTN : Hid ((b.drop k).length = k + 4 - k) := by unfold Hid; rw [List.length_drop, HN.out]
    have HBL : Hid ((b.take k).length = k) := by unfold Hid; rw [List.length_take, HN.out]; omega
    have hrw : ∀ W, Fr (fun x => x = p ∨ w.heap.size ≤ x) w W → RowAt W (some ad) (bcells b) := fun W f => hr.fr f (fun a' e _ _ hx => by cases e; omega)
    have htail : ∀ W, Fr (fun x => x = p ∨ w.heap.size ≤ x) w W → RowAt W (some (ad.add k)) (bcells (b.drop k)) := fun W f j u hu => by
      refine ⟨_, rfl, ?_⟩
      rw [add_add']
      refine (hrw W f).cell ?_
      rw [← hu]; simp only [bcells, List.map_drop, List.getElem?_drop]
    have hbody : ∀ W, Fr (fun x => x = p ∨ w.heap.size ≤ x) w W → RowAt W (some ad) (bcells (b.take k)) := fun W f j u hu => (hrw W f) j u (by
      simp only [bcells, List.map_take, List.getElem?_take] at hu ⊢
      split at hu
      · exact hu
      · cases hu)
    obtain ⟨lv, HLV⟩ : ∃ lv, Hid (leV (b.drop k) = lv) := ⟨_, rfl⟩
    obtain ⟨sm, HSM⟩ : ∃ sm, Hid (crcSum (b.take k) = sm) := ⟨_, rfl⟩
    have HNUM : Hid (rNum ⟨b.drop k, 0⟩ 4 = (⟨[], 0⟩, lv)) := by
      unfold Hid rNum
      have := rTake_app (b.drop k) [] 0 4 HTL.out
      rw [List.append_nil] at this
      rw [this, HLV.out]
    have HO : Hid (openB b = if lv = sm then (b.take k, 0) else ([], 5)) := by
      unfold Hid openB; rw [if_neg (by rw [HN.out]; omega), HN.out, show k + 4 - 4 = k by omega, HLV.out, HSM.out]
    rw [if_neg (by omega)]
    generalize openB b = ob at *
    clear hr hA h4
    go_enter Try.func62, Try.ntmps62
    go_wp2_with fail
    generalize hnn : k + 4 = n at *
    have HNN := hid hnn; clear hnn
    refine G.wp_region_calmL (gs := 15) (R := Fr (fun x => x = p ∨ w.heap.size ≤ x)) (C := OpenC w p m (b.drop k)) [false, false, false, true, true, false, false, false, false, true, false] [0, 0, 0, 0, 1, 0, 0, 0, 0, 2, 3]
      [eqv (.slice (some ad) n c), eqv (.int .i64 k), eqv (.slice (some (ad.add k)) (n - k) (c - k)), anyv, eqv (.int .u32 lv), eqv (.pointer (some ⟨p, 0, none⟩)), eqv (.slice (some ad) n c), eqv (.int .i64 k), eqv (.slice (some ad) k c), eqv (.int .u32 sm), eqv (.bool ((lv : Int) != (sm : Int)))]
      (by kernel_rfl) (by kernel_rfl) (fun _ _ _ h1 h2 => h1.then' h2) ((Fr.refl _ _).drew) ⟨(Fr.refl _ _).drew, htab.fr ((Fr.refl noB _).drew) id⟩ (by kernel_rfl) ?_ ?_
    · refine ⟨?_, ?_, ?_, ?_, ?_, ?_, ?_, ?_, ?_, ?_, ?_, trivial⟩
      · rw [if_neg (by decide)]; intro kq
        exact G.calm_mv 1 rfl rfl (Or.inl rfl) (by decide) (Fr.refl _) (by decide) fun v w hd => hd
      · rw [if_neg (by decide)]; intro kq
        exact G.calm_mv 6 rfl rfl (Or.inl rfl) (by decide) (Fr.refl _) (by decide) fun v w hd => hd
      · rw [if_neg (by decide)]; intro kq
        intro a W K hC hd hK
        have d12 : a.tmps[12]?.getD undef = .slice (some ad) n c := hd 12 (by decide)
        have d13 : a.tmps[13]?.getD undef = .int .i64 k := hd 13 (by decide)
        refine wpOp_plain rfl rfl ?_
        go_wp2_with fail
        exact hK _ _ (Fr.refl _ _) hC rfl
      · rw [if_pos (by decide)]
        intro a W K hC hd hK
        replace hC : (OpenC w p m (b.drop k)) 0 (a.eval (.tmp 15)) W := hC
        have d14 : a.tmps[14]?.getD undef = .slice (some (ad.add k)) (n - k) (c - k) := hd 14 (by decide)
        refine wpOp_plain rfl rfl ?_
        have hcl := of_calls W (some (ad.add k)) (n - k) (c - k) (b.drop k) (htail W hC.1) HTN.out (fun e => by cases e) (by omega)
        go_wp2_with fail
        refine hcl.mono ?_
        rintro e w' ⟨q, rfl, q1, q2, q3, q4⟩
        have hz := hC.1.size
        exact hK _ _ (q4.mono fun _ _ h => h.elim) ⟨hC.1.then' (q4.mono fun _ _ h => h.elim), hC.2.fr q4 id, q, rfl, q3.mono fun x hx => by unfold upB at *; omega⟩ trivial
      · rw [if_pos (by decide)]
        intro a W K hC hd hK
        replace hC : (OpenC w p m (b.drop k)) 1 (a.eval (.tmp 15)) W := hC
        have d15 : (anyv).V (a.tmps[15]?.getD undef) W := hd 15 (by decide)
        refine wpOp_plain rfl rfl ?_
        obtain ⟨g1, g2, q, g3, g4⟩ := hC
        rw [eval_get] at g3
        have hcl := fourRd_calls W (upB w.heap.size) q ⟨b.drop k, 0⟩ g4
        rw [HNUM.out] at hcl
        go_wp2_with fail
        refine hcl.mono ?_
        rintro e w' ⟨rfl, h1, f1⟩
        exact hK _ _ (f1.mono fun x _ hx => Or.inr hx) ⟨g1.then' (f1.mono fun x _ hx => Or.inr hx), g2.fr f1 (fun hx => by unfold upB at hx; omega)⟩ rfl
      · rw [if_neg (by decide)]; intro kq
        exact G.calm_mv 0 rfl rfl (Or.inl rfl) (by decide) (Fr.refl _) (by decide) fun v w hd => hd
      · rw [if_neg (by decide)]; intro kq
        exact G.calm_mv 1 rfl rfl (Or.inl rfl) (by decide) (Fr.refl _) (by decide) fun v w hd => hd
      · rw [if_neg (by decide)]; intro kq
        exact G.calm_mv 6 rfl rfl (Or.inl rfl) (by decide) (Fr.refl _) (by decide) fun v w hd => hd
      · rw [if_neg (by decide)]; intro kq
        intro a W K hC hd hK
        have d18 : a.tmps[18]?.getD undef = .slice (some ad) n c := hd 18 (by decide)
        have d19 : a.tmps[19]?.getD undef = .int .i64 k := hd 19 (by decide)
        refine wpOp_plain rfl rfl ?_
        go_wp2_with fail
        exact hK _ _ (Fr.refl _ _) hC rfl
      · rw [if_pos (by decide)]
        intro a W K hC hd hK
        replace hC : (OpenC w p m (b.drop k)) 2 (a.eval (.tmp 15)) W := hC
        have d17 : a.tmps[17]?.getD undef = .pointer (some ⟨p, 0, none⟩) := hd 17 (by decide)
        have d20 : a.tmps[20]?.getD undef = .slice (some ad) k c := hd 20 (by decide)
        refine wpOp_plain rfl rfl ?_
        have hcl := sumT_calls W p m (some ad) k c (b.take k) hC.2 (hbody W hC.1) HBL.out (by omega) (fun a' e _ he => by cases e; omega)
        rw [HSM.out] at hcl
        go_wp2_with fail
        refine hcl.mono ?_
        rintro e w' ⟨rfl, h1, f1⟩
        exact hK _ _ (f1.mono fun x _ hx => Or.inl hx) ⟨hC.1.then' (f1.mono fun x _ hx => Or.inl hx), h1⟩ rfl
      · rw [if_neg (by decide)]; intro kq
        intro a W K hC hd hK
        have d16 : a.tmps[16]?.getD undef = .int .u32 lv := hd 16 (by decide)
        have d21 : a.tmps[21]?.getD undef = .int .u32 sm := hd 21 (by decide)
        refine wpOp_plain rfl rfl ?_
        go_wp2_with fail
        exact hK _ _ (Fr.refl _ _) hC (by first | rfl | (show _ = _; simp))
    · intro vs w9 fw9 cw9 hV
      have v22 : vs 10 = .bool ((lv : Int) != (sm : Int)) := hV 10 _ _ rfl rfl (by decide)
      clear hV
      simp only [putL, Act.put, Nat.reduceAdd, List.setIfInBounds_toArray, List.set_cons_zero, List.set_cons_succ, v22]
      obtain ⟨g9, cw1, cw2⟩ := cw9
      have HF : Hid (Fr (eqB p) w w9) := fw9.mono fun x hx h => h.elim id fun h => by omega
      have hb9 := hbody w9 fw9
      clear fw9
      by_cases hls : lv = sm
      · have t22 : ((lv : Int) != (sm : Int)) = false := by simp; omega
        rw [if_pos hls] at HO
        have HLS := hid hls; clear hls
        have hcl := clone_calls w9 (some ad) k c (b.take k) hb9 HBL.out (fun e => by cases e) (by omega)
        clear hb9 hrw htail hbody htab
        go_wp2_with fail
        refine hcl.mono ?_
        clear hcl
        rintro e w10 ⟨B, d, rfl, h10, f10, _⟩
        have HOW := hid h10
        have HF2 := hid f10
        have HT9 : Hid (TabAt w10 p true) := (show TabAt w9 p true from cw2).fr f10 id
        clear h10 f10
        go_wp2_with fail
        go_ret2
        rw [HO.out]
        exact ⟨B, k, d, rfl, HBL.out, own_row HOW.out, (fun a' e => by have := (HOW.out.lt a'.block (by rw [e]; rfl)).1; have := HF.out.size; omega), HT9.out, HF.out.then' (HF2.out.mono fun _ _ h => h.elim), (own_capB HOW.out).1, (own_capB HOW.out).2⟩
      · have t22 : ((lv : Int) != (sm : Int)) = true := by simp; omega
        rw [if_neg hls] at HO
        have HLS := hid hls; clear hls
        have HT9 : Hid (TabAt w9 p true) := cw2
        clear hb9 hrw htail hbody htab
        go_wp2_with fail
        go_ret2
        rw [HO.out]
        exact ⟨none, 0, 0, rfl, rfl, RowAt.nil _ _, (fun a' e => by cases e), HT9.out, HF.out, Nat.le_refl _, by decide⟩
theorem open_calls (w : World) (p : Nat) (m : Bool) (A : Option Addr) (n c : Nat) (b : List UInt8) (htab : TabAt w p m) (hr : RowAt w A (bcells b)) (HN : Hid (b.length = n)) (hn : n ≤ 100000000000) (hnc : n ≤ c) (hc : c ≤ 9223372036854775807) (hA : ∀ a, A = some a → 0 < n → a.block ≠ p) :
    Calls Try.prog 62 #[.pointer (some ⟨p, 0, none⟩), .slice A n c] w (OpenPost w p (if n < 4 then m else true) (openB b)) :=
  (open2_calls w p m A n c b htab hr HN hn hnc hc hA).mono fun _ _ ⟨B, k, d, h1, h2, h3, h4, h5, h6, _⟩ => ⟨B, k, d, h1, h2, h3, h4, h5, h6⟩
end Go.Proofs.Ytnkdlmmdaagonaa
