/- frame.New, Framer.Put. -/
import Derived.Test.YtpkdcbfhacgklaaSeal
import Derived.Test.YtpkdcbfhacgklaaOpenT
import Derived.Test.YtpkdcbfhacgklaaBlk
import Derived.Test.YtpkdcbfhacgklaaWr2
import Derived.Deep.Cut
namespace Go.Proofs.Ytpkdcbfhacgklaa
open Go.RowKit

def frB (kind : Nat) (b : List UInt8) : List UInt8 := leB 1 1 ++ leB 1 kind ++ leB 4 b.length ++ b
def frameB (kind : Nat) (b : List UInt8) : List UInt8 := sealB (frB kind b)
theorem frB_length (k : Nat) (b : List UInt8) : (frB k b).length = b.length + 6 := by unfold frB; simp only [List.length_append, leB_length]; omega
theorem frameB_length (k : Nat) (b : List UInt8) : (frameB k b).length = b.length + 10 := by unfold frameB; rw [sealB_length, frB_length]
set_option maxRecDepth 100000 in
theorem newF_calls (w : World) : Calls Try.prog 24 #[] w (fun e w' => e = .returned (.pointer (some ⟨w.heap.size, 0, none⟩)) ∧ TabAt w' w.heap.size false ∧ Fr noB w w' ∧ w'.heap.size = w.heap.size + 1) := by
  have hsz : Try.zeroCells140.size = 260 := by kernel_rfl
  have h0 : Try.zeroCells140[0]? = some (.int .u32 0) := by kernel_rfl
  have h1 : Try.zeroCells140[1]? = some (.int .i32 0) := by kernel_rfl
  have h3 : Try.zeroCells140[3]? = some (.int .u32 0) := by kernel_rfl
  have hT : TabAt (w.alloc (.cells Try.zeroCells140 140)) w.heap.size false :=
    ⟨_, _, heap_alloc_new w _, ⟨hsz, h0, h1, h3, fun i hi => ⟨_, Array.getElem?_eq_getElem (by omega)⟩, fun i _ x hx => by simp at hx⟩⟩
  have HT := hid hT
  clear hsz h0 h1 h3 hT
  go_enter Try.func24, Try.ntmps24
  go_wp2_with fail
  go_ret
  exact ⟨rfl, HT.out, (Fr.refl noB w).alloc _, by simp⟩
/-- Bytes that a region has made, in blocks other than p. -/
def OwnS (w0 : World) (p : Nat) (hp : p < w0.heap.size) (bs : List UInt8) : Stb (Fr (eqB p)) :=
  ⟨fun v W => ∃ A c, v = .slice A bs.length c ∧ W.ownsRow w0.heap.size 5 1 (.slice A bs.length c) bs.length (bcells bs),
   fun _ _ _ ⟨A, c, e, h⟩ f => ⟨A, c, e, own_fr h f (fun g hg h2 => by have := (h.lt g hg).1; unfold eqB at h2; omega)⟩⟩
def PutFC (p : Nat) (m : Bool) : Nat → World → Prop
  | 0, W => TabAt W p m
  | _, W => TabAt W p true
theorem PutFC.fr0 {p : Nat} {m : Bool} {q : Nat} {W W' : World} (h : PutFC p m q W) (f : Fr noB W W') : PutFC p m q W' := by
  cases q with
  | zero => exact TabAt.fr h f id
  | succ q => exact TabAt.fr h f id
def FPut (w : World) (p : Nat) (bs : List UInt8) (e : Ending) (w' : World) : Prop :=
  ∃ A c, e = .returned (.tuple #[.slice A bs.length c, .int .i64 0]) ∧ w'.ownsRow w.heap.size 5 1 (.slice A bs.length c) bs.length (bcells bs) ∧ TabAt w' p true ∧ Fr (eqB p) w w'
theorem putF_long (w : World) (p k : Nat) (A : Option Addr) (n c : Nat) (h : 65526 < n) :
    Calls Try.prog 25 #[.pointer (some ⟨p, 0, none⟩), .int .u8 k, .slice A n c] w (fun e w' => e = .returned (.tuple #[.slice none 0 0, .int .i64 3]) ∧ w = w') := by
  obtain ⟨b0, hb0⟩ : ∃ b : Int, b = 65526 := ⟨_, rfl⟩
  have d1 : decide ((65526 : Int) < n) = true := decide_eq_true (by omega)
  go_enter Try.func25, Try.ntmps25
  go_wp2_with fail
  go_ret2
  exact ⟨rfl, rfl⟩
set_option maxRecDepth 100000 in
set_option maxHeartbeats 1600000 in
theorem putF_calls (w : World) (p k : Nat) (m : Bool) (A : Option Addr) (n c : Nat) (b : List UInt8) (h : TabAt w p m) (hk : k < 256) (hr : RowAt w A (bcells b)) (HN : Hid (b.length = n)) (hn : n ≤ 65526) (hnil : A = none → n = 0 ∧ c = 0) :
    Calls Try.prog 25 #[.pointer (some ⟨p, 0, none⟩), .int .u8 k, .slice A n c] w (FPut w p (frameB k b)) := by
  have d1 : decide ((65526 : Int) < n) = false := decide_eq_false (by omega)
  have hw0 := WrAt.newQ w
  have f0 : Fr noB w (w.alloc (.cells #[.slice none 0 0] 123)) := (Fr.refl noB w).alloc _
  have hp := h.lt
  have ht := h.fr f0 id
  have hr0 := hr.fr0 f0
  have hs0 := al_size w (.cells #[.slice none 0 0] 123)
  have hlt : ∀ a, A = some a → 0 < n → a.block < w.heap.size := fun a e h0 => by
    subst e; exact hr.lt (by rw [bcells_length, HN.out]; exact h0)
  have hwrap : IntKind.u32.wrap (n : Int) = n := by rw [IntKind.wrap_u32]; omega
  have HFB : Hid (leB 1 1 ++ leB 1 k ++ leB 4 n ++ b = frB k b) := by unfold Hid frB; rw [HN.out]
  have HFL : Hid ((frB k b).length = n + 6) := by unfold Hid; rw [frB_length, HN.out]
  have HSL : Hid ((frameB k b).length = n + 10) := by unfold Hid; rw [frameB_length, HN.out]
  have hk' := hid hk
  clear h hr hk
  go_enter Try.func25, Try.ntmps25
  go_wp2_with fail
  generalize (w.alloc (.cells #[.slice none 0 0] 123)) = wa at *
  have hwa := hw0.mono (T := upB w.heap.size) (fun k _ h => by unfold eqB at h; unfold upB; omega)
  refine (byte_calls wa (upB w.heap.size) w.heap.size [] 1 hwa (by decide) (by simp)).mono ?_
  rintro e w1 ⟨rfl, h1, f1⟩
  have hw1 := h1.mono (T := upB w.heap.size) (fun k _ h => h.elim id fun h => by unfold upB; omega)
  have ht1 := ht.fr f1 (fun h => by unfold upB at h; omega)
  have hr1 := hr0.fr f1 (fun a e h0 _ h => by have := hlt a e (by rw [bcells_length, HN.out] at h0; exact h0); unfold upB at h; omega)
  have F1 := f0.trans f1 (fun i hi h => by unfold upB at h; omega)
  have hs1 := f1.size
  clear h1 f1 hwa hw0 ht hr0 f0
  go_wp2_with fail
  refine (byte_calls w1 (upB w.heap.size) w.heap.size _ k hw1 hk'.out (by simp [leB_length])).mono ?_
  rintro e w2 ⟨rfl, h2, f2⟩
  have hw2 := h2.mono (T := upB w.heap.size) (fun k _ h => h.elim id fun h => by unfold upB; omega)
  have ht2 := ht1.fr f2 (fun h => by unfold upB at h; omega)
  have hr2 := hr1.fr f2 (fun a e h0 _ h => by have := hlt a e (by rw [bcells_length, HN.out] at h0; exact h0); unfold upB at h; omega)
  have F2 := F1.trans f2 (fun i hi h => by unfold upB at h; omega)
  have hs2 := f2.size
  clear h2 f2 hw1 ht1 hr1 F1
  go_wp2_with fail
  refine (four_calls w2 (upB w.heap.size) w.heap.size _ n hw2 (by omega) (by simp [leB_length])).mono ?_
  rintro e w3 ⟨rfl, h3, f3⟩
  have hw3 := h3.mono (T := upB w.heap.size) (fun k _ h => h.elim id fun h => by unfold upB; omega)
  have ht3 := ht2.fr f3 (fun h => by unfold upB at h; omega)
  have hr3 := hr2.fr f3 (fun a e h0 _ h => by have := hlt a e (by rw [bcells_length, HN.out] at h0; exact h0); unfold upB at h; omega)
  have F3 := F2.trans f3 (fun i hi h => by unfold upB at h; omega)
  have hs3 := f3.size
  clear h3 f3 hw2 ht2 hr2 F2
  go_wp2_with fail
  refine (raw_calls w3 (upB w.heap.size) w.heap.size _ A n c b hw3 hr3 HN.out hnil (by simp [leB_length]; omega)).mono ?_
  rintro e w4 ⟨rfl, h4, f4⟩
  have hw4 := h4.mono (T := upB w.heap.size) (fun k _ h => h.elim id fun h => by unfold upB; omega)
  rw [List.nil_append, HFB.out] at hw4
  have ht4 := ht3.fr f4 (fun h => by unfold upB at h; omega)
  have F4 := F3.trans f4 (fun i hi h => by unfold upB at h; omega)
  have hs4 := f4.size
  clear h4 f4 hw3 ht3 hr3 F3 HFB
  go_wp2_with fail
  have hpw : p < w4.heap.size := by omega
  have hl4 : (frB k b).length ≤ 1000000 := by rw [HFL.out]; omega
  apply wp_region_calm (R := Fr (eqB p)) (C := fun q W => Fr (eqB p) w4 W ∧ WrAt W (upB w.heap.size) w.heap.size (frB k b) ∧ PutFC p m q W) [false, false, false, false, false, true, false, false]
    [eqv _, eqv _, eqv _, eqv _, OwnS w4 p hpw (frB k b), OwnS w4 p hpw (frameB k b), OwnS w4 p hpw (frameB k b), eqv _]
    (by kernel_rfl) (by kernel_rfl) (fun _ _ _ h1 h2 => h1.then' h2) ((Fr.refl _ _).drew) ⟨(Fr.refl _ _).drew, hw4.fr ((Fr.refl noB _).drew) (fun _ _ _ => id), ht4.fr ((Fr.refl noB _).drew) id⟩ (by kernel_rfl)
  · refine ⟨?_, ?_, ?_, ?_, ?_, ?_, ?_, ?_, trivial⟩
    · rw [if_neg (by decide)]; intro kq
      exact calm_mv 0 rfl rfl (Or.inl rfl) (Fr.refl _) (by decide) fun v w hd => hd
    · rw [if_neg (by decide)]; intro kq
      intro a W K hC hd hK
      have d23 : _ = _ := hd 23 (by decide)
      refine wpOp_plain rfl rfl ?_
      go_wp2_with fail
      exact hK _ _ (Fr.refl _ _) hC rfl
    · rw [if_neg (by decide)]; intro kq
      intro a W K hC hd hK
      have d24 : _ = _ := hd 24 (by decide)
      refine wpOp_plain rfl rfl ?_
      go_wp2_with fail
      exact hK _ _ (Fr.refl _ _) hC rfl
    · rw [if_neg (by decide)]; intro kq
      exact calm_mv 8 rfl rfl (Or.inl rfl) (Fr.refl _) (by decide) fun v w hd => hd
    · rw [if_neg (by decide)]; intro kq
      intro a W K hC hd hK
      have d26 : _ = _ := hd 26 (by decide)
      refine wpOp_plain rfl rfl ?_
      go_wp2_with fail
      refine (bytes_calls W _ _ _ hC.2.1 (by omega)).mono ?_
      rintro e9 w9 ⟨A9, c9, rfl, h9, f9⟩
      exact hK _ _ (f9.mono fun _ _ h => h.elim) ⟨hC.1.then' (f9.mono fun _ _ h => h.elim), hC.2.1.fr f9 (fun _ _ _ => id), hC.2.2.fr0 f9⟩ ⟨A9, c9, rfl, own_mono h9 (fun g hg => by have := (h9.lt g hg).1; have := hC.1.size; omega)⟩
    · rw [if_pos (by decide)]
      intro a W K hC hd hK
      replace hC : (fun q W => Fr (eqB p) w4 W ∧ WrAt W (upB w.heap.size) w.heap.size (frB k b) ∧ PutFC p m q W) 0 W := hC
      have d25 : _ = _ := hd 25 (by decide)
      have d27 : (OwnS w4 p hpw (frB k b)).V (a.tmps[27]?.getD undef) W := hd 27 (by decide)
      refine wpOp_plain rfl rfl ?_
      obtain ⟨A9, c9, d27, h9⟩ := d27
      go_wp2_with fail
      refine (seal_calls W p m A9 (frB k b).length c9 (frB k b) hC.2.2 (own_row h9) rfl (by omega) (own_nilB h9) (fun a ea hn => by have := own_base h9 a ea; omega)).mono ?_
      rintro e9 w9 ⟨B9, d9, rfl, g9, t9, f9⟩
      exact hK _ _ f9 ⟨hC.1.then' f9, hC.2.1.fr f9 (fun j _ h h2 => by unfold upB at h; unfold eqB at h2; omega), t9⟩ ⟨B9, d9, rfl, own_mono g9 (fun g hg => by have := (g9.lt g hg).1; have := hC.1.size; omega)⟩
    · rw [if_neg (by decide)]; intro kq
      exact calm_mv 28 rfl rfl (Or.inr rfl) (Fr.refl _) (by decide) fun v w hd => hd
    · rw [if_neg (by decide)]; intro kq
      intro a W K hC hd hK
      refine wpOp_plain rfl rfl ?_
      go_wp2_with fail
      exact hK _ _ (Fr.refl _ _) hC rfl
  · intro vs w8 fw8 cw8 hV
    have v23 : vs 0 = _ := hV 0 _ _ rfl rfl (by decide)
    have v24 : vs 1 = _ := hV 1 _ _ rfl rfl (by decide)
    have v25 : vs 2 = _ := hV 2 _ _ rfl rfl (by decide)
    have v26 : vs 3 = _ := hV 3 _ _ rfl rfl (by decide)
    have v27 : (OwnS w4 p hpw (frB k b)).V (vs 4) w8 := hV 4 _ _ rfl rfl (by decide)
    have v28 : (OwnS w4 p hpw (frameB k b)).V (vs 5) w8 := hV 5 _ _ rfl rfl (by decide)
    have v6 : (OwnS w4 p hpw (frameB k b)).V (vs 6) w8 := hV 6 _ _ rfl rfl (by decide)
    have v7 : vs 7 = _ := hV 7 _ _ rfl rfl (by decide)
    clear hV
    simp only [putL, Act.put, Nat.reduceAdd, List.setIfInBounds_toArray, List.set_cons_zero, List.set_cons_succ, v23, v24, v25, v26, v7]
    obtain ⟨A9, c9, v6', h9⟩ := v6
    have ht9 : TabAt w8 p true := cw8.2.2
    have F8 := (F4.mono (T := eqB p) fun _ _ h => h.elim).then' fw8
    rw [v6']
    clear cw8 v27 v28 hw4 ht4
    go_wp2_with fail
    go_ret2
    exact ⟨A9, c9, rfl, own_mono h9 (fun g hg => by have := (h9.lt g hg).1; omega), ht9, F8⟩
end Go.Proofs.Ytpkdcbfhacgklaa
