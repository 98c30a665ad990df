/- interrexlaw03.FrameTurned: the walk. -/
import Derived.Test.YtpkdcbfhacgklaaFrame4
import Derived.Test.YtpkdcbfhacgklaaFrLaw
import Derived.Test.YtpkdcbfhacgklaaOpenBytes
import Derived.Laws.OwnMore
namespace Go.Proofs.Ytpkdcbfhacgklaa
open Go.RowKit

def TurnF (n2 g n d : Nat) (l l2 : List UInt8) (wr : World) (k : Nat) (W : World) : Prop := Fr (eqB g) wr W ∧ W.ownsRow n2 5 1 (.slice (some ⟨g, 0, none⟩) (n + 10) d) (n + 10) (bcells (if k < 2 then l else l2))
set_option maxRecDepth 100000 in
set_option maxHeartbeats 6400000 in
theorem frTurned_walk (w : World) (kd : Nat) (hkd : kd < 256) (A : Option Addr) (n c : Nat) (b : List UInt8) (at' : Int) (turn : Nat) (hat1 : -9223372036854775808 ≤ at') (hat2 : at' ≤ 9223372036854775807) (htu : turn < 4294967296) (hr : RowAt w A (bcells b)) (HN : Hid (b.length = n)) (hnc : n ≤ c) (hc : c ≤ maxLen) (hnil : A = none → n = 0 ∧ c = 0) :
    Calls Try.prog 7 #[.int .u8 kd, .slice A n c, .int .i64 at', .int .u32 turn] w (BoolPost w true) := by
  have hlv := @lives03_calls
  unfold maxLen at hc
  by_cases hbad : 300 < n ∨ turn = 0
  · by_cases h300 : 300 < n
    · have t12 : decide (300 < (n : Int)) = true := by simp; omega
      clear hbad
      go_enter Try.func7, Try.ntmps7
      go_wp2_with fail
      refine (hlv _).mono ?_
      rintro e w1 ⟨rfl, f1⟩
      go_wp2_with fail
      refine (hlv _).mono ?_
      rintro e w2 ⟨rfl, f2⟩
      go_wp2_with fail
      go_ret
      exact ⟨rfl, f1.then' f2⟩
    · have t12 : decide (300 < (n : Int)) = false := by simp; omega
      have ht0 : turn = 0 := by omega
      subst ht0
      clear hbad
      go_enter Try.func7, Try.ntmps7
      go_wp2_with fail
      refine (hlv _).mono ?_
      rintro e w1 ⟨rfl, f1⟩
      go_wp2_with fail
      refine (hlv _).mono ?_
      rintro e w2 ⟨rfl, f2⟩
      go_wp2_with fail
      go_ret
      exact ⟨rfl, f1.then' f2⟩
  · have h300 : ¬ 300 < n := fun h => hbad (Or.inl h)
    have htn : turn ≠ 0 := fun h => hbad (Or.inr h)
    have t12 : decide (300 < (n : Int)) = false := by simp; omega
    have t0 : ((turn : Int) == 0) = false := by simp; exact htn
    have HTN := hid htn
    have hu0 : 0 ≤ IntKind.u64.wrap at' := by rw [IntKind.wrap_u64]; omega
    obtain ⟨U, hU⟩ : ∃ U : Nat, IntKind.u64.wrap at' = (U : Int) := Int.eq_ofNat_of_zero_le hu0
    obtain ⟨a1, HA1⟩ : ∃ a1, Hid (U % (8 * n + 49) = a1) := ⟨_, rfl⟩
    have ha1 : a1 < 8 * n + 49 := by rw [← HA1.out]; exact Nat.mod_lt _ (by omega)
    have hat : wrap64 ((U : Int) % (8 * ((n : Int) + 10) - 31)) = (a1 : Int) := by
      rw [show 8 * ((n : Int) + 10) - 31 = ((8 * n + 49 : Nat) : Int) by omega, ← Int.natCast_emod, HA1.out]
      unfold wrap64; omega
    clear hu0
    have hlt : ∀ a, A = some a → 0 < n → a.block < w.heap.size := fun a e h0 => by
      subst e; exact hr.lt (by rw [bcells_length, HN.out]; exact h0)
    clear hbad htn
    go_enter Try.func7, Try.ntmps7
    go_wp2_with fail
    refine (hlv _).mono ?_
    rintro e w1 ⟨rfl, f1⟩
    go_wp2_with fail
    refine (newF_calls w1).mono ?_
    rintro e w2 ⟨rfl, h2, f2, z2⟩
    have Z2 := hid z2; clear z2
    have F2 : Hid (Fr (upB w.heap.size) w w2) := (f1.then' f2).up0 _
    have hr2 := (hr.fr0 f1).fr0 f2
    have zw := f1.size
    generalize hp : w1.heap.size = p at *
    have HP := hid hp; clear hp
    have hsl := putF_calls w2 p kd false A n c b h2 hkd hr2 HN (by omega) hnil
    have HSB : Hid ((frameB kd b).length = n + 10) := by unfold Hid; rw [frameB_length, HN.out]
    have t16 : decide ((n : Int) + 10 < 10) = false := by simp; omega
    clear hr f1 f2
    go_wp2_with fail
    refine hsl.mono ?_
    clear hsl
    rintro e w3 ⟨B, d, rfl, hown, ht3, f3⟩
    rw [HSB.out] at hown ⊢
    have F3 : Hid (Fr (upB w.heap.size) w w3) := F2.out.then' (f3.mono fun x _ he => by unfold eqB at he; unfold upB; omega)
    have hp2 := h2.lt
    clear hr2 f3 h2
    obtain ⟨g, rfl⟩ : ∃ g, B = some ⟨g, 0, none⟩ := by
      rcases hown.2 with ⟨e, e2⟩ | ⟨g, cap, cur, e, _⟩
      · injection e with _ h; omega
      · injection e with e; exact ⟨g, e⟩
    have hg2 : w2.heap.size ≤ g := (hown.lt g rfl).1
    go_wp2_with fail
    simp only [hat]
    generalize w2.heap.size = n2 at *
    go_loopw [52] (fun i wr => ∃ (k : Nat) (l : List UInt8), k ≤ 32 ∧ i = .int .i64 k ∧ Hid (l.length = n + 10) ∧ Hid (leV l = leV (frameB kd b) ^^^ (2 ^ a1 * (turn % 2 ^ k))) ∧ wr.ownsRow n2 5 1 (.slice (some ⟨g, 0, none⟩) (n + 10) d) (n + 10) (bcells l) ∧ TabAt wr p true ∧ Fr (upB w.heap.size) w wr) (fun i _ => 32 - (intOf i).toNat)
    case atStart => exact ⟨0, frameB kd b, by omega, rfl, HSB.out, (by unfold Hid; rw [Nat.pow_zero, Nat.mod_one, Nat.mul_zero, Nat.xor_zero]), hown, ht3, F3.out⟩
    case round =>
      clear hown ht3
      obtain ⟨k, l, hk, rfl, HL, HV, hown, htb, hf⟩ := hrel
      by_cases hk32 : k < 32
      · have hand0 := and1_u32 (turn / 2 ^ k) (Nat.lt_of_le_of_lt (Nat.div_le_self _ _) htu)
        have hand : bits .and .u32 ((turn : Int) / 2 ^ k) 1 = ((turn / 2 ^ k % 2 : Nat) : Int) := by
          rw [Int.natCast_ediv, Int.natCast_pow] at hand0; exact hand0
        clear hand0
        rw [testBit_div] at hand
        have hst := turn_step a1 turn k
        cases hbit : turn.testBit k with
        | false =>
          rw [hbit] at hst
          rw [hbit, if_neg (by decide)] at hand
          have HV2 : Hid (leV l = leV (frameB kd b) ^^^ (2 ^ a1 * (turn % 2 ^ (k + 1)))) := by unfold Hid; rw [hst, HV.out]; simp
          clear hst hbit
          go_wp2_with fail
          go_roundw
          case rel => exact ⟨k + 1, l, by omega, by go_num, HL.out, HV2, hown, htb, hf⟩
          case measure => simp [intOf]; omega
        | true =>
          rw [hbit] at hst
          rw [hbit, if_pos rfl] at hand
          obtain ⟨s8, HS8⟩ : ∃ s8, Hid (a1 + k = s8) := ⟨_, rfl⟩
          obtain ⟨j, HJ⟩ : ∃ j, Hid (s8 / 8 = j) := ⟨_, rfl⟩
          obtain ⟨e, HE⟩ : ∃ e, Hid (s8 % 8 = e) := ⟨_, rfl⟩
          have he8 : e < 8 := by have := HE.out; omega
          have hjn : j < n + 10 := by have := HJ.out; have := HS8.out; omega
          have hs8 : s8 ≤ 3000 := by have := HS8.out; omega
          obtain ⟨x, hx⟩ : ∃ x, l[j]? = some x := ⟨_, List.getElem?_eq_getElem (by rw [HL.out]; exact hjn)⟩
          have hx256 := x.toNat_lt
          have hp256 : 2 ^ e < 256 := Nat.lt_of_lt_of_le (Nat.pow_lt_pow_right (by omega) he8) (by decide)
          have hxor := xor_u8 x.toNat (2 ^ e) hx256 hp256
          have hy256 : x.toNat ^^^ 2 ^ e < 256 := Nat.xor_lt_two_pow (n := 8) hx256 hp256
          have hyu : (UInt8.ofNat (x.toNat ^^^ 2 ^ e)).toNat = x.toNat ^^^ 2 ^ e := by rw [UInt8.toNat_ofNat']; omega
          have hfl := leV_flip l j e x (UInt8.ofNat (x.toNat ^^^ 2 ^ e)) he8 hx hyu
          have HV2 : Hid (leV (l.set j (UInt8.ofNat (x.toNat ^^^ 2 ^ e))) = leV (frameB kd b) ^^^ (2 ^ a1 * (turn % 2 ^ (k + 1)))) := by
            unfold Hid
            rw [hfl, HV.out, hst, Nat.xor_assoc]
            simp only [if_true]
            rw [show 8 * j + e = a1 + k by have := HJ.out; have := HE.out; have := HS8.out; omega]
          have HX := hid hx
          have hcells : ∀ W : World, W.ownsRow n2 5 1 (.slice (some ⟨g, 0, none⟩) (n + 10) d) (n + 10) (bcells l) → W.cell? ⟨g, j, none⟩ = some (.int .u8 x.toNat) ∧ W.frozen? ⟨g, j, none⟩ = false := fun W ho => by
            refine ⟨?_, ho.frozenAt j⟩
            have := (own_row ho).cell (j := j) (u := .int .u8 x.toNat) (by simp only [bcells, List.getElem?_map, HX.out]; rfl)
            have e1 : (⟨g, 0, none⟩ : Addr).add j = ⟨g, j, none⟩ := by unfold Addr.add; split <;> simp_all
            rw [e1] at this; exact this
          have hset : bcells (l.set j (UInt8.ofNat (x.toNat ^^^ 2 ^ e))) = (bcells l).set j (.int .u8 ((x.toNat ^^^ 2 ^ e : Nat) : Int)) := by
            unfold bcells; rw [List.map_set, hyu]
          have HSET := hid hset
          have HL2 : Hid ((l.set j (UInt8.ofNat (x.toNat ^^^ 2 ^ e))).length = n + 10) := by unfold Hid; rw [List.length_set]; exact HL.out
          clear hst hbit hfl hyu hset hx
          generalize l.set j (UInt8.ofNat (x.toNat ^^^ 2 ^ e)) = l2 at *
          obtain ⟨p2, HP2⟩ : ∃ p2, Hid (2 ^ e = p2) := ⟨2 ^ e, rfl⟩
          rw [HP2.out] at hxor hy256 hp256 HSET
          generalize x.toNat = xn at *
          obtain ⟨yn, HY⟩ : ∃ yn, Hid (xn ^^^ p2 = yn) := ⟨xn ^^^ p2, rfl⟩
          rw [HY.out] at hxor hy256 HSET
          go_wp2_with fail
          refine wp_region_calm (R := Fr (eqB g)) (C := TurnF n2 g n d l l2 wr) [false, false, false, false, false, false, true, false, false, false, false, false, false, false, true]
            [eqv (.slice (some ⟨g, 0, none⟩) (n + 10) d), eqv (.int .i64 a1), eqv (.int .i64 k), eqv (.int .i64 (s8 : Nat)), eqv (.int .i64 (j : Nat)), eqv (.pointer (some ⟨g, j, none⟩)), eqv (.int .u8 xn), eqv (.int .i64 a1), eqv (.int .i64 k), eqv (.int .i64 (s8 : Nat)), eqv (.int .i64 (e : Nat)), eqv (.int .u8 p2), eqv (.int .u8 yn), eqv (.pointer (some ⟨g, j, none⟩)), anyv]
            (by kernel_rfl) (by kernel_rfl) (fun _ _ _ h1 h2 => h1.then' h2) ((Fr.refl _ _).drew) ⟨(Fr.refl _ _).drew, own_fr hown ((Fr.refl noB _).drew) (fun _ _ => id)⟩ (by kernel_rfl) ?_ ?_
          · refine ⟨?_, ?_, ?_, ?_, ?_, ?_, ?_, ?_, ?_, ?_, ?_, ?_, ?_, ?_, ?_, trivial⟩
            · rw [if_neg (by decide)]; intro kq
              exact calm_mv 10 rfl rfl (Or.inl rfl) (Fr.refl _) (by decide) fun v w hd => hd
            · rw [if_neg (by decide)]; intro kq
              exact calm_mv 2 rfl rfl (Or.inl rfl) (Fr.refl _) (by decide) fun v w hd => hd
            · rw [if_neg (by decide)]; intro kq
              exact calm_mv 12 rfl rfl (Or.inl rfl) (Fr.refl _) (by decide) fun v w hd => hd
            · rw [if_neg (by decide)]; intro kq
              intro a W K hC hd hK
              have d61 : a.tmps[61]?.getD undef = .int .i64 a1 := hd 61 (by decide)
              have d62 : a.tmps[62]?.getD undef = .int .i64 k := hd 62 (by decide)
              refine wpOp_plain rfl rfl ?_
              go_wp2_with fail
              exact hK _ _ (Fr.refl _ _) hC (congrArg (Value.int .i64) (by have := HS8.out; omega))
            · rw [if_neg (by decide)]; intro kq
              intro a W K hC hd hK
              have d63 : a.tmps[63]?.getD undef = .int .i64 (s8 : Nat) := hd 63 (by decide)
              refine wpOp_plain rfl rfl ?_
              go_wp2_with fail
              exact hK _ _ (Fr.refl _ _) hC (congrArg (Value.int .i64) (by have := HJ.out; omega))
            · rw [if_neg (by decide)]; intro kq
              intro a W K hC hd hK
              have d60 : a.tmps[60]?.getD undef = .slice (some ⟨g, 0, none⟩) (n + 10) d := hd 60 (by decide)
              have d64 : a.tmps[64]?.getD undef = .int .i64 (j : Nat) := hd 64 (by decide)
              refine wpOp_plain rfl rfl ?_
              go_wp2_with fail
              exact hK _ _ (Fr.refl _ _) hC rfl
            · rw [if_pos (by decide)]
              intro a W K hC hd hK
              replace hC : (TurnF n2 g n d l l2 wr) 0 W := hC
              have d65 : a.tmps[65]?.getD undef = .pointer (some ⟨g, j, none⟩) := hd 65 (by decide)
              have hcc := (hcells W hC.2).1
              refine wpOp_plain rfl rfl ?_
              go_wp2_with fail
              exact hK _ _ (Fr.refl _ _) hC rfl
            · rw [if_neg (by decide)]; intro kq
              exact calm_mv 2 rfl rfl (Or.inl rfl) (Fr.refl _) (by decide) fun v w hd => hd
            · rw [if_neg (by decide)]; intro kq
              exact calm_mv 12 rfl rfl (Or.inl rfl) (Fr.refl _) (by decide) fun v w hd => hd
            · rw [if_neg (by decide)]; intro kq
              intro a W K hC hd hK
              have d67 : a.tmps[67]?.getD undef = .int .i64 a1 := hd 67 (by decide)
              have d68 : a.tmps[68]?.getD undef = .int .i64 k := hd 68 (by decide)
              refine wpOp_plain rfl rfl ?_
              go_wp2_with fail
              exact hK _ _ (Fr.refl _ _) hC (congrArg (Value.int .i64) (by have := HS8.out; omega))
            · rw [if_neg (by decide)]; intro kq
              intro a W K hC hd hK
              have d69 : a.tmps[69]?.getD undef = .int .i64 (s8 : Nat) := hd 69 (by decide)
              refine wpOp_plain rfl rfl ?_
              go_wp2_with fail
              exact hK _ _ (Fr.refl _ _) hC (congrArg (Value.int .i64) (by have := HE.out; omega))
            · rw [if_neg (by decide)]; intro kq
              intro a W K hC hd hK
              have d70 : a.tmps[70]?.getD undef = .int .i64 (e : Nat) := hd 70 (by decide)
              refine wpOp_plain rfl rfl ?_
              have he := HP2.out
              clear HE HV2 HL2 HSET HX hcells
              rcases (show e = 0 ∨ e = 1 ∨ e = 2 ∨ e = 3 ∨ e = 4 ∨ e = 5 ∨ e = 6 ∨ e = 7 by omega) with rfl | rfl | rfl | rfl | rfl | rfl | rfl | rfl
              all_goals
                subst he
                go_wp2_with fail
                exact hK _ _ (Fr.refl _ _) hC (by first | rfl | (show _ = _; simp))
            · rw [if_neg (by decide)]; intro kq
              intro a W K hC hd hK
              have d66 : a.tmps[66]?.getD undef = .int .u8 xn := hd 66 (by decide)
              have d71 : a.tmps[71]?.getD undef = .int .u8 p2 := hd 71 (by decide)
              refine wpOp_plain rfl rfl ?_
              go_wp2_with fail
              exact hK _ _ (Fr.refl _ _) hC (by first | rfl | exact congrArg (Value.int .u8) hxor)
            · rw [if_neg (by decide)]; intro kq
              intro a W K hC hd hK
              have d60 : a.tmps[60]?.getD undef = .slice (some ⟨g, 0, none⟩) (n + 10) d := hd 60 (by decide)
              have d64 : a.tmps[64]?.getD undef = .int .i64 (j : Nat) := hd 64 (by decide)
              refine wpOp_plain rfl rfl ?_
              go_wp2_with fail
              exact hK _ _ (Fr.refl _ _) hC rfl
            · rw [if_pos (by decide)]
              intro a W K hC hd hK
              replace hC : (TurnF n2 g n d l l2 wr) 1 W := hC
              have d73 : a.tmps[73]?.getD undef = .pointer (some ⟨g, j, none⟩) := hd 73 (by decide)
              have d72 : a.tmps[72]?.getD undef = .int .u8 yn := hd 72 (by decide)
              have hcs := hcells W hC.2
              obtain ⟨hcs1, hcs2⟩ := hcs
              refine wpOp_plain rfl rfl ?_
              have hst := hC.2.stored j (.int .u8 (yn : Nat))
              have fst := fr_set1 W g j (.int .u8 (yn : Nat))
              go_wp2_with fail
              exact hK undef _ fst ⟨hC.1.then' fst, by show World.ownsRow _ _ _ _ _ _ (bcells l2); rw [HSET.out]; exact hst.1⟩ trivial
          · intro vs w9 fw9 cw9 hV
            clear hV
            simp only [putL, Act.put, Nat.reduceAdd, List.setIfInBounds_toArray, List.set_cons_zero, List.set_cons_succ]
            have hown9 : w9.ownsRow n2 5 1 (.slice (some ⟨g, 0, none⟩) (n + 10) d) (n + 10) (bcells l2) := cw9.2
            have htb9 := htb.fr fw9 (fun he => by unfold eqB at he; omega)
            have hf9 : Fr (upB w.heap.size) w w9 := hf.then' (fw9.mono fun x _ he => by unfold eqB at he; unfold upB; have := Z2.out; omega)
            clear cw9 fw9 hcells hown htb hf
            go_wp2_with fail
            go_roundw
            case rel => exact ⟨k + 1, l2, by omega, by go_num, HL2, HV2, hown9, htb9, hf9⟩
            case measure => simp [intOf]; omega
      · have : k = 32 := by omega
        subst this
        have hop := getF_calls wr p true (some ⟨g, 0, none⟩) (n + 10) d l htb (own_row hown) HL.out (own_capB hown).1 (own_capB hown).2 (fun a e _ he => by cases e; simp only [] at he; omega)
        obtain ⟨er, her, her0⟩ := frGet_turned (k := kd) (b := b) (l := l) (a := a1) (t := turn) (by rw [HL.out, HN.out]) (by rw [HV.out, Nat.mod_eq_of_lt (by simpa using htu)]) HTN.out htu (by rw [HL.out]; omega)
        rw [her] at hop
        have t17 : ((er : Int) != 0) = true := by rw [bne_iff_ne]; omega
        clear hown htb her
        go_wp2_with fail
        refine hop.mono ?_
        clear hop
        rintro e w9 ⟨B9, m9, d9, rfl, hm9, _, _, _, f9⟩
        have hm0 : m9 = 0 := hm9.out.symm
        subst hm0
        have HF : Hid (Fr noB w w9) := (hf.then' (f9.mono (T := upB w.heap.size) fun x _ he => by unfold eqB at he; unfold upB; omega)).none
        clear hf f9 hm9 her0
        go_wp2_with fail
        go_ret
        exact ⟨rfl, HF.out⟩
theorem frTurned_law (w : World) (a0 : Int) (w0 : (Lit.int .u8 a0).wf = true) (A : Option Addr) (n c : Nat) (b : List UInt8) (o : RowAt w A (bcells b) ∧ b.length = n ∧ n ≤ c ∧ c ≤ maxLen ∧ (A = none → n = 0 ∧ c = 0)) (a1 : Int) (w1 : (Lit.int .i64 a1).wf = true) (a2 : Int) (w2 : (Lit.int .u32 a2).wf = true) :
    Calls Try.prog 7 #[.int .u8 a0, .slice A n c, .int .i64 a1, .int .u32 a2] w (BoolPost w true) := by
  simp [Lit.wf, IntKind.min, IntKind.max, IntKind.bits, IntKind.signed] at w0 w1 w2
  obtain ⟨k, rfl⟩ := Int.eq_ofNat_of_zero_le w0.1
  obtain ⟨t, rfl⟩ := Int.eq_ofNat_of_zero_le w2.1
  exact frTurned_walk w k (by omega) A n c b a1 t w1.1 (by omega) (by omega) o.1 o.2.1 o.2.2.1 o.2.2.2.1 o.2.2.2.2
end Go.Proofs.Ytpkdcbfhacgklaa
