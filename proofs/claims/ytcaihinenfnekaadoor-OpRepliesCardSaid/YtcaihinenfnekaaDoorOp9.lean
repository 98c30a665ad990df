/- op.Read. -/
import Derived.Test.YtcaihinenfnekaaDoorOp8
namespace Go.Proofs.YtcaihinenfnekaaDoor
open Go.RowKit

def zeroOp : OpV := ⟨0, ⟨#[]⟩, ⟨#[]⟩, 0, 0⟩
def opRd (bs : List UInt8) : Rd × Nat := rNum ⟨bs, 0⟩ 1
def opIn (bs : List UInt8) : OpV × Rd := if (opRd bs).1.e = 0 then (signsL.getD (opRd bs).2 []).foldl rdSign (⟨(opRd bs).2, ⟨#[]⟩, ⟨#[]⟩, 0, 0⟩, (opRd bs).1) else (⟨(opRd bs).2, ⟨#[]⟩, ⟨#[]⟩, 0, 0⟩, (opRd bs).1)
/-- op.Read, as a function. -/
def opRead (bs : List UInt8) : OpV × Nat :=
  if 64 < bs.length then (zeroOp, 3) else if 17 ≤ (opRd bs).2 then (zeroOp, 4) else if rEnd (opIn bs).2 = 0 then ((opIn bs).1, 0) else (zeroOp, rEnd (opIn bs).2)
def OpEPost (w : World) (q : OpV × Nat) (e : Ending) (w' : World) : Prop := e = .returned (.tuple #[q.1.v, .int .i64 (q.2 : Nat)]) ∧ Fr noB w w'
theorem rdSigns_snoc (s : OpV × Rd) {z : List UInt8} {k : Nat} {c : UInt8} (hc : z[k]? = some c) : (z.take (k + 1)).foldl rdSign s = rdSign ((z.take k).foldl rdSign s) c := by
  rw [take_snoc' hc, List.foldl_append]; rfl
theorem fr_set5 (w : World) (b : Nat) (u0 u1 u2 u3 u4 : Value) : Fr (eqB b) w (((((w.setCell ⟨b, 0, none⟩ u0).setCell ⟨b, 1, none⟩ u1).setCell ⟨b, 2, none⟩ u2).setCell ⟨b, 3, none⟩ u3).setCell ⟨b, 4, none⟩ u4) :=
  ((((fr_set1 w b 0 u0).then' (fr_set1 _ b 1 u1)).then' (fr_set1 _ b 2 u2)).then' (fr_set1 _ b 3 u3)).then' (fr_set1 _ b 4 u4)

set_option maxRecDepth 100000 in
set_option maxHeartbeats 1600000 in
theorem opRead_calls (w : World) (A : Option Addr) (n c : Nat) (bs : List UInt8) (ht : SignsAt w) (hx : RowAt w A (bcells bs)) (hn : bs.length = n) (hB : A = none → n = 0 ∧ c = 0) :
    Calls Tryd.prog 42 #[.slice A n c] w (OpEPost w (opRead bs)) := by
  have hb0 : BlkAt (w.alloc (.cells #[.int .u8 0, .string ⟨#[]⟩, .string ⟨#[]⟩, .int .u8 0, .int .u8 0] 38)) w.heap.size 38 zeroOp.C := BlkAt.new _ _ _
  have f0 : Fr noB w (w.alloc (.cells #[.int .u8 0, .string ⟨#[]⟩, .string ⟨#[]⟩, .int .u8 0, .int .u8 0] 38)) := (Fr.refl noB w).alloc _
  have hz0 := al_size w (.cells #[.int .u8 0, .string ⟨#[]⟩, .string ⟨#[]⟩, .int .u8 0, .int .u8 0] 38)
  by_cases h64 : 64 < n
  · have d1 : decide ((64 : Int) < n) = true := decide_eq_true (by omega)
    have HV : Hid (opRead bs = (zeroOp, 3)) := by unfold Hid opRead; rw [if_pos (by omega)]
    clear hn h64
    go_enter Tryd.func42, Tryd.ntmps42
    go_wp2_with fail
    have hr : Tryd.f42.results = #[.cell 2 38, .tmp 3] := by kernel_rfl
    exact bodyPost_ret (v := .tuple #[zeroOp.v, .int .i64 3]) (by simp [results, hr, go_sem, zeroOp, OpV.v]) rfl ⟨by rw [HV.out]; rfl, f0⟩
  · have d1 : decide ((64 : Int) < n) = false := decide_eq_false (by omega)
    have hoc := of_calls (w.alloc (.cells #[.int .u8 0, .string ⟨#[]⟩, .string ⟨#[]⟩, .int .u8 0, .int .u8 0] 38)) A n c bs (hx.fr0 f0) hn hB (by omega)
    have HR : Hid (opRead bs = if 17 ≤ (opRd bs).2 then (zeroOp, 4) else if rEnd (opIn bs).2 = 0 then ((opIn bs).1, 0) else (zeroOp, rEnd (opIn bs).2)) := by
      show opRead bs = _
      conv => lhs; unfold opRead
      rw [if_neg (by omega)]
    clear hn h64 hx
    go_enter Tryd.func42, Tryd.ntmps42
    go_wp2_with fail
    refine hoc.mono ?_
    rintro e w1 ⟨p, rfl, hp1, hp2, h1, f1⟩
    have hi1 := h1.inn
    obtain ⟨S, hS, HSd⟩ : ∃ S : Nat → Prop, RdAt w1 S p ⟨bs, 0⟩ ∧ ∀ k, S k → w.heap.size < k ∧ k < w1.heap.size := ⟨_, hi1, fun k hk => by have := hk.1; unfold upB at this; omega⟩
    have hb1 := hb0.fr f1 id
    have F1 := f0.then' f1
    clear h1 hi1 f1 f0 hb0 hoc
    go_wp2_with fail
    refine (byteRd_calls w1 S p ⟨bs, 0⟩ hS).mono ?_
    have hk2 := rNum_lt ⟨bs, 0⟩ 1
    have HO : Hid (opRd bs = rNum ⟨bs, 0⟩ 1) := rfl
    generalize rNum ⟨bs, 0⟩ 1 = q at *
    obtain ⟨r, k⟩ := q
    simp only [] at *
    rintro e w2 ⟨rfl, h2, f2⟩
    have hb2 := hb1.fr f2 (fun h => by have := HSd _ h; omega)
    have F2 : Fr noB w w2 := F1.trans f2 (fun i hi h => by have := HSd _ h; omega)
    have hs2 := f2.size
    clear hS hb1 F1 f2
    have hbo : BlkAt (w2.alloc (.cells #[.int .u8 k, .string ⟨#[]⟩, .string ⟨#[]⟩, .int .u8 0, .int .u8 0] 38)) w2.heap.size 38 (⟨k, ⟨#[]⟩, ⟨#[]⟩, 0, 0⟩ : OpV).C := BlkAt.new _ _ _
    have hb3 := hb2.al (.cells #[.int .u8 k, .string ⟨#[]⟩, .string ⟨#[]⟩, .int .u8 0, .int .u8 0] 38)
    have h3 := h2.fr ((Fr.refl noB w2).alloc (.cells #[.int .u8 k, .string ⟨#[]⟩, .string ⟨#[]⟩, .int .u8 0, .int .u8 0] 38)) (fun _ _ _ => id)
    have F3 := F2.alloc (.cells #[.int .u8 k, .string ⟨#[]⟩, .string ⟨#[]⟩, .int .u8 0, .int .u8 0] 38)
    have hs3 := al_size w2 (.cells #[.int .u8 k, .string ⟨#[]⟩, .string ⟨#[]⟩, .int .u8 0, .int .u8 0] 38)
    obtain ⟨po, hpo⟩ : ∃ po, w2.heap.size = po := ⟨_, rfl⟩
    obtain ⟨y0, y1, y2, y3, y4, yf⟩ := BlkAt.c5 hb3
    clear hb2 h2 F2
    by_cases h17 : 17 ≤ k
    · have d2 : decide ((17 : Int) ≤ k) = true := decide_eq_true (by omega)
      rw [HO.out, if_pos h17] at HR
      clear h17 HO
      go_wp2_with fail
      generalize (w2.alloc (.cells #[.int .u8 k, .string ⟨#[]⟩, .string ⟨#[]⟩, .int .u8 0, .int .u8 0] 38)) = w3 at *
      have hr : Tryd.f42.results = #[.cell 2 38, .tmp 3] := by kernel_rfl
      exact bodyPost_ret (v := .tuple #[zeroOp.v, .int .i64 4]) (by simp [results, hr, go_sem, zeroOp, OpV.v, y0, y1, y2, y3, y4]) rfl ⟨by rw [HR.out]; rfl, F3.trans (fr_set5 w3 w.heap.size _ _ _ _ _) (fun i hi h => by unfold eqB at h; omega)⟩
    · have d2 : decide ((17 : Int) ≤ k) = false := decide_eq_false (by omega)
      rw [HO.out, if_neg h17] at HR
      obtain ⟨z, hz⟩ : ∃ z, signsL[k]? = some z := ⟨_, List.getElem?_eq_getElem (by simp [signsL]; omega)⟩
      have hok := signs_ok z (List.mem_of_getElem? hz)
      have hz2 := signs_two z (List.mem_of_getElem? hz)
      have hkb : 0 ≤ (k : Int) ∧ (k : Int) < 17 := ⟨by omega, by omega⟩
      have HI : Hid (opIn bs = if r.e = 0 then z.foldl rdSign (⟨k, ⟨#[]⟩, ⟨#[]⟩, 0, 0⟩, r) else (⟨k, ⟨#[]⟩, ⟨#[]⟩, 0, 0⟩, r)) := by
        show opIn bs = _
        unfold opIn; rw [HO.out, List.getD_eq_getElem?_getD, hz]; rfl
      have cz := F3.cell (ht k _ hz) id
      have hE := errRd_calls _ S p r h3
      have x0 := hbo.cell (k := 0) (v := .int .u8 k) rfl
      have hpS : ¬ S po := fun h => by have := HSd _ h; omega
      have hpw : w.heap.size < po := by have := F3.size; omega
      rw [hpo] at hbo hs3 x0
      have HZ := hid hz
      clear h17 HO hk2 hz
      go_wp2_with fail
      generalize (w2.alloc (.cells #[.int .u8 k, .string ⟨#[]⟩, .string ⟨#[]⟩, .int .u8 0, .int .u8 0] 38)) = w3 at *
      have hr : Hid (Tryd.f42.results = #[.cell 2 38, .tmp 3]) := by unfold Hid; kernel_rfl
      by_cases he : r.e = 0
      · rw [HI.out, if_pos he] at HR
        clear HI
        rw [he] at hE
        refine hE.mono ?_
        rintro e w4 ⟨rfl, rfl⟩
        have hcv := Tryd.fromStr w3 (mkS z)
        have hwf := bytesW_fr w3 (mkS z)
        have hwr := bytesW_row w3 (mkS z)
        rw [mkS_data] at hwr
        rw [mkS_size] at hcv
        generalize Lib.bytesWorld w3 5 (mkS z) = wc at *
        have had : ¬ orB S po (⟨w3.heap.size, 0, none⟩ : Addr).block := by
          rintro (h | h)
          · have := HSd _ h; simp only [] at this; omega
          · simp only [] at h; omega
        generalize (⟨w3.heap.size, 0, none⟩ : Addr) = ad at *
        have FC := F3.then' hwf
        have hbc := hbo.fr hwf id
        have hrc := h3.fr hwf (fun _ _ _ => id)
        have hb0 := hb3.fr hwf id
        obtain ⟨m, hm⟩ : ∃ m, z.length = m := ⟨_, rfl⟩
        rw [hm] at hcv hz2
        have HM := hid hm
        have hs4 := hwf.size
        clear hm hE hbo h3 hb3 hwf F3 he y0 y1 y2 y3 y4 yf hpo HZ hB ht
        go_wp2_with fail
        have HRW := hid hwr
        clear hwr hcv cz x0
        go_loopw [32] (fun i wr => ∃ j : Nat, j ≤ m ∧ i = .int .i64 j ∧ BlkAt wr po 38 ((z.take j).foldl rdSign (⟨k, ⟨#[]⟩, ⟨#[]⟩, 0, 0⟩, r)).1.C ∧ RdAt wr S p ((z.take j).foldl rdSign (⟨k, ⟨#[]⟩, ⟨#[]⟩, 0, 0⟩, r)).2 ∧ BlkAt wr w.heap.size 38 zeroOp.C ∧ Fr noB w wr ∧ RowAt wr (some ad) (bcells z)) (fun i _ => m - (intOf i).toNat)
        case atStart => exact ⟨0, Nat.zero_le _, rfl, hbc, hrc, hb0, FC, HRW.out⟩
        case round =>
          clear hbc hrc hb0 FC HRW
          obtain ⟨j, hj, rfl, hb1, hr1, hz1, hf, hrow⟩ := hrel
          by_cases hjm : j < m
          · obtain ⟨c, hc⟩ : ∃ c, z[j]? = some c := ⟨_, List.getElem?_eq_getElem (by rw [HM.out]; exact hjm)⟩
            have hcx : wr.cell? (ad.add j) = some (.int .u8 c.toNat) := hrow.cell (by unfold bcells; rw [List.getElem?_map, hc]; rfl)
            have HS := hid (rdSigns_snoc (⟨k, ⟨#[]⟩, ⟨#[]⟩, 0, 0⟩, r) hc)
            have hc4 := hok c (List.mem_of_getElem? hc)
            generalize (z.take j).foldl rdSign (⟨k, ⟨#[]⟩, ⟨#[]⟩, 0, 0⟩, r) = s at *
            obtain ⟨o', r'⟩ := s
            have HN := hid hc
            clear hc
            go_wp2_with fail
            refine (opread_calls wr S po p o' r' c hb1 hr1 hpS hc4).mono ?_
            rintro e w5 ⟨rfl, hb5, hr5, f5⟩
            have hz5 := hz1.fr f5 (by
              rintro (h | h)
              · have := HSd _ h; omega
              · omega)
            have F5 := hf.trans f5 (fun i hi h => by
              rcases h with h | h
              · have := HSd _ h; omega
              · omega)
            have hrow5 := hrow.fr f5 (fun a e _ _ => by cases e; exact had)
            clear f5 hb1 hr1 hz1 hf hrow hcx
            go_wp2_with fail
            go_roundw
            case rel => exact ⟨j + 1, by omega, by go_num, by rw [HS.out]; exact hb5, by rw [HS.out]; exact hr5, hz5, F5, hrow5⟩
            case measure => simp [intOf]; omega
          · have : j = m := by omega
            subst this
            rw [List.take_of_length_le (by rw [HM.out]; exact Nat.le_refl _)] at hb1 hr1
            generalize z.foldl rdSign (⟨k, ⟨#[]⟩, ⟨#[]⟩, 0, 0⟩, r) = s at *
            obtain ⟨o', r'⟩ := s
            simp only [] at hb1 hr1 HR
            clear hrow
            have hE := endRd_calls wr S p r' hr1
            by_cases h0 : rEnd r' = 0
            · rw [if_pos h0] at HR
              rw [h0] at hE
              obtain ⟨q0, q1, q2, q3, q4, qf⟩ := BlkAt.c5 hb1
              obtain ⟨y0, y1, y2, y3, y4, yf⟩ := BlkAt.c5 hz1
              have FF := hf.trans (fr_set5 wr w.heap.size (.int .u8 o'.k) (.string o'.a) (.string o'.b) (.int .u8 o'.n) (.int .u8 o'.r)) (fun i hi h => by unfold eqB at h; omega)
              clear h0
              go_wp2_with fail
              refine hE.mono ?_
              rintro e w6 ⟨rfl, rfl⟩
              go_wp2_with fail
              have hr := hr.out
              exact bodyPost_ret (v := .tuple #[o'.v, .int .i64 0]) (by simp [results, hr, go_sem, OpV.v, y0, y1, y2, y3, y4]) rfl ⟨by rw [HR.out] <;> rfl, FF⟩
            · rw [if_neg h0] at HR
              generalize rEnd r' = re at *
              have t1 : ((re : Int) != 0) = true := by rw [bne_iff_ne]; omega
              obtain ⟨y0, y1, y2, y3, y4, yf⟩ := BlkAt.c5 hz1
              have FF := hf.trans (fr_set5 wr w.heap.size (.int .u8 0) (.string ⟨#[]⟩) (.string ⟨#[]⟩) (.int .u8 0) (.int .u8 0)) (fun i hi h => by unfold eqB at h; omega)
              clear h0
              go_wp2_with fail
              refine hE.mono ?_
              rintro e w6 ⟨rfl, rfl⟩
              go_wp2_with fail
              have hr := hr.out
              exact bodyPost_ret (v := .tuple #[zeroOp.v, .int .i64 re]) (by simp [results, hr, go_sem, zeroOp, OpV.v, y0, y1, y2, y3, y4]) rfl ⟨by rw [HR.out] <;> rfl, FF⟩
      · rw [HI.out, if_neg he] at HR
        simp only [] at HR
        clear HI
        have t1 : ((r.e : Int) == 0) = false := by rw [beq_eq_false_iff_ne]; omega
        generalize hre : (r.e : Int) = re1 at *
        refine hE.mono ?_
        rintro e w4 ⟨rfl, rfl⟩
        clear hE cz hre he x0
        obtain ⟨o', ho'⟩ : ∃ o' : OpV, (⟨k, ⟨#[]⟩, ⟨#[]⟩, 0, 0⟩ : OpV) = o' := ⟨_, rfl⟩
        rw [ho'] at hbo HR
        have hE := endRd_calls w3 S p r h3
        by_cases h0 : rEnd r = 0
        · rw [if_pos h0] at HR
          rw [h0] at hE
          obtain ⟨q0, q1, q2, q3, q4, qf⟩ := BlkAt.c5 hbo
          obtain ⟨y0, y1, y2, y3, y4, yf⟩ := BlkAt.c5 hb3
          have FF := F3.trans (fr_set5 w3 w.heap.size (.int .u8 o'.k) (.string o'.a) (.string o'.b) (.int .u8 o'.n) (.int .u8 o'.r)) (fun i hi h => by unfold eqB at h; omega)
          clear h0
          go_wp2_with fail
          refine hE.mono ?_
          rintro e w6 ⟨rfl, rfl⟩
          go_wp2_with fail
          have hr := hr.out
          exact bodyPost_ret (v := .tuple #[o'.v, .int .i64 0]) (by simp [results, hr, go_sem, OpV.v, y0, y1, y2, y3, y4]) rfl ⟨by rw [HR.out] <;> rfl, FF⟩
        · rw [if_neg h0] at HR
          generalize rEnd r = re at *
          have t1 : ((re : Int) != 0) = true := by rw [bne_iff_ne]; omega
          obtain ⟨y0, y1, y2, y3, y4, yf⟩ := BlkAt.c5 hb3
          have FF := F3.trans (fr_set5 w3 w.heap.size (.int .u8 0) (.string ⟨#[]⟩) (.string ⟨#[]⟩) (.int .u8 0) (.int .u8 0)) (fun i hi h => by unfold eqB at h; omega)
          clear h0
          go_wp2_with fail
          refine hE.mono ?_
          rintro e w6 ⟨rfl, rfl⟩
          go_wp2_with fail
          have hr := hr.out
          exact bodyPost_ret (v := .tuple #[zeroOp.v, .int .i64 re]) (by simp [results, hr, go_sem, zeroOp, OpV.v, y0, y1, y2, y3, y4]) rfl ⟨by rw [HR.out] <;> rfl, FF⟩
end Go.Proofs.YtcaihinenfnekaaDoor
