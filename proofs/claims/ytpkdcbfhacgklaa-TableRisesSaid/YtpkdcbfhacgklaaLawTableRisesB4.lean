/- What the row leans on, part 4: contracts and plain laws. -/
import Derived.Test.YtpkdcbfhacgklaaProg
import Derived.WalkKit
import Derived.Maps.AppendAt
import Derived.Lib.AppendStr
import Derived.Laws.AppendOwnNone
import Derived.Deep.Draws
import Derived.SliceStrings
import Derived.Deep.Slices
import Derived.WalkSpells
import Derived.Laws.IdiomStrings
import Derived.Lib.ConvBytes
import Derived.Laws.Bits64b
import Derived.Deep.Cut
import Derived.Lib.LaidTab
import Derived.LaidSub
import Derived.Deep.QuietTactic
import Derived.BigQuiet
import Derived.Lib.OthersKept
import Derived.Laws.RangeAny
import Derived.LaidEqlPtr
import Derived.Laws.StructEq
import Derived.Deep.RegionHeld3
import Derived.Laws.MakeOwn
import Derived.Deep.MidRow
import Derived.Laws.ResultCell
import Derived.Deep.Light
import Derived.Maps.OwnOps
import Derived.Maps.Views
import Derived.WideKeyPair
import Derived.WideKeyEntry
import Derived.Test.YtpkdcbfhacgklaaLawTableRisesB3
/- interrexlaw15.TableRises: the walk. -/
namespace Go.Proofs.Ytpkdcbfhacgklaa
open Go.RowKit

/-- Numbers' blocks: the table's. -/
def RiU (p1 pm : Nat) : Nat → Prop := fun k => p1 ≤ k ∧ k ≠ pm
theorem sameSelf (e : Nat) (l : List ByteArray) : (decide (e = e) && (decide (e ≠ 0) || decide (keptL e l = l))) = true := by
  unfold keptL; by_cases h : e = 0 <;> simp [h]
def RiQ (p1 pm q : Nat) : Nat → Prop := fun k => RiU p1 pm k ∧ k ≠ q
set_option maxRecDepth 100000 in
set_option maxHeartbeats 3200000 in
theorem rises_walk (w : World) (A : Option Addr) (c n : Nat) (L : List ActT) (hL : ActsAt w A L) (HN : Hid (L.length = n)) (hn : n ≤ 9223372036854775807) (HO : Hid (∀ a ∈ L, a.ok)) :
    Calls Try.prog 3 #[.slice A n c] w (BoolPost w true) := by
  have hf1 := fun W hx => few15_calls W A c n L hx HN hn HO.out
  by_cases hfew : fewT L = true
  · have e1 := hfew
    have HS : Hid (∀ a ∈ L, a.small = true) := (fewT_iff e1).1
    have hn40 : n ≤ 40 := by have := (fewT_iff e1).2; rw [HN.out] at this; exact this
    rw [e1] at hf1
    clear e1 hfew
    go_enter Try.func3, Try.ntmps3
    go_wp2_with fail
    refine (lives15_calls w).mono ?_
    rintro e w1 ⟨rfl, f1⟩
    go_wp2_with fail
    refine (hf1 w1 (hL.fr0 f1)).mono ?_
    rintro e w2 ⟨rfl, f2⟩
    have F2 := f1.then' f2
    clear f1 f2 hf1
    go_wp2_with fail
    refine (newTA_calls w2).mono ?_
    rintro e w3 ⟨rfl, ht3, f3⟩
    have hp1 : w.heap.size ≤ w2.heap.size := F2.size
    have hlt3 := ht3.lt
    have F3 := F2.then' f3
    have hm4 := MapT.new w3
    have f4 : Fr noB w3 (w3.alloc (.map #[] 0)) := (Fr.refl noB w3).alloc _
    have ht4 : TblA (w3.alloc (.map #[] 0)) (RiU w2.heap.size w3.heap.size) w2.heap.size zeroT := (ht3.mono (V := RiU w2.heap.size w3.heap.size) (fun k hk h => ⟨h, by omega⟩)).fr0 f4
    have F4 := F3.then' f4
    have hs4 := al_size w3 (.map #[] 0)
    clear ht3 f3 f4 F3
    have hmm := @run_makeMap Try.prog
    go_upto_region 5 with fail
    generalize (w3.alloc (.map #[] 0)) = w4 at *
    generalize w2.heap.size = p1 at *
    generalize w3.heap.size = pm at *
    go_wp2_with fail
    go_loopw [24] (fun i wr => ∃ (k : Nat) (f : Nat → Nat → Nat), k ≤ n ∧ i = .int .i64 k ∧ TblA wr (RiU p1 pm) p1 (foldA zeroT (L.take k)) ∧ MapT wr pm k f ∧ RiseI (foldA zeroT (L.take k)) f ∧ Fr noB w wr) (fun i _ => n - (intOf i).toNat)
    case atStart => exact ⟨0, fun _ _ => 0, Nat.zero_le _, rfl, by simpa [foldA] using ht4, hm4, fun _ _ h => by simp at h, F4⟩
    case round =>
      clear ht4 hm4 F4
      obtain ⟨k, f, hk, rfl, ht, hm, hri, hf⟩ := hrel
      by_cases hkn : k < n
      · obtain ⟨u, hit⟩ : ∃ u, L[k]? = some u := ⟨_, List.getElem?_eq_getElem (by rw [HN.out]; exact hkn)⟩
        obtain ⟨ad, rfl⟩ := hL.row.some_flat (by simp [ActT.C]) hit
        obtain ⟨c0, c1, c2, c3, c4⟩ := ((hL.row.seg 5 (fun _ => rfl) hit).fr hf id).c5
        have HT := hid (foldA_snoc zeroT hit)
        have hput := fun W U t => act_put (W := W) (U := U) (p := p1) (t := t) hL HO.out HS.out hit hp1
        have hrep := fun W => reply15_calls W u
        have huk := HO.out u (List.mem_of_getElem? hit)
        have husub := hL.sub u (List.mem_of_getElem? hit)
        generalize foldA zeroT (L.take k) = t at *
        have hb : BlkAt (wr.alloc (.cells #[.int .u8 u.k, .int .u8 u.cl, .int .u64 u.num, .int .u8 u.e, .slice u.A u.n u.c] 31)) wr.heap.size 31 #[.int .u8 u.k, .int .u8 u.cl, .int .u64 u.num, .int .u8 u.e, .slice u.A u.n u.c] := BlkAt.new _ _ _
        have F5 := hf.alloc (.cells #[.int .u8 u.k, .int .u8 u.cl, .int .u64 u.num, .int .u8 u.e, .slice u.A u.n u.c] 31)
        have ht5 := ht.fr0 ((Fr.refl noB wr).alloc (.cells #[.int .u8 u.k, .int .u8 u.cl, .int .u64 u.num, .int .u8 u.e, .slice u.A u.n u.c] 31))
        have hm5 := hm.fr ((Fr.refl noB wr).alloc (.cells #[.int .u8 u.k, .int .u8 u.cl, .int .u64 u.num, .int .u8 u.e, .slice u.A u.n u.c] 31)) id
        have hs5 := al_size wr (.cells #[.int .u8 u.k, .int .u8 u.cl, .int .u64 u.num, .int .u8 u.e, .slice u.A u.n u.c] 31)
        have hs := hf.size
        obtain ⟨p5, hp5⟩ : ∃ p5, wr.heap.size = p5 := ⟨_, rfl⟩
        rw [hp5] at hb hs5 hs
        have HIT := hid hit
        have hlt := ht.lt
        have hltm := hm.lt
        rw [hp5] at hlt hltm
        clear ht hm hf hit
        go_upto_region 8 with fail
        generalize (wr.alloc (.cells #[.int .u8 u.k, .int .u8 u.cl, .int .u64 u.num, .int .u8 u.e, .slice u.A u.n u.c] 31)) = wa at *
        clear c0 c1 c2 c3 c4
        have hq : BlkAt (wa.alloc (.cells #[.int .u64 0, .int .u64 0, .int .u64 0, .int .u64 0, .int .u64 0, .int .u64 0, .int .u64 0, .int .u64 0] 32)) wa.heap.size 32 #[.int .u64 0, .int .u64 0, .int .u64 0, .int .u64 0, .int .u64 0, .int .u64 0, .int .u64 0, .int .u64 0] := BlkAt.new _ _ _
        have f6 : Fr noB wa (wa.alloc (.cells #[.int .u64 0, .int .u64 0, .int .u64 0, .int .u64 0, .int .u64 0, .int .u64 0, .int .u64 0, .int .u64 0] 32)) := (Fr.refl noB wa).alloc _
        have hb6 := hb.fr f6 id
        have ht6 := ht5.fr0 f6
        have hm6 := hm5.fr f6 id
        have F6 := F5.then' f6
        have hs6 := al_size wa (.cells #[.int .u64 0, .int .u64 0, .int .u64 0, .int .u64 0, .int .u64 0, .int .u64 0, .int .u64 0, .int .u64 0] 32)
        have hltA : p5 < wa.heap.size := hb.lt
        have ht7 : TblA (wa.alloc (.cells #[.int .u64 0, .int .u64 0, .int .u64 0, .int .u64 0, .int .u64 0, .int .u64 0, .int .u64 0, .int .u64 0] 32)) (RiQ p1 pm wa.heap.size) p1 t := (ht5.mono (V := RiQ p1 pm wa.heap.size) (fun k hk h => ⟨h, by omega⟩)).fr0 f6
        clear hb ht5 hm5 F5 f6 ht6
        obtain ⟨q, hq0⟩ : ∃ q, wa.heap.size = q := ⟨_, rfl⟩
        rw [hq0] at hq ht7 hs6 hltA hs5
        have HQ5 := hid hs5
        clear hs5
        go_upto_region 9 with fail
        generalize (wa.alloc (.cells #[.int .u64 0, .int .u64 0, .int .u64 0, .int .u64 0, .int .u64 0, .int .u64 0, .int .u64 0, .int .u64 0] 32)) = wb at *
        clear hq0
        rw [← wasC_zero t] at hq
        go_wp2_with fail
        go_loopw [28] (fun i wr => ∃ j : Nat, j ≤ 8 ∧ i = .int .u8 j ∧ BlkAt wr q 32 (wasC t j) ∧ Fr (eqB q) wb wr) (fun i _ => 8 - (intOf i).toNat)
        case atStart => exact ⟨0, by omega, rfl, hq, Fr.refl _ _⟩
        case round =>
          clear hq
          obtain ⟨j, hj, rfl, hq, hfx⟩ := hrel
          by_cases hj8 : j < 8
          · have htx : TblA wr (RiQ p1 pm q) p1 t := ht7.fr hfx (fun k _ h h2 => h.2 h2)
            have hl1 := lastA_calls wr (RiQ p1 pm q) p1 t j htx
            have hjw : IntKind.u8.wrap ((j : Int) + 1) = (j + 1 : Nat) := by rw [IntKind.wrap_u8]; omega
            have hg := hq.cell (wasC_get t j j hj8)
            have hfz := hq.free j
            have hs1 := fr_set1 wr q j (.int .u64 (lastA t j : Nat))
            have hst := hq.set j (.int .u64 (lastA t j : Nat))
            rw [wasC_set t j hj8] at hst
            have hfx2 := hfx.then' hs1
            have hjb : 0 ≤ (j : Int) ∧ (j : Int) < 8 := ⟨by omega, by omega⟩
            clear hq hfx htx hs1
            generalize lastA t j = x at *
            go_wp2_with fail
            refine hl1.mono ?_
            rintro e w9 ⟨rfl, rfl⟩
            go_wp2_with fail
            go_roundw
            case rel => exact ⟨j + 1, by omega, by go_num, hst, hfx2⟩
            case measure => simp [intOf]; omega
          · have hj2 : j = 8 := by omega
            subst hj2
            have ht8 := ht7.fr hfx (fun k _ h h2 => h.2 h2)
            have hm8 := hm6.fr hfx (by unfold eqB; omega)
            have hb8 := hb6.fr hfx (by unfold eqB; omega)
            have F8 : Fr noB w wr := F6.trans hfx (fun i hi h => by unfold eqB at h; omega)
            have hltq := hq.lt
            have htl := ht8.len
            have hok := @putA_ok t u.cl u.num (u.e % 19) u.l htl
            have hla := fun c => @putA_last t u.cl u.num (u.e % 19) u.l htl c
            have hri2 := hri.put (i := u.cl) (num := u.num) (e := u.e % 19) (l := u.l) htl
            have hrt := fun h => hri.took (i := u.cl) (num := u.num) (e := u.e % 19) (l := u.l) (c := 1) htl h
            have hfn := hri.new (i := u.cl) (num := u.num) (e := u.e % 19) (l := u.l) htl
            have hput8 := fun W F h1 h2 => hput W (RiQ p1 pm q) t F h1 h2
            have hsz : p5 < wr.heap.size ∧ p1 < wr.heap.size ∧ pm < wr.heap.size := by omega
            clear ht7 hm6 hb6 F6 hfx hput
            generalize hpa : putA t u.cl u.num (u.e % 19) u.l = pa at *
            obtain ⟨t', er⟩ := pa
            simp only [] at hok hla hri2 hrt hfn hput8
            have HPA := hid hpa
            clear hpa
            go_wp2_with fail
            apply wp_region_calm (R := Fr (eqB p1)) (C := fun q' W => Fr (eqB p1) wr W ∧ BlkAt W p5 31 #[.int .u8 u.k, .int .u8 u.cl, .int .u64 u.num, .int .u8 u.e, .slice u.A u.n u.c] ∧ PutTC (RiQ p1 pm q) p1 t t' q' W) [false, false, false, false, false, false, false, true, false]
              [eqv _, eqv _, eqv _, eqv _, eqv _, eqv _, eqv _, eqv _, eqv _]
              (by kernel_rfl) (by kernel_rfl) (fun _ _ _ h1 h2 => h1.then' h2) ((Fr.refl _ _).drew) ⟨(Fr.refl _ _).drew, hb8, ht8.fr0 ((Fr.refl noB _).drew)⟩ (by kernel_rfl)
            · refine ⟨?_, ?_, ?_, ?_, ?_, ?_, ?_, ?_, ?_, trivial⟩
              · rw [if_neg (by decide)]; intro kq
                exact calm_mv 3 rfl rfl (Or.inl rfl) (Fr.refl _) (by decide) fun v w hd => hd
              · rw [if_neg (by decide)]; intro kq
                intro a W K hC hd hK
                have d6 : a.tmps[6]?.getD undef = .pointer (some ⟨p5, 0, none⟩) := hd 6 (by decide)
                refine wpOp_plain rfl rfl ?_
                obtain ⟨x0, x1, x2, x3, x4, xf⟩ := BlkAt.c5 hC.2.1
                go_wp2_with fail
                exact hK _ _ (Fr.refl _ _) hC rfl
              · rw [if_neg (by decide)]; intro kq
                intro a W K hC hd hK
                have d38 : _ = _ := hd 38 (by decide)
                refine wpOp_plain rfl rfl ?_
                obtain ⟨x0, x1, x2, x3, x4, xf⟩ := BlkAt.c5 hC.2.1
                go_wp2_with fail
                exact hK _ _ (Fr.refl _ _) hC rfl
              · rw [if_neg (by decide)]; intro kq
                intro a W K hC hd hK
                have d6 : a.tmps[6]?.getD undef = .pointer (some ⟨p5, 0, none⟩) := hd 6 (by decide)
                refine wpOp_plain rfl rfl ?_
                obtain ⟨x0, x1, x2, x3, x4, xf⟩ := BlkAt.c5 hC.2.1
                go_wp2_with fail
                exact hK _ _ (Fr.refl _ _) hC rfl
              · rw [if_neg (by decide)]; intro kq
                intro a W K hC hd hK
                have d40 : _ = _ := hd 40 (by decide)
                refine wpOp_plain rfl rfl ?_
                obtain ⟨x0, x1, x2, x3, x4, xf⟩ := BlkAt.c5 hC.2.1
                go_wp2_with fail
                exact hK _ _ (Fr.refl _ _) hC rfl
              · rw [if_neg (by decide)]; intro kq
                intro a W K hC hd hK
                have d6 : a.tmps[6]?.getD undef = .pointer (some ⟨p5, 0, none⟩) := hd 6 (by decide)
                refine wpOp_plain rfl rfl ?_
                obtain ⟨x0, x1, x2, x3, x4, xf⟩ := BlkAt.c5 hC.2.1
                go_wp2_with fail
                exact hK _ _ (Fr.refl _ _) hC rfl
              · rw [if_neg (by decide)]; intro kq
                intro a W K hC hd hK
                have d42 : _ = _ := hd 42 (by decide)
                refine wpOp_plain rfl rfl ?_
                obtain ⟨x0, x1, x2, x3, x4, xf⟩ := BlkAt.c5 hC.2.1
                go_wp2_with fail
                refine (hrep W).mono ?_
                rintro e9 w9 ⟨rfl, f9⟩
                exact hK _ _ (f9.mono fun _ _ h => h.elim) ⟨hC.1.then' (f9.mono fun _ _ h => h.elim), hC.2.1.fr f9 id, hC.2.2.fr0 f9⟩ rfl
              · rw [if_pos (by decide)]
                intro a W K hC hd hK
                replace hC : (fun q' W => Fr (eqB p1) wr W ∧ BlkAt W p5 31 #[.int .u8 u.k, .int .u8 u.cl, .int .u64 u.num, .int .u8 u.e, .slice u.A u.n u.c] ∧ PutTC (RiQ p1 pm q) p1 t t' q' W) 0 W := hC
                have d37 : _ = _ := hd 37 (by decide)
                have d39 : _ = _ := hd 39 (by decide)
                have d41 : _ = _ := hd 41 (by decide)
                have d43 : _ = _ := hd 43 (by decide)
                refine wpOp_plain rfl rfl ?_
                obtain ⟨x0, x1, x2, x3, x4, xf⟩ := BlkAt.c5 hC.2.1
                go_wp2_with fail
                refine (hput8 W (F8.trans hC.1 (fun i hi h => by unfold eqB at h; omega)) (fun j hj => by have := hC.1.size; exact ⟨⟨by omega, by omega⟩, by omega⟩) hC.2.2).mono ?_
                rintro e9 w9 ⟨rfl, h9, f9⟩
                exact hK _ _ f9 ⟨hC.1.then' f9, hC.2.1.fr f9 (by unfold eqB; omega), h9⟩ rfl
              · rw [if_neg (by decide)]; intro kq
                exact calm_mv 44 rfl rfl (Or.inr rfl) (Fr.refl _) (by decide) fun v w hd => hd
            · intro vs w9 fw9 cw9 hV
              have v37 : vs 0 = _ := hV 0 _ _ rfl rfl (by decide)
              have v38 : vs 1 = _ := hV 1 _ _ rfl rfl (by decide)
              have v39 : vs 2 = _ := hV 2 _ _ rfl rfl (by decide)
              have v40 : vs 3 = _ := hV 3 _ _ rfl rfl (by decide)
              have v41 : vs 4 = _ := hV 4 _ _ rfl rfl (by decide)
              have v42 : vs 5 = _ := hV 5 _ _ rfl rfl (by decide)
              have v43 : vs 6 = _ := hV 6 _ _ rfl rfl (by decide)
              have v44 : vs 7 = _ := hV 7 _ _ rfl rfl (by decide)
              have v9 : vs 8 = _ := hV 8 _ _ rfl rfl (by decide)
              clear hV
              simp only [putL, Act.put, Nat.reduceAdd, List.setIfInBounds_toArray, List.set_cons_zero, List.set_cons_succ, v37, v38, v39, v40, v41, v42, v43, v44, v9]
              have ht9 : TblA w9 (RiQ p1 pm q) p1 t' := cw9.2.2
              have hb9 := cw9.2.1
              have hq9 := hq.fr fw9 (by unfold eqB; omega)
              have hm9 := hm8.fr fw9 (by unfold eqB; omega)
              have F9 := F8.trans fw9 (fun i hi h => by unfold eqB at h; omega)
              have hs9 := fw9.size
              clear cw9 hput8 hb8 ht8 hm8 hq F8 fw9
              by_cases he : er = 0
              · obtain ⟨hcl8, hlt0, hn40b, hlast', hrep', hjud⟩ := hok he
                have h0 := hfn he
                have hrt' := hrt he
                subst he
                have hcb : u.cl < 18446744073709551616 := by omega
                have hnb := huk.num
                have hwc : IntKind.u64.wrap (u.cl : Int) = u.cl := by rw [IntKind.wrap_u64]; omega
                have hk10 : BlkAt (w9.alloc (.cells #[.int .u64 u.cl, .int .u64 u.num] 39)) w9.heap.size 39 #[.int .u64 u.cl, .int .u64 u.num] := BlkAt.new _ _ _
                have f10 : Fr noB w9 (w9.alloc (.cells #[.int .u64 u.cl, .int .u64 u.num] 39)) := (Fr.refl noB w9).alloc _
                have ht10 := ht9.fr0 f10
                have hb10 := hb9.fr f10 id
                have hq10 := hq9.fr f10 id
                have hm10 := hm9.fr f10 id
                have F10 := F9.then' f10
                have hs10 := al_size w9 (.cells #[.int .u64 u.cl, .int .u64 u.num] 39)
                obtain ⟨x0, x1, x2, x3, x4, xf⟩ := BlkAt.c5 hb9
                obtain ⟨pk, hpk⟩ : ∃ pk, w9.heap.size = pk := ⟨_, rfl⟩
                rw [hpk] at hk10 hs10 hs9
                have hpmk : pm ≠ pk := by omega
                clear ht9 hb9 hq9 hm9 F9 f10 hok hfn hrt
                go_upto_region 17 with fail
                generalize (w9.alloc (.cells #[.int .u64 u.cl, .int .u64 u.num] 39)) = w10 at *
                clear x0 x1 x2 x3 x4 xf
                go_wp2_with fail
                apply H.wp_region_calmL (R := FrM pm (k + 1) f) (C := fun q' ν W => Fr (eqB pm) w10 W ∧ BlkAt W pk 39 #[.int .u64 u.cl, .int .u64 u.num] ∧ TakeC pm k f u.cl u.num q' (ν 57) (ν 58) W) [false, false, false, false, true, true, true] [0, 0, 0, 0, 0, 1, 2]
                  [eqv _, eqv _, CntV pm (k + 1) f 0, CntV pm (k + 1) f 1, AnyM pm (k + 1) f, AnyM pm (k + 1) f, AnyM pm (k + 1) f]
                  (by kernel_rfl) (by kernel_rfl) (fun _ _ _ h1 h2 => h1.then' h2) (FrM.drew _ _ _ _) ⟨(Fr.refl _ _).drew, hk10, hm10.same rfl⟩ (by kernel_rfl)
                · refine ⟨?_, ?_, ?_, ?_, ?_, ?_, ?_, trivial⟩
                  · rw [if_neg (by decide)]; intro kq
                    exact H.calm_mv 4 rfl rfl (Or.inl rfl) (fun _ _ _ h => h) (FrM.refl _ _ _) (by decide) fun v w hd => hd
                  · rw [if_neg (by decide)]; intro kq
                    intro a W K hC hd hK
                    have d10 : a.tmps[10]?.getD undef = .pointer (some ⟨pk, 0, none⟩) := hd 10 (by decide)
                    refine wpOp_plain rfl rfl ?_
                    obtain ⟨x0, x1, xf⟩ := BlkAt.c2 hC.2.1
                    go_wp2_with fail
                    exact hK _ _ (FrM.refl _ _ _ _) hC rfl
                  · rw [if_neg (by decide)]; intro kq
                    intro a W K hC hd hK
                    have d53 : _ = _ := hd 53 (by decide)
                    have d54 : _ = _ := hd 54 (by decide)
                    refine wpOp_plain rfl rfl ?_
                    obtain ⟨cc, hc1, hrun, hc2⟩ := TakeC.reads hC.2.2 hcb hnb h0
                    go_wp2_with fail
                    exact hK _ _ (FrM.refl _ _ _ _) hC ⟨cc, by omega, rfl, hc2⟩
                  · rw [if_neg (by decide)]; intro kq
                    intro a W K hC hd hK
                    have d55 : (CntV pm (k + 1) f 0).V (a.tmps[55]?.getD undef) W := hd 55 (by decide)
                    refine wpOp_plain rfl rfl ?_
                    obtain ⟨cc, hc1, d55, hc2⟩ := d55
                    go_wp2_with fail
                    exact hK _ _ (FrM.refl _ _ _ _) hC ⟨cc + 1, by omega, rfl, hc2.imp (fun h => by omega) id⟩
                  · rw [if_pos (by decide)]
                    intro a W K hC hd hK
                    replace hC : (fun q' ν W => Fr (eqB pm) w10 W ∧ BlkAt W pk 39 #[.int .u64 u.cl, .int .u64 u.num] ∧ TakeC pm k f u.cl u.num q' (ν 57) (ν 58) W) 0 (fun t => a.eval (.tmp t)) W := hC
                    have d53 : _ = _ := hd 53 (by decide)
                    have d54 : _ = _ := hd 54 (by decide)
                    refine wpOp_plain rfl rfl ?_
                    have hmq : MapT W pm k f := hC.2.2
                    obtain ⟨st9, v9, w9_, hrun, hen, f9⟩ := hmq.entry (by unfold maxLen; omega) hcb hnb h0
                    go_wp2_with fail
                    exact hK _ _ ⟨f9, fun _ => hmq.mono (by omega)⟩ ⟨hC.1.then' f9, hC.2.1.fr f9 (by unfold eqB; omega), v9, st9, rfl, hen⟩ trivial
                  · rw [if_pos (by decide)]
                    intro a W K hC hd hK
                    replace hC : (fun q' ν W => Fr (eqB pm) w10 W ∧ BlkAt W pk 39 #[.int .u64 u.cl, .int .u64 u.num] ∧ TakeC pm k f u.cl u.num q' (ν 57) (ν 58) W) 1 (fun t => a.eval (.tmp t)) W := hC
                    have d57 : (AnyM pm (k + 1) f).V (a.tmps[57]?.getD undef) W := hd 57 (by decide)
                    refine wpOp_plain rfl rfl ?_
                    obtain ⟨v9, st9, hv9, hen⟩ := hC.2.2
                    have d57b : a.tmps[57]?.getD undef = .tuple #[v9, goInt st9] := by rw [← eval_get]; exact hv9
                    clear d57
                    go_wp2_with fail
                    exact hK _ _ (FrM.refl _ _ _ _) ⟨hC.1, hC.2.1, st9, rfl, hen⟩ trivial
                  · rw [if_pos (by decide)]
                    intro a W K hC hd hK
                    replace hC : (fun q' ν W => Fr (eqB pm) w10 W ∧ BlkAt W pk 39 #[.int .u64 u.cl, .int .u64 u.num] ∧ TakeC pm k f u.cl u.num q' (ν 57) (ν 58) W) 2 (fun t => a.eval (.tmp t)) W := hC
                    have d53 : _ = _ := hd 53 (by decide)
                    have d58 : (AnyM pm (k + 1) f).V (a.tmps[58]?.getD undef) W := hd 58 (by decide)
                    have d56 : (CntV pm (k + 1) f 1).V (a.tmps[56]?.getD undef) W := hd 56 (by decide)
                    refine wpOp_plain rfl rfl ?_
                    obtain ⟨x0, x1, xf⟩ := BlkAt.c2 hC.2.1
                    obtain ⟨st9, hv9, es9, c9, hh9, hmq, hst9⟩ := hC.2.2
                    have d58b : a.tmps[58]?.getD undef = goInt st9 := by rw [← eval_get]; exact hv9
                    obtain ⟨cc, hc1, d56, hc2⟩ := d56
                    have hcc : cc = 1 := hc2.resolve_right (fun h => h hmq)
                    subst hcc
                    obtain ⟨w9_, hrun, hm9_, f9⟩ := hst9 W 1 (by omega) hh9
                    have hrun2 : (Instr.entryStore 27 (.map (some pm)) (.int .i64 (st9 : Int)) (.int .i64 1)).run Try.prog W = .ok () w9_ := hrun
                    clear d58
                    go_wp2_with fail
                    exact hK undef _ ⟨f9, fun _ => hmq⟩ ⟨hC.1.then' f9, hC.2.1.fr f9 (by unfold eqB; omega), hm9_⟩ trivial
                · intro vs w11 fw11 cw11 hV
                  have v53 : vs 0 = _ := hV 0 _ _ rfl rfl (by decide)
                  have v54 : vs 1 = _ := hV 1 _ _ rfl rfl (by decide)
                  have v55 : (CntV pm (k + 1) f 0).V (vs 2) w11 := hV 2 _ _ rfl rfl (by decide)
                  have v56 : (CntV pm (k + 1) f 1).V (vs 3) w11 := hV 3 _ _ rfl rfl (by decide)
                  have v57 : (AnyM pm (k + 1) f).V (vs 4) w11 := hV 4 _ _ rfl rfl (by decide)
                  have v58 : (AnyM pm (k + 1) f).V (vs 5) w11 := hV 5 _ _ rfl rfl (by decide)
                  clear hV
                  simp only [putL, Act.put, Nat.reduceAdd, List.setIfInBounds_toArray, List.set_cons_zero, List.set_cons_succ, v53, v54]
                  have hm11 : MapT w11 pm (k + 1) (putF2 f u.cl u.num 1) := cw11.2.2
                  have hk11 := cw11.2.1
                  have fr11 := fw11.fr
                  have ht11 := ht10.fr fr11 (fun k _ h h2 => h.1.2 h2)
                  have hb11 := hb10.fr fr11 (by unfold eqB; omega)
                  have hq11 := hq10.fr fr11 (by unfold eqB; omega)
                  have F11 := F10.trans fr11 (fun i hi h => by unfold eqB at h; omega)
                  clear cw11 fw11 fr11 ht10 hb10 hq10 hk10 hm10 F10
                  have hf1 : putF2 f u.cl u.num 1 u.cl u.num = 1 := by simp [putF2]
                  have hry := fun W h => replyT_calls W (RiQ p1 pm q) p1 t' u.cl h
                  rw [hrep'] at hry
                  simp only [] at hry
                  have hwcl := wasC_get t 8 u.cl hcl8
                  rw [if_pos hcl8] at hwcl
                  obtain ⟨y, hy⟩ : ∃ y, lastA t u.cl = y := ⟨_, rfl⟩
                  rw [hy] at hwcl hlt0
                  have tcl : decide ((7 : Int) < (u.cl : Int)) = false := decide_eq_false (by omega)
                  have tnum : decide (u.num ≤ y) = false := decide_eq_false (by omega)
                  have hkl : (keptL (u.e % 19) u.l).length ≤ 9223372036854775807 := by
                    have := huk.len; have := huk.cap; have := huk.max
                    unfold keptL; split
                    · omega
                    · simp
                  have hclb : 0 ≤ (u.cl : Int) ∧ (u.cl : Int) < 8 := ⟨by omega, by omega⟩
                  clear hrep' hlast' hy
                  go_wp2_with fail
                  apply wp_region_calm (R := Fr noB) (C := fun q' W => Fr noB w11 W) [false, false, false, false, false, false, false, false, false, false, false, false, false, false, false, false, false, false, false, false, false, false, false, false, false, false, false, false, false, false, false, false, false, false, false, false, false]
                    [eqv _, eqv _, eqv _, eqv _, eqv _, eqv _, eqv _, eqv _, eqv _, eqv _, eqv _, eqv _, eqv _, eqv _, eqv _, eqv _, eqv _, eqv _, eqv _, eqv _, eqv _, eqv _, RepN (u.e % 19) (keptL (u.e % 19) u.l), eqv _, eqv _, eqv (.bool true), eqv _, eqv _, eqv _, eqv _, eqv _, eqv _, eqv _, eqv _, eqv (.int .i64 2), eqv _, eqv _]
                    (by kernel_rfl) (by kernel_rfl) (fun _ _ _ h1 h2 => h1.then' h2) ((Fr.refl _ _).drew) ((Fr.refl _ _).drew) (by kernel_rfl)
                  · refine ⟨?_, ?_, ?_, ?_, ?_, ?_, ?_, ?_, ?_, ?_, ?_, ?_, ?_, ?_, ?_, ?_, ?_, ?_, ?_, ?_, ?_, ?_, ?_, ?_, ?_, ?_, ?_, ?_, ?_, ?_, ?_, ?_, ?_, ?_, ?_, ?_, ?_, trivial⟩
                    · rw [if_neg (by decide)]; intro kq
                      exact calm_mv 4 rfl rfl (Or.inl rfl) (Fr.refl _) (by decide) fun v w hd => hd
                    · rw [if_neg (by decide)]; intro kq
                      intro a W K hC hd hK
                      have d10 : a.tmps[10]?.getD undef = .pointer (some ⟨pk, 0, none⟩) := hd 10 (by decide)
                      refine wpOp_plain rfl rfl ?_
                      obtain ⟨x0, x1, x2, x3, x4, xf⟩ := BlkAt.c5 (hb11.fr hC id)
                      obtain ⟨y0, y1, yf⟩ := BlkAt.c2 (hk11.fr hC id)
                      have hcw := (hq11.fr hC id).cell hwcl
                      go_wp2_with fail
                      exact hK _ _ (Fr.refl _ _) hC rfl
                    · rw [if_neg (by decide)]; intro kq
                      intro a W K hC hd hK
                      have d59 : _ = _ := hd 59 (by decide)
                      have d60 : _ = _ := hd 60 (by decide)
                      refine wpOp_plain rfl rfl ?_
                      have hlk : (Instr.lookup 27 (.map (some pm)) (.agg #[.int .u64 (u.cl : Int), .int .u64 (u.num : Int)]) false).run Try.prog W = .ok (.int .i64 1) W := by have := (hm11.fr hC id).look hcb hnb; rw [hf1] at this; exact this
                      go_wp2_with fail
                      exact hK _ _ (Fr.refl _ _) hC rfl
                    · rw [if_neg (by decide)]; intro kq
                      intro a W K hC hd hK
                      have d61 : _ = _ := hd 61 (by decide)
                      refine wpOp_plain rfl rfl ?_
                      go_wp2_with fail
                      exact hK _ _ (Fr.refl _ _) hC rfl
                    · rw [if_neg (by decide)]; intro kq
                      exact calm_mv 62 rfl rfl (Or.inl rfl) (Fr.refl _) (by decide) fun v w hd => hd
                    · rw [if_neg (by decide)]; intro kq
                      intro a W K hC hd hK
                      have d6 : a.tmps[6]?.getD undef = .pointer (some ⟨p5, 0, none⟩) := hd 6 (by decide)
                      have d63 : _ = _ := hd 63 (by decide)
                      first | (exact wpOp_skip rfl (wanted_of (want := false) (b := true) rfl rfl (by rw [eval_get]; exact d63)) (hK _ _ (Fr.refl _ _) hC rfl)) | (refine wpOp_want rfl (wanted_of (want := false) (b := false) rfl rfl (by rw [eval_get]; exact d63)) ?_)
                      all_goals (
                        obtain ⟨x0, x1, x2, x3, x4, xf⟩ := BlkAt.c5 (hb11.fr hC id)
                        obtain ⟨y0, y1, yf⟩ := BlkAt.c2 (hk11.fr hC id)
                        have hcw := (hq11.fr hC id).cell hwcl
                        go_wp2_with fail
                        exact hK _ _ (Fr.refl _ _) hC rfl)
                    · rw [if_neg (by decide)]; intro kq
                      intro a W K hC hd hK
                      have d64 : _ = _ := hd 64 (by decide)
                      have d63 : _ = _ := hd 63 (by decide)
                      first | (exact wpOp_skip rfl (wanted_of (want := false) (b := true) rfl rfl (by rw [eval_get]; exact d63)) (hK _ _ (Fr.refl _ _) hC rfl)) | (refine wpOp_want rfl (wanted_of (want := false) (b := false) rfl rfl (by rw [eval_get]; exact d63)) ?_)
                      all_goals (
                        obtain ⟨x0, x1, x2, x3, x4, xf⟩ := BlkAt.c5 (hb11.fr hC id)
                        obtain ⟨y0, y1, yf⟩ := BlkAt.c2 (hk11.fr hC id)
                        have hcw := (hq11.fr hC id).cell hwcl
                        go_wp2_with fail
                        exact hK _ _ (Fr.refl _ _) hC rfl)
                    · rw [if_neg (by decide)]; intro kq
                      intro a W K hC hd hK
                      have d65 : _ = _ := hd 65 (by decide)
                      have d63 : _ = _ := hd 63 (by decide)
                      first | (exact wpOp_skip rfl (wanted_of (want := false) (b := true) rfl rfl (by rw [eval_get]; exact d63)) (hK _ _ (Fr.refl _ _) hC rfl)) | (refine wpOp_want rfl (wanted_of (want := false) (b := false) rfl rfl (by rw [eval_get]; exact d63)) ?_)
                      all_goals (
                        go_wp2_with fail
                        exact hK _ _ (Fr.refl _ _) hC rfl)
                    · rw [if_neg (by decide)]; intro kq
                      intro a W K hC hd hK
                      have d63 : _ = _ := hd 63 (by decide)
                      have d66 : _ = _ := hd 66 (by decide)
                      refine wpOp_plain rfl rfl ?_
                      go_wp2_with fail
                      exact hK _ _ (Fr.refl _ _) hC rfl
                    · rw [if_neg (by decide)]; intro kq
                      exact calm_mv 67 rfl rfl (Or.inl rfl) (Fr.refl _) (by decide) fun v w hd => hd
                    · rw [if_neg (by decide)]; intro kq
                      intro a W K hC hd hK
                      have d6 : a.tmps[6]?.getD undef = .pointer (some ⟨p5, 0, none⟩) := hd 6 (by decide)
                      have d68 : _ = _ := hd 68 (by decide)
                      first | (exact wpOp_skip rfl (wanted_of (want := false) (b := true) rfl rfl (by rw [eval_get]; exact d68)) (hK _ _ (Fr.refl _ _) hC rfl)) | (refine wpOp_want rfl (wanted_of (want := false) (b := false) rfl rfl (by rw [eval_get]; exact d68)) ?_)
                      all_goals (
                        obtain ⟨x0, x1, x2, x3, x4, xf⟩ := BlkAt.c5 (hb11.fr hC id)
                        obtain ⟨y0, y1, yf⟩ := BlkAt.c2 (hk11.fr hC id)
                        have hcw := (hq11.fr hC id).cell hwcl
                        go_wp2_with fail
                        exact hK _ _ (Fr.refl _ _) hC rfl)
                    · rw [if_neg (by decide)]; intro kq
                      intro a W K hC hd hK
                      have d69 : _ = _ := hd 69 (by decide)
                      have d68 : _ = _ := hd 68 (by decide)
                      first | (exact wpOp_skip rfl (wanted_of (want := false) (b := true) rfl rfl (by rw [eval_get]; exact d68)) (hK _ _ (Fr.refl _ _) hC rfl)) | (refine wpOp_want rfl (wanted_of (want := false) (b := false) rfl rfl (by rw [eval_get]; exact d68)) ?_)
                      all_goals (
                        obtain ⟨x0, x1, x2, x3, x4, xf⟩ := BlkAt.c5 (hb11.fr hC id)
                        obtain ⟨y0, y1, yf⟩ := BlkAt.c2 (hk11.fr hC id)
                        have hcw := (hq11.fr hC id).cell hwcl
                        go_wp2_with fail
                        exact hK _ _ (Fr.refl _ _) hC rfl)
                    · rw [if_neg (by decide)]; intro kq
                      intro a W K hC hd hK
                      have d6 : a.tmps[6]?.getD undef = .pointer (some ⟨p5, 0, none⟩) := hd 6 (by decide)
                      have d68 : _ = _ := hd 68 (by decide)
                      first | (exact wpOp_skip rfl (wanted_of (want := false) (b := true) rfl rfl (by rw [eval_get]; exact d68)) (hK _ _ (Fr.refl _ _) hC rfl)) | (refine wpOp_want rfl (wanted_of (want := false) (b := false) rfl rfl (by rw [eval_get]; exact d68)) ?_)
                      all_goals (
                        obtain ⟨x0, x1, x2, x3, x4, xf⟩ := BlkAt.c5 (hb11.fr hC id)
                        obtain ⟨y0, y1, yf⟩ := BlkAt.c2 (hk11.fr hC id)
                        have hcw := (hq11.fr hC id).cell hwcl
                        go_wp2_with fail
                        exact hK _ _ (Fr.refl _ _) hC rfl)
                    · rw [if_neg (by decide)]; intro kq
                      intro a W K hC hd hK
                      have d71 : _ = _ := hd 71 (by decide)
                      have d68 : _ = _ := hd 68 (by decide)
                      first | (exact wpOp_skip rfl (wanted_of (want := false) (b := true) rfl rfl (by rw [eval_get]; exact d68)) (hK _ _ (Fr.refl _ _) hC rfl)) | (refine wpOp_want rfl (wanted_of (want := false) (b := false) rfl rfl (by rw [eval_get]; exact d68)) ?_)
                      all_goals (
                        obtain ⟨x0, x1, x2, x3, x4, xf⟩ := BlkAt.c5 (hb11.fr hC id)
                        obtain ⟨y0, y1, yf⟩ := BlkAt.c2 (hk11.fr hC id)
                        have hcw := (hq11.fr hC id).cell hwcl
                        go_wp2_with fail
                        exact hK _ _ (Fr.refl _ _) hC rfl)
                    · rw [if_neg (by decide)]; intro kq
                      intro a W K hC hd hK
                      have d7 : a.tmps[7]?.getD undef = .pointer (some ⟨q, 0, none⟩) := hd 7 (by decide)
                      have d72 : _ = _ := hd 72 (by decide)
                      have d68 : _ = _ := hd 68 (by decide)
                      first | (exact wpOp_skip rfl (wanted_of (want := false) (b := true) rfl rfl (by rw [eval_get]; exact d68)) (hK _ _ (Fr.refl _ _) hC rfl)) | (refine wpOp_want rfl (wanted_of (want := false) (b := false) rfl rfl (by rw [eval_get]; exact d68)) ?_)
                      all_goals (
                        obtain ⟨x0, x1, x2, x3, x4, xf⟩ := BlkAt.c5 (hb11.fr hC id)
                        obtain ⟨y0, y1, yf⟩ := BlkAt.c2 (hk11.fr hC id)
                        have hcw := (hq11.fr hC id).cell hwcl
                        go_wp2_with fail
                        exact hK _ _ (Fr.refl _ _) hC rfl)
                    · rw [if_neg (by decide)]; intro kq
                      intro a W K hC hd hK
                      have d73 : _ = _ := hd 73 (by decide)
                      have d68 : _ = _ := hd 68 (by decide)
                      first | (exact wpOp_skip rfl (wanted_of (want := false) (b := true) rfl rfl (by rw [eval_get]; exact d68)) (hK _ _ (Fr.refl _ _) hC rfl)) | (refine wpOp_want rfl (wanted_of (want := false) (b := false) rfl rfl (by rw [eval_get]; exact d68)) ?_)
                      all_goals (
                        obtain ⟨x0, x1, x2, x3, x4, xf⟩ := BlkAt.c5 (hb11.fr hC id)
                        obtain ⟨y0, y1, yf⟩ := BlkAt.c2 (hk11.fr hC id)
                        have hcw := (hq11.fr hC id).cell hwcl
                        go_wp2_with fail
                        exact hK _ _ (Fr.refl _ _) hC rfl)
                    · rw [if_neg (by decide)]; intro kq
                      intro a W K hC hd hK
                      have d70 : _ = _ := hd 70 (by decide)
                      have d74 : _ = _ := hd 74 (by decide)
                      have d68 : _ = _ := hd 68 (by decide)
                      first | (exact wpOp_skip rfl (wanted_of (want := false) (b := true) rfl rfl (by rw [eval_get]; exact d68)) (hK _ _ (Fr.refl _ _) hC rfl)) | (refine wpOp_want rfl (wanted_of (want := false) (b := false) rfl rfl (by rw [eval_get]; exact d68)) ?_)
                      all_goals (
                        go_wp2_with fail
                        exact hK _ _ (Fr.refl _ _) hC rfl)
                    · rw [if_neg (by decide)]; intro kq
                      intro a W K hC hd hK
                      have d68 : _ = _ := hd 68 (by decide)
                      have d75 : _ = _ := hd 75 (by decide)
                      refine wpOp_plain rfl rfl ?_
                      go_wp2_with fail
                      exact hK _ _ (Fr.refl _ _) hC rfl
                    · rw [if_neg (by decide)]; intro kq
                      exact calm_mv 76 rfl rfl (Or.inl rfl) (Fr.refl _) (by decide) fun v w hd => hd
                    · rw [if_neg (by decide)]; intro kq
                      intro a W K hC hd hK
                      have d3 : a.tmps[3]?.getD undef = .pointer (some ⟨p1, 0, none⟩) := hd 3 (by decide)
                      have d77 : _ = _ := hd 77 (by decide)
                      first | (exact wpOp_skip rfl (wanted_of (want := false) (b := true) rfl rfl (by rw [eval_get]; exact d77)) (hK _ _ (Fr.refl _ _) hC rfl)) | (refine wpOp_want rfl (wanted_of (want := false) (b := false) rfl rfl (by rw [eval_get]; exact d77)) ?_)
                      all_goals (
                        go_wp2_with fail
                        exact hK _ _ (Fr.refl _ _) hC rfl)
                    · rw [if_neg (by decide)]; intro kq
                      intro a W K hC hd hK
                      have d6 : a.tmps[6]?.getD undef = .pointer (some ⟨p5, 0, none⟩) := hd 6 (by decide)
                      have d77 : _ = _ := hd 77 (by decide)
                      first | (exact wpOp_skip rfl (wanted_of (want := false) (b := true) rfl rfl (by rw [eval_get]; exact d77)) (hK _ _ (Fr.refl _ _) hC rfl)) | (refine wpOp_want rfl (wanted_of (want := false) (b := false) rfl rfl (by rw [eval_get]; exact d77)) ?_)
                      all_goals (
                        obtain ⟨x0, x1, x2, x3, x4, xf⟩ := BlkAt.c5 (hb11.fr hC id)
                        obtain ⟨y0, y1, yf⟩ := BlkAt.c2 (hk11.fr hC id)
                        have hcw := (hq11.fr hC id).cell hwcl
                        go_wp2_with fail
                        exact hK _ _ (Fr.refl _ _) hC rfl)
                    · rw [if_neg (by decide)]; intro kq
                      intro a W K hC hd hK
                      have d79 : _ = _ := hd 79 (by decide)
                      have d77 : _ = _ := hd 77 (by decide)
                      first | (exact wpOp_skip rfl (wanted_of (want := false) (b := true) rfl rfl (by rw [eval_get]; exact d77)) (hK _ _ (Fr.refl _ _) hC rfl)) | (refine wpOp_want rfl (wanted_of (want := false) (b := false) rfl rfl (by rw [eval_get]; exact d77)) ?_)
                      all_goals (
                        obtain ⟨x0, x1, x2, x3, x4, xf⟩ := BlkAt.c5 (hb11.fr hC id)
                        obtain ⟨y0, y1, yf⟩ := BlkAt.c2 (hk11.fr hC id)
                        have hcw := (hq11.fr hC id).cell hwcl
                        go_wp2_with fail
                        exact hK _ _ (Fr.refl _ _) hC rfl)
                    · rw [if_neg (by decide)]; intro kq
                      intro a W K hC hd hK
                      have d78 : _ = _ := hd 78 (by decide)
                      have d80 : _ = _ := hd 80 (by decide)
                      have d77 : _ = _ := hd 77 (by decide)
                      first | (exact wpOp_skip rfl (wanted_of (want := false) (b := true) rfl rfl (by rw [eval_get]; exact d77)) (hK _ _ (Fr.refl _ _) hC rfl)) | (refine wpOp_want rfl (wanted_of (want := false) (b := false) rfl rfl (by rw [eval_get]; exact d77)) ?_)
                      all_goals (
                        obtain ⟨x0, x1, x2, x3, x4, xf⟩ := BlkAt.c5 (hb11.fr hC id)
                        obtain ⟨y0, y1, yf⟩ := BlkAt.c2 (hk11.fr hC id)
                        have hcw := (hq11.fr hC id).cell hwcl
                        go_wp2_with fail
                        refine (hry W (ht11.fr0 hC)).mono ?_
                        rintro e9 w9 ⟨A9, n9, c9, rfl, hn9, f9⟩
                        exact hK _ _ f9 (hC.then' f9) ⟨A9, n9, c9, rfl, hn9.1, hn9.2.2.2.1⟩)
                    · rw [if_neg (by decide)]; intro kq
                      intro a W K hC hd hK
                      have d6 : a.tmps[6]?.getD undef = .pointer (some ⟨p5, 0, none⟩) := hd 6 (by decide)
                      have d77 : _ = _ := hd 77 (by decide)
                      first | (exact wpOp_skip rfl (wanted_of (want := false) (b := true) rfl rfl (by rw [eval_get]; exact d77)) (hK _ _ (Fr.refl _ _) hC rfl)) | (refine wpOp_want rfl (wanted_of (want := false) (b := false) rfl rfl (by rw [eval_get]; exact d77)) ?_)
                      all_goals (
                        obtain ⟨x0, x1, x2, x3, x4, xf⟩ := BlkAt.c5 (hb11.fr hC id)
                        obtain ⟨y0, y1, yf⟩ := BlkAt.c2 (hk11.fr hC id)
                        have hcw := (hq11.fr hC id).cell hwcl
                        go_wp2_with fail
                        exact hK _ _ (Fr.refl _ _) hC rfl)
                    · rw [if_neg (by decide)]; intro kq
                      intro a W K hC hd hK
                      have d82 : _ = _ := hd 82 (by decide)
                      have d77 : _ = _ := hd 77 (by decide)
                      first | (exact wpOp_skip rfl (wanted_of (want := false) (b := true) rfl rfl (by rw [eval_get]; exact d77)) (hK _ _ (Fr.refl _ _) hC rfl)) | (refine wpOp_want rfl (wanted_of (want := false) (b := false) rfl rfl (by rw [eval_get]; exact d77)) ?_)
                      all_goals (
                        obtain ⟨x0, x1, x2, x3, x4, xf⟩ := BlkAt.c5 (hb11.fr hC id)
                        obtain ⟨y0, y1, yf⟩ := BlkAt.c2 (hk11.fr hC id)
                        have hcw := (hq11.fr hC id).cell hwcl
                        go_wp2_with fail
                        refine (hrep W).mono ?_
                        rintro e9 w9 ⟨rfl, f9⟩
                        exact hK _ _ f9 (hC.then' f9) rfl)
                    · rw [if_neg (by decide)]; intro kq
                      intro a W K hC hd hK
                      have d81 : (RepN (u.e % 19) (keptL (u.e % 19) u.l)).V (a.tmps[81]?.getD undef) W := hd 81 (by decide)
                      have d83 : _ = _ := hd 83 (by decide)
                      have d77 : _ = _ := hd 77 (by decide)
                      first | (exact wpOp_skip rfl (wanted_of (want := false) (b := true) rfl rfl (by rw [eval_get]; exact d77)) (hK _ _ (Fr.refl _ _) hC rfl)) | (refine wpOp_want rfl (wanted_of (want := false) (b := false) rfl rfl (by rw [eval_get]; exact d77)) ?_)
                      all_goals (
                        obtain ⟨x0, x1, x2, x3, x4, xf⟩ := BlkAt.c5 (hb11.fr hC id)
                        obtain ⟨y0, y1, yf⟩ := BlkAt.c2 (hk11.fr hC id)
                        have hcw := (hq11.fr hC id).cell hwcl
                        obtain ⟨A9, n9, c9, d81, hn9, hr9⟩ := d81
                        have hsm9 := sameRep_calls W (u.e % 19) (u.e % 19) A9 u.A c9 u.c n9 u.n (keptL (u.e % 19) u.l) u.l hr9 (husub.fr0 (F11.then' hC)) hn9 huk.len (by rw [← hn9]; exact hkl)
                        rw [sameSelf] at hsm9
                        go_wp2_with fail
                        refine hsm9.mono ?_
                        rintro e9 w9 ⟨rfl, f9⟩
                        exact hK _ _ f9 (hC.then' f9) rfl)
                    · rw [if_neg (by decide)]; intro kq
                      intro a W K hC hd hK
                      have d84 : a.tmps[84]?.getD undef = .bool true := hd 84 (by decide)
                      have d77 : _ = _ := hd 77 (by decide)
                      first | (exact wpOp_skip rfl (wanted_of (want := false) (b := true) rfl rfl (by rw [eval_get]; exact d77)) (hK _ _ (Fr.refl _ _) hC rfl)) | (refine wpOp_want rfl (wanted_of (want := false) (b := false) rfl rfl (by rw [eval_get]; exact d77)) ?_)
                      all_goals (
                        go_wp2_with fail
                        exact hK _ _ (Fr.refl _ _) hC rfl)
                    · rw [if_neg (by decide)]; intro kq
                      intro a W K hC hd hK
                      have d77 : _ = _ := hd 77 (by decide)
                      have d85 : _ = _ := hd 85 (by decide)
                      refine wpOp_plain rfl rfl ?_
                      go_wp2_with fail
                      exact hK _ _ (Fr.refl _ _) hC rfl
                    · rw [if_neg (by decide)]; intro kq
                      exact calm_mv 86 rfl rfl (Or.inl rfl) (Fr.refl _) (by decide) fun v w hd => hd
                    · rw [if_neg (by decide)]; intro kq
                      intro a W K hC hd hK
                      have d3 : a.tmps[3]?.getD undef = .pointer (some ⟨p1, 0, none⟩) := hd 3 (by decide)
                      have d87 : _ = _ := hd 87 (by decide)
                      first | (exact wpOp_skip rfl (wanted_of (want := false) (b := true) rfl rfl (by rw [eval_get]; exact d87)) (hK _ _ (Fr.refl _ _) hC rfl)) | (refine wpOp_want rfl (wanted_of (want := false) (b := false) rfl rfl (by rw [eval_get]; exact d87)) ?_)
                      all_goals (
                        go_wp2_with fail
                        exact hK _ _ (Fr.refl _ _) hC rfl)
                    · rw [if_neg (by decide)]; intro kq
                      intro a W K hC hd hK
                      have d6 : a.tmps[6]?.getD undef = .pointer (some ⟨p5, 0, none⟩) := hd 6 (by decide)
                      have d87 : _ = _ := hd 87 (by decide)
                      first | (exact wpOp_skip rfl (wanted_of (want := false) (b := true) rfl rfl (by rw [eval_get]; exact d87)) (hK _ _ (Fr.refl _ _) hC rfl)) | (refine wpOp_want rfl (wanted_of (want := false) (b := false) rfl rfl (by rw [eval_get]; exact d87)) ?_)
                      all_goals (
                        obtain ⟨x0, x1, x2, x3, x4, xf⟩ := BlkAt.c5 (hb11.fr hC id)
                        obtain ⟨y0, y1, yf⟩ := BlkAt.c2 (hk11.fr hC id)
                        have hcw := (hq11.fr hC id).cell hwcl
                        go_wp2_with fail
                        exact hK _ _ (Fr.refl _ _) hC rfl)
                    · rw [if_neg (by decide)]; intro kq
                      intro a W K hC hd hK
                      have d89 : _ = _ := hd 89 (by decide)
                      have d87 : _ = _ := hd 87 (by decide)
                      first | (exact wpOp_skip rfl (wanted_of (want := false) (b := true) rfl rfl (by rw [eval_get]; exact d87)) (hK _ _ (Fr.refl _ _) hC rfl)) | (refine wpOp_want rfl (wanted_of (want := false) (b := false) rfl rfl (by rw [eval_get]; exact d87)) ?_)
                      all_goals (
                        obtain ⟨x0, x1, x2, x3, x4, xf⟩ := BlkAt.c5 (hb11.fr hC id)
                        obtain ⟨y0, y1, yf⟩ := BlkAt.c2 (hk11.fr hC id)
                        have hcw := (hq11.fr hC id).cell hwcl
                        go_wp2_with fail
                        exact hK _ _ (Fr.refl _ _) hC rfl)
                    · rw [if_neg (by decide)]; intro kq
                      intro a W K hC hd hK
                      have d6 : a.tmps[6]?.getD undef = .pointer (some ⟨p5, 0, none⟩) := hd 6 (by decide)
                      have d87 : _ = _ := hd 87 (by decide)
                      first | (exact wpOp_skip rfl (wanted_of (want := false) (b := true) rfl rfl (by rw [eval_get]; exact d87)) (hK _ _ (Fr.refl _ _) hC rfl)) | (refine wpOp_want rfl (wanted_of (want := false) (b := false) rfl rfl (by rw [eval_get]; exact d87)) ?_)
                      all_goals (
                        obtain ⟨x0, x1, x2, x3, x4, xf⟩ := BlkAt.c5 (hb11.fr hC id)
                        obtain ⟨y0, y1, yf⟩ := BlkAt.c2 (hk11.fr hC id)
                        have hcw := (hq11.fr hC id).cell hwcl
                        go_wp2_with fail
                        exact hK _ _ (Fr.refl _ _) hC rfl)
                    · rw [if_neg (by decide)]; intro kq
                      intro a W K hC hd hK
                      have d91 : _ = _ := hd 91 (by decide)
                      have d87 : _ = _ := hd 87 (by decide)
                      first | (exact wpOp_skip rfl (wanted_of (want := false) (b := true) rfl rfl (by rw [eval_get]; exact d87)) (hK _ _ (Fr.refl _ _) hC rfl)) | (refine wpOp_want rfl (wanted_of (want := false) (b := false) rfl rfl (by rw [eval_get]; exact d87)) ?_)
                      all_goals (
                        obtain ⟨x0, x1, x2, x3, x4, xf⟩ := BlkAt.c5 (hb11.fr hC id)
                        obtain ⟨y0, y1, yf⟩ := BlkAt.c2 (hk11.fr hC id)
                        have hcw := (hq11.fr hC id).cell hwcl
                        go_wp2_with fail
                        exact hK _ _ (Fr.refl _ _) hC rfl)
                    · rw [if_neg (by decide)]; intro kq
                      intro a W K hC hd hK
                      have d88 : _ = _ := hd 88 (by decide)
                      have d90 : _ = _ := hd 90 (by decide)
                      have d92 : _ = _ := hd 92 (by decide)
                      have d87 : _ = _ := hd 87 (by decide)
                      first | (exact wpOp_skip rfl (wanted_of (want := false) (b := true) rfl rfl (by rw [eval_get]; exact d87)) (hK _ _ (Fr.refl _ _) hC rfl)) | (refine wpOp_want rfl (wanted_of (want := false) (b := false) rfl rfl (by rw [eval_get]; exact d87)) ?_)
                      all_goals (
                        obtain ⟨x0, x1, x2, x3, x4, xf⟩ := BlkAt.c5 (hb11.fr hC id)
                        obtain ⟨y0, y1, yf⟩ := BlkAt.c2 (hk11.fr hC id)
                        have hcw := (hq11.fr hC id).cell hwcl
                        have hjd := judgeA_calls W (RiQ p1 pm q) p1 t' u.cl u.num (ht11.fr0 hC)
                        rw [hjud] at hjd
                        go_wp2_with fail
                        refine hjd.mono ?_
                        rintro e9 w9 ⟨rfl, rfl⟩
                        exact hK _ _ (Fr.refl _ _) hC rfl)
                    · rw [if_neg (by decide)]; intro kq
                      intro a W K hC hd hK
                      have d93 : a.tmps[93]?.getD undef = .int .i64 2 := hd 93 (by decide)
                      have d87 : _ = _ := hd 87 (by decide)
                      first | (exact wpOp_skip rfl (wanted_of (want := false) (b := true) rfl rfl (by rw [eval_get]; exact d87)) (hK _ _ (Fr.refl _ _) hC rfl)) | (refine wpOp_want rfl (wanted_of (want := false) (b := false) rfl rfl (by rw [eval_get]; exact d87)) ?_)
                      all_goals (
                        go_wp2_with fail
                        exact hK _ _ (Fr.refl _ _) hC rfl)
                    · rw [if_neg (by decide)]; intro kq
                      intro a W K hC hd hK
                      have d87 : _ = _ := hd 87 (by decide)
                      have d94 : _ = _ := hd 94 (by decide)
                      refine wpOp_plain rfl rfl ?_
                      go_wp2_with fail
                      exact hK _ _ (Fr.refl _ _) hC rfl
                  · intro vs w12 fw12 cw12 hV
                    have v59 : vs 0 = _ := hV 0 _ _ rfl rfl (by decide)
                    have v60 : vs 1 = _ := hV 1 _ _ rfl rfl (by decide)
                    have v61 : vs 2 = _ := hV 2 _ _ rfl rfl (by decide)
                    have v62 : vs 3 = _ := hV 3 _ _ rfl rfl (by decide)
                    have v63 : vs 4 = _ := hV 4 _ _ rfl rfl (by decide)
                    have v64 : vs 5 = _ := hV 5 _ _ rfl rfl (by decide)
                    have v65 : vs 6 = _ := hV 6 _ _ rfl rfl (by decide)
                    have v66 : vs 7 = _ := hV 7 _ _ rfl rfl (by decide)
                    have v67 : vs 8 = _ := hV 8 _ _ rfl rfl (by decide)
                    have v68 : vs 9 = _ := hV 9 _ _ rfl rfl (by decide)
                    have v69 : vs 10 = _ := hV 10 _ _ rfl rfl (by decide)
                    have v70 : vs 11 = _ := hV 11 _ _ rfl rfl (by decide)
                    have v71 : vs 12 = _ := hV 12 _ _ rfl rfl (by decide)
                    have v72 : vs 13 = _ := hV 13 _ _ rfl rfl (by decide)
                    have v73 : vs 14 = _ := hV 14 _ _ rfl rfl (by decide)
                    have v74 : vs 15 = _ := hV 15 _ _ rfl rfl (by decide)
                    have v75 : vs 16 = _ := hV 16 _ _ rfl rfl (by decide)
                    have v76 : vs 17 = _ := hV 17 _ _ rfl rfl (by decide)
                    have v77 : vs 18 = _ := hV 18 _ _ rfl rfl (by decide)
                    have v78 : vs 19 = _ := hV 19 _ _ rfl rfl (by decide)
                    have v79 : vs 20 = _ := hV 20 _ _ rfl rfl (by decide)
                    have v80 : vs 21 = _ := hV 21 _ _ rfl rfl (by decide)
                    have v81 : (RepN (u.e % 19) (keptL (u.e % 19) u.l)).V (vs 22) w12 := hV 22 _ _ rfl rfl (by decide)
                    have v82 : vs 23 = _ := hV 23 _ _ rfl rfl (by decide)
                    have v83 : vs 24 = _ := hV 24 _ _ rfl rfl (by decide)
                    have v84 : vs 25 = .bool true := hV 25 _ _ rfl rfl (by decide)
                    have v85 : vs 26 = _ := hV 26 _ _ rfl rfl (by decide)
                    have v86 : vs 27 = _ := hV 27 _ _ rfl rfl (by decide)
                    have v87 : vs 28 = _ := hV 28 _ _ rfl rfl (by decide)
                    have v88 : vs 29 = _ := hV 29 _ _ rfl rfl (by decide)
                    have v89 : vs 30 = _ := hV 30 _ _ rfl rfl (by decide)
                    have v90 : vs 31 = _ := hV 31 _ _ rfl rfl (by decide)
                    have v91 : vs 32 = _ := hV 32 _ _ rfl rfl (by decide)
                    have v92 : vs 33 = _ := hV 33 _ _ rfl rfl (by decide)
                    have v93 : vs 34 = .int .i64 2 := hV 34 _ _ rfl rfl (by decide)
                    have v94 : vs 35 = _ := hV 35 _ _ rfl rfl (by decide)
                    have v95 : vs 36 = _ := hV 36 _ _ rfl rfl (by decide)
                    clear hV
                    simp only [putL, Act.put, Nat.reduceAdd, List.setIfInBounds_toArray, List.set_cons_zero, List.set_cons_succ, v59, v60, v61, v62, v63, v64, v65, v66, v67, v68, v69, v70, v71, v72, v73, v74, v75, v76, v77, v78, v79, v80, v82, v83, v84, v85, v86, v87, v88, v89, v90, v91, v92, v93, v94, v95]
                    have ht12 := ht11.fr0 fw12
                    have hb12 := hb11.fr fw12 id
                    have hq12 := hq11.fr fw12 id
                    have hm12 := hm11.fr fw12 id
                    have F12 := F11.then' fw12
                    clear ht11 hb11 hq11 hm11 hk11 F11 fw12 cw12 hry hwcl
                    skip
                    have HTT : Hid (foldA zeroT (L.take (k + 1)) = t') := HT
                    go_wp2_with fail
                    go_loopw [96] (fun i wr => ∃ j : Nat, j ≤ 8 ∧ i = .int .u8 j ∧ Fr noB w12 wr) (fun i _ => 8 - (intOf i).toNat)
                    case atStart => exact ⟨0, by omega, rfl, Fr.refl _ _⟩
                    case round =>
                      obtain ⟨j, hj, rfl, hfx⟩ := hrel
                      have htx := ht12.fr0 hfx
                      have hqx := hq12.fr hfx id
                      have hbx := hb12.fr hfx id
                      have hmx := hm12.fr hfx id
                      have Fx := F12.then' hfx
                      clear ht12 hq12 hb12 hm12 F12
                      by_cases hj8 : j < 8
                      · have hl1 := fun W h => lastA_calls W (RiQ p1 pm q) p1 t' j h
                        obtain ⟨hle, heq⟩ := hla j
                        have hwj := wasC_get t 8 j hj8
                        rw [if_pos hj8] at hwj
                        have hjw : IntKind.u8.wrap ((j : Int) + 1) = (j + 1 : Nat) := by rw [IntKind.wrap_u8]; omega
                        have hjb : 0 ≤ (j : Int) ∧ (j : Int) < 8 := ⟨by omega, by omega⟩
                        by_cases hjc : j = u.cl
                        · have tb1 : ((j : Int) != (u.cl : Int)) = false := by rw [bne_eq_false_iff_eq]; omega
                          have htrue : True := trivial
                          generalize lastA t' j = x at *
                          generalize lastA t j = y at *
                          clear htrue
                          have td1 : decide (x < y) = false := decide_eq_false (by omega)
                          clear heq hle hjc
                          go_wp2_with fail
                          apply wp_region_calm (R := Fr noB) (C := fun q' W => Fr noB wr W) [false, false, false, false, false, false, false, false, false, false, false, false, false, false, false, false, false, false, false, false, false, false, false, false, false, false]
                            [eqv _, eqv _, eqv _, eqv _, eqv _, eqv _, eqv _, eqv _, eqv _, eqv _, eqv _, eqv _, eqv _, eqv _, eqv _, eqv _, eqv _, eqv _, eqv _, eqv _, eqv _, eqv _, eqv _, eqv _, eqv _, eqv _]
                            (by kernel_rfl) (by kernel_rfl) (fun _ _ _ h1 h2 => h1.then' h2) ((Fr.refl _ _).drew) ((Fr.refl _ _).drew) (by kernel_rfl)
                          · refine ⟨?_, ?_, ?_, ?_, ?_, ?_, ?_, ?_, ?_, ?_, ?_, ?_, ?_, ?_, ?_, ?_, ?_, ?_, ?_, ?_, ?_, ?_, ?_, ?_, ?_, ?_, trivial⟩
                            · rw [if_neg (by decide)]; intro kq
                              exact calm_mv 3 rfl rfl (Or.inl rfl) (Fr.refl _) (by decide) fun v w hd => hd
                            · rw [if_neg (by decide)]; intro kq
                              exact calm_mv 11 rfl rfl (Or.inl rfl) (Fr.refl _) (by decide) fun v w hd => hd
                            · rw [if_neg (by decide)]; intro kq
                              intro a W K hC hd hK
                              have d99 : _ = _ := hd 99 (by decide)
                              have d100 : _ = _ := hd 100 (by decide)
                              refine wpOp_plain rfl rfl ?_
                              obtain ⟨x0, x1, x2, x3, x4, xf⟩ := BlkAt.c5 (hbx.fr hC id)
                              have hcw := (hqx.fr hC id).cell hwj
                              go_wp2_with fail
                              refine (hl1 W (htx.fr0 hC)).mono ?_
                              rintro e9 w9 ⟨rfl, rfl⟩
                              exact hK _ _ (Fr.refl _ _) hC rfl
                            · rw [if_neg (by decide)]; intro kq
                              exact calm_mv 11 rfl rfl (Or.inl rfl) (Fr.refl _) (by decide) fun v w hd => hd
                            · rw [if_neg (by decide)]; intro kq
                              intro a W K hC hd hK
                              have d7 : a.tmps[7]?.getD undef = .pointer (some ⟨q, 0, none⟩) := hd 7 (by decide)
                              have d102 : _ = _ := hd 102 (by decide)
                              refine wpOp_plain rfl rfl ?_
                              obtain ⟨x0, x1, x2, x3, x4, xf⟩ := BlkAt.c5 (hbx.fr hC id)
                              have hcw := (hqx.fr hC id).cell hwj
                              go_wp2_with fail
                              exact hK _ _ (Fr.refl _ _) hC rfl
                            · rw [if_neg (by decide)]; intro kq
                              intro a W K hC hd hK
                              have d103 : _ = _ := hd 103 (by decide)
                              refine wpOp_plain rfl rfl ?_
                              obtain ⟨x0, x1, x2, x3, x4, xf⟩ := BlkAt.c5 (hbx.fr hC id)
                              have hcw := (hqx.fr hC id).cell hwj
                              go_wp2_with fail
                              exact hK _ _ (Fr.refl _ _) hC rfl
                            · rw [if_neg (by decide)]; intro kq
                              intro a W K hC hd hK
                              have d101 : _ = _ := hd 101 (by decide)
                              have d104 : _ = _ := hd 104 (by decide)
                              refine wpOp_plain rfl rfl ?_
                              go_wp2_with fail
                              exact hK _ _ (Fr.refl _ _) hC rfl
                            · rw [if_neg (by decide)]; intro kq
                              exact calm_mv 105 rfl rfl (Or.inl rfl) (Fr.refl _) (by decide) fun v w hd => hd
                            · rw [if_neg (by decide)]; intro kq
                              intro a W K hC hd hK
                              have d11 : a.tmps[11]?.getD undef = .int .u8 j := hd 11 (by decide)
                              have d106 : _ = _ := hd 106 (by decide)
                              first | (exact wpOp_skip rfl (wanted_of (want := false) (b := true) rfl rfl (by rw [eval_get]; exact d106)) (hK _ _ (Fr.refl _ _) hC rfl)) | (refine wpOp_want rfl (wanted_of (want := false) (b := false) rfl rfl (by rw [eval_get]; exact d106)) ?_)
                              all_goals (
                                go_wp2_with fail
                                exact hK _ _ (Fr.refl _ _) hC rfl)
                            · rw [if_neg (by decide)]; intro kq
                              intro a W K hC hd hK
                              have d6 : a.tmps[6]?.getD undef = .pointer (some ⟨p5, 0, none⟩) := hd 6 (by decide)
                              have d106 : _ = _ := hd 106 (by decide)
                              first | (exact wpOp_skip rfl (wanted_of (want := false) (b := true) rfl rfl (by rw [eval_get]; exact d106)) (hK _ _ (Fr.refl _ _) hC rfl)) | (refine wpOp_want rfl (wanted_of (want := false) (b := false) rfl rfl (by rw [eval_get]; exact d106)) ?_)
                              all_goals (
                                obtain ⟨x0, x1, x2, x3, x4, xf⟩ := BlkAt.c5 (hbx.fr hC id)
                                have hcw := (hqx.fr hC id).cell hwj
                                go_wp2_with fail
                                exact hK _ _ (Fr.refl _ _) hC rfl)
                            · rw [if_neg (by decide)]; intro kq
                              intro a W K hC hd hK
                              have d108 : _ = _ := hd 108 (by decide)
                              have d106 : _ = _ := hd 106 (by decide)
                              first | (exact wpOp_skip rfl (wanted_of (want := false) (b := true) rfl rfl (by rw [eval_get]; exact d106)) (hK _ _ (Fr.refl _ _) hC rfl)) | (refine wpOp_want rfl (wanted_of (want := false) (b := false) rfl rfl (by rw [eval_get]; exact d106)) ?_)
                              all_goals (
                                obtain ⟨x0, x1, x2, x3, x4, xf⟩ := BlkAt.c5 (hbx.fr hC id)
                                have hcw := (hqx.fr hC id).cell hwj
                                go_wp2_with fail
                                exact hK _ _ (Fr.refl _ _) hC rfl)
                            · rw [if_neg (by decide)]; intro kq
                              intro a W K hC hd hK
                              have d107 : _ = _ := hd 107 (by decide)
                              have d109 : _ = _ := hd 109 (by decide)
                              have d106 : _ = _ := hd 106 (by decide)
                              first | (exact wpOp_skip rfl (wanted_of (want := false) (b := true) rfl rfl (by rw [eval_get]; exact d106)) (hK _ _ (Fr.refl _ _) hC rfl)) | (refine wpOp_want rfl (wanted_of (want := false) (b := false) rfl rfl (by rw [eval_get]; exact d106)) ?_)
                              all_goals (
                                go_wp2_with fail
                                exact hK _ _ (Fr.refl _ _) hC rfl)
                            · rw [if_neg (by decide)]; intro kq
                              intro a W K hC hd hK
                              have d110 : _ = _ := hd 110 (by decide)
                              have d106 : _ = _ := hd 106 (by decide)
                              first | (exact wpOp_skip rfl (wanted_of (want := false) (b := true) rfl rfl (by rw [eval_get]; exact d106)) (hK _ _ (Fr.refl _ _) hC rfl)) | (refine wpOp_want rfl (wanted_of (want := false) (b := false) rfl rfl (by rw [eval_get]; exact d106)) ?_)
                              all_goals (
                                go_wp2_with fail
                                exact hK _ _ (Fr.refl _ _) hC rfl)
                            · rw [if_neg (by decide)]; intro kq
                              intro a W K hC hd hK
                              have d9 : a.tmps[9]?.getD undef = .int .i64 0 := hd 9 (by decide)
                              have d111 : _ = _ := hd 111 (by decide)
                              first | (exact wpOp_skip rfl (wanted_of (want := false) (b := true) rfl rfl (by rw [eval_get]; exact d111)) (hK _ _ (Fr.refl _ _) hC rfl)) | (refine wpOp_want rfl (wanted_of (want := false) (b := false) rfl rfl (by rw [eval_get]; exact d111)) ?_)
                              all_goals (
                                go_wp2_with fail
                                exact hK _ _ (Fr.refl _ _) hC rfl)
                            · rw [if_neg (by decide)]; intro kq
                              intro a W K hC hd hK
                              have d112 : _ = _ := hd 112 (by decide)
                              have d111 : _ = _ := hd 111 (by decide)
                              first | (exact wpOp_skip rfl (wanted_of (want := false) (b := true) rfl rfl (by rw [eval_get]; exact d111)) (hK _ _ (Fr.refl _ _) hC rfl)) | (refine wpOp_want rfl (wanted_of (want := false) (b := false) rfl rfl (by rw [eval_get]; exact d111)) ?_)
                              all_goals (
                                go_wp2_with fail
                                exact hK _ _ (Fr.refl _ _) hC rfl)
                            · rw [if_neg (by decide)]; intro kq
                              intro a W K hC hd hK
                              have d111 : _ = _ := hd 111 (by decide)
                              have d113 : _ = _ := hd 113 (by decide)
                              have d106 : _ = _ := hd 106 (by decide)
                              first | (exact wpOp_skip rfl (wanted_of (want := false) (b := true) rfl rfl (by rw [eval_get]; exact d106)) (hK _ _ (Fr.refl _ _) hC rfl)) | (refine wpOp_want rfl (wanted_of (want := false) (b := false) rfl rfl (by rw [eval_get]; exact d106)) ?_)
                              all_goals (
                                go_wp2_with fail
                                exact hK _ _ (Fr.refl _ _) hC rfl)
                            · rw [if_neg (by decide)]; intro kq
                              intro a W K hC hd hK
                              have d114 : _ = _ := hd 114 (by decide)
                              have d106 : _ = _ := hd 106 (by decide)
                              first | (exact wpOp_skip rfl (wanted_of (want := false) (b := true) rfl rfl (by rw [eval_get]; exact d106)) (hK _ _ (Fr.refl _ _) hC rfl)) | (refine wpOp_want rfl (wanted_of (want := false) (b := false) rfl rfl (by rw [eval_get]; exact d106)) ?_)
                              all_goals (
                                go_wp2_with fail
                                exact hK _ _ (Fr.refl _ _) hC rfl)
                            · rw [if_neg (by decide)]; intro kq
                              intro a W K hC hd hK
                              have d3 : a.tmps[3]?.getD undef = .pointer (some ⟨p1, 0, none⟩) := hd 3 (by decide)
                              have d115 : _ = _ := hd 115 (by decide)
                              first | (exact wpOp_skip rfl (wanted_of (want := true) (b := false) rfl rfl (by rw [eval_get]; exact d115)) (hK _ _ (Fr.refl _ _) hC rfl)) | (refine wpOp_want rfl (wanted_of (want := true) (b := true) rfl rfl (by rw [eval_get]; exact d115)) ?_)
                              all_goals (
                                go_wp2_with fail
                                exact hK _ _ (Fr.refl _ _) hC rfl)
                            · rw [if_neg (by decide)]; intro kq
                              intro a W K hC hd hK
                              have d11 : a.tmps[11]?.getD undef = .int .u8 j := hd 11 (by decide)
                              have d115 : _ = _ := hd 115 (by decide)
                              first | (exact wpOp_skip rfl (wanted_of (want := true) (b := false) rfl rfl (by rw [eval_get]; exact d115)) (hK _ _ (Fr.refl _ _) hC rfl)) | (refine wpOp_want rfl (wanted_of (want := true) (b := true) rfl rfl (by rw [eval_get]; exact d115)) ?_)
                              all_goals (
                                go_wp2_with fail
                                exact hK _ _ (Fr.refl _ _) hC rfl)
                            · rw [if_neg (by decide)]; intro kq
                              intro a W K hC hd hK
                              have d116 : _ = _ := hd 116 (by decide)
                              have d117 : _ = _ := hd 117 (by decide)
                              have d115 : _ = _ := hd 115 (by decide)
                              first | (exact wpOp_skip rfl (wanted_of (want := true) (b := false) rfl rfl (by rw [eval_get]; exact d115)) (hK _ _ (Fr.refl _ _) hC rfl)) | (refine wpOp_want rfl (wanted_of (want := true) (b := true) rfl rfl (by rw [eval_get]; exact d115)) ?_)
                              all_goals (
                                obtain ⟨x0, x1, x2, x3, x4, xf⟩ := BlkAt.c5 (hbx.fr hC id)
                                have hcw := (hqx.fr hC id).cell hwj
                                go_wp2_with fail
                                refine (hl1 W (htx.fr0 hC)).mono ?_
                                rintro e9 w9 ⟨rfl, rfl⟩
                                exact hK _ _ (Fr.refl _ _) hC rfl)
                            · rw [if_neg (by decide)]; intro kq
                              intro a W K hC hd hK
                              have d11 : a.tmps[11]?.getD undef = .int .u8 j := hd 11 (by decide)
                              have d115 : _ = _ := hd 115 (by decide)
                              first | (exact wpOp_skip rfl (wanted_of (want := true) (b := false) rfl rfl (by rw [eval_get]; exact d115)) (hK _ _ (Fr.refl _ _) hC rfl)) | (refine wpOp_want rfl (wanted_of (want := true) (b := true) rfl rfl (by rw [eval_get]; exact d115)) ?_)
                              all_goals (
                                go_wp2_with fail
                                exact hK _ _ (Fr.refl _ _) hC rfl)
                            · rw [if_neg (by decide)]; intro kq
                              intro a W K hC hd hK
                              have d7 : a.tmps[7]?.getD undef = .pointer (some ⟨q, 0, none⟩) := hd 7 (by decide)
                              have d119 : _ = _ := hd 119 (by decide)
                              have d115 : _ = _ := hd 115 (by decide)
                              first | (exact wpOp_skip rfl (wanted_of (want := true) (b := false) rfl rfl (by rw [eval_get]; exact d115)) (hK _ _ (Fr.refl _ _) hC rfl)) | (refine wpOp_want rfl (wanted_of (want := true) (b := true) rfl rfl (by rw [eval_get]; exact d115)) ?_)
                              all_goals (
                                obtain ⟨x0, x1, x2, x3, x4, xf⟩ := BlkAt.c5 (hbx.fr hC id)
                                have hcw := (hqx.fr hC id).cell hwj
                                go_wp2_with fail
                                exact hK _ _ (Fr.refl _ _) hC rfl)
                            · rw [if_neg (by decide)]; intro kq
                              intro a W K hC hd hK
                              have d120 : _ = _ := hd 120 (by decide)
                              have d115 : _ = _ := hd 115 (by decide)
                              first | (exact wpOp_skip rfl (wanted_of (want := true) (b := false) rfl rfl (by rw [eval_get]; exact d115)) (hK _ _ (Fr.refl _ _) hC rfl)) | (refine wpOp_want rfl (wanted_of (want := true) (b := true) rfl rfl (by rw [eval_get]; exact d115)) ?_)
                              all_goals (
                                obtain ⟨x0, x1, x2, x3, x4, xf⟩ := BlkAt.c5 (hbx.fr hC id)
                                have hcw := (hqx.fr hC id).cell hwj
                                go_wp2_with fail
                                exact hK _ _ (Fr.refl _ _) hC rfl)
                            · rw [if_neg (by decide)]; intro kq
                              intro a W K hC hd hK
                              have d118 : _ = _ := hd 118 (by decide)
                              have d121 : _ = _ := hd 121 (by decide)
                              have d115 : _ = _ := hd 115 (by decide)
                              first | (exact wpOp_skip rfl (wanted_of (want := true) (b := false) rfl rfl (by rw [eval_get]; exact d115)) (hK _ _ (Fr.refl _ _) hC rfl)) | (refine wpOp_want rfl (wanted_of (want := true) (b := true) rfl rfl (by rw [eval_get]; exact d115)) ?_)
                              all_goals (
                                go_wp2_with fail
                                exact hK _ _ (Fr.refl _ _) hC rfl)
                            · rw [if_neg (by decide)]; intro kq
                              intro a W K hC hd hK
                              have d115 : _ = _ := hd 115 (by decide)
                              have d122 : _ = _ := hd 122 (by decide)
                              have d106 : _ = _ := hd 106 (by decide)
                              first | (exact wpOp_skip rfl (wanted_of (want := false) (b := true) rfl rfl (by rw [eval_get]; exact d106)) (hK _ _ (Fr.refl _ _) hC rfl)) | (refine wpOp_want rfl (wanted_of (want := false) (b := false) rfl rfl (by rw [eval_get]; exact d106)) ?_)
                              all_goals (
                                go_wp2_with fail
                                exact hK _ _ (Fr.refl _ _) hC rfl)
                            · rw [if_neg (by decide)]; intro kq
                              intro a W K hC hd hK
                              have d106 : _ = _ := hd 106 (by decide)
                              have d123 : _ = _ := hd 123 (by decide)
                              refine wpOp_plain rfl rfl ?_
                              go_wp2_with fail
                              exact hK _ _ (Fr.refl _ _) hC rfl
                          · intro vs w19 fw19 cw19 hV
                            have v99 : vs 0 = _ := hV 0 _ _ rfl rfl (by decide)
                            have v100 : vs 1 = _ := hV 1 _ _ rfl rfl (by decide)
                            have v101 : vs 2 = _ := hV 2 _ _ rfl rfl (by decide)
                            have v102 : vs 3 = _ := hV 3 _ _ rfl rfl (by decide)
                            have v103 : vs 4 = _ := hV 4 _ _ rfl rfl (by decide)
                            have v104 : vs 5 = _ := hV 5 _ _ rfl rfl (by decide)
                            have v105 : vs 6 = _ := hV 6 _ _ rfl rfl (by decide)
                            have v106 : vs 7 = _ := hV 7 _ _ rfl rfl (by decide)
                            have v107 : vs 8 = _ := hV 8 _ _ rfl rfl (by decide)
                            have v108 : vs 9 = _ := hV 9 _ _ rfl rfl (by decide)
                            have v109 : vs 10 = _ := hV 10 _ _ rfl rfl (by decide)
                            have v110 : vs 11 = _ := hV 11 _ _ rfl rfl (by decide)
                            have v111 : vs 12 = _ := hV 12 _ _ rfl rfl (by decide)
                            have v112 : vs 13 = _ := hV 13 _ _ rfl rfl (by decide)
                            have v113 : vs 14 = _ := hV 14 _ _ rfl rfl (by decide)
                            have v114 : vs 15 = _ := hV 15 _ _ rfl rfl (by decide)
                            have v115 : vs 16 = _ := hV 16 _ _ rfl rfl (by decide)
                            have v116 : vs 17 = _ := hV 17 _ _ rfl rfl (by decide)
                            have v117 : vs 18 = _ := hV 18 _ _ rfl rfl (by decide)
                            have v118 : vs 19 = _ := hV 19 _ _ rfl rfl (by decide)
                            have v119 : vs 20 = _ := hV 20 _ _ rfl rfl (by decide)
                            have v120 : vs 21 = _ := hV 21 _ _ rfl rfl (by decide)
                            have v121 : vs 22 = _ := hV 22 _ _ rfl rfl (by decide)
                            have v122 : vs 23 = _ := hV 23 _ _ rfl rfl (by decide)
                            have v123 : vs 24 = _ := hV 24 _ _ rfl rfl (by decide)
                            have v124 : vs 25 = _ := hV 25 _ _ rfl rfl (by decide)
                            clear hV
                            simp only [putL, Act.put, Nat.reduceAdd, List.setIfInBounds_toArray, List.set_cons_zero, List.set_cons_succ, v99, v100, v101, v102, v103, v104, v105, v106, v107, v108, v109, v110, v111, v112, v113, v114, v115, v116, v117, v118, v119, v120, v121, v122, v123, v124]
                            have hf19 := hfx.then' fw19
                            clear fw19 cw19 htx hqx hbx hmx Fx hl1
                            go_wp2_with fail
                            go_roundw
                            case rel => exact ⟨j + 1, by omega, by go_num, hf19⟩
                            case measure => simp [intOf]; omega
                        · have tb1 : ((j : Int) != (u.cl : Int)) = true := by rw [bne_iff_ne]; omega
                          have hxy := heq (Or.inl hjc)
                          generalize lastA t' j = x at *
                          generalize lastA t j = y at *
                          subst hxy
                          have td1 : decide (x < x) = false := decide_eq_false (by omega)
                          clear heq hle hjc
                          go_wp2_with fail
                          apply wp_region_calm (R := Fr noB) (C := fun q' W => Fr noB wr W) [false, false, false, false, false, false, false, false, false, false, false, false, false, false, false, false, false, false, false, false, false, false, false, false, false, false]
                            [eqv _, eqv _, eqv _, eqv _, eqv _, eqv _, eqv _, eqv _, eqv _, eqv _, eqv _, eqv _, eqv _, eqv _, eqv _, eqv _, eqv _, eqv _, eqv _, eqv _, eqv _, eqv _, eqv _, eqv _, eqv _, eqv _]
                            (by kernel_rfl) (by kernel_rfl) (fun _ _ _ h1 h2 => h1.then' h2) ((Fr.refl _ _).drew) ((Fr.refl _ _).drew) (by kernel_rfl)
                          · refine ⟨?_, ?_, ?_, ?_, ?_, ?_, ?_, ?_, ?_, ?_, ?_, ?_, ?_, ?_, ?_, ?_, ?_, ?_, ?_, ?_, ?_, ?_, ?_, ?_, ?_, ?_, trivial⟩
                            · rw [if_neg (by decide)]; intro kq
                              exact calm_mv 3 rfl rfl (Or.inl rfl) (Fr.refl _) (by decide) fun v w hd => hd
                            · rw [if_neg (by decide)]; intro kq
                              exact calm_mv 11 rfl rfl (Or.inl rfl) (Fr.refl _) (by decide) fun v w hd => hd
                            · rw [if_neg (by decide)]; intro kq
                              intro a W K hC hd hK
                              have d99 : _ = _ := hd 99 (by decide)
                              have d100 : _ = _ := hd 100 (by decide)
                              refine wpOp_plain rfl rfl ?_
                              obtain ⟨x0, x1, x2, x3, x4, xf⟩ := BlkAt.c5 (hbx.fr hC id)
                              have hcw := (hqx.fr hC id).cell hwj
                              go_wp2_with fail
                              refine (hl1 W (htx.fr0 hC)).mono ?_
                              rintro e9 w9 ⟨rfl, rfl⟩
                              exact hK _ _ (Fr.refl _ _) hC rfl
                            · rw [if_neg (by decide)]; intro kq
                              exact calm_mv 11 rfl rfl (Or.inl rfl) (Fr.refl _) (by decide) fun v w hd => hd
                            · rw [if_neg (by decide)]; intro kq
                              intro a W K hC hd hK
                              have d7 : a.tmps[7]?.getD undef = .pointer (some ⟨q, 0, none⟩) := hd 7 (by decide)
                              have d102 : _ = _ := hd 102 (by decide)
                              refine wpOp_plain rfl rfl ?_
                              obtain ⟨x0, x1, x2, x3, x4, xf⟩ := BlkAt.c5 (hbx.fr hC id)
                              have hcw := (hqx.fr hC id).cell hwj
                              go_wp2_with fail
                              exact hK _ _ (Fr.refl _ _) hC rfl
                            · rw [if_neg (by decide)]; intro kq
                              intro a W K hC hd hK
                              have d103 : _ = _ := hd 103 (by decide)
                              refine wpOp_plain rfl rfl ?_
                              obtain ⟨x0, x1, x2, x3, x4, xf⟩ := BlkAt.c5 (hbx.fr hC id)
                              have hcw := (hqx.fr hC id).cell hwj
                              go_wp2_with fail
                              exact hK _ _ (Fr.refl _ _) hC rfl
                            · rw [if_neg (by decide)]; intro kq
                              intro a W K hC hd hK
                              have d101 : _ = _ := hd 101 (by decide)
                              have d104 : _ = _ := hd 104 (by decide)
                              refine wpOp_plain rfl rfl ?_
                              go_wp2_with fail
                              exact hK _ _ (Fr.refl _ _) hC rfl
                            · rw [if_neg (by decide)]; intro kq
                              exact calm_mv 105 rfl rfl (Or.inl rfl) (Fr.refl _) (by decide) fun v w hd => hd
                            · rw [if_neg (by decide)]; intro kq
                              intro a W K hC hd hK
                              have d11 : a.tmps[11]?.getD undef = .int .u8 j := hd 11 (by decide)
                              have d106 : _ = _ := hd 106 (by decide)
                              first | (exact wpOp_skip rfl (wanted_of (want := false) (b := true) rfl rfl (by rw [eval_get]; exact d106)) (hK _ _ (Fr.refl _ _) hC rfl)) | (refine wpOp_want rfl (wanted_of (want := false) (b := false) rfl rfl (by rw [eval_get]; exact d106)) ?_)
                              all_goals (
                                go_wp2_with fail
                                exact hK _ _ (Fr.refl _ _) hC rfl)
                            · rw [if_neg (by decide)]; intro kq
                              intro a W K hC hd hK
                              have d6 : a.tmps[6]?.getD undef = .pointer (some ⟨p5, 0, none⟩) := hd 6 (by decide)
                              have d106 : _ = _ := hd 106 (by decide)
                              first | (exact wpOp_skip rfl (wanted_of (want := false) (b := true) rfl rfl (by rw [eval_get]; exact d106)) (hK _ _ (Fr.refl _ _) hC rfl)) | (refine wpOp_want rfl (wanted_of (want := false) (b := false) rfl rfl (by rw [eval_get]; exact d106)) ?_)
                              all_goals (
                                obtain ⟨x0, x1, x2, x3, x4, xf⟩ := BlkAt.c5 (hbx.fr hC id)
                                have hcw := (hqx.fr hC id).cell hwj
                                go_wp2_with fail
                                exact hK _ _ (Fr.refl _ _) hC rfl)
                            · rw [if_neg (by decide)]; intro kq
                              intro a W K hC hd hK
                              have d108 : _ = _ := hd 108 (by decide)
                              have d106 : _ = _ := hd 106 (by decide)
                              first | (exact wpOp_skip rfl (wanted_of (want := false) (b := true) rfl rfl (by rw [eval_get]; exact d106)) (hK _ _ (Fr.refl _ _) hC rfl)) | (refine wpOp_want rfl (wanted_of (want := false) (b := false) rfl rfl (by rw [eval_get]; exact d106)) ?_)
                              all_goals (
                                obtain ⟨x0, x1, x2, x3, x4, xf⟩ := BlkAt.c5 (hbx.fr hC id)
                                have hcw := (hqx.fr hC id).cell hwj
                                go_wp2_with fail
                                exact hK _ _ (Fr.refl _ _) hC rfl)
                            · rw [if_neg (by decide)]; intro kq
                              intro a W K hC hd hK
                              have d107 : _ = _ := hd 107 (by decide)
                              have d109 : _ = _ := hd 109 (by decide)
                              have d106 : _ = _ := hd 106 (by decide)
                              first | (exact wpOp_skip rfl (wanted_of (want := false) (b := true) rfl rfl (by rw [eval_get]; exact d106)) (hK _ _ (Fr.refl _ _) hC rfl)) | (refine wpOp_want rfl (wanted_of (want := false) (b := false) rfl rfl (by rw [eval_get]; exact d106)) ?_)
                              all_goals (
                                go_wp2_with fail
                                exact hK _ _ (Fr.refl _ _) hC rfl)
                            · rw [if_neg (by decide)]; intro kq
                              intro a W K hC hd hK
                              have d110 : _ = _ := hd 110 (by decide)
                              have d106 : _ = _ := hd 106 (by decide)
                              first | (exact wpOp_skip rfl (wanted_of (want := false) (b := true) rfl rfl (by rw [eval_get]; exact d106)) (hK _ _ (Fr.refl _ _) hC rfl)) | (refine wpOp_want rfl (wanted_of (want := false) (b := false) rfl rfl (by rw [eval_get]; exact d106)) ?_)
                              all_goals (
                                go_wp2_with fail
                                exact hK _ _ (Fr.refl _ _) hC rfl)
                            · rw [if_neg (by decide)]; intro kq
                              intro a W K hC hd hK
                              have d9 : a.tmps[9]?.getD undef = .int .i64 0 := hd 9 (by decide)
                              have d111 : _ = _ := hd 111 (by decide)
                              first | (exact wpOp_skip rfl (wanted_of (want := false) (b := true) rfl rfl (by rw [eval_get]; exact d111)) (hK _ _ (Fr.refl _ _) hC rfl)) | (refine wpOp_want rfl (wanted_of (want := false) (b := false) rfl rfl (by rw [eval_get]; exact d111)) ?_)
                              all_goals (
                                go_wp2_with fail
                                exact hK _ _ (Fr.refl _ _) hC rfl)
                            · rw [if_neg (by decide)]; intro kq
                              intro a W K hC hd hK
                              have d112 : _ = _ := hd 112 (by decide)
                              have d111 : _ = _ := hd 111 (by decide)
                              first | (exact wpOp_skip rfl (wanted_of (want := false) (b := true) rfl rfl (by rw [eval_get]; exact d111)) (hK _ _ (Fr.refl _ _) hC rfl)) | (refine wpOp_want rfl (wanted_of (want := false) (b := false) rfl rfl (by rw [eval_get]; exact d111)) ?_)
                              all_goals (
                                go_wp2_with fail
                                exact hK _ _ (Fr.refl _ _) hC rfl)
                            · rw [if_neg (by decide)]; intro kq
                              intro a W K hC hd hK
                              have d111 : _ = _ := hd 111 (by decide)
                              have d113 : _ = _ := hd 113 (by decide)
                              have d106 : _ = _ := hd 106 (by decide)
                              first | (exact wpOp_skip rfl (wanted_of (want := false) (b := true) rfl rfl (by rw [eval_get]; exact d106)) (hK _ _ (Fr.refl _ _) hC rfl)) | (refine wpOp_want rfl (wanted_of (want := false) (b := false) rfl rfl (by rw [eval_get]; exact d106)) ?_)
                              all_goals (
                                go_wp2_with fail
                                exact hK _ _ (Fr.refl _ _) hC rfl)
                            · rw [if_neg (by decide)]; intro kq
                              intro a W K hC hd hK
                              have d114 : _ = _ := hd 114 (by decide)
                              have d106 : _ = _ := hd 106 (by decide)
                              first | (exact wpOp_skip rfl (wanted_of (want := false) (b := true) rfl rfl (by rw [eval_get]; exact d106)) (hK _ _ (Fr.refl _ _) hC rfl)) | (refine wpOp_want rfl (wanted_of (want := false) (b := false) rfl rfl (by rw [eval_get]; exact d106)) ?_)
                              all_goals (
                                go_wp2_with fail
                                exact hK _ _ (Fr.refl _ _) hC rfl)
                            · rw [if_neg (by decide)]; intro kq
                              intro a W K hC hd hK
                              have d3 : a.tmps[3]?.getD undef = .pointer (some ⟨p1, 0, none⟩) := hd 3 (by decide)
                              have d115 : _ = _ := hd 115 (by decide)
                              first | (exact wpOp_skip rfl (wanted_of (want := true) (b := false) rfl rfl (by rw [eval_get]; exact d115)) (hK _ _ (Fr.refl _ _) hC rfl)) | (refine wpOp_want rfl (wanted_of (want := true) (b := true) rfl rfl (by rw [eval_get]; exact d115)) ?_)
                              all_goals (
                                go_wp2_with fail
                                exact hK _ _ (Fr.refl _ _) hC rfl)
                            · rw [if_neg (by decide)]; intro kq
                              intro a W K hC hd hK
                              have d11 : a.tmps[11]?.getD undef = .int .u8 j := hd 11 (by decide)
                              have d115 : _ = _ := hd 115 (by decide)
                              first | (exact wpOp_skip rfl (wanted_of (want := true) (b := false) rfl rfl (by rw [eval_get]; exact d115)) (hK _ _ (Fr.refl _ _) hC rfl)) | (refine wpOp_want rfl (wanted_of (want := true) (b := true) rfl rfl (by rw [eval_get]; exact d115)) ?_)
                              all_goals (
                                go_wp2_with fail
                                exact hK _ _ (Fr.refl _ _) hC rfl)
                            · rw [if_neg (by decide)]; intro kq
                              intro a W K hC hd hK
                              have d116 : _ = _ := hd 116 (by decide)
                              have d117 : _ = _ := hd 117 (by decide)
                              have d115 : _ = _ := hd 115 (by decide)
                              first | (exact wpOp_skip rfl (wanted_of (want := true) (b := false) rfl rfl (by rw [eval_get]; exact d115)) (hK _ _ (Fr.refl _ _) hC rfl)) | (refine wpOp_want rfl (wanted_of (want := true) (b := true) rfl rfl (by rw [eval_get]; exact d115)) ?_)
                              all_goals (
                                obtain ⟨x0, x1, x2, x3, x4, xf⟩ := BlkAt.c5 (hbx.fr hC id)
                                have hcw := (hqx.fr hC id).cell hwj
                                go_wp2_with fail
                                refine (hl1 W (htx.fr0 hC)).mono ?_
                                rintro e9 w9 ⟨rfl, rfl⟩
                                exact hK _ _ (Fr.refl _ _) hC rfl)
                            · rw [if_neg (by decide)]; intro kq
                              intro a W K hC hd hK
                              have d11 : a.tmps[11]?.getD undef = .int .u8 j := hd 11 (by decide)
                              have d115 : _ = _ := hd 115 (by decide)
                              first | (exact wpOp_skip rfl (wanted_of (want := true) (b := false) rfl rfl (by rw [eval_get]; exact d115)) (hK _ _ (Fr.refl _ _) hC rfl)) | (refine wpOp_want rfl (wanted_of (want := true) (b := true) rfl rfl (by rw [eval_get]; exact d115)) ?_)
                              all_goals (
                                go_wp2_with fail
                                exact hK _ _ (Fr.refl _ _) hC rfl)
                            · rw [if_neg (by decide)]; intro kq
                              intro a W K hC hd hK
                              have d7 : a.tmps[7]?.getD undef = .pointer (some ⟨q, 0, none⟩) := hd 7 (by decide)
                              have d119 : _ = _ := hd 119 (by decide)
                              have d115 : _ = _ := hd 115 (by decide)
                              first | (exact wpOp_skip rfl (wanted_of (want := true) (b := false) rfl rfl (by rw [eval_get]; exact d115)) (hK _ _ (Fr.refl _ _) hC rfl)) | (refine wpOp_want rfl (wanted_of (want := true) (b := true) rfl rfl (by rw [eval_get]; exact d115)) ?_)
                              all_goals (
                                obtain ⟨x0, x1, x2, x3, x4, xf⟩ := BlkAt.c5 (hbx.fr hC id)
                                have hcw := (hqx.fr hC id).cell hwj
                                go_wp2_with fail
                                exact hK _ _ (Fr.refl _ _) hC rfl)
                            · rw [if_neg (by decide)]; intro kq
                              intro a W K hC hd hK
                              have d120 : _ = _ := hd 120 (by decide)
                              have d115 : _ = _ := hd 115 (by decide)
                              first | (exact wpOp_skip rfl (wanted_of (want := true) (b := false) rfl rfl (by rw [eval_get]; exact d115)) (hK _ _ (Fr.refl _ _) hC rfl)) | (refine wpOp_want rfl (wanted_of (want := true) (b := true) rfl rfl (by rw [eval_get]; exact d115)) ?_)
                              all_goals (
                                obtain ⟨x0, x1, x2, x3, x4, xf⟩ := BlkAt.c5 (hbx.fr hC id)
                                have hcw := (hqx.fr hC id).cell hwj
                                go_wp2_with fail
                                exact hK _ _ (Fr.refl _ _) hC rfl)
                            · rw [if_neg (by decide)]; intro kq
                              intro a W K hC hd hK
                              have d118 : _ = _ := hd 118 (by decide)
                              have d121 : _ = _ := hd 121 (by decide)
                              have d115 : _ = _ := hd 115 (by decide)
                              first | (exact wpOp_skip rfl (wanted_of (want := true) (b := false) rfl rfl (by rw [eval_get]; exact d115)) (hK _ _ (Fr.refl _ _) hC rfl)) | (refine wpOp_want rfl (wanted_of (want := true) (b := true) rfl rfl (by rw [eval_get]; exact d115)) ?_)
                              all_goals (
                                go_wp2_with fail
                                exact hK _ _ (Fr.refl _ _) hC rfl)
                            · rw [if_neg (by decide)]; intro kq
                              intro a W K hC hd hK
                              have d115 : _ = _ := hd 115 (by decide)
                              have d122 : _ = _ := hd 122 (by decide)
                              have d106 : _ = _ := hd 106 (by decide)
                              first | (exact wpOp_skip rfl (wanted_of (want := false) (b := true) rfl rfl (by rw [eval_get]; exact d106)) (hK _ _ (Fr.refl _ _) hC rfl)) | (refine wpOp_want rfl (wanted_of (want := false) (b := false) rfl rfl (by rw [eval_get]; exact d106)) ?_)
                              all_goals (
                                go_wp2_with fail
                                exact hK _ _ (Fr.refl _ _) hC rfl)
                            · rw [if_neg (by decide)]; intro kq
                              intro a W K hC hd hK
                              have d106 : _ = _ := hd 106 (by decide)
                              have d123 : _ = _ := hd 123 (by decide)
                              refine wpOp_plain rfl rfl ?_
                              go_wp2_with fail
                              exact hK _ _ (Fr.refl _ _) hC rfl
                          · intro vs w19 fw19 cw19 hV
                            have v99 : vs 0 = _ := hV 0 _ _ rfl rfl (by decide)
                            have v100 : vs 1 = _ := hV 1 _ _ rfl rfl (by decide)
                            have v101 : vs 2 = _ := hV 2 _ _ rfl rfl (by decide)
                            have v102 : vs 3 = _ := hV 3 _ _ rfl rfl (by decide)
                            have v103 : vs 4 = _ := hV 4 _ _ rfl rfl (by decide)
                            have v104 : vs 5 = _ := hV 5 _ _ rfl rfl (by decide)
                            have v105 : vs 6 = _ := hV 6 _ _ rfl rfl (by decide)
                            have v106 : vs 7 = _ := hV 7 _ _ rfl rfl (by decide)
                            have v107 : vs 8 = _ := hV 8 _ _ rfl rfl (by decide)
                            have v108 : vs 9 = _ := hV 9 _ _ rfl rfl (by decide)
                            have v109 : vs 10 = _ := hV 10 _ _ rfl rfl (by decide)
                            have v110 : vs 11 = _ := hV 11 _ _ rfl rfl (by decide)
                            have v111 : vs 12 = _ := hV 12 _ _ rfl rfl (by decide)
                            have v112 : vs 13 = _ := hV 13 _ _ rfl rfl (by decide)
                            have v113 : vs 14 = _ := hV 14 _ _ rfl rfl (by decide)
                            have v114 : vs 15 = _ := hV 15 _ _ rfl rfl (by decide)
                            have v115 : vs 16 = _ := hV 16 _ _ rfl rfl (by decide)
                            have v116 : vs 17 = _ := hV 17 _ _ rfl rfl (by decide)
                            have v117 : vs 18 = _ := hV 18 _ _ rfl rfl (by decide)
                            have v118 : vs 19 = _ := hV 19 _ _ rfl rfl (by decide)
                            have v119 : vs 20 = _ := hV 20 _ _ rfl rfl (by decide)
                            have v120 : vs 21 = _ := hV 21 _ _ rfl rfl (by decide)
                            have v121 : vs 22 = _ := hV 22 _ _ rfl rfl (by decide)
                            have v122 : vs 23 = _ := hV 23 _ _ rfl rfl (by decide)
                            have v123 : vs 24 = _ := hV 24 _ _ rfl rfl (by decide)
                            have v124 : vs 25 = _ := hV 25 _ _ rfl rfl (by decide)
                            clear hV
                            simp only [putL, Act.put, Nat.reduceAdd, List.setIfInBounds_toArray, List.set_cons_zero, List.set_cons_succ, v99, v100, v101, v102, v103, v104, v105, v106, v107, v108, v109, v110, v111, v112, v113, v114, v115, v116, v117, v118, v119, v120, v121, v122, v123, v124]
                            have hf19 := hfx.then' fw19
                            clear fw19 cw19 htx hqx hbx hmx Fx hl1
                            go_wp2_with fail
                            go_roundw
                            case rel => exact ⟨j + 1, by omega, by go_num, hf19⟩
                            case measure => simp [intOf]; omega
                      · go_wp2_with fail
                        go_roundw
                        case rel => exact ⟨k + 1, (putF2 f u.cl u.num 1), by omega, by go_num, by rw [HTT.out]; exact htx.mono (fun _ _ h => h.1), hmx, by rw [HTT.out]; exact hrt', Fx⟩
                        case measure => simp [intOf]; omega
              · have te : ((er : Int) == 0) = false := by rw [beq_eq_false_iff_ne]; omega
                have te2 : ((er : Int) != 0) = true := by rw [bne_iff_ne]; omega
                have hm10 := hm9.mono (m := k + 1) (by omega)
                clear hrt hfn hok
                have HTT : Hid (foldA zeroT (L.take (k + 1)) = t') := HT
                go_wp2_with fail
                go_loopw [96] (fun i wr => ∃ j : Nat, j ≤ 8 ∧ i = .int .u8 j ∧ Fr noB w9 wr) (fun i _ => 8 - (intOf i).toNat)
                case atStart => exact ⟨0, by omega, rfl, Fr.refl _ _⟩
                case round =>
                  obtain ⟨j, hj, rfl, hfx⟩ := hrel
                  have htx := ht9.fr0 hfx
                  have hqx := hq9.fr hfx id
                  have hbx := hb9.fr hfx id
                  have hmx := hm10.fr hfx id
                  have Fx := F9.then' hfx
                  clear ht9 hq9 hb9 hm10 F9
                  by_cases hj8 : j < 8
                  · have hl1 := fun W h => lastA_calls W (RiQ p1 pm q) p1 t' j h
                    obtain ⟨hle, heq⟩ := hla j
                    have hwj := wasC_get t 8 j hj8
                    rw [if_pos hj8] at hwj
                    have hjw : IntKind.u8.wrap ((j : Int) + 1) = (j + 1 : Nat) := by rw [IntKind.wrap_u8]; omega
                    have hjb : 0 ≤ (j : Int) ∧ (j : Int) < 8 := ⟨by omega, by omega⟩
                    by_cases hjc : j = u.cl
                    · have tb1 : ((j : Int) != (u.cl : Int)) = false := by rw [bne_eq_false_iff_eq]; omega
                      have hxy := heq (Or.inr he)
                      generalize lastA t' j = x at *
                      generalize lastA t j = y at *
                      subst hxy
                      have td1 : decide (x < x) = false := decide_eq_false (by omega)
                      clear heq hle hjc
                      go_wp2_with fail
                      apply wp_region_calm (R := Fr noB) (C := fun q' W => Fr noB wr W) [false, false, false, false, false, false, false, false, false, false, false, false, false, false, false, false, false, false, false, false, false, false, false, false, false, false]
                        [eqv _, eqv _, eqv _, eqv _, eqv _, eqv _, eqv _, eqv _, eqv _, eqv _, eqv _, eqv _, eqv _, eqv _, eqv _, eqv _, eqv _, eqv _, eqv _, eqv _, eqv _, eqv _, eqv _, eqv _, eqv _, eqv _]
                        (by kernel_rfl) (by kernel_rfl) (fun _ _ _ h1 h2 => h1.then' h2) ((Fr.refl _ _).drew) ((Fr.refl _ _).drew) (by kernel_rfl)
                      · refine ⟨?_, ?_, ?_, ?_, ?_, ?_, ?_, ?_, ?_, ?_, ?_, ?_, ?_, ?_, ?_, ?_, ?_, ?_, ?_, ?_, ?_, ?_, ?_, ?_, ?_, ?_, trivial⟩
                        · rw [if_neg (by decide)]; intro kq
                          exact calm_mv 3 rfl rfl (Or.inl rfl) (Fr.refl _) (by decide) fun v w hd => hd
                        · rw [if_neg (by decide)]; intro kq
                          exact calm_mv 11 rfl rfl (Or.inl rfl) (Fr.refl _) (by decide) fun v w hd => hd
                        · rw [if_neg (by decide)]; intro kq
                          intro a W K hC hd hK
                          have d99 : _ = _ := hd 99 (by decide)
                          have d100 : _ = _ := hd 100 (by decide)
                          refine wpOp_plain rfl rfl ?_
                          obtain ⟨x0, x1, x2, x3, x4, xf⟩ := BlkAt.c5 (hbx.fr hC id)
                          have hcw := (hqx.fr hC id).cell hwj
                          go_wp2_with fail
                          refine (hl1 W (htx.fr0 hC)).mono ?_
                          rintro e9 w9 ⟨rfl, rfl⟩
                          exact hK _ _ (Fr.refl _ _) hC rfl
                        · rw [if_neg (by decide)]; intro kq
                          exact calm_mv 11 rfl rfl (Or.inl rfl) (Fr.refl _) (by decide) fun v w hd => hd
                        · rw [if_neg (by decide)]; intro kq
                          intro a W K hC hd hK
                          have d7 : a.tmps[7]?.getD undef = .pointer (some ⟨q, 0, none⟩) := hd 7 (by decide)
                          have d102 : _ = _ := hd 102 (by decide)
                          refine wpOp_plain rfl rfl ?_
                          obtain ⟨x0, x1, x2, x3, x4, xf⟩ := BlkAt.c5 (hbx.fr hC id)
                          have hcw := (hqx.fr hC id).cell hwj
                          go_wp2_with fail
                          exact hK _ _ (Fr.refl _ _) hC rfl
                        · rw [if_neg (by decide)]; intro kq
                          intro a W K hC hd hK
                          have d103 : _ = _ := hd 103 (by decide)
                          refine wpOp_plain rfl rfl ?_
                          obtain ⟨x0, x1, x2, x3, x4, xf⟩ := BlkAt.c5 (hbx.fr hC id)
                          have hcw := (hqx.fr hC id).cell hwj
                          go_wp2_with fail
                          exact hK _ _ (Fr.refl _ _) hC rfl
                        · rw [if_neg (by decide)]; intro kq
                          intro a W K hC hd hK
                          have d101 : _ = _ := hd 101 (by decide)
                          have d104 : _ = _ := hd 104 (by decide)
                          refine wpOp_plain rfl rfl ?_
                          go_wp2_with fail
                          exact hK _ _ (Fr.refl _ _) hC rfl
                        · rw [if_neg (by decide)]; intro kq
                          exact calm_mv 105 rfl rfl (Or.inl rfl) (Fr.refl _) (by decide) fun v w hd => hd
                        · rw [if_neg (by decide)]; intro kq
                          intro a W K hC hd hK
                          have d11 : a.tmps[11]?.getD undef = .int .u8 j := hd 11 (by decide)
                          have d106 : _ = _ := hd 106 (by decide)
                          first | (exact wpOp_skip rfl (wanted_of (want := false) (b := true) rfl rfl (by rw [eval_get]; exact d106)) (hK _ _ (Fr.refl _ _) hC rfl)) | (refine wpOp_want rfl (wanted_of (want := false) (b := false) rfl rfl (by rw [eval_get]; exact d106)) ?_)
                          all_goals (
                            go_wp2_with fail
                            exact hK _ _ (Fr.refl _ _) hC rfl)
                        · rw [if_neg (by decide)]; intro kq
                          intro a W K hC hd hK
                          have d6 : a.tmps[6]?.getD undef = .pointer (some ⟨p5, 0, none⟩) := hd 6 (by decide)
                          have d106 : _ = _ := hd 106 (by decide)
                          first | (exact wpOp_skip rfl (wanted_of (want := false) (b := true) rfl rfl (by rw [eval_get]; exact d106)) (hK _ _ (Fr.refl _ _) hC rfl)) | (refine wpOp_want rfl (wanted_of (want := false) (b := false) rfl rfl (by rw [eval_get]; exact d106)) ?_)
                          all_goals (
                            obtain ⟨x0, x1, x2, x3, x4, xf⟩ := BlkAt.c5 (hbx.fr hC id)
                            have hcw := (hqx.fr hC id).cell hwj
                            go_wp2_with fail
                            exact hK _ _ (Fr.refl _ _) hC rfl)
                        · rw [if_neg (by decide)]; intro kq
                          intro a W K hC hd hK
                          have d108 : _ = _ := hd 108 (by decide)
                          have d106 : _ = _ := hd 106 (by decide)
                          first | (exact wpOp_skip rfl (wanted_of (want := false) (b := true) rfl rfl (by rw [eval_get]; exact d106)) (hK _ _ (Fr.refl _ _) hC rfl)) | (refine wpOp_want rfl (wanted_of (want := false) (b := false) rfl rfl (by rw [eval_get]; exact d106)) ?_)
                          all_goals (
                            obtain ⟨x0, x1, x2, x3, x4, xf⟩ := BlkAt.c5 (hbx.fr hC id)
                            have hcw := (hqx.fr hC id).cell hwj
                            go_wp2_with fail
                            exact hK _ _ (Fr.refl _ _) hC rfl)
                        · rw [if_neg (by decide)]; intro kq
                          intro a W K hC hd hK
                          have d107 : _ = _ := hd 107 (by decide)
                          have d109 : _ = _ := hd 109 (by decide)
                          have d106 : _ = _ := hd 106 (by decide)
                          first | (exact wpOp_skip rfl (wanted_of (want := false) (b := true) rfl rfl (by rw [eval_get]; exact d106)) (hK _ _ (Fr.refl _ _) hC rfl)) | (refine wpOp_want rfl (wanted_of (want := false) (b := false) rfl rfl (by rw [eval_get]; exact d106)) ?_)
                          all_goals (
                            go_wp2_with fail
                            exact hK _ _ (Fr.refl _ _) hC rfl)
                        · rw [if_neg (by decide)]; intro kq
                          intro a W K hC hd hK
                          have d110 : _ = _ := hd 110 (by decide)
                          have d106 : _ = _ := hd 106 (by decide)
                          first | (exact wpOp_skip rfl (wanted_of (want := false) (b := true) rfl rfl (by rw [eval_get]; exact d106)) (hK _ _ (Fr.refl _ _) hC rfl)) | (refine wpOp_want rfl (wanted_of (want := false) (b := false) rfl rfl (by rw [eval_get]; exact d106)) ?_)
                          all_goals (
                            go_wp2_with fail
                            exact hK _ _ (Fr.refl _ _) hC rfl)
                        · rw [if_neg (by decide)]; intro kq
                          intro a W K hC hd hK
                          have d9 : a.tmps[9]?.getD undef = .int .i64 er := hd 9 (by decide)
                          have d111 : _ = _ := hd 111 (by decide)
                          first | (exact wpOp_skip rfl (wanted_of (want := false) (b := true) rfl rfl (by rw [eval_get]; exact d111)) (hK _ _ (Fr.refl _ _) hC rfl)) | (refine wpOp_want rfl (wanted_of (want := false) (b := false) rfl rfl (by rw [eval_get]; exact d111)) ?_)
                          all_goals (
                            go_wp2_with fail
                            exact hK _ _ (Fr.refl _ _) hC rfl)
                        · rw [if_neg (by decide)]; intro kq
                          intro a W K hC hd hK
                          have d112 : _ = _ := hd 112 (by decide)
                          have d111 : _ = _ := hd 111 (by decide)
                          first | (exact wpOp_skip rfl (wanted_of (want := false) (b := true) rfl rfl (by rw [eval_get]; exact d111)) (hK _ _ (Fr.refl _ _) hC rfl)) | (refine wpOp_want rfl (wanted_of (want := false) (b := false) rfl rfl (by rw [eval_get]; exact d111)) ?_)
                          all_goals (
                            go_wp2_with fail
                            exact hK _ _ (Fr.refl _ _) hC rfl)
                        · rw [if_neg (by decide)]; intro kq
                          intro a W K hC hd hK
                          have d111 : _ = _ := hd 111 (by decide)
                          have d113 : _ = _ := hd 113 (by decide)
                          have d106 : _ = _ := hd 106 (by decide)
                          first | (exact wpOp_skip rfl (wanted_of (want := false) (b := true) rfl rfl (by rw [eval_get]; exact d106)) (hK _ _ (Fr.refl _ _) hC rfl)) | (refine wpOp_want rfl (wanted_of (want := false) (b := false) rfl rfl (by rw [eval_get]; exact d106)) ?_)
                          all_goals (
                            go_wp2_with fail
                            exact hK _ _ (Fr.refl _ _) hC rfl)
                        · rw [if_neg (by decide)]; intro kq
                          intro a W K hC hd hK
                          have d114 : _ = _ := hd 114 (by decide)
                          have d106 : _ = _ := hd 106 (by decide)
                          first | (exact wpOp_skip rfl (wanted_of (want := false) (b := true) rfl rfl (by rw [eval_get]; exact d106)) (hK _ _ (Fr.refl _ _) hC rfl)) | (refine wpOp_want rfl (wanted_of (want := false) (b := false) rfl rfl (by rw [eval_get]; exact d106)) ?_)
                          all_goals (
                            go_wp2_with fail
                            exact hK _ _ (Fr.refl _ _) hC rfl)
                        · rw [if_neg (by decide)]; intro kq
                          intro a W K hC hd hK
                          have d3 : a.tmps[3]?.getD undef = .pointer (some ⟨p1, 0, none⟩) := hd 3 (by decide)
                          have d115 : _ = _ := hd 115 (by decide)
                          first | (exact wpOp_skip rfl (wanted_of (want := true) (b := false) rfl rfl (by rw [eval_get]; exact d115)) (hK _ _ (Fr.refl _ _) hC rfl)) | (refine wpOp_want rfl (wanted_of (want := true) (b := true) rfl rfl (by rw [eval_get]; exact d115)) ?_)
                          all_goals (
                            go_wp2_with fail
                            exact hK _ _ (Fr.refl _ _) hC rfl)
                        · rw [if_neg (by decide)]; intro kq
                          intro a W K hC hd hK
                          have d11 : a.tmps[11]?.getD undef = .int .u8 j := hd 11 (by decide)
                          have d115 : _ = _ := hd 115 (by decide)
                          first | (exact wpOp_skip rfl (wanted_of (want := true) (b := false) rfl rfl (by rw [eval_get]; exact d115)) (hK _ _ (Fr.refl _ _) hC rfl)) | (refine wpOp_want rfl (wanted_of (want := true) (b := true) rfl rfl (by rw [eval_get]; exact d115)) ?_)
                          all_goals (
                            go_wp2_with fail
                            exact hK _ _ (Fr.refl _ _) hC rfl)
                        · rw [if_neg (by decide)]; intro kq
                          intro a W K hC hd hK
                          have d116 : _ = _ := hd 116 (by decide)
                          have d117 : _ = _ := hd 117 (by decide)
                          have d115 : _ = _ := hd 115 (by decide)
                          first | (exact wpOp_skip rfl (wanted_of (want := true) (b := false) rfl rfl (by rw [eval_get]; exact d115)) (hK _ _ (Fr.refl _ _) hC rfl)) | (refine wpOp_want rfl (wanted_of (want := true) (b := true) rfl rfl (by rw [eval_get]; exact d115)) ?_)
                          all_goals (
                            obtain ⟨x0, x1, x2, x3, x4, xf⟩ := BlkAt.c5 (hbx.fr hC id)
                            have hcw := (hqx.fr hC id).cell hwj
                            go_wp2_with fail
                            refine (hl1 W (htx.fr0 hC)).mono ?_
                            rintro e9 w9 ⟨rfl, rfl⟩
                            exact hK _ _ (Fr.refl _ _) hC rfl)
                        · rw [if_neg (by decide)]; intro kq
                          intro a W K hC hd hK
                          have d11 : a.tmps[11]?.getD undef = .int .u8 j := hd 11 (by decide)
                          have d115 : _ = _ := hd 115 (by decide)
                          first | (exact wpOp_skip rfl (wanted_of (want := true) (b := false) rfl rfl (by rw [eval_get]; exact d115)) (hK _ _ (Fr.refl _ _) hC rfl)) | (refine wpOp_want rfl (wanted_of (want := true) (b := true) rfl rfl (by rw [eval_get]; exact d115)) ?_)
                          all_goals (
                            go_wp2_with fail
                            exact hK _ _ (Fr.refl _ _) hC rfl)
                        · rw [if_neg (by decide)]; intro kq
                          intro a W K hC hd hK
                          have d7 : a.tmps[7]?.getD undef = .pointer (some ⟨q, 0, none⟩) := hd 7 (by decide)
                          have d119 : _ = _ := hd 119 (by decide)
                          have d115 : _ = _ := hd 115 (by decide)
                          first | (exact wpOp_skip rfl (wanted_of (want := true) (b := false) rfl rfl (by rw [eval_get]; exact d115)) (hK _ _ (Fr.refl _ _) hC rfl)) | (refine wpOp_want rfl (wanted_of (want := true) (b := true) rfl rfl (by rw [eval_get]; exact d115)) ?_)
                          all_goals (
                            obtain ⟨x0, x1, x2, x3, x4, xf⟩ := BlkAt.c5 (hbx.fr hC id)
                            have hcw := (hqx.fr hC id).cell hwj
                            go_wp2_with fail
                            exact hK _ _ (Fr.refl _ _) hC rfl)
                        · rw [if_neg (by decide)]; intro kq
                          intro a W K hC hd hK
                          have d120 : _ = _ := hd 120 (by decide)
                          have d115 : _ = _ := hd 115 (by decide)
                          first | (exact wpOp_skip rfl (wanted_of (want := true) (b := false) rfl rfl (by rw [eval_get]; exact d115)) (hK _ _ (Fr.refl _ _) hC rfl)) | (refine wpOp_want rfl (wanted_of (want := true) (b := true) rfl rfl (by rw [eval_get]; exact d115)) ?_)
                          all_goals (
                            obtain ⟨x0, x1, x2, x3, x4, xf⟩ := BlkAt.c5 (hbx.fr hC id)
                            have hcw := (hqx.fr hC id).cell hwj
                            go_wp2_with fail
                            exact hK _ _ (Fr.refl _ _) hC rfl)
                        · rw [if_neg (by decide)]; intro kq
                          intro a W K hC hd hK
                          have d118 : _ = _ := hd 118 (by decide)
                          have d121 : _ = _ := hd 121 (by decide)
                          have d115 : _ = _ := hd 115 (by decide)
                          first | (exact wpOp_skip rfl (wanted_of (want := true) (b := false) rfl rfl (by rw [eval_get]; exact d115)) (hK _ _ (Fr.refl _ _) hC rfl)) | (refine wpOp_want rfl (wanted_of (want := true) (b := true) rfl rfl (by rw [eval_get]; exact d115)) ?_)
                          all_goals (
                            go_wp2_with fail
                            exact hK _ _ (Fr.refl _ _) hC rfl)
                        · rw [if_neg (by decide)]; intro kq
                          intro a W K hC hd hK
                          have d115 : _ = _ := hd 115 (by decide)
                          have d122 : _ = _ := hd 122 (by decide)
                          have d106 : _ = _ := hd 106 (by decide)
                          first | (exact wpOp_skip rfl (wanted_of (want := false) (b := true) rfl rfl (by rw [eval_get]; exact d106)) (hK _ _ (Fr.refl _ _) hC rfl)) | (refine wpOp_want rfl (wanted_of (want := false) (b := false) rfl rfl (by rw [eval_get]; exact d106)) ?_)
                          all_goals (
                            go_wp2_with fail
                            exact hK _ _ (Fr.refl _ _) hC rfl)
                        · rw [if_neg (by decide)]; intro kq
                          intro a W K hC hd hK
                          have d106 : _ = _ := hd 106 (by decide)
                          have d123 : _ = _ := hd 123 (by decide)
                          refine wpOp_plain rfl rfl ?_
                          go_wp2_with fail
                          exact hK _ _ (Fr.refl _ _) hC rfl
                      · intro vs w19 fw19 cw19 hV
                        have v99 : vs 0 = _ := hV 0 _ _ rfl rfl (by decide)
                        have v100 : vs 1 = _ := hV 1 _ _ rfl rfl (by decide)
                        have v101 : vs 2 = _ := hV 2 _ _ rfl rfl (by decide)
                        have v102 : vs 3 = _ := hV 3 _ _ rfl rfl (by decide)
                        have v103 : vs 4 = _ := hV 4 _ _ rfl rfl (by decide)
                        have v104 : vs 5 = _ := hV 5 _ _ rfl rfl (by decide)
                        have v105 : vs 6 = _ := hV 6 _ _ rfl rfl (by decide)
                        have v106 : vs 7 = _ := hV 7 _ _ rfl rfl (by decide)
                        have v107 : vs 8 = _ := hV 8 _ _ rfl rfl (by decide)
                        have v108 : vs 9 = _ := hV 9 _ _ rfl rfl (by decide)
                        have v109 : vs 10 = _ := hV 10 _ _ rfl rfl (by decide)
                        have v110 : vs 11 = _ := hV 11 _ _ rfl rfl (by decide)
                        have v111 : vs 12 = _ := hV 12 _ _ rfl rfl (by decide)
                        have v112 : vs 13 = _ := hV 13 _ _ rfl rfl (by decide)
                        have v113 : vs 14 = _ := hV 14 _ _ rfl rfl (by decide)
                        have v114 : vs 15 = _ := hV 15 _ _ rfl rfl (by decide)
                        have v115 : vs 16 = _ := hV 16 _ _ rfl rfl (by decide)
                        have v116 : vs 17 = _ := hV 17 _ _ rfl rfl (by decide)
                        have v117 : vs 18 = _ := hV 18 _ _ rfl rfl (by decide)
                        have v118 : vs 19 = _ := hV 19 _ _ rfl rfl (by decide)
                        have v119 : vs 20 = _ := hV 20 _ _ rfl rfl (by decide)
                        have v120 : vs 21 = _ := hV 21 _ _ rfl rfl (by decide)
                        have v121 : vs 22 = _ := hV 22 _ _ rfl rfl (by decide)
                        have v122 : vs 23 = _ := hV 23 _ _ rfl rfl (by decide)
                        have v123 : vs 24 = _ := hV 24 _ _ rfl rfl (by decide)
                        have v124 : vs 25 = _ := hV 25 _ _ rfl rfl (by decide)
                        clear hV
                        simp only [putL, Act.put, Nat.reduceAdd, List.setIfInBounds_toArray, List.set_cons_zero, List.set_cons_succ, v99, v100, v101, v102, v103, v104, v105, v106, v107, v108, v109, v110, v111, v112, v113, v114, v115, v116, v117, v118, v119, v120, v121, v122, v123, v124]
                        have hf19 := hfx.then' fw19
                        clear fw19 cw19 htx hqx hbx hmx Fx hl1
                        go_wp2_with fail
                        go_roundw
                        case rel => exact ⟨j + 1, by omega, by go_num, hf19⟩
                        case measure => simp [intOf]; omega
                    · have tb1 : ((j : Int) != (u.cl : Int)) = true := by rw [bne_iff_ne]; omega
                      have hxy := heq (Or.inl hjc)
                      generalize lastA t' j = x at *
                      generalize lastA t j = y at *
                      subst hxy
                      have td1 : decide (x < x) = false := decide_eq_false (by omega)
                      clear heq hle hjc
                      go_wp2_with fail
                      apply wp_region_calm (R := Fr noB) (C := fun q' W => Fr noB wr W) [false, false, false, false, false, false, false, false, false, false, false, false, false, false, false, false, false, false, false, false, false, false, false, false, false, false]
                        [eqv _, eqv _, eqv _, eqv _, eqv _, eqv _, eqv _, eqv _, eqv _, eqv _, eqv _, eqv _, eqv _, eqv _, eqv _, eqv _, eqv _, eqv _, eqv _, eqv _, eqv _, eqv _, eqv _, eqv _, eqv _, eqv _]
                        (by kernel_rfl) (by kernel_rfl) (fun _ _ _ h1 h2 => h1.then' h2) ((Fr.refl _ _).drew) ((Fr.refl _ _).drew) (by kernel_rfl)
                      · refine ⟨?_, ?_, ?_, ?_, ?_, ?_, ?_, ?_, ?_, ?_, ?_, ?_, ?_, ?_, ?_, ?_, ?_, ?_, ?_, ?_, ?_, ?_, ?_, ?_, ?_, ?_, trivial⟩
                        · rw [if_neg (by decide)]; intro kq
                          exact calm_mv 3 rfl rfl (Or.inl rfl) (Fr.refl _) (by decide) fun v w hd => hd
                        · rw [if_neg (by decide)]; intro kq
                          exact calm_mv 11 rfl rfl (Or.inl rfl) (Fr.refl _) (by decide) fun v w hd => hd
                        · rw [if_neg (by decide)]; intro kq
                          intro a W K hC hd hK
                          have d99 : _ = _ := hd 99 (by decide)
                          have d100 : _ = _ := hd 100 (by decide)
                          refine wpOp_plain rfl rfl ?_
                          obtain ⟨x0, x1, x2, x3, x4, xf⟩ := BlkAt.c5 (hbx.fr hC id)
                          have hcw := (hqx.fr hC id).cell hwj
                          go_wp2_with fail
                          refine (hl1 W (htx.fr0 hC)).mono ?_
                          rintro e9 w9 ⟨rfl, rfl⟩
                          exact hK _ _ (Fr.refl _ _) hC rfl
                        · rw [if_neg (by decide)]; intro kq
                          exact calm_mv 11 rfl rfl (Or.inl rfl) (Fr.refl _) (by decide) fun v w hd => hd
                        · rw [if_neg (by decide)]; intro kq
                          intro a W K hC hd hK
                          have d7 : a.tmps[7]?.getD undef = .pointer (some ⟨q, 0, none⟩) := hd 7 (by decide)
                          have d102 : _ = _ := hd 102 (by decide)
                          refine wpOp_plain rfl rfl ?_
                          obtain ⟨x0, x1, x2, x3, x4, xf⟩ := BlkAt.c5 (hbx.fr hC id)
                          have hcw := (hqx.fr hC id).cell hwj
                          go_wp2_with fail
                          exact hK _ _ (Fr.refl _ _) hC rfl
                        · rw [if_neg (by decide)]; intro kq
                          intro a W K hC hd hK
                          have d103 : _ = _ := hd 103 (by decide)
                          refine wpOp_plain rfl rfl ?_
                          obtain ⟨x0, x1, x2, x3, x4, xf⟩ := BlkAt.c5 (hbx.fr hC id)
                          have hcw := (hqx.fr hC id).cell hwj
                          go_wp2_with fail
                          exact hK _ _ (Fr.refl _ _) hC rfl
                        · rw [if_neg (by decide)]; intro kq
                          intro a W K hC hd hK
                          have d101 : _ = _ := hd 101 (by decide)
                          have d104 : _ = _ := hd 104 (by decide)
                          refine wpOp_plain rfl rfl ?_
                          go_wp2_with fail
                          exact hK _ _ (Fr.refl _ _) hC rfl
                        · rw [if_neg (by decide)]; intro kq
                          exact calm_mv 105 rfl rfl (Or.inl rfl) (Fr.refl _) (by decide) fun v w hd => hd
                        · rw [if_neg (by decide)]; intro kq
                          intro a W K hC hd hK
                          have d11 : a.tmps[11]?.getD undef = .int .u8 j := hd 11 (by decide)
                          have d106 : _ = _ := hd 106 (by decide)
                          first | (exact wpOp_skip rfl (wanted_of (want := false) (b := true) rfl rfl (by rw [eval_get]; exact d106)) (hK _ _ (Fr.refl _ _) hC rfl)) | (refine wpOp_want rfl (wanted_of (want := false) (b := false) rfl rfl (by rw [eval_get]; exact d106)) ?_)
                          all_goals (
                            go_wp2_with fail
                            exact hK _ _ (Fr.refl _ _) hC rfl)
                        · rw [if_neg (by decide)]; intro kq
                          intro a W K hC hd hK
                          have d6 : a.tmps[6]?.getD undef = .pointer (some ⟨p5, 0, none⟩) := hd 6 (by decide)
                          have d106 : _ = _ := hd 106 (by decide)
                          first | (exact wpOp_skip rfl (wanted_of (want := false) (b := true) rfl rfl (by rw [eval_get]; exact d106)) (hK _ _ (Fr.refl _ _) hC rfl)) | (refine wpOp_want rfl (wanted_of (want := false) (b := false) rfl rfl (by rw [eval_get]; exact d106)) ?_)
                          all_goals (
                            obtain ⟨x0, x1, x2, x3, x4, xf⟩ := BlkAt.c5 (hbx.fr hC id)
                            have hcw := (hqx.fr hC id).cell hwj
                            go_wp2_with fail
                            exact hK _ _ (Fr.refl _ _) hC rfl)
                        · rw [if_neg (by decide)]; intro kq
                          intro a W K hC hd hK
                          have d108 : _ = _ := hd 108 (by decide)
                          have d106 : _ = _ := hd 106 (by decide)
                          first | (exact wpOp_skip rfl (wanted_of (want := false) (b := true) rfl rfl (by rw [eval_get]; exact d106)) (hK _ _ (Fr.refl _ _) hC rfl)) | (refine wpOp_want rfl (wanted_of (want := false) (b := false) rfl rfl (by rw [eval_get]; exact d106)) ?_)
                          all_goals (
                            obtain ⟨x0, x1, x2, x3, x4, xf⟩ := BlkAt.c5 (hbx.fr hC id)
                            have hcw := (hqx.fr hC id).cell hwj
                            go_wp2_with fail
                            exact hK _ _ (Fr.refl _ _) hC rfl)
                        · rw [if_neg (by decide)]; intro kq
                          intro a W K hC hd hK
                          have d107 : _ = _ := hd 107 (by decide)
                          have d109 : _ = _ := hd 109 (by decide)
                          have d106 : _ = _ := hd 106 (by decide)
                          first | (exact wpOp_skip rfl (wanted_of (want := false) (b := true) rfl rfl (by rw [eval_get]; exact d106)) (hK _ _ (Fr.refl _ _) hC rfl)) | (refine wpOp_want rfl (wanted_of (want := false) (b := false) rfl rfl (by rw [eval_get]; exact d106)) ?_)
                          all_goals (
                            go_wp2_with fail
                            exact hK _ _ (Fr.refl _ _) hC rfl)
                        · rw [if_neg (by decide)]; intro kq
                          intro a W K hC hd hK
                          have d110 : _ = _ := hd 110 (by decide)
                          have d106 : _ = _ := hd 106 (by decide)
                          first | (exact wpOp_skip rfl (wanted_of (want := false) (b := true) rfl rfl (by rw [eval_get]; exact d106)) (hK _ _ (Fr.refl _ _) hC rfl)) | (refine wpOp_want rfl (wanted_of (want := false) (b := false) rfl rfl (by rw [eval_get]; exact d106)) ?_)
                          all_goals (
                            go_wp2_with fail
                            exact hK _ _ (Fr.refl _ _) hC rfl)
                        · rw [if_neg (by decide)]; intro kq
                          intro a W K hC hd hK
                          have d9 : a.tmps[9]?.getD undef = .int .i64 er := hd 9 (by decide)
                          have d111 : _ = _ := hd 111 (by decide)
                          first | (exact wpOp_skip rfl (wanted_of (want := false) (b := true) rfl rfl (by rw [eval_get]; exact d111)) (hK _ _ (Fr.refl _ _) hC rfl)) | (refine wpOp_want rfl (wanted_of (want := false) (b := false) rfl rfl (by rw [eval_get]; exact d111)) ?_)
                          all_goals (
                            go_wp2_with fail
                            exact hK _ _ (Fr.refl _ _) hC rfl)
                        · rw [if_neg (by decide)]; intro kq
                          intro a W K hC hd hK
                          have d112 : _ = _ := hd 112 (by decide)
                          have d111 : _ = _ := hd 111 (by decide)
                          first | (exact wpOp_skip rfl (wanted_of (want := false) (b := true) rfl rfl (by rw [eval_get]; exact d111)) (hK _ _ (Fr.refl _ _) hC rfl)) | (refine wpOp_want rfl (wanted_of (want := false) (b := false) rfl rfl (by rw [eval_get]; exact d111)) ?_)
                          all_goals (
                            go_wp2_with fail
                            exact hK _ _ (Fr.refl _ _) hC rfl)
                        · rw [if_neg (by decide)]; intro kq
                          intro a W K hC hd hK
                          have d111 : _ = _ := hd 111 (by decide)
                          have d113 : _ = _ := hd 113 (by decide)
                          have d106 : _ = _ := hd 106 (by decide)
                          first | (exact wpOp_skip rfl (wanted_of (want := false) (b := true) rfl rfl (by rw [eval_get]; exact d106)) (hK _ _ (Fr.refl _ _) hC rfl)) | (refine wpOp_want rfl (wanted_of (want := false) (b := false) rfl rfl (by rw [eval_get]; exact d106)) ?_)
                          all_goals (
                            go_wp2_with fail
                            exact hK _ _ (Fr.refl _ _) hC rfl)
                        · rw [if_neg (by decide)]; intro kq
                          intro a W K hC hd hK
                          have d114 : _ = _ := hd 114 (by decide)
                          have d106 : _ = _ := hd 106 (by decide)
                          first | (exact wpOp_skip rfl (wanted_of (want := false) (b := true) rfl rfl (by rw [eval_get]; exact d106)) (hK _ _ (Fr.refl _ _) hC rfl)) | (refine wpOp_want rfl (wanted_of (want := false) (b := false) rfl rfl (by rw [eval_get]; exact d106)) ?_)
                          all_goals (
                            go_wp2_with fail
                            exact hK _ _ (Fr.refl _ _) hC rfl)
                        · rw [if_neg (by decide)]; intro kq
                          intro a W K hC hd hK
                          have d3 : a.tmps[3]?.getD undef = .pointer (some ⟨p1, 0, none⟩) := hd 3 (by decide)
                          have d115 : _ = _ := hd 115 (by decide)
                          first | (exact wpOp_skip rfl (wanted_of (want := true) (b := false) rfl rfl (by rw [eval_get]; exact d115)) (hK _ _ (Fr.refl _ _) hC rfl)) | (refine wpOp_want rfl (wanted_of (want := true) (b := true) rfl rfl (by rw [eval_get]; exact d115)) ?_)
                          all_goals (
                            go_wp2_with fail
                            exact hK _ _ (Fr.refl _ _) hC rfl)
                        · rw [if_neg (by decide)]; intro kq
                          intro a W K hC hd hK
                          have d11 : a.tmps[11]?.getD undef = .int .u8 j := hd 11 (by decide)
                          have d115 : _ = _ := hd 115 (by decide)
                          first | (exact wpOp_skip rfl (wanted_of (want := true) (b := false) rfl rfl (by rw [eval_get]; exact d115)) (hK _ _ (Fr.refl _ _) hC rfl)) | (refine wpOp_want rfl (wanted_of (want := true) (b := true) rfl rfl (by rw [eval_get]; exact d115)) ?_)
                          all_goals (
                            go_wp2_with fail
                            exact hK _ _ (Fr.refl _ _) hC rfl)
                        · rw [if_neg (by decide)]; intro kq
                          intro a W K hC hd hK
                          have d116 : _ = _ := hd 116 (by decide)
                          have d117 : _ = _ := hd 117 (by decide)
                          have d115 : _ = _ := hd 115 (by decide)
                          first | (exact wpOp_skip rfl (wanted_of (want := true) (b := false) rfl rfl (by rw [eval_get]; exact d115)) (hK _ _ (Fr.refl _ _) hC rfl)) | (refine wpOp_want rfl (wanted_of (want := true) (b := true) rfl rfl (by rw [eval_get]; exact d115)) ?_)
                          all_goals (
                            obtain ⟨x0, x1, x2, x3, x4, xf⟩ := BlkAt.c5 (hbx.fr hC id)
                            have hcw := (hqx.fr hC id).cell hwj
                            go_wp2_with fail
                            refine (hl1 W (htx.fr0 hC)).mono ?_
                            rintro e9 w9 ⟨rfl, rfl⟩
                            exact hK _ _ (Fr.refl _ _) hC rfl)
                        · rw [if_neg (by decide)]; intro kq
                          intro a W K hC hd hK
                          have d11 : a.tmps[11]?.getD undef = .int .u8 j := hd 11 (by decide)
                          have d115 : _ = _ := hd 115 (by decide)
                          first | (exact wpOp_skip rfl (wanted_of (want := true) (b := false) rfl rfl (by rw [eval_get]; exact d115)) (hK _ _ (Fr.refl _ _) hC rfl)) | (refine wpOp_want rfl (wanted_of (want := true) (b := true) rfl rfl (by rw [eval_get]; exact d115)) ?_)
                          all_goals (
                            go_wp2_with fail
                            exact hK _ _ (Fr.refl _ _) hC rfl)
                        · rw [if_neg (by decide)]; intro kq
                          intro a W K hC hd hK
                          have d7 : a.tmps[7]?.getD undef = .pointer (some ⟨q, 0, none⟩) := hd 7 (by decide)
                          have d119 : _ = _ := hd 119 (by decide)
                          have d115 : _ = _ := hd 115 (by decide)
                          first | (exact wpOp_skip rfl (wanted_of (want := true) (b := false) rfl rfl (by rw [eval_get]; exact d115)) (hK _ _ (Fr.refl _ _) hC rfl)) | (refine wpOp_want rfl (wanted_of (want := true) (b := true) rfl rfl (by rw [eval_get]; exact d115)) ?_)
                          all_goals (
                            obtain ⟨x0, x1, x2, x3, x4, xf⟩ := BlkAt.c5 (hbx.fr hC id)
                            have hcw := (hqx.fr hC id).cell hwj
                            go_wp2_with fail
                            exact hK _ _ (Fr.refl _ _) hC rfl)
                        · rw [if_neg (by decide)]; intro kq
                          intro a W K hC hd hK
                          have d120 : _ = _ := hd 120 (by decide)
                          have d115 : _ = _ := hd 115 (by decide)
                          first | (exact wpOp_skip rfl (wanted_of (want := true) (b := false) rfl rfl (by rw [eval_get]; exact d115)) (hK _ _ (Fr.refl _ _) hC rfl)) | (refine wpOp_want rfl (wanted_of (want := true) (b := true) rfl rfl (by rw [eval_get]; exact d115)) ?_)
                          all_goals (
                            obtain ⟨x0, x1, x2, x3, x4, xf⟩ := BlkAt.c5 (hbx.fr hC id)
                            have hcw := (hqx.fr hC id).cell hwj
                            go_wp2_with fail
                            exact hK _ _ (Fr.refl _ _) hC rfl)
                        · rw [if_neg (by decide)]; intro kq
                          intro a W K hC hd hK
                          have d118 : _ = _ := hd 118 (by decide)
                          have d121 : _ = _ := hd 121 (by decide)
                          have d115 : _ = _ := hd 115 (by decide)
                          first | (exact wpOp_skip rfl (wanted_of (want := true) (b := false) rfl rfl (by rw [eval_get]; exact d115)) (hK _ _ (Fr.refl _ _) hC rfl)) | (refine wpOp_want rfl (wanted_of (want := true) (b := true) rfl rfl (by rw [eval_get]; exact d115)) ?_)
                          all_goals (
                            go_wp2_with fail
                            exact hK _ _ (Fr.refl _ _) hC rfl)
                        · rw [if_neg (by decide)]; intro kq
                          intro a W K hC hd hK
                          have d115 : _ = _ := hd 115 (by decide)
                          have d122 : _ = _ := hd 122 (by decide)
                          have d106 : _ = _ := hd 106 (by decide)
                          first | (exact wpOp_skip rfl (wanted_of (want := false) (b := true) rfl rfl (by rw [eval_get]; exact d106)) (hK _ _ (Fr.refl _ _) hC rfl)) | (refine wpOp_want rfl (wanted_of (want := false) (b := false) rfl rfl (by rw [eval_get]; exact d106)) ?_)
                          all_goals (
                            go_wp2_with fail
                            exact hK _ _ (Fr.refl _ _) hC rfl)
                        · rw [if_neg (by decide)]; intro kq
                          intro a W K hC hd hK
                          have d106 : _ = _ := hd 106 (by decide)
                          have d123 : _ = _ := hd 123 (by decide)
                          refine wpOp_plain rfl rfl ?_
                          go_wp2_with fail
                          exact hK _ _ (Fr.refl _ _) hC rfl
                      · intro vs w19 fw19 cw19 hV
                        have v99 : vs 0 = _ := hV 0 _ _ rfl rfl (by decide)
                        have v100 : vs 1 = _ := hV 1 _ _ rfl rfl (by decide)
                        have v101 : vs 2 = _ := hV 2 _ _ rfl rfl (by decide)
                        have v102 : vs 3 = _ := hV 3 _ _ rfl rfl (by decide)
                        have v103 : vs 4 = _ := hV 4 _ _ rfl rfl (by decide)
                        have v104 : vs 5 = _ := hV 5 _ _ rfl rfl (by decide)
                        have v105 : vs 6 = _ := hV 6 _ _ rfl rfl (by decide)
                        have v106 : vs 7 = _ := hV 7 _ _ rfl rfl (by decide)
                        have v107 : vs 8 = _ := hV 8 _ _ rfl rfl (by decide)
                        have v108 : vs 9 = _ := hV 9 _ _ rfl rfl (by decide)
                        have v109 : vs 10 = _ := hV 10 _ _ rfl rfl (by decide)
                        have v110 : vs 11 = _ := hV 11 _ _ rfl rfl (by decide)
                        have v111 : vs 12 = _ := hV 12 _ _ rfl rfl (by decide)
                        have v112 : vs 13 = _ := hV 13 _ _ rfl rfl (by decide)
                        have v113 : vs 14 = _ := hV 14 _ _ rfl rfl (by decide)
                        have v114 : vs 15 = _ := hV 15 _ _ rfl rfl (by decide)
                        have v115 : vs 16 = _ := hV 16 _ _ rfl rfl (by decide)
                        have v116 : vs 17 = _ := hV 17 _ _ rfl rfl (by decide)
                        have v117 : vs 18 = _ := hV 18 _ _ rfl rfl (by decide)
                        have v118 : vs 19 = _ := hV 19 _ _ rfl rfl (by decide)
                        have v119 : vs 20 = _ := hV 20 _ _ rfl rfl (by decide)
                        have v120 : vs 21 = _ := hV 21 _ _ rfl rfl (by decide)
                        have v121 : vs 22 = _ := hV 22 _ _ rfl rfl (by decide)
                        have v122 : vs 23 = _ := hV 23 _ _ rfl rfl (by decide)
                        have v123 : vs 24 = _ := hV 24 _ _ rfl rfl (by decide)
                        have v124 : vs 25 = _ := hV 25 _ _ rfl rfl (by decide)
                        clear hV
                        simp only [putL, Act.put, Nat.reduceAdd, List.setIfInBounds_toArray, List.set_cons_zero, List.set_cons_succ, v99, v100, v101, v102, v103, v104, v105, v106, v107, v108, v109, v110, v111, v112, v113, v114, v115, v116, v117, v118, v119, v120, v121, v122, v123, v124]
                        have hf19 := hfx.then' fw19
                        clear fw19 cw19 htx hqx hbx hmx Fx hl1
                        go_wp2_with fail
                        go_roundw
                        case rel => exact ⟨j + 1, by omega, by go_num, hf19⟩
                        case measure => simp [intOf]; omega
                  · go_wp2_with fail
                    go_roundw
                    case rel => exact ⟨k + 1, f, by omega, by go_num, by rw [HTT.out]; exact htx.mono (fun _ _ h => h.1), hmx, by rw [HTT.out]; exact hri2, Fx⟩
                    case measure => simp [intOf]; omega
      · have : k = n := by omega
        subst this
        go_wp2_with fail
        go_ret
        exact ⟨rfl, hf⟩
  · have hlv := lives15_calls
    have e1 : fewT L = false := by simpa using hfew
    rw [e1] at hf1
    clear hfew e1
    go_enter Try.func3, Try.ntmps3
    go_wp2_with fail
    refine (hlv w).mono ?_
    rintro e w1 ⟨rfl, f1⟩
    go_wp2_with fail
    refine (hf1 w1 (hL.fr0 f1)).mono ?_
    rintro e w2 ⟨rfl, f2⟩
    go_wp2_with fail
    refine (hlv w2).mono ?_
    rintro e w3 ⟨rfl, f3⟩
    go_wp2_with fail
    go_ret
    exact BoolPost.mk' rfl ((f1.then' f2).then' f3)
end Go.Proofs.Ytpkdcbfhacgklaa
/- TableRises' law over its arguments. -/
namespace Go.Proofs.Ytpkdcbfhacgklaa
open Go.RowKit
theorem rises_law (w : World) (A : Option Addr) (n c : Nat) (L : List ActT) (o : ActsAt w A L ∧ L.length = n ∧ n ≤ c ∧ c ≤ maxLen ∧ (∀ a ∈ L, a.ok) ∧ (A = none → n = 0 ∧ c = 0)) :
    Calls Try.prog 3 #[.slice A n c] w (BoolPost w true) :=
  rises_walk w A c n L o.1 o.2.1 (Nat.le_trans (Nat.le_trans o.2.2.1 o.2.2.2.1) (by decide)) o.2.2.2.2.1
end Go.Proofs.Ytpkdcbfhacgklaa
