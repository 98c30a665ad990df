/- SuperPlays' walk. -/
import Derived.Test.YtnkdlmmdaagonaaPlay22
import Derived.Test.YtnkdlmmdaagonaaSup6
import Derived.Test.YtnkdlmmdaagonaaSupEq
import Derived.Test.YtnkdlmmdaagonaaFew
import Derived.Test.YtnkdlmmdaagonaaBlk2
import Derived.Test.YtnkdlmmdaagonaaSeg
import Derived.Test.YtnkdlmmdaagonaaConv
import Derived.Deep.Cut
namespace Go.Proofs.Ytnkdlmmdaagonaa
open Go.RowKit
theorem DevAt.not_T {w : World} {p : Nat} {d : DevV} (h : DevAt w p d) {a : Nat} {T : TypeId} {C : Array Value} (hb : BlkAt w a T C) (h1 : T ≠ 87) (h2 : T ≠ 22) (h3 : T ≠ 90) : ¬ devB p w a := by
  obtain ⟨KA, kn, kc, WA, wn, wc, ks, ws, h⟩ := h
  rintro (rfl | ⟨D, hD, hv⟩)
  · have := h.blk; unfold BlkAt at this hb; rw [this] at hb; simp only [Option.some.injEq, Obj.cells.injEq] at hb; exact h1 hb.2.1.symm
  · have hk := h.blk
    unfold BlkAt at hk hb
    rw [hk] at hD
    have e : D = #[.slice KA kn kc, .slice WA wn wc, .bool d.down, .int .i64 d.fuse, .int .u64 (d.mask : Nat)] := by
      simp only [Option.some.injEq, Obj.cells.injEq, true_and, and_true] at hD; exact hD.symm
    subst e
    rcases hv with ⟨v, e1, e2⟩ | ⟨v, e1, e2⟩
    · simp at e1; subst e1
      obtain ⟨C', hC'⟩ := own_typ h.hk e2
      rw [hb] at hC'; simp only [Option.some.injEq, Obj.cells.injEq] at hC'; exact h2 hC'.2.1
    · simp at e1; subst e1
      obtain ⟨C', hC'⟩ := own_typ h.hw e2
      rw [hb] at hC'; simp only [Option.some.injEq, Obj.cells.injEq] at hC'; exact h3 hC'.2.1
/-- The box of the reference's device. -/
def BoxR (rb : Nat) (w : World) (r : RefD) : Prop := ∃ A m c, BlkAt w rb 43 (refC r.n (.slice A m c) r.down r.fuse r.mask) ∧ RefAt w (.agg (refC r.n (.slice A m c) r.down r.fuse r.mask)) r
theorem BoxR.fr {rb : Nat} {w w' : World} {r : RefD} (h : BoxR rb w r) (f : Fr noB w w') : BoxR rb w' r := by
  obtain ⟨A, m, c, h1, h2⟩ := h
  exact ⟨A, m, c, h1.fr f id, h2.fr f⟩
theorem BoxR.dev {rb : Nat} {w w' : World} {r : RefD} {p : Nat} {d : DevV} (h : BoxR rb w r) (hd : DevAt w p d) (f : Fr (devB p w) w w') : BoxR rb w' r := by
  obtain ⟨A, m, c, h1, A', m', c', e, g1, g2, g3, g4, g5, g6⟩ := h
  have hne : ∀ ad, A' = some ad → ¬ devB p w ad.block := fun ad ea => by
    obtain ⟨C, hC⟩ := g6 ad ea
    exact hd.not_T hC (by decide) (by decide) (by decide)
  exact ⟨A, m, c, h1.fr f (hd.not_T h1 (by decide) (by decide) (by decide)), A', m', c', e, g1.fr f (fun ad ea _ _ => hne ad ea), g2, g3, g4, g5, fun ad ea => (g6 ad ea).imp fun C hC => hC.fr f (hne ad ea)⟩
theorem DevAt.foot9 {w w' : World} {p : Nat} {d : DevV} (h : DevAt w p d) (f : Fr noB w w') : ∀ j, devB p w' j → devB p w j := by
  obtain ⟨KA, kn, kc, WA, wn, wc, ks, ws, h⟩ := h
  exact fun j hj => devB_cells h.blk (h.blk.fr f id) rfl rfl j hj
theorem DevAt.frD {w w' : World} {p : Nat} {d : DevV} {a : Nat} {C : Array Value} (h : DevAt w p d) (hb : BlkAt w a 43 C) (f : Fr (eqB a) w w') : DevAt w' p d ∧ ∀ j, devB p w' j → devB p w j := by
  have hn := h.not_T hb (by decide) (by decide) (by decide)
  obtain ⟨KA, kn, kc, WA, wn, wc, ks, ws, h⟩ := h
  refine ⟨⟨KA, kn, kc, WA, wn, wc, ks, ws, h.fr f (fun k e => by unfold eqB at e; subst e; exact hn) (fun k D e g => ?_)⟩, fun j hj => devB_cells h.blk (h.blk.fr f (fun e => hn (by unfold eqB at e; exact .inl e.symm))) rfl rfl j hj⟩
  unfold eqB at e; subst e
  unfold BlkAt at hb g; rw [hb] at g; simp at g
theorem RefAt.turn {w : World} {r r' : RefD} {A : Option Addr} {m c : Nat} (h : RefAt w (.agg (refC r.n (.slice A m c) r.down r.fuse r.mask)) r) (hl : r'.l = r.l) : RefAt w (.agg (refC r'.n (.slice A m c) r'.down r'.fuse r'.mask)) r' := by
  obtain ⟨A', m', c', e, g1, g2, g3, g4, g5, g6⟩ := h
  simp only [refC, Value.agg.injEq, Array.mk.injEq, List.cons.injEq, Value.slice.injEq, true_and, and_true] at e
  obtain ⟨rfl, rfl, rfl⟩ := e
  exact ⟨A, m, c, rfl, by rw [hl]; exact g1, by rw [hl]; exact g2, g3, g4, g5, g6⟩
/-- The reference's box while it is armed. -/
def armBx (r : RefD) (s : Value) (mx : Int) (am : Nat) : Nat → Array Value
  | 0 => refC r.n s r.down r.fuse r.mask
  | 1 => refC r.n s r.down mx r.mask
  | _ => refC r.n s r.down mx am
/-- What holds at each round's head. -/
def PlayI (w : World) (p rb k : Nat) (wr : World) : Prop :=
  ∃ d r, DevAt wr p d ∧ SameD d r ∧ RefB k r ∧ BoxR rb wr r ∧ Fr noB w wr ∧ ∀ j, devB p wr j → w.heap.size ≤ j
set_option maxRecDepth 100000 in
set_option maxHeartbeats 51200000 in
theorem superPlays_walk (w : World) (nn : Nat) (hnn : nn < 256) (A : Option Addr) (n c : Nat) (L : List ActS) (hr : RowAt w A (L.flatMap ActS.C)) (hn : L.length = n) (hok : ∀ e ∈ L, e.ok w) :
    Calls Try.prog 8 #[.int .u8 nn, .slice A n c] w (BoolPost w true) := by
  have HN := hid hn
  clear hn
  have hlv := fun W => lives22_calls W
  by_cases hbad : 40 < n
  · have h1 : decide ((40 : Int) < n) = true := decide_eq_true (by omega)
    have hlv1 := hlv w
    go_enter Try.func8, Try.ntmps8
    go_wp2_with fail
    refine hlv1.mono ?_
    rintro ed w1 ⟨rfl, f1⟩
    have hlv2 := hlv w1
    go_wp2_with fail
    refine hlv2.mono ?_
    rintro ed w2 ⟨rfl, f2⟩
    go_wp2_with fail
    go_ret
    exact ⟨rfl, f1.then' f2⟩
  · have h1 : decide ((40 : Int) < n) = false := decide_eq_false (by omega)
    have hn40 : n ≤ 40 := by omega
    have hlv1 := hlv w
    clear hlv hbad
    obtain ⟨n5, hn5⟩ : ∃ z, nn % 5 = z := ⟨_, rfl⟩
    have en5 : (nn : Int) % 5 = (n5 : Nat) := by omega
    have hn55 : n5 < 5 := by omega
    clear hn5
    go_enter Try.func8, Try.ntmps8
    go_wp2_with fail
    refine hlv1.mono ?_
    rintro ed w1 ⟨rfl, f1⟩
    clear hlv1
    go_wp2_with fail
    refine (new_calls w1 n5 (by omega)).mono ?_
    rintro ed w2 ⟨p, rfl, hp, h2, f2, hd2⟩
    have F2 := f1.then' f2
    have hd2' : ∀ j, devB p w2 j → w.heap.size ≤ j := fun j hj => Nat.le_trans f1.size (hd2 j hj)
    go_wp2_with fail
    refine (newR_calls w2 n5 (by omega)).mono ?_
    rintro ed w3 ⟨v3, rfl, hR3, f3⟩
    have F3 := F2.then' f3
    have h3 := h2.fr0 f3
    have hd3 : ∀ j, devB p w3 j → w.heap.size ≤ j := fun j hj => hd2' j (h2.foot9 f3 j hj)
    have hsm := same_new n5
    have hrb : RefB 0 (newR n5) := ⟨Nat.le_refl _, by unfold newR; simp only; omega, by unfold newR; simp only; omega⟩
    generalize newD n5 = d0 at *
    generalize newR n5 = r0 at *
    obtain ⟨A3, n3, c3, rfl, hR3'⟩ := id hR3
    unfold refC at *
    simp only [] at *
    have b4 := BlkAt.new w3 #[.int .i64 r0.n, .slice A3 n3 c3, .bool r0.down, .int .i64 r0.fuse, .int .u64 r0.mask] 43
    have f4 := (Fr.refl noB w3).alloc (.cells #[.int .i64 r0.n, .slice A3 n3 c3, .bool r0.down, .int .i64 r0.fuse, .int .u64 r0.mask] 43)
    obtain ⟨rb, hrbq⟩ : ∃ x, w3.heap.size = x := ⟨_, rfl⟩
    have hrbw : w.heap.size ≤ rb := by rw [← hrbq]; exact F3.size
    rw [hrbq] at b4
    have hI : PlayI w p rb 0 (w3.alloc (.cells #[.int .i64 r0.n, .slice A3 n3 c3, .bool r0.down, .int .i64 r0.fuse, .int .u64 r0.mask] 43)) :=
      ⟨d0, r0, h3.fr0 f4, hsm, hrb, ⟨A3, n3, c3, b4, hR3.fr f4⟩, F3.then' f4, fun j hj => hd3 j (h3.foot9 f4 j hj)⟩
    clear hR3 hR3' f4 b4 h3 hd3 hsm hrb F3 F2 f1 f2 f3 h2 hd2 hd2' hp
    go_upto_region 4 with fail
    generalize (w3.alloc (.cells #[.int .i64 r0.n, .slice A3 n3 c3, .bool r0.down, .int .i64 r0.fuse, .int .u64 r0.mask] 43)) = w4 at *
    clear hrbq en5
    go_wp2_with fail
    go_loopw [33] (fun i wr => ∃ k : Nat, k ≤ n ∧ i = .int .i64 k ∧ PlayI w p rb k wr) (fun i _ => n - (intOf i).toNat)
    case atStart => exact ⟨0, Nat.zero_le _, rfl, hI⟩
    case round =>
      obtain ⟨k, hkn, rfl, d, r, hd, hsm, hrb, hbox, hf, hdl⟩ := hrel
      clear hI
      by_cases hk2 : k < n
      · obtain ⟨a, ha⟩ : ∃ s, L[k]? = some s := ⟨_, List.getElem?_eq_getElem (by rw [HN.out]; exact hk2)⟩
        obtain ⟨aA0, rfl⟩ := hr.some_flat (by simp [ActS.C]) ha
        have hao := hok a (List.mem_of_getElem? ha)
        have hg := (hr.seg 13 (fun _ => rfl) ha).fr hf id
        obtain ⟨kind, ⟨seq, view, normal, gen, half, slot, base, size, sum⟩, ai, aA, an, ac, ab, am⟩ := a
        obtain ⟨hkd, hsw, hio, hrow, hbl, hcap, hmax, hnil, hmk⟩ := hao
        unfold ActS.C at hg
        unfold iOK at hio
        simp only [] at hg hkd hio hrow hbl hcap hmax hnil hmk hsw
        clear ha
        obtain ⟨y0, y1, y2, y3, y4, y5, y6, y7, y8, y9, y10, y11, y12⟩ := hg.c13
        have hab := BlkAt.new wr #[.int .u8 kind, .int .u64 seq, .int .u64 view, .int .u64 normal, .int .u64 gen, .int .u8 half, .int .u8 slot, .int .u64 base, .int .u32 size, .int .u32 sum, .int .i64 ai, .slice aA an ac, .int .u64 am] 75
        have fab := (Fr.refl noB wr).alloc (.cells #[.int .u8 kind, .int .u64 seq, .int .u64 view, .int .u64 normal, .int .u64 gen, .int .u8 half, .int .u8 slot, .int .u64 base, .int .u32 size, .int .u32 sum, .int .i64 ai, .slice aA an ac, .int .u64 am] 75)
        obtain ⟨xb, hxb⟩ : ∃ x, wr.heap.size = x := ⟨_, rfl⟩
        rw [hxb] at hab
        have hd0 := hd.fr0 fab
        have hbox0 := hbox.fr fab
        have hf0 := hf.then' fab
        have hdl0 : ∀ j, devB p (wr.alloc (.cells #[.int .u8 kind, .int .u64 seq, .int .u64 view, .int .u64 normal, .int .u64 gen, .int .u8 half, .int .u8 slot, .int .u64 base, .int .u32 size, .int .u32 sum, .int .i64 ai, .slice aA an ac, .int .u64 am] 75)) j → w.heap.size ≤ j := fun j hj => hdl j (hd.foot9 fab j hj)
        have hrow0 := hrow.fr0 hf0
        clear hg hd hbox hf hdl
        go_upto_region 7 with fail
        generalize (wr.alloc (.cells #[.int .u8 kind, .int .u64 seq, .int .u64 view, .int .u64 normal, .int .u64 gen, .int .u8 half, .int .u8 slot, .int .u64 base, .int .u32 size, .int .u32 sum, .int .i64 ai, .slice aA an ac, .int .u64 am] 75)) = wc at *
        clear y0 y1 y2 y3 y4 y5 y6 y7 y8 y9 y10 y11 y12 hxb fab
        obtain ⟨z0, z1, z2, z3, z4, z5, z6, z7, z8, z9, z10, z11, z12, zf⟩ := BlkAt.c13 hab
        by_cases h200 : 200 < an
        · have t1 : decide ((200 : Int) < an) = true := decide_eq_true (by omega)
          go_wp2_with fail
          go_ret
          exact ⟨rfl, hf0⟩
        · have t1 : decide ((200 : Int) < an) = false := decide_eq_false (by omega)
          have han : an ≤ 200 := by omega
          clear h200
          obtain ⟨kk, hkk⟩ : ∃ z, kind % 7 = z := ⟨_, rfl⟩
          have ekk : (kind : Int) % 7 = (kk : Nat) := by omega
          have hkk7 : kk < 7 := by omega
          have HM := Try.gSuR
          have hgs : ∀ (e : SuV), Hid (∀ W, (binOp .neq 64 e.v e.v).run Try.prog W = .ok (.bool false) W) := fun e => by
            unfold Hid; intro W; rw [suNeqR]; simp
          have HMH := hid HM
          clear hkk HM
          obtain ⟨Ab, mb, cb, hbx, hRA⟩ := id hbox0
          unfold refC at hbx hRA
          have hxr : xb ≠ rb := fun e => by
            rw [e] at hab; unfold BlkAt at hab hbx; rw [hab] at hbx; simp at hbx
          rcases (show kk = 2 ∨ kk = 3 ∨ kk = 4 ∨ kk = 5 ∨ kk = 6 ∨ kk < 2 by omega) with hK2 | hK2 | hK2 | hK2 | hK2 | hK2

          · have q2 : ((kk : Int) == 2) = true := by rw [beq_iff_eq]; omega
            have q3 : ((kk : Int) == 3) = false := by rw [beq_eq_false_iff_ne]; omega
            have q4 : ((kk : Int) == 4) = false := by rw [beq_eq_false_iff_ne]; omega
            have q5 : ((kk : Int) == 5) = false := by rw [beq_eq_false_iff_ne]; omega
            have q6 : ((kk : Int) == 6) = false := by rw [beq_eq_false_iff_ne]; omega
            have hst := Try.toStr hrow0 hbl ac
            have hfl := putR_calls wc _ r ai (mkS ab) hRA hrb.mask (by have := hrb.len; omega) hrb.fuse
            obtain ⟨hS1, hE1⟩ := hsm.put ai (mkS ab)
            rw [mkS_data] at hS1 hE1
            have hwl := hsm.wait
            have hll := hrb.len
            have hdf := fun W g h1 h2 => write_calls W p d ai aA an ac ab g h1 hbl hnil h2 (by omega) hcap
            have hRB := hrb.put ai (mkS ab)
            obtain ⟨⟨R, re⟩, hR⟩ : ∃ q, putR r ai (mkS ab) = q := ⟨_, rfl⟩
            obtain ⟨⟨D, de⟩, hD0⟩ : ∃ q, writeD d ai ab = q := ⟨_, rfl⟩
            rw [hR] at hfl hS1 hE1 hRB
            rw [hD0] at hdf hS1 hE1
            simp only [] at hS1 hE1 hRB hdf
            subst hE1
            clear hR hD0
            have hSM := hS1
            obtain ⟨x0, x1, x2, x3, x4, xf⟩ := BlkAt.c5 hbx
            go_wp2_with fail
            refine hfl.mono ?_
            rintro ed w5 ⟨v5, rfl, hR5, f5⟩
            clear hfl hst
            obtain ⟨A5, n5', c5, rfl, hR5'⟩ := id hR5
            unfold refC at hR5 ⊢
            replace hbx := hbx.fr f5 id
            clear x0 x1 x2 x3 x4 xf hR5'
            obtain ⟨x0, x1, x2, x3, x4, xf⟩ := BlkAt.c5 hbx
            have fs5 := fr_setD5 w5 rb (.int .i64 R.n) (.slice A5 n5' c5) (.bool R.down) (.int .i64 R.fuse) (.int .u64 R.mask)
            have hb6 := hbx.setD5 (.int .i64 R.n) (.slice A5 n5' c5) (.bool R.down) (.int .i64 R.fuse) (.int .u64 R.mask)
            have hRA6 := hR5.frD hbx fs5
            have hbox6 : BoxR rb _ R := ⟨A5, n5', c5, hb6, hRA6⟩
            obtain ⟨hd6, hdl6⟩ := (hd0.fr0 f5).frD hbx fs5
            have hf6 := (hf0.then' f5).trans fs5 (fun i hi h => by unfold eqB at h; omega)
            have hdl6' := fun j hj => hdl0 j (hd0.foot9 f5 j (hdl6 j hj))
            have hab6 := (hab.fr f5 id).fr fs5 (fun h => by unfold eqB at h; exact hxr h)
            clear hb6 hRA6 hR5 hd0 hf0 hdl0 hdl6 fs5 f5 hbx hbox0 hRA z0 z1 z2 z3 z4 z5 z6 z7 z8 z9 z10 z11 z12 zf hab
            go_upto_region 15 with fail
            generalize (((((w5.setCell ⟨rb, 0, none⟩ (.int .i64 R.n)).setCell ⟨rb, 1, none⟩ (.slice A5 n5' c5)).setCell ⟨rb, 2, none⟩ (.bool R.down)).setCell ⟨rb, 3, none⟩ (.int .i64 R.fuse)).setCell ⟨rb, 4, none⟩ (.int .u64 R.mask)) = w6 at *
            clear x0 x1 x2 x3 x4 xf
            obtain ⟨z0, z1, z2, z3, z4, z5, z6, z7, z8, z9, z10, z11, z12, zf⟩ := BlkAt.c13 hab6
            have hdf6 := hdf w6 hd6 (hrow.fr0 hf6) (fun a e h0 g => by
              subst e
              have h1 := hdl6' _ g
              have h2 := hrow.lt (by rw [bcells_length, hbl]; exact h0)
              omega)
            clear hdf
            go_wp2_with fail
            refine hdf6.mono ?_
            rintro ed wz ⟨rfl, hD, s7⟩
            have hBX := hbox6.dev hd6 s7.fr
            have hF := hf6.trans s7.fr (fun i hi h => by have := hdl6' i h; omega)
            have hDL : ∀ j, devB p wz j → w.heap.size ≤ j := fun j hj => (s7.foot j hj).elim (hdl6' j) fun h => by have := hf6.size; omega
            clear hdf6 hd6 s7 hbox6 hf6 hdl6' hsm hrb hS1 hab6 z0 z1 z2 z3 z4 z5 z6 z7 z8 z9 z10 z11 z12 zf
            obtain ⟨⟨⟨s1, s2, s3, s4, s5, s6, s7, s8, s9⟩, ge⟩, hq⟩ : ∃ q, loadD D = q := ⟨_, rfl⟩
            have hld := load_calls wz p D hD (by have := hSM.wait; have := hRB.len; omega)
            have hlr := fun W v g => loadR_calls W v R D g hSM (by have := hRB.len; omega)
            rw [hq] at hld hlr
            unfold SuEPost SuV.v SuV.C at hld hlr
            simp only [] at hld hlr
            have hne := (hgs ⟨s1, s2, s3, s4, s5, s6, s7, s8, s9⟩)
            unfold SuV.v SuV.C at hne
            simp only [] at hne
            clear hq hgs
            go_wp2_with fail
            refine hld.mono ?_
            rintro ed wy ⟨rfl, fy⟩
            clear hld
            have fs := (Fr.refl noB wy).alloc (.cells #[.int .u64 s1, .int .u64 s2, .int .u64 s3, .int .u64 s4, .int .u8 s5, .int .u8 s6, .int .u64 s7, .int .u32 s8, .int .u32 s9] 61)
            have bs := BlkAt.new wy #[.int .u64 s1, .int .u64 s2, .int .u64 s3, .int .u64 s4, .int .u8 s5, .int .u8 s6, .int .u64 s7, .int .u32 s8, .int .u32 s9] 61
            have fy2 := fy.then' fs
            have hD2 := hD.fr0 fy2
            have hBX2 := hBX.fr fy2
            have hF2 := hF.then' fy2
            have hDL2 : ∀ j, devB p (wy.alloc (.cells #[.int .u64 s1, .int .u64 s2, .int .u64 s3, .int .u64 s4, .int .u8 s5, .int .u8 s6, .int .u64 s7, .int .u32 s8, .int .u32 s9] 61)) j → w.heap.size ≤ j := fun j hj => hDL j (hD.foot9 fy2 j hj)
            obtain ⟨sb, hsb⟩ : ∃ x, wy.heap.size = x := ⟨_, rfl⟩
            rw [hsb] at bs
            clear hD hBX hF hDL fy fs fy2
            go_upto_region 30 with fail
            generalize (wy.alloc (.cells #[.int .u64 s1, .int .u64 s2, .int .u64 s3, .int .u64 s4, .int .u8 s5, .int .u8 s6, .int .u64 s7, .int .u32 s8, .int .u32 s9] 61)) = wv at *
            clear hsb
            obtain ⟨Az, mz, cz, hbz, hRz⟩ := id hBX2
            have hlr2 := hlr wv _ hRz
            unfold refC at hbz hlr2
            obtain ⟨x0, x1, x2, x3, x4, xf⟩ := BlkAt.c5 hbz
            go_wp2_with fail
            refine hlr2.mono ?_
            rintro ed wu ⟨rfl, fu2⟩
            clear hlr hlr2 x0 x1 x2 x3 x4 xf hbz hRz
            have ft := (Fr.refl noB wu).alloc (.cells #[.int .u64 s1, .int .u64 s2, .int .u64 s3, .int .u64 s4, .int .u8 s5, .int .u8 s6, .int .u64 s7, .int .u32 s8, .int .u32 s9] 64)
            have bt := BlkAt.new wu #[.int .u64 s1, .int .u64 s2, .int .u64 s3, .int .u64 s4, .int .u8 s5, .int .u8 s6, .int .u64 s7, .int .u32 s8, .int .u32 s9] 64
            have fut := fu2.then' ft
            replace bs := bs.fr fut id
            have hD3 := hD2.fr0 fut
            have hBX3 := hBX2.fr fut
            have hF3 := hF2.then' fut
            have hDL3 : ∀ j, devB p (wu.alloc (.cells #[.int .u64 s1, .int .u64 s2, .int .u64 s3, .int .u64 s4, .int .u8 s5, .int .u8 s6, .int .u64 s7, .int .u32 s8, .int .u32 s9] 64)) j → w.heap.size ≤ j := fun j hj => hDL2 j (hD2.foot9 fut j hj)
            obtain ⟨tb, htb⟩ : ∃ x, wu.heap.size = x := ⟨_, rfl⟩
            rw [htb] at bt
            have HI : PlayI w p rb (k + 1) (wu.alloc (.cells #[.int .u64 s1, .int .u64 s2, .int .u64 s3, .int .u64 s4, .int .u8 s5, .int .u8 s6, .int .u64 s7, .int .u32 s8, .int .u32 s9] 64)) := ⟨D, R, hD3, hSM, hRB, hBX3, hF3, hDL3⟩
            clear hD2 hBX2 hF2 hDL2 fu2 ft fut hD3 hBX3 hF3 hDL3
            go_upto_region 31 with fail
            generalize (wu.alloc (.cells #[.int .u64 s1, .int .u64 s2, .int .u64 s3, .int .u64 s4, .int .u8 s5, .int .u8 s6, .int .u64 s7, .int .u32 s8, .int .u32 s9] 64)) = wt at *
            clear htb
            obtain ⟨x0, x1, x2, x3, x4, x5, x6, x7, x8, xf⟩ := BlkAt.c9 bs
            obtain ⟨y0, y1, y2, y3, y4, y5, y6, y7, y8, yf⟩ := BlkAt.c9 bt
            have HM := HMH.out
            have hne2 := hne.out
            have hgg : ((ge : Int) != ge) = false := by simp
            have hde : ((de : Int) != de) = false := by simp
            clear hne HMH
            go_wp2_with fail
            go_roundw
            case rel => exact ⟨k + 1, by omega, by go_num, HI⟩
            case measure => simp [intOf]; omega
          · have q2 : ((kk : Int) == 2) = false := by rw [beq_eq_false_iff_ne]; omega
            have q3 : ((kk : Int) == 3) = true := by rw [beq_iff_eq]; omega
            have q4 : ((kk : Int) == 4) = false := by rw [beq_eq_false_iff_ne]; omega
            have q5 : ((kk : Int) == 5) = false := by rw [beq_eq_false_iff_ne]; omega
            have q6 : ((kk : Int) == 6) = false := by rw [beq_eq_false_iff_ne]; omega
            have hfl := flushR_calls wc _ r hRA hrb.mask (by have := hrb.len; omega) hrb.fuse
            obtain ⟨hS1, hE1⟩ := hsm.flush
            have hdf := fun W g => flush_calls W p d g
            have hRB0 := hrb.flush
            obtain ⟨⟨R, re⟩, hR⟩ : ∃ q, flushR r = q := ⟨_, rfl⟩
            obtain ⟨⟨D, de⟩, hD0⟩ : ∃ q, flushD d = q := ⟨_, rfl⟩
            rw [hR] at hfl hS1 hE1 hRB0
            rw [hD0] at hdf hS1 hE1
            simp only [] at hS1 hE1 hRB0 hdf
            subst hE1
            clear hR hD0
            have hRB := hRB0.up (show k ≤ k + 1 by omega)
            have hSM := hS1
            obtain ⟨x0, x1, x2, x3, x4, xf⟩ := BlkAt.c5 hbx
            go_wp2_with fail
            refine hfl.mono ?_
            rintro ed w5 ⟨v5, rfl, hR5, f5⟩
            clear hfl
            obtain ⟨A5, n5', c5, rfl, hR5'⟩ := id hR5
            unfold refC at hR5 ⊢
            replace hbx := hbx.fr f5 id
            clear x0 x1 x2 x3 x4 xf hR5'
            obtain ⟨x0, x1, x2, x3, x4, xf⟩ := BlkAt.c5 hbx
            have fs5 := fr_setD5 w5 rb (.int .i64 R.n) (.slice A5 n5' c5) (.bool R.down) (.int .i64 R.fuse) (.int .u64 R.mask)
            have hb6 := hbx.setD5 (.int .i64 R.n) (.slice A5 n5' c5) (.bool R.down) (.int .i64 R.fuse) (.int .u64 R.mask)
            have hRA6 := hR5.frD hbx fs5
            have hbox6 : BoxR rb _ R := ⟨A5, n5', c5, hb6, hRA6⟩
            obtain ⟨hd6, hdl6⟩ := (hd0.fr0 f5).frD hbx fs5
            have hf6 := (hf0.then' f5).trans fs5 (fun i hi h => by unfold eqB at h; omega)
            have hdl6' := fun j hj => hdl0 j (hd0.foot9 f5 j (hdl6 j hj))
            have hab6 := (hab.fr f5 id).fr fs5 (fun h => by unfold eqB at h; exact hxr h)
            clear hb6 hRA6 hR5 hd0 hf0 hdl0 hdl6 fs5 f5 hbx hbox0 hRA z0 z1 z2 z3 z4 z5 z6 z7 z8 z9 z10 z11 z12 zf hab
            go_upto_region 18 with fail
            generalize (((((w5.setCell ⟨rb, 0, none⟩ (.int .i64 R.n)).setCell ⟨rb, 1, none⟩ (.slice A5 n5' c5)).setCell ⟨rb, 2, none⟩ (.bool R.down)).setCell ⟨rb, 3, none⟩ (.int .i64 R.fuse)).setCell ⟨rb, 4, none⟩ (.int .u64 R.mask)) = w6 at *
            clear x0 x1 x2 x3 x4 xf
            obtain ⟨z0, z1, z2, z3, z4, z5, z6, z7, z8, z9, z10, z11, z12, zf⟩ := BlkAt.c13 hab6
            have hdf6 := hdf w6 hd6
            clear hdf hRB0
            go_wp2_with fail
            refine hdf6.mono ?_
            rintro ed wz ⟨rfl, hD, s7⟩
            have hBX := hbox6.dev hd6 s7.fr
            have hF := hf6.trans s7.fr (fun i hi h => by have := hdl6' i h; omega)
            have hDL : ∀ j, devB p wz j → w.heap.size ≤ j := fun j hj => (s7.foot j hj).elim (hdl6' j) fun h => by have := hf6.size; omega
            clear hdf6 hd6 s7 hbox6 hf6 hdl6' hsm hrb hS1 hab6 z0 z1 z2 z3 z4 z5 z6 z7 z8 z9 z10 z11 z12 zf
            obtain ⟨⟨⟨s1, s2, s3, s4, s5, s6, s7, s8, s9⟩, ge⟩, hq⟩ : ∃ q, loadD D = q := ⟨_, rfl⟩
            have hld := load_calls wz p D hD (by have := hSM.wait; have := hRB.len; omega)
            have hlr := fun W v g => loadR_calls W v R D g hSM (by have := hRB.len; omega)
            rw [hq] at hld hlr
            unfold SuEPost SuV.v SuV.C at hld hlr
            simp only [] at hld hlr
            have hne := (hgs ⟨s1, s2, s3, s4, s5, s6, s7, s8, s9⟩)
            unfold SuV.v SuV.C at hne
            simp only [] at hne
            clear hq hgs
            go_wp2_with fail
            refine hld.mono ?_
            rintro ed wy ⟨rfl, fy⟩
            clear hld
            have fs := (Fr.refl noB wy).alloc (.cells #[.int .u64 s1, .int .u64 s2, .int .u64 s3, .int .u64 s4, .int .u8 s5, .int .u8 s6, .int .u64 s7, .int .u32 s8, .int .u32 s9] 61)
            have bs := BlkAt.new wy #[.int .u64 s1, .int .u64 s2, .int .u64 s3, .int .u64 s4, .int .u8 s5, .int .u8 s6, .int .u64 s7, .int .u32 s8, .int .u32 s9] 61
            have fy2 := fy.then' fs
            have hD2 := hD.fr0 fy2
            have hBX2 := hBX.fr fy2
            have hF2 := hF.then' fy2
            have hDL2 : ∀ j, devB p (wy.alloc (.cells #[.int .u64 s1, .int .u64 s2, .int .u64 s3, .int .u64 s4, .int .u8 s5, .int .u8 s6, .int .u64 s7, .int .u32 s8, .int .u32 s9] 61)) j → w.heap.size ≤ j := fun j hj => hDL j (hD.foot9 fy2 j hj)
            obtain ⟨sb, hsb⟩ : ∃ x, wy.heap.size = x := ⟨_, rfl⟩
            rw [hsb] at bs
            clear hD hBX hF hDL fy fs fy2
            go_upto_region 30 with fail
            generalize (wy.alloc (.cells #[.int .u64 s1, .int .u64 s2, .int .u64 s3, .int .u64 s4, .int .u8 s5, .int .u8 s6, .int .u64 s7, .int .u32 s8, .int .u32 s9] 61)) = wv at *
            clear hsb
            obtain ⟨Az, mz, cz, hbz, hRz⟩ := id hBX2
            have hlr2 := hlr wv _ hRz
            unfold refC at hbz hlr2
            obtain ⟨x0, x1, x2, x3, x4, xf⟩ := BlkAt.c5 hbz
            go_wp2_with fail
            refine hlr2.mono ?_
            rintro ed wu ⟨rfl, fu2⟩
            clear hlr hlr2 x0 x1 x2 x3 x4 xf hbz hRz
            have ft := (Fr.refl noB wu).alloc (.cells #[.int .u64 s1, .int .u64 s2, .int .u64 s3, .int .u64 s4, .int .u8 s5, .int .u8 s6, .int .u64 s7, .int .u32 s8, .int .u32 s9] 64)
            have bt := BlkAt.new wu #[.int .u64 s1, .int .u64 s2, .int .u64 s3, .int .u64 s4, .int .u8 s5, .int .u8 s6, .int .u64 s7, .int .u32 s8, .int .u32 s9] 64
            have fut := fu2.then' ft
            replace bs := bs.fr fut id
            have hD3 := hD2.fr0 fut
            have hBX3 := hBX2.fr fut
            have hF3 := hF2.then' fut
            have hDL3 : ∀ j, devB p (wu.alloc (.cells #[.int .u64 s1, .int .u64 s2, .int .u64 s3, .int .u64 s4, .int .u8 s5, .int .u8 s6, .int .u64 s7, .int .u32 s8, .int .u32 s9] 64)) j → w.heap.size ≤ j := fun j hj => hDL2 j (hD2.foot9 fut j hj)
            obtain ⟨tb, htb⟩ : ∃ x, wu.heap.size = x := ⟨_, rfl⟩
            rw [htb] at bt
            have HI : PlayI w p rb (k + 1) (wu.alloc (.cells #[.int .u64 s1, .int .u64 s2, .int .u64 s3, .int .u64 s4, .int .u8 s5, .int .u8 s6, .int .u64 s7, .int .u32 s8, .int .u32 s9] 64)) := ⟨D, R, hD3, hSM, hRB, hBX3, hF3, hDL3⟩
            clear hD2 hBX2 hF2 hDL2 fu2 ft fut hD3 hBX3 hF3 hDL3
            go_upto_region 31 with fail
            generalize (wu.alloc (.cells #[.int .u64 s1, .int .u64 s2, .int .u64 s3, .int .u64 s4, .int .u8 s5, .int .u8 s6, .int .u64 s7, .int .u32 s8, .int .u32 s9] 64)) = wt at *
            clear htb
            obtain ⟨x0, x1, x2, x3, x4, x5, x6, x7, x8, xf⟩ := BlkAt.c9 bs
            obtain ⟨y0, y1, y2, y3, y4, y5, y6, y7, y8, yf⟩ := BlkAt.c9 bt
            have HM := HMH.out
            have hne2 := hne.out
            have hgg : ((ge : Int) != ge) = false := by simp
            have hde : ((de : Int) != de) = false := by simp
            clear hne HMH
            go_wp2_with fail
            go_roundw
            case rel => exact ⟨k + 1, by omega, by go_num, HI⟩
            case measure => simp [intOf]; omega
          · have q2 : ((kk : Int) == 2) = false := by rw [beq_eq_false_iff_ne]; omega
            have q3 : ((kk : Int) == 3) = false := by rw [beq_eq_false_iff_ne]; omega
            have q4 : ((kk : Int) == 4) = true := by rw [beq_iff_eq]; omega
            have q5 : ((kk : Int) == 5) = false := by rw [beq_eq_false_iff_ne]; omega
            have q6 : ((kk : Int) == 6) = false := by rw [beq_eq_false_iff_ne]; omega
            have hfl := cutR_calls wc _ r am hRA (by omega) (by have := hrb.len; omega)
            have hS1 := hsm.cut am
            have hdf := fun W g => cut_calls W p am d g (by omega)
            have hRB := (hrb.cut am).up (show k ≤ k + 1 by omega)
            generalize cutR am r = R at *
            generalize cutD am d = D at *
            have hSM := hS1
            obtain ⟨x0, x1, x2, x3, x4, xf⟩ := BlkAt.c5 hbx
            go_wp2_with fail
            refine hfl.mono ?_
            rintro ed w5 ⟨v5, rfl, hR5, f5⟩
            clear hfl
            obtain ⟨A5, n5', c5, rfl, hR5'⟩ := id hR5
            unfold refC at hR5 ⊢
            replace hbx := hbx.fr f5 id
            clear x0 x1 x2 x3 x4 xf hR5'
            obtain ⟨x0, x1, x2, x3, x4, xf⟩ := BlkAt.c5 hbx
            have fs5 := fr_setD5 w5 rb (.int .i64 R.n) (.slice A5 n5' c5) (.bool R.down) (.int .i64 R.fuse) (.int .u64 R.mask)
            have hb6 := hbx.setD5 (.int .i64 R.n) (.slice A5 n5' c5) (.bool R.down) (.int .i64 R.fuse) (.int .u64 R.mask)
            have hRA6 := hR5.frD hbx fs5
            have hbox6 : BoxR rb _ R := ⟨A5, n5', c5, hb6, hRA6⟩
            obtain ⟨hd6, hdl6⟩ := (hd0.fr0 f5).frD hbx fs5
            have hf6 := (hf0.then' f5).trans fs5 (fun i hi h => by unfold eqB at h; omega)
            have hdl6' := fun j hj => hdl0 j (hd0.foot9 f5 j (hdl6 j hj))
            have hab6 := (hab.fr f5 id).fr fs5 (fun h => by unfold eqB at h; exact hxr h)
            clear hb6 hRA6 hR5 hd0 hf0 hdl0 hdl6 fs5 f5 hbx hbox0 hRA z0 z1 z2 z3 z4 z5 z6 z7 z8 z9 z10 z11 z12 zf hab
            go_upto_region 21 with fail
            generalize (((((w5.setCell ⟨rb, 0, none⟩ (.int .i64 R.n)).setCell ⟨rb, 1, none⟩ (.slice A5 n5' c5)).setCell ⟨rb, 2, none⟩ (.bool R.down)).setCell ⟨rb, 3, none⟩ (.int .i64 R.fuse)).setCell ⟨rb, 4, none⟩ (.int .u64 R.mask)) = w6 at *
            clear x0 x1 x2 x3 x4 xf
            obtain ⟨z0, z1, z2, z3, z4, z5, z6, z7, z8, z9, z10, z11, z12, zf⟩ := BlkAt.c13 hab6
            have hdf6 := hdf w6 hd6
            clear hdf
            go_wp2_with fail
            refine hdf6.mono ?_
            rintro ed wz ⟨rfl, hD, s7⟩
            have hBX := hbox6.dev hd6 s7.fr
            have hF := hf6.trans s7.fr (fun i hi h => by have := hdl6' i h; omega)
            have hDL : ∀ j, devB p wz j → w.heap.size ≤ j := fun j hj => (s7.foot j hj).elim (hdl6' j) fun h => by have := hf6.size; omega
            clear hdf6 hd6 s7 hbox6 hf6 hdl6' hsm hrb hS1 hab6 z0 z1 z2 z3 z4 z5 z6 z7 z8 z9 z10 z11 z12 zf
            obtain ⟨⟨⟨s1, s2, s3, s4, s5, s6, s7, s8, s9⟩, ge⟩, hq⟩ : ∃ q, loadD D = q := ⟨_, rfl⟩
            have hld := load_calls wz p D hD (by have := hSM.wait; have := hRB.len; omega)
            have hlr := fun W v g => loadR_calls W v R D g hSM (by have := hRB.len; omega)
            rw [hq] at hld hlr
            unfold SuEPost SuV.v SuV.C at hld hlr
            simp only [] at hld hlr
            have hne := (hgs ⟨s1, s2, s3, s4, s5, s6, s7, s8, s9⟩)
            unfold SuV.v SuV.C at hne
            simp only [] at hne
            clear hq hgs
            go_wp2_with fail
            refine hld.mono ?_
            rintro ed wy ⟨rfl, fy⟩
            clear hld
            have fs := (Fr.refl noB wy).alloc (.cells #[.int .u64 s1, .int .u64 s2, .int .u64 s3, .int .u64 s4, .int .u8 s5, .int .u8 s6, .int .u64 s7, .int .u32 s8, .int .u32 s9] 61)
            have bs := BlkAt.new wy #[.int .u64 s1, .int .u64 s2, .int .u64 s3, .int .u64 s4, .int .u8 s5, .int .u8 s6, .int .u64 s7, .int .u32 s8, .int .u32 s9] 61
            have fy2 := fy.then' fs
            have hD2 := hD.fr0 fy2
            have hBX2 := hBX.fr fy2
            have hF2 := hF.then' fy2
            have hDL2 : ∀ j, devB p (wy.alloc (.cells #[.int .u64 s1, .int .u64 s2, .int .u64 s3, .int .u64 s4, .int .u8 s5, .int .u8 s6, .int .u64 s7, .int .u32 s8, .int .u32 s9] 61)) j → w.heap.size ≤ j := fun j hj => hDL j (hD.foot9 fy2 j hj)
            obtain ⟨sb, hsb⟩ : ∃ x, wy.heap.size = x := ⟨_, rfl⟩
            rw [hsb] at bs
            clear hD hBX hF hDL fy fs fy2
            go_upto_region 30 with fail
            generalize (wy.alloc (.cells #[.int .u64 s1, .int .u64 s2, .int .u64 s3, .int .u64 s4, .int .u8 s5, .int .u8 s6, .int .u64 s7, .int .u32 s8, .int .u32 s9] 61)) = wv at *
            clear hsb
            obtain ⟨Az, mz, cz, hbz, hRz⟩ := id hBX2
            have hlr2 := hlr wv _ hRz
            unfold refC at hbz hlr2
            obtain ⟨x0, x1, x2, x3, x4, xf⟩ := BlkAt.c5 hbz
            go_wp2_with fail
            refine hlr2.mono ?_
            rintro ed wu ⟨rfl, fu2⟩
            clear hlr hlr2 x0 x1 x2 x3 x4 xf hbz hRz
            have ft := (Fr.refl noB wu).alloc (.cells #[.int .u64 s1, .int .u64 s2, .int .u64 s3, .int .u64 s4, .int .u8 s5, .int .u8 s6, .int .u64 s7, .int .u32 s8, .int .u32 s9] 64)
            have bt := BlkAt.new wu #[.int .u64 s1, .int .u64 s2, .int .u64 s3, .int .u64 s4, .int .u8 s5, .int .u8 s6, .int .u64 s7, .int .u32 s8, .int .u32 s9] 64
            have fut := fu2.then' ft
            replace bs := bs.fr fut id
            have hD3 := hD2.fr0 fut
            have hBX3 := hBX2.fr fut
            have hF3 := hF2.then' fut
            have hDL3 : ∀ j, devB p (wu.alloc (.cells #[.int .u64 s1, .int .u64 s2, .int .u64 s3, .int .u64 s4, .int .u8 s5, .int .u8 s6, .int .u64 s7, .int .u32 s8, .int .u32 s9] 64)) j → w.heap.size ≤ j := fun j hj => hDL2 j (hD2.foot9 fut j hj)
            obtain ⟨tb, htb⟩ : ∃ x, wu.heap.size = x := ⟨_, rfl⟩
            rw [htb] at bt
            have HI : PlayI w p rb (k + 1) (wu.alloc (.cells #[.int .u64 s1, .int .u64 s2, .int .u64 s3, .int .u64 s4, .int .u8 s5, .int .u8 s6, .int .u64 s7, .int .u32 s8, .int .u32 s9] 64)) := ⟨D, R, hD3, hSM, hRB, hBX3, hF3, hDL3⟩
            clear hD2 hBX2 hF2 hDL2 fu2 ft fut hD3 hBX3 hF3 hDL3
            go_upto_region 31 with fail
            generalize (wu.alloc (.cells #[.int .u64 s1, .int .u64 s2, .int .u64 s3, .int .u64 s4, .int .u8 s5, .int .u8 s6, .int .u64 s7, .int .u32 s8, .int .u32 s9] 64)) = wt at *
            clear htb
            obtain ⟨x0, x1, x2, x3, x4, x5, x6, x7, x8, xf⟩ := BlkAt.c9 bs
            obtain ⟨y0, y1, y2, y3, y4, y5, y6, y7, y8, yf⟩ := BlkAt.c9 bt
            have HM := HMH.out
            have hne2 := hne.out
            have hgg : ((ge : Int) != ge) = false := by simp
            clear hne HMH
            go_wp2_with fail
            go_roundw
            case rel => exact ⟨k + 1, by omega, by go_num, HI⟩
            case measure => simp [intOf]; omega
          · have q2 : ((kk : Int) == 2) = false := by rw [beq_eq_false_iff_ne]; omega
            have q3 : ((kk : Int) == 3) = false := by rw [beq_eq_false_iff_ne]; omega
            have q4 : ((kk : Int) == 4) = false := by rw [beq_eq_false_iff_ne]; omega
            have q5 : ((kk : Int) == 5) = true := by rw [beq_iff_eq]; omega
            have q6 : ((kk : Int) == 6) = false := by rw [beq_eq_false_iff_ne]; omega
            have hS1 := hsm.arm ai am
            have hRB := (hrb.arm ai am (by omega) (by omega)).up (show k ≤ k + 1 by omega)
            have hdf := fun W g => arm_calls W p d ai am g (by omega) (by omega)
            obtain ⟨dn, hdn⟩ : ∃ b, r.down = b := ⟨_, rfl⟩
            obtain ⟨x0, x1, x2, x3, x4, xf⟩ := BlkAt.c5 hbx
            cases dn
            · have hRq : armR r ai am = { r with fuse := max 0 ai, mask := am } := if_neg (by rw [hdn]; decide)
              rw [hRq] at hS1 hRB
              generalize armD d ai am = D at *
              have hmx := fun tt t W => run_max2 Try.prog tt t .i64 0 ai W
              obtain ⟨mx, hmxq⟩ : ∃ m, max 0 ai = m := ⟨_, rfl⟩
              rw [hmxq] at hmx hS1 hRB
              have hSM := hS1
              clear hRq hmxq
              go_upto_region 24 with fail
              clear x0 x1 x2 x3 x4 xf
              apply wp_region_calmL (R := Fr (eqB rb)) (C := fun q W => Fr (eqB rb) wc W ∧ BlkAt W rb 43 (armBx r (.slice Ab mb cb) mx am q) ∧ BlkAt W xb 75 #[.int .u8 kind, .int .u64 seq, .int .u64 view, .int .u64 normal, .int .u64 gen, .int .u8 half, .int .u8 slot, .int .u64 base, .int .u32 size, .int .u32 sum, .int .i64 ai, .slice aA an ac, .int .u64 am]) [false, false, false, false, false, false, true, false, true] [0, 0, 0, 0, 0, 0, 0, 1, 1]
                [eqv _, eqv (.int .i64 ai), eqv (.int .i64 mx), eqv _, eqv (.int .u64 am), eqv (.pointer (some ⟨rb, 3, none⟩)), anyv, eqv (.pointer (some ⟨rb, 4, none⟩)), anyv]
                (by kernel_rfl) (by kernel_rfl) (fun _ _ _ h1 h2 => h1.then' h2) ((Fr.refl _ _).drew) ⟨(Fr.refl _ _).drew, hbx, hab⟩ (by kernel_rfl)
              · refine ⟨?_, ?_, ?_, ?_, ?_, ?_, ?_, ?_, ?_, trivial⟩
                · rw [if_neg (by decide)]; intro kq
                  intro a W K hC hd hK
                  have d8 : a.tmps[8]?.getD undef = .pointer (some ⟨xb, 0, none⟩) := hd 8 (by decide)
                  refine wpOp_plain rfl rfl ?_
                  obtain ⟨z0, z1, z2, z3, z4, z5, z6, z7, z8, z9, z10, z11, z12, zf⟩ := BlkAt.c13 hC.2.2
                  go_wp2_with fail
                  exact hK _ _ (Fr.refl _ _) hC rfl
                · rw [if_neg (by decide)]; intro kq
                  intro a W K hC hd hK
                  have d97 : _ = _ := hd 97 (by decide)
                  refine wpOp_plain rfl rfl ?_
                  obtain ⟨z0, z1, z2, z3, z4, z5, z6, z7, z8, z9, z10, z11, z12, zf⟩ := BlkAt.c13 hC.2.2
                  go_wp2_with fail
                  exact hK _ _ (Fr.refl _ _) hC rfl
                · rw [if_neg (by decide)]; intro kq
                  intro a W K hC hd hK
                  have d98 : a.tmps[98]?.getD undef = .int .i64 ai := hd 98 (by decide)
                  refine wpOp_plain rfl rfl ?_
                  obtain ⟨z0, z1, z2, z3, z4, z5, z6, z7, z8, z9, z10, z11, z12, zf⟩ := BlkAt.c13 hC.2.2
                  go_wp2_with fail
                  exact hK _ _ (Fr.refl _ _) hC rfl
                · rw [if_neg (by decide)]; intro kq
                  intro a W K hC hd hK
                  have d8 : a.tmps[8]?.getD undef = .pointer (some ⟨xb, 0, none⟩) := hd 8 (by decide)
                  refine wpOp_plain rfl rfl ?_
                  obtain ⟨z0, z1, z2, z3, z4, z5, z6, z7, z8, z9, z10, z11, z12, zf⟩ := BlkAt.c13 hC.2.2
                  go_wp2_with fail
                  exact hK _ _ (Fr.refl _ _) hC rfl
                · rw [if_neg (by decide)]; intro kq
                  intro a W K hC hd hK
                  have d100 : _ = _ := hd 100 (by decide)
                  refine wpOp_plain rfl rfl ?_
                  obtain ⟨z0, z1, z2, z3, z4, z5, z6, z7, z8, z9, z10, z11, z12, zf⟩ := BlkAt.c13 hC.2.2
                  go_wp2_with fail
                  exact hK _ _ (Fr.refl _ _) hC rfl
                · rw [if_neg (by decide)]; intro kq
                  intro a W K hC hd hK
                  have d6 : a.tmps[6]?.getD undef = .pointer (some ⟨rb, 0, none⟩) := hd 6 (by decide)
                  refine wpOp_plain rfl rfl ?_
                  obtain ⟨z0, z1, z2, z3, z4, z5, z6, z7, z8, z9, z10, z11, z12, zf⟩ := BlkAt.c13 hC.2.2
                  go_wp2_with fail
                  exact hK _ _ (Fr.refl _ _) hC rfl
                · rw [if_pos (by decide)]
                  intro a W K hC hd hK
                  replace hC : (fun q W => Fr (eqB rb) wc W ∧ BlkAt W rb 43 (armBx r (.slice Ab mb cb) mx am q) ∧ BlkAt W xb 75 #[.int .u8 kind, .int .u64 seq, .int .u64 view, .int .u64 normal, .int .u64 gen, .int .u8 half, .int .u8 slot, .int .u64 base, .int .u32 size, .int .u32 sum, .int .i64 ai, .slice aA an ac, .int .u64 am]) 0 W := hC
                  have d102 : a.tmps[102]?.getD undef = .pointer (some ⟨rb, 3, none⟩) := hd 102 (by decide)
                  have d99 : a.tmps[99]?.getD undef = .int .i64 mx := hd 99 (by decide)
                  refine wpOp_plain rfl rfl ?_
                  obtain ⟨z0, z1, z2, z3, z4, z5, z6, z7, z8, z9, z10, z11, z12, zf⟩ := BlkAt.c13 hC.2.2
                  have hb : BlkAt W rb 43 #[.int .i64 r.n, .slice Ab mb cb, .bool r.down, .int .i64 r.fuse, .int .u64 r.mask] := hC.2.1
                  obtain ⟨x0, x1, x2, x3, x4, xf⟩ := BlkAt.c5 hb
                  have fs := fr_set1 W rb 3 (.int .i64 mx)
                  have hs : BlkAt (W.setCell ⟨rb, 3, none⟩ (.int .i64 mx)) rb 43 #[.int .i64 r.n, .slice Ab mb cb, .bool r.down, .int .i64 mx, .int .u64 r.mask] := by simpa using hb.set 3 (.int .i64 mx)
                  go_wp2_with fail
                  exact hK undef _ fs ⟨hC.1.then' fs, hs, hC.2.2.fr fs (fun h => by unfold eqB at h; exact hxr h)⟩ trivial
                · rw [if_neg (by decide)]; intro kq
                  intro a W K hC hd hK
                  have d6 : a.tmps[6]?.getD undef = .pointer (some ⟨rb, 0, none⟩) := hd 6 (by decide)
                  refine wpOp_plain rfl rfl ?_
                  obtain ⟨z0, z1, z2, z3, z4, z5, z6, z7, z8, z9, z10, z11, z12, zf⟩ := BlkAt.c13 hC.2.2
                  go_wp2_with fail
                  exact hK _ _ (Fr.refl _ _) hC rfl
                · rw [if_pos (by decide)]
                  intro a W K hC hd hK
                  replace hC : (fun q W => Fr (eqB rb) wc W ∧ BlkAt W rb 43 (armBx r (.slice Ab mb cb) mx am q) ∧ BlkAt W xb 75 #[.int .u8 kind, .int .u64 seq, .int .u64 view, .int .u64 normal, .int .u64 gen, .int .u8 half, .int .u8 slot, .int .u64 base, .int .u32 size, .int .u32 sum, .int .i64 ai, .slice aA an ac, .int .u64 am]) 1 W := hC
                  have d103 : a.tmps[103]?.getD undef = .pointer (some ⟨rb, 4, none⟩) := hd 103 (by decide)
                  have d101 : a.tmps[101]?.getD undef = .int .u64 am := hd 101 (by decide)
                  refine wpOp_plain rfl rfl ?_
                  obtain ⟨z0, z1, z2, z3, z4, z5, z6, z7, z8, z9, z10, z11, z12, zf⟩ := BlkAt.c13 hC.2.2
                  have hb : BlkAt W rb 43 #[.int .i64 r.n, .slice Ab mb cb, .bool r.down, .int .i64 mx, .int .u64 r.mask] := hC.2.1
                  obtain ⟨x0, x1, x2, x3, x4, xf⟩ := BlkAt.c5 hb
                  have fs := fr_set1 W rb 4 (.int .u64 am)
                  have hs : BlkAt (W.setCell ⟨rb, 4, none⟩ (.int .u64 am)) rb 43 #[.int .i64 r.n, .slice Ab mb cb, .bool r.down, .int .i64 mx, .int .u64 am] := by simpa using hb.set 4 (.int .u64 am)
                  go_wp2_with fail
                  exact hK undef _ fs ⟨hC.1.then' fs, hs, hC.2.2.fr fs (fun h => by unfold eqB at h; exact hxr h)⟩ trivial
              · intro vs w6 fw6 cw6 hV
                clear hV
                simp only [putL, Act.put, Nat.reduceAdd, List.setIfInBounds_toArray, List.set_cons_zero, List.set_cons_succ]
                obtain ⟨fs5, hb6, hab6⟩ := cw6
                have hRA6 := (hRA.frD hbx fs5).turn (r' := { r with fuse := mx, mask := am }) rfl
                have hbox6 : BoxR rb w6 { r with fuse := mx, mask := am } := ⟨Ab, mb, cb, hb6, hRA6⟩
                obtain ⟨hd6, hdl6⟩ := hd0.frD hbx fs5
                have hf6 := hf0.trans fs5 (fun i hi h => by unfold eqB at h; omega)
                have hdl6' := fun j hj => hdl0 j (hdl6 j hj)
                clear hb6 hRA6 hd0 hf0 hdl0 hdl6 fs5 fw6 hbx hbox0 hRA z0 z1 z2 z3 z4 z5 z6 z7 z8 z9 z10 z11 z12 zf hab
                obtain ⟨z0, z1, z2, z3, z4, z5, z6, z7, z8, z9, z10, z11, z12, zf⟩ := BlkAt.c13 hab6
                have hdf6 := hdf w6 hd6
                obtain ⟨R, hRR⟩ : ∃ q, ({ r with fuse := mx, mask := am } : RefD) = q := ⟨_, rfl⟩
                rw [hRR] at hbox6 hSM hRB hS1
                clear hdf hRR hmx
                go_wp2_with fail
                refine hdf6.mono ?_
                rintro ed wz ⟨rfl, hD, s7⟩
                have hBX := hbox6.dev hd6 s7.fr
                have hF := hf6.trans s7.fr (fun i hi h => by have := hdl6' i h; omega)
                have hDL : ∀ j, devB p wz j → w.heap.size ≤ j := fun j hj => (s7.foot j hj).elim (hdl6' j) fun h => by have := hf6.size; omega
                clear hdf6 hd6 s7 hbox6 hf6 hdl6' hsm hrb hS1 hab6 z0 z1 z2 z3 z4 z5 z6 z7 z8 z9 z10 z11 z12 zf
                obtain ⟨⟨⟨s1, s2, s3, s4, s5, s6, s7, s8, s9⟩, ge⟩, hq⟩ : ∃ q, loadD D = q := ⟨_, rfl⟩
                have hld := load_calls wz p D hD (by have := hSM.wait; have := hRB.len; omega)
                have hlr := fun W v g => loadR_calls W v R D g hSM (by have := hRB.len; omega)
                rw [hq] at hld hlr
                unfold SuEPost SuV.v SuV.C at hld hlr
                simp only [] at hld hlr
                have hne := (hgs ⟨s1, s2, s3, s4, s5, s6, s7, s8, s9⟩)
                unfold SuV.v SuV.C at hne
                simp only [] at hne
                clear hq hgs
                go_wp2_with fail
                refine hld.mono ?_
                rintro ed wy ⟨rfl, fy⟩
                clear hld
                have fs := (Fr.refl noB wy).alloc (.cells #[.int .u64 s1, .int .u64 s2, .int .u64 s3, .int .u64 s4, .int .u8 s5, .int .u8 s6, .int .u64 s7, .int .u32 s8, .int .u32 s9] 61)
                have bs := BlkAt.new wy #[.int .u64 s1, .int .u64 s2, .int .u64 s3, .int .u64 s4, .int .u8 s5, .int .u8 s6, .int .u64 s7, .int .u32 s8, .int .u32 s9] 61
                have fy2 := fy.then' fs
                have hD2 := hD.fr0 fy2
                have hBX2 := hBX.fr fy2
                have hF2 := hF.then' fy2
                have hDL2 : ∀ j, devB p (wy.alloc (.cells #[.int .u64 s1, .int .u64 s2, .int .u64 s3, .int .u64 s4, .int .u8 s5, .int .u8 s6, .int .u64 s7, .int .u32 s8, .int .u32 s9] 61)) j → w.heap.size ≤ j := fun j hj => hDL j (hD.foot9 fy2 j hj)
                obtain ⟨sb, hsb⟩ : ∃ x, wy.heap.size = x := ⟨_, rfl⟩
                rw [hsb] at bs
                clear hD hBX hF hDL fy fs fy2
                go_upto_region 30 with fail
                generalize (wy.alloc (.cells #[.int .u64 s1, .int .u64 s2, .int .u64 s3, .int .u64 s4, .int .u8 s5, .int .u8 s6, .int .u64 s7, .int .u32 s8, .int .u32 s9] 61)) = wv at *
                clear hsb
                obtain ⟨Az, mz, cz, hbz, hRz⟩ := id hBX2
                have hlr2 := hlr wv _ hRz
                unfold refC at hbz hlr2
                obtain ⟨x0, x1, x2, x3, x4, xf⟩ := BlkAt.c5 hbz
                go_wp2_with fail
                refine hlr2.mono ?_
                rintro ed wu ⟨rfl, fu2⟩
                clear hlr hlr2 x0 x1 x2 x3 x4 xf hbz hRz
                have ft := (Fr.refl noB wu).alloc (.cells #[.int .u64 s1, .int .u64 s2, .int .u64 s3, .int .u64 s4, .int .u8 s5, .int .u8 s6, .int .u64 s7, .int .u32 s8, .int .u32 s9] 64)
                have bt := BlkAt.new wu #[.int .u64 s1, .int .u64 s2, .int .u64 s3, .int .u64 s4, .int .u8 s5, .int .u8 s6, .int .u64 s7, .int .u32 s8, .int .u32 s9] 64
                have fut := fu2.then' ft
                replace bs := bs.fr fut id
                have hD3 := hD2.fr0 fut
                have hBX3 := hBX2.fr fut
                have hF3 := hF2.then' fut
                have hDL3 : ∀ j, devB p (wu.alloc (.cells #[.int .u64 s1, .int .u64 s2, .int .u64 s3, .int .u64 s4, .int .u8 s5, .int .u8 s6, .int .u64 s7, .int .u32 s8, .int .u32 s9] 64)) j → w.heap.size ≤ j := fun j hj => hDL2 j (hD2.foot9 fut j hj)
                obtain ⟨tb, htb⟩ : ∃ x, wu.heap.size = x := ⟨_, rfl⟩
                rw [htb] at bt
                have HI : PlayI w p rb (k + 1) (wu.alloc (.cells #[.int .u64 s1, .int .u64 s2, .int .u64 s3, .int .u64 s4, .int .u8 s5, .int .u8 s6, .int .u64 s7, .int .u32 s8, .int .u32 s9] 64)) := ⟨D, R, hD3, hSM, hRB, hBX3, hF3, hDL3⟩
                clear hD2 hBX2 hF2 hDL2 fu2 ft fut hD3 hBX3 hF3 hDL3
                go_upto_region 31 with fail
                generalize (wu.alloc (.cells #[.int .u64 s1, .int .u64 s2, .int .u64 s3, .int .u64 s4, .int .u8 s5, .int .u8 s6, .int .u64 s7, .int .u32 s8, .int .u32 s9] 64)) = wt at *
                clear htb
                obtain ⟨x0, x1, x2, x3, x4, x5, x6, x7, x8, xf⟩ := BlkAt.c9 bs
                obtain ⟨y0, y1, y2, y3, y4, y5, y6, y7, y8, yf⟩ := BlkAt.c9 bt
                have HM := HMH.out
                have hne2 := hne.out
                have hgg : ((ge : Int) != ge) = false := by simp
                clear hne HMH
                go_wp2_with fail
                go_roundw
                case rel => exact ⟨k + 1, by omega, by go_num, HI⟩
                case measure => simp [intOf]; omega
            · have hRq : armR r ai am = r := if_pos hdn
              rw [hRq] at hS1 hRB
              generalize armD d ai am = D at *
              have hSM := hS1
              have hdf6 := hdf wc hd0
              have hbox6 := hbox0
              have hd6 := hd0
              have hf6 := hf0
              have hdl6' := hdl0
              have hab6 := hab
              clear hRq hdf
              go_wp2_with fail
              refine hdf6.mono ?_
              rintro ed wz ⟨rfl, hD, s7⟩
              clear x0 x1 x2 x3 x4 xf hbx hRA hbox0 hd0 hf0 hdl0 hab
              obtain ⟨R, hRR⟩ : ∃ q, r = q := ⟨_, rfl⟩
              rw [hRR] at hbox6 hSM hRB hS1
              clear hRR
              have hBX := hbox6.dev hd6 s7.fr
              have hF := hf6.trans s7.fr (fun i hi h => by have := hdl6' i h; omega)
              have hDL : ∀ j, devB p wz j → w.heap.size ≤ j := fun j hj => (s7.foot j hj).elim (hdl6' j) fun h => by have := hf6.size; omega
              clear hdf6 hd6 s7 hbox6 hf6 hdl6' hsm hrb hS1 hab6 z0 z1 z2 z3 z4 z5 z6 z7 z8 z9 z10 z11 z12 zf
              obtain ⟨⟨⟨s1, s2, s3, s4, s5, s6, s7, s8, s9⟩, ge⟩, hq⟩ : ∃ q, loadD D = q := ⟨_, rfl⟩
              have hld := load_calls wz p D hD (by have := hSM.wait; have := hRB.len; omega)
              have hlr := fun W v g => loadR_calls W v R D g hSM (by have := hRB.len; omega)
              rw [hq] at hld hlr
              unfold SuEPost SuV.v SuV.C at hld hlr
              simp only [] at hld hlr
              have hne := (hgs ⟨s1, s2, s3, s4, s5, s6, s7, s8, s9⟩)
              unfold SuV.v SuV.C at hne
              simp only [] at hne
              clear hq hgs
              go_wp2_with fail
              refine hld.mono ?_
              rintro ed wy ⟨rfl, fy⟩
              clear hld
              have fs := (Fr.refl noB wy).alloc (.cells #[.int .u64 s1, .int .u64 s2, .int .u64 s3, .int .u64 s4, .int .u8 s5, .int .u8 s6, .int .u64 s7, .int .u32 s8, .int .u32 s9] 61)
              have bs := BlkAt.new wy #[.int .u64 s1, .int .u64 s2, .int .u64 s3, .int .u64 s4, .int .u8 s5, .int .u8 s6, .int .u64 s7, .int .u32 s8, .int .u32 s9] 61
              have fy2 := fy.then' fs
              have hD2 := hD.fr0 fy2
              have hBX2 := hBX.fr fy2
              have hF2 := hF.then' fy2
              have hDL2 : ∀ j, devB p (wy.alloc (.cells #[.int .u64 s1, .int .u64 s2, .int .u64 s3, .int .u64 s4, .int .u8 s5, .int .u8 s6, .int .u64 s7, .int .u32 s8, .int .u32 s9] 61)) j → w.heap.size ≤ j := fun j hj => hDL j (hD.foot9 fy2 j hj)
              obtain ⟨sb, hsb⟩ : ∃ x, wy.heap.size = x := ⟨_, rfl⟩
              rw [hsb] at bs
              clear hD hBX hF hDL fy fs fy2
              go_upto_region 30 with fail
              generalize (wy.alloc (.cells #[.int .u64 s1, .int .u64 s2, .int .u64 s3, .int .u64 s4, .int .u8 s5, .int .u8 s6, .int .u64 s7, .int .u32 s8, .int .u32 s9] 61)) = wv at *
              clear hsb
              obtain ⟨Az, mz, cz, hbz, hRz⟩ := id hBX2
              have hlr2 := hlr wv _ hRz
              unfold refC at hbz hlr2
              obtain ⟨x0, x1, x2, x3, x4, xf⟩ := BlkAt.c5 hbz
              go_wp2_with fail
              refine hlr2.mono ?_
              rintro ed wu ⟨rfl, fu2⟩
              clear hlr hlr2 x0 x1 x2 x3 x4 xf hbz hRz
              have ft := (Fr.refl noB wu).alloc (.cells #[.int .u64 s1, .int .u64 s2, .int .u64 s3, .int .u64 s4, .int .u8 s5, .int .u8 s6, .int .u64 s7, .int .u32 s8, .int .u32 s9] 64)
              have bt := BlkAt.new wu #[.int .u64 s1, .int .u64 s2, .int .u64 s3, .int .u64 s4, .int .u8 s5, .int .u8 s6, .int .u64 s7, .int .u32 s8, .int .u32 s9] 64
              have fut := fu2.then' ft
              replace bs := bs.fr fut id
              have hD3 := hD2.fr0 fut
              have hBX3 := hBX2.fr fut
              have hF3 := hF2.then' fut
              have hDL3 : ∀ j, devB p (wu.alloc (.cells #[.int .u64 s1, .int .u64 s2, .int .u64 s3, .int .u64 s4, .int .u8 s5, .int .u8 s6, .int .u64 s7, .int .u32 s8, .int .u32 s9] 64)) j → w.heap.size ≤ j := fun j hj => hDL2 j (hD2.foot9 fut j hj)
              obtain ⟨tb, htb⟩ : ∃ x, wu.heap.size = x := ⟨_, rfl⟩
              rw [htb] at bt
              have HI : PlayI w p rb (k + 1) (wu.alloc (.cells #[.int .u64 s1, .int .u64 s2, .int .u64 s3, .int .u64 s4, .int .u8 s5, .int .u8 s6, .int .u64 s7, .int .u32 s8, .int .u32 s9] 64)) := ⟨D, R, hD3, hSM, hRB, hBX3, hF3, hDL3⟩
              clear hD2 hBX2 hF2 hDL2 fu2 ft fut hD3 hBX3 hF3 hDL3
              go_upto_region 31 with fail
              generalize (wu.alloc (.cells #[.int .u64 s1, .int .u64 s2, .int .u64 s3, .int .u64 s4, .int .u8 s5, .int .u8 s6, .int .u64 s7, .int .u32 s8, .int .u32 s9] 64)) = wt at *
              clear htb
              obtain ⟨x0, x1, x2, x3, x4, x5, x6, x7, x8, xf⟩ := BlkAt.c9 bs
              obtain ⟨y0, y1, y2, y3, y4, y5, y6, y7, y8, yf⟩ := BlkAt.c9 bt
              have HM := HMH.out
              have hne2 := hne.out
              have hgg : ((ge : Int) != ge) = false := by simp
              clear hne HMH
              go_wp2_with fail
              go_roundw
              case rel => exact ⟨k + 1, by omega, by go_num, HI⟩
              case measure => simp [intOf]; omega
          · have q2 : ((kk : Int) == 2) = false := by rw [beq_eq_false_iff_ne]; omega
            have q3 : ((kk : Int) == 3) = false := by rw [beq_eq_false_iff_ne]; omega
            have q4 : ((kk : Int) == 4) = false := by rw [beq_eq_false_iff_ne]; omega
            have q5 : ((kk : Int) == 5) = false := by rw [beq_eq_false_iff_ne]; omega
            have q6 : ((kk : Int) == 6) = true := by rw [beq_iff_eq]; omega
            have hS1 := hsm.start
            have hRB := (hrb.start).up (show k ≤ k + 1 by omega)
            have hdf := fun W g => start_calls W p d g
            have hSM := hS1
            obtain ⟨x0, x1, x2, x3, x4, xf⟩ := BlkAt.c5 hbx
            have fs5 := fr_set1 wc rb 2 (.bool false)
            have hb6 : BlkAt (wc.setCell ⟨rb, 2, none⟩ (.bool false)) rb 43 #[.int .i64 r.n, .slice Ab mb cb, .bool false, .int .i64 r.fuse, .int .u64 r.mask] := by simpa using hbx.set 2 (.bool false)
            have hRA6 := (hRA.frD hbx fs5).turn (r' := { r with down := false }) rfl
            have hbox6 : BoxR rb (wc.setCell ⟨rb, 2, none⟩ (.bool false)) { r with down := false } := ⟨Ab, mb, cb, hb6, hRA6⟩
            obtain ⟨hd6, hdl6⟩ := hd0.frD hbx fs5
            have hf6 := hf0.trans fs5 (fun i hi h => by unfold eqB at h; omega)
            have hdl6' := fun j hj => hdl0 j (hdl6 j hj)
            have hab6 := hab.fr fs5 (fun h => by unfold eqB at h; exact hxr h)
            clear hb6 hRA6 hd0 hf0 hdl0 hdl6 fs5 hbx hbox0 hRA
            go_upto_region 28 with fail
            clear z0 z1 z2 z3 z4 z5 z6 z7 z8 z9 z10 z11 z12 zf hab
            generalize (wc.setCell ⟨rb, 2, none⟩ (.bool false)) = w6 at *
            clear x0 x1 x2 x3 x4 xf
            obtain ⟨z0, z1, z2, z3, z4, z5, z6, z7, z8, z9, z10, z11, z12, zf⟩ := BlkAt.c13 hab6
            have hdf6 := hdf w6 hd6
            obtain ⟨R, hRR⟩ : ∃ q, ({ r with down := false } : RefD) = q := ⟨_, rfl⟩
            obtain ⟨D, hDD⟩ : ∃ q, ({ d with down := false } : DevV) = q := ⟨_, rfl⟩
            rw [hRR] at hbox6 hSM hRB hS1
            rw [hDD] at hSM hS1 hdf6
            clear hdf hRR hDD
            go_wp2_with fail
            refine hdf6.mono ?_
            rintro ed wz ⟨rfl, hD, s7⟩
            have hBX := hbox6.dev hd6 s7.fr
            have hF := hf6.trans s7.fr (fun i hi h => by have := hdl6' i h; omega)
            have hDL : ∀ j, devB p wz j → w.heap.size ≤ j := fun j hj => (s7.foot j hj).elim (hdl6' j) fun h => by have := hf6.size; omega
            clear hdf6 hd6 s7 hbox6 hf6 hdl6' hsm hrb hS1 hab6 z0 z1 z2 z3 z4 z5 z6 z7 z8 z9 z10 z11 z12 zf
            obtain ⟨⟨⟨s1, s2, s3, s4, s5, s6, s7, s8, s9⟩, ge⟩, hq⟩ : ∃ q, loadD D = q := ⟨_, rfl⟩
            have hld := load_calls wz p D hD (by have := hSM.wait; have := hRB.len; omega)
            have hlr := fun W v g => loadR_calls W v R D g hSM (by have := hRB.len; omega)
            rw [hq] at hld hlr
            unfold SuEPost SuV.v SuV.C at hld hlr
            simp only [] at hld hlr
            have hne := (hgs ⟨s1, s2, s3, s4, s5, s6, s7, s8, s9⟩)
            unfold SuV.v SuV.C at hne
            simp only [] at hne
            clear hq hgs
            go_wp2_with fail
            refine hld.mono ?_
            rintro ed wy ⟨rfl, fy⟩
            clear hld
            have fs := (Fr.refl noB wy).alloc (.cells #[.int .u64 s1, .int .u64 s2, .int .u64 s3, .int .u64 s4, .int .u8 s5, .int .u8 s6, .int .u64 s7, .int .u32 s8, .int .u32 s9] 61)
            have bs := BlkAt.new wy #[.int .u64 s1, .int .u64 s2, .int .u64 s3, .int .u64 s4, .int .u8 s5, .int .u8 s6, .int .u64 s7, .int .u32 s8, .int .u32 s9] 61
            have fy2 := fy.then' fs
            have hD2 := hD.fr0 fy2
            have hBX2 := hBX.fr fy2
            have hF2 := hF.then' fy2
            have hDL2 : ∀ j, devB p (wy.alloc (.cells #[.int .u64 s1, .int .u64 s2, .int .u64 s3, .int .u64 s4, .int .u8 s5, .int .u8 s6, .int .u64 s7, .int .u32 s8, .int .u32 s9] 61)) j → w.heap.size ≤ j := fun j hj => hDL j (hD.foot9 fy2 j hj)
            obtain ⟨sb, hsb⟩ : ∃ x, wy.heap.size = x := ⟨_, rfl⟩
            rw [hsb] at bs
            clear hD hBX hF hDL fy fs fy2
            go_upto_region 30 with fail
            generalize (wy.alloc (.cells #[.int .u64 s1, .int .u64 s2, .int .u64 s3, .int .u64 s4, .int .u8 s5, .int .u8 s6, .int .u64 s7, .int .u32 s8, .int .u32 s9] 61)) = wv at *
            clear hsb
            obtain ⟨Az, mz, cz, hbz, hRz⟩ := id hBX2
            have hlr2 := hlr wv _ hRz
            unfold refC at hbz hlr2
            obtain ⟨x0, x1, x2, x3, x4, xf⟩ := BlkAt.c5 hbz
            go_wp2_with fail
            refine hlr2.mono ?_
            rintro ed wu ⟨rfl, fu2⟩
            clear hlr hlr2 x0 x1 x2 x3 x4 xf hbz hRz
            have ft := (Fr.refl noB wu).alloc (.cells #[.int .u64 s1, .int .u64 s2, .int .u64 s3, .int .u64 s4, .int .u8 s5, .int .u8 s6, .int .u64 s7, .int .u32 s8, .int .u32 s9] 64)
            have bt := BlkAt.new wu #[.int .u64 s1, .int .u64 s2, .int .u64 s3, .int .u64 s4, .int .u8 s5, .int .u8 s6, .int .u64 s7, .int .u32 s8, .int .u32 s9] 64
            have fut := fu2.then' ft
            replace bs := bs.fr fut id
            have hD3 := hD2.fr0 fut
            have hBX3 := hBX2.fr fut
            have hF3 := hF2.then' fut
            have hDL3 : ∀ j, devB p (wu.alloc (.cells #[.int .u64 s1, .int .u64 s2, .int .u64 s3, .int .u64 s4, .int .u8 s5, .int .u8 s6, .int .u64 s7, .int .u32 s8, .int .u32 s9] 64)) j → w.heap.size ≤ j := fun j hj => hDL2 j (hD2.foot9 fut j hj)
            obtain ⟨tb, htb⟩ : ∃ x, wu.heap.size = x := ⟨_, rfl⟩
            rw [htb] at bt
            have HI : PlayI w p rb (k + 1) (wu.alloc (.cells #[.int .u64 s1, .int .u64 s2, .int .u64 s3, .int .u64 s4, .int .u8 s5, .int .u8 s6, .int .u64 s7, .int .u32 s8, .int .u32 s9] 64)) := ⟨D, R, hD3, hSM, hRB, hBX3, hF3, hDL3⟩
            clear hD2 hBX2 hF2 hDL2 fu2 ft fut hD3 hBX3 hF3 hDL3
            go_upto_region 31 with fail
            generalize (wu.alloc (.cells #[.int .u64 s1, .int .u64 s2, .int .u64 s3, .int .u64 s4, .int .u8 s5, .int .u8 s6, .int .u64 s7, .int .u32 s8, .int .u32 s9] 64)) = wt at *
            clear htb
            obtain ⟨x0, x1, x2, x3, x4, x5, x6, x7, x8, xf⟩ := BlkAt.c9 bs
            obtain ⟨y0, y1, y2, y3, y4, y5, y6, y7, y8, yf⟩ := BlkAt.c9 bt
            have HM := HMH.out
            have hne2 := hne.out
            have hgg : ((ge : Int) != ge) = false := by simp
            clear hne HMH
            go_wp2_with fail
            go_roundw
            case rel => exact ⟨k + 1, by omega, by go_num, HI⟩
            case measure => simp [intOf]; omega
          · have q2 : ((kk : Int) == 2) = false := by rw [beq_eq_false_iff_ne]; omega
            have q3 : ((kk : Int) == 3) = false := by rw [beq_eq_false_iff_ne]; omega
            have q4 : ((kk : Int) == 4) = false := by rw [beq_eq_false_iff_ne]; omega
            have q5 : ((kk : Int) == 5) = false := by rw [beq_eq_false_iff_ne]; omega
            have q6 : ((kk : Int) == 6) = false := by rw [beq_eq_false_iff_ne]; omega
            have hfp := hrb.put (seq % 2 : Nat) (mkS (superB ⟨seq, view, normal, gen, half, slot, base, size, sum⟩))
            have hfl := saveR_calls wc _ r ⟨seq, view, normal, gen, half, slot, base, size, sum⟩ hRA hsw hrb.mask (by have := hrb.len; omega) hrb.fuse ⟨hfp.mask, by have := hfp.len; simp only []; omega, hfp.fuse⟩
            obtain ⟨hS1, hE1⟩ := hsm.save ⟨seq, view, normal, gen, half, slot, base, size, sum⟩
            have hwl := hsm.wait
            have hll := hrb.len
            have hdf := fun W g => save_calls W p d ⟨seq, view, normal, gen, half, slot, base, size, sum⟩ g hsw (by omega)
            have hRB := hrb.save ⟨seq, view, normal, gen, half, slot, base, size, sum⟩
            obtain ⟨⟨R, re⟩, hR⟩ : ∃ q, saveR r ⟨seq, view, normal, gen, half, slot, base, size, sum⟩ = q := ⟨_, rfl⟩
            obtain ⟨⟨D, de⟩, hD0⟩ : ∃ q, saveD d ⟨seq, view, normal, gen, half, slot, base, size, sum⟩ = q := ⟨_, rfl⟩
            rw [hR] at hfl hS1 hE1 hRB
            rw [hD0] at hdf hS1 hE1
            simp only [] at hS1 hE1 hRB hdf
            unfold SuV.v SuV.C at hfl hdf
            simp only [] at hfl hdf
            subst hE1
            clear hR hD0 hfp
            have hSM := hS1
            obtain ⟨x0, x1, x2, x3, x4, xf⟩ := BlkAt.c5 hbx
            go_wp2_with fail
            refine hfl.mono ?_
            rintro ed w5 ⟨v5, rfl, hR5, f5⟩
            clear hfl
            obtain ⟨A5, n5', c5, rfl, hR5'⟩ := id hR5
            unfold refC at hR5 ⊢
            replace hbx := hbx.fr f5 id
            clear x0 x1 x2 x3 x4 xf hR5'
            obtain ⟨x0, x1, x2, x3, x4, xf⟩ := BlkAt.c5 hbx
            have fs5 := fr_setD5 w5 rb (.int .i64 R.n) (.slice A5 n5' c5) (.bool R.down) (.int .i64 R.fuse) (.int .u64 R.mask)
            have hb6 := hbx.setD5 (.int .i64 R.n) (.slice A5 n5' c5) (.bool R.down) (.int .i64 R.fuse) (.int .u64 R.mask)
            have hRA6 := hR5.frD hbx fs5
            have hbox6 : BoxR rb _ R := ⟨A5, n5', c5, hb6, hRA6⟩
            obtain ⟨hd6, hdl6⟩ := (hd0.fr0 f5).frD hbx fs5
            have hf6 := (hf0.then' f5).trans fs5 (fun i hi h => by unfold eqB at h; omega)
            have hdl6' := fun j hj => hdl0 j (hd0.foot9 f5 j (hdl6 j hj))
            have hab6 := (hab.fr f5 id).fr fs5 (fun h => by unfold eqB at h; exact hxr h)
            clear hb6 hRA6 hR5 hd0 hf0 hdl0 hdl6 fs5 f5 hbx hbox0 hRA z0 z1 z2 z3 z4 z5 z6 z7 z8 z9 z10 z11 z12 zf hab
            go_upto_region 12 with fail
            generalize (((((w5.setCell ⟨rb, 0, none⟩ (.int .i64 R.n)).setCell ⟨rb, 1, none⟩ (.slice A5 n5' c5)).setCell ⟨rb, 2, none⟩ (.bool R.down)).setCell ⟨rb, 3, none⟩ (.int .i64 R.fuse)).setCell ⟨rb, 4, none⟩ (.int .u64 R.mask)) = w6 at *
            clear x0 x1 x2 x3 x4 xf
            obtain ⟨z0, z1, z2, z3, z4, z5, z6, z7, z8, z9, z10, z11, z12, zf⟩ := BlkAt.c13 hab6
            have hdf6 := hdf w6 hd6
            clear hdf
            go_wp2_with fail
            refine hdf6.mono ?_
            rintro ed wz ⟨rfl, hD, s7⟩
            have hBX := hbox6.dev hd6 s7.fr
            have hF := hf6.trans s7.fr (fun i hi h => by have := hdl6' i h; omega)
            have hDL : ∀ j, devB p wz j → w.heap.size ≤ j := fun j hj => (s7.foot j hj).elim (hdl6' j) fun h => by have := hf6.size; omega
            clear hdf6 hd6 s7 hbox6 hf6 hdl6' hsm hrb hS1 hab6 z0 z1 z2 z3 z4 z5 z6 z7 z8 z9 z10 z11 z12 zf
            obtain ⟨⟨⟨s1, s2, s3, s4, s5, s6, s7, s8, s9⟩, ge⟩, hq⟩ : ∃ q, loadD D = q := ⟨_, rfl⟩
            have hld := load_calls wz p D hD (by have := hSM.wait; have := hRB.len; omega)
            have hlr := fun W v g => loadR_calls W v R D g hSM (by have := hRB.len; omega)
            rw [hq] at hld hlr
            unfold SuEPost SuV.v SuV.C at hld hlr
            simp only [] at hld hlr
            have hne := (hgs ⟨s1, s2, s3, s4, s5, s6, s7, s8, s9⟩)
            unfold SuV.v SuV.C at hne
            simp only [] at hne
            clear hq hgs
            go_wp2_with fail
            refine hld.mono ?_
            rintro ed wy ⟨rfl, fy⟩
            clear hld
            have fs := (Fr.refl noB wy).alloc (.cells #[.int .u64 s1, .int .u64 s2, .int .u64 s3, .int .u64 s4, .int .u8 s5, .int .u8 s6, .int .u64 s7, .int .u32 s8, .int .u32 s9] 61)
            have bs := BlkAt.new wy #[.int .u64 s1, .int .u64 s2, .int .u64 s3, .int .u64 s4, .int .u8 s5, .int .u8 s6, .int .u64 s7, .int .u32 s8, .int .u32 s9] 61
            have fy2 := fy.then' fs
            have hD2 := hD.fr0 fy2
            have hBX2 := hBX.fr fy2
            have hF2 := hF.then' fy2
            have hDL2 : ∀ j, devB p (wy.alloc (.cells #[.int .u64 s1, .int .u64 s2, .int .u64 s3, .int .u64 s4, .int .u8 s5, .int .u8 s6, .int .u64 s7, .int .u32 s8, .int .u32 s9] 61)) j → w.heap.size ≤ j := fun j hj => hDL j (hD.foot9 fy2 j hj)
            obtain ⟨sb, hsb⟩ : ∃ x, wy.heap.size = x := ⟨_, rfl⟩
            rw [hsb] at bs
            clear hD hBX hF hDL fy fs fy2
            go_upto_region 30 with fail
            generalize (wy.alloc (.cells #[.int .u64 s1, .int .u64 s2, .int .u64 s3, .int .u64 s4, .int .u8 s5, .int .u8 s6, .int .u64 s7, .int .u32 s8, .int .u32 s9] 61)) = wv at *
            clear hsb
            obtain ⟨Az, mz, cz, hbz, hRz⟩ := id hBX2
            have hlr2 := hlr wv _ hRz
            unfold refC at hbz hlr2
            obtain ⟨x0, x1, x2, x3, x4, xf⟩ := BlkAt.c5 hbz
            go_wp2_with fail
            refine hlr2.mono ?_
            rintro ed wu ⟨rfl, fu2⟩
            clear hlr hlr2 x0 x1 x2 x3 x4 xf hbz hRz
            have ft := (Fr.refl noB wu).alloc (.cells #[.int .u64 s1, .int .u64 s2, .int .u64 s3, .int .u64 s4, .int .u8 s5, .int .u8 s6, .int .u64 s7, .int .u32 s8, .int .u32 s9] 64)
            have bt := BlkAt.new wu #[.int .u64 s1, .int .u64 s2, .int .u64 s3, .int .u64 s4, .int .u8 s5, .int .u8 s6, .int .u64 s7, .int .u32 s8, .int .u32 s9] 64
            have fut := fu2.then' ft
            replace bs := bs.fr fut id
            have hD3 := hD2.fr0 fut
            have hBX3 := hBX2.fr fut
            have hF3 := hF2.then' fut
            have hDL3 : ∀ j, devB p (wu.alloc (.cells #[.int .u64 s1, .int .u64 s2, .int .u64 s3, .int .u64 s4, .int .u8 s5, .int .u8 s6, .int .u64 s7, .int .u32 s8, .int .u32 s9] 64)) j → w.heap.size ≤ j := fun j hj => hDL2 j (hD2.foot9 fut j hj)
            obtain ⟨tb, htb⟩ : ∃ x, wu.heap.size = x := ⟨_, rfl⟩
            rw [htb] at bt
            have HI : PlayI w p rb (k + 1) (wu.alloc (.cells #[.int .u64 s1, .int .u64 s2, .int .u64 s3, .int .u64 s4, .int .u8 s5, .int .u8 s6, .int .u64 s7, .int .u32 s8, .int .u32 s9] 64)) := ⟨D, R, hD3, hSM, hRB, hBX3, hF3, hDL3⟩
            clear hD2 hBX2 hF2 hDL2 fu2 ft fut hD3 hBX3 hF3 hDL3
            go_upto_region 31 with fail
            generalize (wu.alloc (.cells #[.int .u64 s1, .int .u64 s2, .int .u64 s3, .int .u64 s4, .int .u8 s5, .int .u8 s6, .int .u64 s7, .int .u32 s8, .int .u32 s9] 64)) = wt at *
            clear htb
            obtain ⟨x0, x1, x2, x3, x4, x5, x6, x7, x8, xf⟩ := BlkAt.c9 bs
            obtain ⟨y0, y1, y2, y3, y4, y5, y6, y7, y8, yf⟩ := BlkAt.c9 bt
            have HM := HMH.out
            have hne2 := hne.out
            have hgg : ((ge : Int) != ge) = false := by simp
            have hde : ((de : Int) != de) = false := by simp
            clear hne HMH
            go_wp2_with fail
            go_roundw
            case rel => exact ⟨k + 1, by omega, by go_num, HI⟩
            case measure => simp [intOf]; omega
      · have : k = n := by omega
        subst this
        go_wp2_with fail
        go_ret
        exact ⟨rfl, hf⟩
theorem superPlays_law (w : World) (k : Int) (hk : (Lit.int .u8 k).wf = true) (A : Option Addr) (n c : Nat) (L : List ActS) (o : RowAt w A (L.flatMap ActS.C) ∧ L.length = n ∧ n ≤ c ∧ c ≤ maxLen ∧ (∀ e ∈ L, e.ok w) ∧ (A = none → n = 0 ∧ c = 0)) :
    Calls Try.prog 8 #[.int .u8 k, .slice A n c] w (BoolPost w true) := by
  obtain ⟨h0, h1⟩ := u8_natU hk
  obtain ⟨x, rfl⟩ := Int.eq_ofNat_of_zero_le h0
  exact superPlays_walk w x (by omega) A n c L o.1 o.2.1 o.2.2.2.2.1
end Go.Proofs.Ytnkdlmmdaagonaa
