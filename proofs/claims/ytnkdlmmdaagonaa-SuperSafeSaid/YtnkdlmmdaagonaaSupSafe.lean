/- SuperSafe's walk. -/
import Derived.Test.YtnkdlmmdaagonaaSafeL
import Derived.Test.YtnkdlmmdaagonaaSup6
import Derived.Test.YtnkdlmmdaagonaaSupEq
import Derived.Test.YtnkdlmmdaagonaaFew
import Derived.Test.YtnkdlmmdaagonaaOpenInts
import Derived.Test.YtnkdlmmdaagonaaSeg
import Derived.Deep.Cut
namespace Go.Proofs.Ytnkdlmmdaagonaa
open Go.RowKit
theorem DevAt.not_S {w : World} {p : Nat} {d : DevV} (h : DevAt w p d) {a : Nat} {C : Array Value} (hb : BlkAt w a 61 C) : ¬ devB p w a := by
  obtain ⟨KA, kn, kc, WA, wn, wc, ks, ws, h⟩ := h
  rintro (rfl | ⟨D, hD, hv⟩)
  · have := h.blk; unfold BlkAt at this hb; rw [this] at hb; simp at hb
  · have h1 := h.blk
    unfold BlkAt at h1 hb
    rw [h1] at hD
    have e : D = #[.slice KA kn kc, .slice WA wn wc, .bool d.down, .int .i64 d.fuse, .int .u64 (d.mask : Nat)] := by
      simp only [Option.some.injEq, Obj.cells.injEq, true_and, and_true] at hD; exact hD.symm
    subst e
    rcases hv with ⟨v, e1, e2⟩ | ⟨v, e1, e2⟩
    · simp at e1; subst e1
      obtain ⟨C', hC'⟩ := own_typ h.hk e2
      rw [hb] at hC'; simp at hC'
    · simp at e1; subst e1
      obtain ⟨C', hC'⟩ := own_typ h.hw e2
      rw [hb] at hC'; simp at hC'
theorem DevAt.frS {w w' : World} {p : Nat} {d : DevV} {a : Nat} {C : Array Value} (h : DevAt w p d) (hb : BlkAt w a 61 C) (f : Fr (eqB a) w w') : DevAt w' p d ∧ ∀ j, devB p w' j → devB p w j := by
  have hn := h.not_S hb
  obtain ⟨KA, kn, kc, WA, wn, wc, ks, ws, h⟩ := h
  refine ⟨⟨KA, kn, kc, WA, wn, wc, ks, ws, h.fr f (fun k e => by unfold eqB at e; subst e; exact hn) (fun k D e g => ?_)⟩, fun j hj => devB_cells h.blk (h.blk.fr f (fun e => hn (by unfold eqB at e; exact .inl e.symm))) rfl rfl j hj⟩
  unfold eqB at e; subst e
  unfold BlkAt at hb g; rw [hb] at g; simp at g
theorem DevAt.foot0 {w w' : World} {p : Nat} {d : DevV} (h : DevAt w p d) (f : Fr noB w w') : ∀ j, devB p w' j → devB p w j := by
  obtain ⟨KA, kn, kc, WA, wn, wc, ks, ws, h⟩ := h
  exact fun j hj => devB_cells h.blk (h.blk.fr f id) rfl rfl j hj
/-- The device ahead of and behind what arms it. -/
def ArmC (p : Nat) (w5 : World) (d d' : DevV) : Nat → World → Prop
  | 0, W => Fr noB w5 W
  | _, W => DevAt W p d' ∧ DStep p w5 W
/-- What holds at each round's head. -/
def SafeI (w : World) (p lb k : Nat) (wr : World) : Prop :=
  ∃ d last, DevAt wr p d ∧ RestD d last ∧ last.seq ≤ k ∧ BlkAt wr lb 61 last.C.toArray ∧ Fr noB w wr ∧ ∀ j, devB p wr j → w.heap.size ≤ j
set_option maxRecDepth 100000 in
set_option maxHeartbeats 12800000 in
theorem safe_walk (w : World) (A : Option Addr) (n c : Nat) (L : List SuV) (hr : RowAt w A (L.flatMap SuV.C)) (hn : L.length = n) (hwf : ∀ e ∈ L, e.wf) (B : Option Addr) (m cB : Nat) (I : List Int) (hi : RowAt w B (I.flatMap iCell)) (hm : I.length = m) (hiw : ∀ x ∈ I, iOK x) (mask : Nat) (hk : mask ≤ 18446744073709551615) :
    Calls Try.prog 9 #[.slice A n c, .slice B m cB, .int .u64 mask] w (BoolPost w true) := by
  have HN := hid hn
  have HM := hid hm
  clear hn hm
  have hlv := fun W => lives22_calls W
  by_cases hbad : 20 < n ∨ m < n
  · have hlv1 := hlv w
    obtain ⟨v1, h1⟩ : ∃ v, decide ((20 : Int) < n) = v := ⟨_, rfl⟩
    obtain ⟨v2, h2⟩ : ∃ v, decide (m < n) = v := ⟨_, rfl⟩
    go_enter Try.func9, Try.ntmps9
    go_wp2_with fail
    refine hlv1.mono ?_
    rintro ed w1 ⟨rfl, f1⟩
    have hlv2 := hlv w1
    cases v1 <;> cases v2
    · exfalso
      have := of_decide_eq_false h1; have := of_decide_eq_false h2; omega
    all_goals
      clear hbad
      go_wp2_with fail
      refine hlv2.mono ?_
      rintro ed w2 ⟨rfl, f2⟩
      go_wp2_with fail
      go_ret
      exact ⟨rfl, f1.then' f2⟩
  · have hn20 : n ≤ 20 := by omega
    have hmn : n ≤ m := by omega
    have t1 : decide ((20 : Int) < n) = false := decide_eq_false (by omega)
    have t2 : decide (m < n) = false := decide_eq_false (by omega)
    have hlv1 := hlv w
    clear hlv hbad
    have hrf := rest_first
    have hzz := zeroS_wf
    obtain ⟨q0, hq0⟩ : ∃ q, saveD (newD 2) zeroS = q := ⟨_, rfl⟩
    have hsv := fun W p g => save_calls W p (newD 2) zeroS g hzz (by decide)
    rw [hq0] at hrf hsv
    obtain ⟨d0, e0⟩ := q0
    obtain ⟨hr0, rfl⟩ := hrf
    simp only [] at hr0 hsv
    have hzv : zeroS.v = .agg #[.int .u64 0, .int .u64 0, .int .u64 0, .int .u64 0, .int .u8 0, .int .u8 0, .int .u64 0, .int .u32 0, .int .u32 0] := rfl
    rw [hzv] at hsv
    clear hq0 hzz hzv
    go_enter Try.func9, Try.ntmps9
    go_wp2_with fail
    refine hlv1.mono ?_
    rintro ed w1 ⟨rfl, f1⟩
    clear hlv1
    go_wp2_with fail
    refine (new_calls w1 2 (by omega)).mono ?_
    rintro ed w2 ⟨p, rfl, hp, h2, f2, hd2⟩
    have F2 := f1.then' f2
    have hd2' : ∀ j, devB p w2 j → w.heap.size ≤ j := fun j hj => Nat.le_trans f1.size (hd2 j hj)
    obtain ⟨lb, hlb⟩ : ∃ x, w2.heap.size = x := ⟨_, rfl⟩
    have f3 := (Fr.refl noB w2).alloc (.cells zeroS.C.toArray 61)
    have b3 : BlkAt (w2.alloc (.cells zeroS.C.toArray 61)) lb 61 zeroS.C.toArray := by rw [← hlb]; exact BlkAt.new _ _ _
    have h3 := h2.fr0 f3
    have S3 := DStep.of0 h2 f3
    have hlw : w.heap.size ≤ lb := by rw [← hlb]; exact F2.size
    have hd3 : ∀ j, devB p (w2.alloc (.cells zeroS.C.toArray 61)) j → w.heap.size ≤ j := fun j hj => by
      rcases S3.foot j hj with h | h
      · exact hd2' j h
      · omega
    have F3 := F2.then' f3
    unfold SuV.C zeroS at f3 b3 h3 hd3 F3
    simp only [] at f3 b3 h3 hd3 F3
    clear hp h2 f2 hd2 hd2' F2 f1 S3 f3
    go_upto_region 5 with fail
    generalize (w2.alloc (.cells #[.int .u64 ((0 : Nat) : Int), .int .u64 ((0 : Nat) : Int), .int .u64 ((0 : Nat) : Int), .int .u64 ((0 : Nat) : Int), .int .u8 ((0 : Nat) : Int), .int .u8 ((0 : Nat) : Int), .int .u64 ((0 : Nat) : Int), .int .u32 ((0 : Nat) : Int), .int .u32 ((0 : Nat) : Int)] 61)) = w3 at *
    obtain ⟨x0, x1, x2, x3, x4, x5, x6, x7, x8, xf⟩ := BlkAt.c9 b3
    have hsv3 := hsv w3 p h3
    clear hsv
    go_wp2_with fail
    refine hsv3.mono ?_
    rintro ed w4 ⟨rfl, h4, s4⟩
    have b4 := b3.fr s4.fr (h3.not_S b3)
    have F4 : Fr noB w w4 := F3.trans s4.fr (fun i hi h => by have := hd3 i h; omega)
    have hd4 : ∀ j, devB p w4 j → w.heap.size ≤ j := fun j hj => by
      rcases s4.foot j hj with h | h
      · exact hd3 j h
      · have := F3.size; omega
    have HI : SafeI w p lb 0 w4 := ⟨d0, zeroS, h4, hr0, Nat.le_refl _, b4, F4, hd4⟩
    clear hsv3 x0 x1 x2 x3 x4 x5 x6 x7 x8 xf h3 b3 hd3 F3 h4 s4 b4 F4 hd4 hr0 hlb
    go_wp2_with fail
    go_loopw [37] (fun i wr => ∃ k : Nat, k ≤ n ∧ i = .int .i64 k ∧ SafeI w p lb k wr) (fun i _ => n - (intOf i).toNat)
    case atStart => exact ⟨0, Nat.zero_le _, rfl, HI⟩
    case round =>
      obtain ⟨k, hkn, rfl, d, last, hd, hrest, hls, hbl, hf, hdl⟩ := hrel
      clear HI
      by_cases hk2 : k < n
      · obtain ⟨s, hs⟩ : ∃ s, L[k]? = some s := ⟨_, List.getElem?_eq_getElem (by rw [HN.out]; exact hk2)⟩
        obtain ⟨ai, hai⟩ : ∃ x, I[k]? = some x := ⟨_, List.getElem?_eq_getElem (by rw [HM.out]; omega)⟩
        obtain ⟨aA, rfl⟩ := hr.some_flat (by simp [SuV.C]) hs
        obtain ⟨aB, rfl⟩ := hi.some_flat (by simp [iCell]) hai
        have hsw := hwf s (List.mem_of_getElem? hs)
        have haw := hiw ai (List.mem_of_getElem? hai)
        have hg := (hr.seg 9 (fun _ => rfl) hs).fr hf id
        have hgi := (hi.seg 1 (fun _ => rfl) hai).fr hf id
        rw [Nat.mul_one] at hgi
        have haB : aB.block < w.heap.size := by
          have := World.block_lt_of_cell? w _ ((hi.seg 1 (fun _ => rfl) hai) 0 _ rfl)
          rw [add_block, add_block] at this
          exact this
        obtain ⟨seq, view, normal, gen, half, slot, base, size, sum⟩ := s
        unfold SuV.C at hg
        simp only [] at hg
        clear hs hai hr hi
        obtain ⟨y0, y1, y2, y3, y4, y5, y6, y7, y8⟩ := hg.c9
        have hsb := BlkAt.new wr #[.int .u64 seq, .int .u64 view, .int .u64 normal, .int .u64 gen, .int .u8 half, .int .u8 slot, .int .u64 base, .int .u32 size, .int .u32 sum] 61
        have fsb := (Fr.refl noB wr).alloc (.cells #[.int .u64 seq, .int .u64 view, .int .u64 normal, .int .u64 gen, .int .u8 half, .int .u8 slot, .int .u64 base, .int .u32 size, .int .u32 sum] 61)
        obtain ⟨sb, hsbq⟩ : ∃ x, wr.heap.size = x := ⟨_, rfl⟩
        rw [hsbq] at hsb
        have hsz : sb < (wr.alloc (.cells #[.int .u64 seq, .int .u64 view, .int .u64 normal, .int .u64 gen, .int .u8 half, .int .u8 slot, .int .u64 base, .int .u32 size, .int .u32 sum] 61)).heap.size := by rw [← hsbq]; simp
        go_upto_region 10 with fail
        have hbl2 := hbl.fr fsb id
        have hd2 := hd.fr0 fsb
        have hdl2 := (DStep.of0 hd fsb).foot
        have F2 := hf.then' fsb
        have hlsb : lb < sb := by rw [← hsbq]; exact hbl.lt
        have hwsb : w.heap.size ≤ sb := by rw [← hsbq]; exact hf.size
        have hgi2 := hgi.fr fsb id
        obtain ⟨l1, l2, l3, l4, l5, l6, l7, l8, l9⟩ := last
        unfold SuV.C at hbl2
        simp only [] at hbl2 hls
        have hl20 : l1 ≤ 20 := by omega
        clear y0 y1 y2 y3 y4 y5 y6 y7 y8 hg hgi hbl
        generalize (wr.alloc (.cells #[.int .u64 seq, .int .u64 view, .int .u64 normal, .int .u64 gen, .int .u8 half, .int .u8 slot, .int .u64 base, .int .u32 size, .int .u32 sum] 61)) = wc at *
        obtain ⟨x0, x1, x2, x3, x4, x5, x6, x7, x8, xf⟩ := BlkAt.c9 hsb
        obtain ⟨z0, z1, z2, z3, z4, z5, z6, z7, z8, zf⟩ := BlkAt.c9 hbl2
        obtain ⟨v', hv'⟩ : ∃ z, view % 1000 = z := ⟨_, rfl⟩
        obtain ⟨g', hg'⟩ : ∃ z, gen % 1000 = z := ⟨_, rfl⟩
        obtain ⟨b', hb'⟩ : ∃ z, base % 1000 = z := ⟨_, rfl⟩
        obtain ⟨h', hh'⟩ : ∃ z, half % 2 = z := ⟨_, rfl⟩
        obtain ⟨s', hs'⟩ : ∃ z, slot % 2 = z := ⟨_, rfl⟩
        obtain ⟨n', hn'⟩ : ∃ z, normal % (v' + 1) = z := ⟨_, rfl⟩
        have ev : (view : Int) % 1000 = (v' : Nat) := by omega
        have eg : (gen : Int) % 1000 = (g' : Nat) := by omega
        have eb : (base : Int) % 1000 = (b' : Nat) := by omega
        have eh : (half : Int) % 2 = (h' : Nat) := by omega
        have es : (slot : Int) % 2 = (s' : Nat) := by omega
        have en : (normal : Int) % ((v' : Int) + 1) = (n' : Nat) := by rw [← hn']; push_cast; rfl
        have ez : ((v' : Int) + 1 == 0) = false := by rw [beq_eq_false_iff_ne]; omega
        have hv1000 : v' < 1000 := by omega
        obtain ⟨q', hq'⟩ : ∃ z, l1 + 1 = z := ⟨_, rfl⟩
        have eq1 : ((l1 : Int) + 1) = (q' : Nat) := by omega
        have hq21 : q' ≤ 21 := by omega
        obtain ⟨mk1, hmk1⟩ : ∃ z, mask / 2 ^ k = z := ⟨_, rfl⟩
        have em1 : (mask : Int) / 2 ^ k = (mk1 : Nat) := by rw [← hmk1]; push_cast; rfl
        have hmk1' : mk1 ≤ 18446744073709551615 := by rw [← hmk1]; exact Nat.le_trans (Nat.div_le_self _ _) hk
        have HQ' := hid hq'
        have hB : Hid (v' < 1000 ∧ g' < 1000 ∧ b' < 1000 ∧ h' < 2 ∧ s' < 2 ∧ n' ≤ v') := by
          unfold Hid
          have := Nat.mod_lt normal (show 0 < v' + 1 by omega)
          omega
        have HSZ : Hid (size < 4294967296 ∧ sum < 4294967296) := ⟨hsw.size, hsw.sum⟩
        clear hsw
        clear hmk1 hv' hg' hb' hh' hs' hn' hq'
        go_upto_region 14 with fail
        have fch : Fr (eqB sb) wc (((((((wc.setCell ⟨sb, 0, none⟩ (.int .u64 q')).setCell ⟨sb, 4, none⟩ (.int .u8 h')).setCell ⟨sb, 5, none⟩ (.int .u8 s')).setCell ⟨sb, 1, none⟩ (.int .u64 v')).setCell ⟨sb, 3, none⟩ (.int .u64 g')).setCell ⟨sb, 6, none⟩ (.int .u64 b')).setCell ⟨sb, 2, none⟩ (.int .u64 n')) := ((((((((Fr.refl (eqB sb) wc).then' (fr_set1 _ sb 0 (.int .u64 q'))).then' (fr_set1 _ sb 4 (.int .u8 h'))).then' (fr_set1 _ sb 5 (.int .u8 s'))).then' (fr_set1 _ sb 1 (.int .u64 v'))).then' (fr_set1 _ sb 3 (.int .u64 g'))).then' (fr_set1 _ sb 6 (.int .u64 b'))).then' (fr_set1 _ sb 2 (.int .u64 n')))
        have hsb5 : BlkAt (((((((wc.setCell ⟨sb, 0, none⟩ (.int .u64 q')).setCell ⟨sb, 4, none⟩ (.int .u8 h')).setCell ⟨sb, 5, none⟩ (.int .u8 s')).setCell ⟨sb, 1, none⟩ (.int .u64 v')).setCell ⟨sb, 3, none⟩ (.int .u64 g')).setCell ⟨sb, 6, none⟩ (.int .u64 b')).setCell ⟨sb, 2, none⟩ (.int .u64 n')) sb 61 #[.int .u64 q', .int .u64 v', .int .u64 n', .int .u64 g', .int .u8 h', .int .u8 s', .int .u64 b', .int .u32 size, .int .u32 sum] := by
          have := (((((((hsb.set 0 (.int .u64 q')).set 4 (.int .u8 h')).set 5 (.int .u8 s')).set 1 (.int .u64 v')).set 3 (.int .u64 g')).set 6 (.int .u64 b')).set 2 (.int .u64 n'))
          simpa using this
        obtain ⟨hd5, hdl5⟩ := hd2.frS hsb fch
        have hbl5 := hbl2.fr fch (fun e => by unfold eqB at e; omega)
        have hgi5 := hgi2.fr fch (fun e => by unfold eqB at e; rw [add_block] at e; omega)
        have F5 := F2.trans fch (fun i hi h => by unfold eqB at h; omega)
        have hdl5' : ∀ j, devB p (((((((wc.setCell ⟨sb, 0, none⟩ (.int .u64 q')).setCell ⟨sb, 4, none⟩ (.int .u8 h')).setCell ⟨sb, 5, none⟩ (.int .u8 s')).setCell ⟨sb, 1, none⟩ (.int .u64 v')).setCell ⟨sb, 3, none⟩ (.int .u64 g')).setCell ⟨sb, 6, none⟩ (.int .u64 b')).setCell ⟨sb, 2, none⟩ (.int .u64 n')) j → w.heap.size ≤ j := fun j hj => by
          rcases hdl2 j (hdl5 j hj) with h | h
          · exact hdl j h
          · have := hf.size; omega
        clear x0 x1 x2 x3 x4 x5 x6 x7 x8 xf z0 z1 z2 z3 z4 z5 z6 z7 z8 zf hd hf hdl fsb hsb hbl2 hd2 hdl2 F2 hgi2 fch hdl5 ev eg eb eh es en ez eq1
        generalize (((((((wc.setCell ⟨sb, 0, none⟩ (.int .u64 q')).setCell ⟨sb, 4, none⟩ (.int .u8 h')).setCell ⟨sb, 5, none⟩ (.int .u8 s')).setCell ⟨sb, 1, none⟩ (.int .u64 v')).setCell ⟨sb, 3, none⟩ (.int .u64 g')).setCell ⟨sb, 6, none⟩ (.int .u64 b')).setCell ⟨sb, 2, none⟩ (.int .u64 n')) = w5 at *
        have hbk : aB.block = aB.block := rfl
        have harm := fun W f => arm_calls W p d ai mk1 (hd5.fr0 (w' := W) f) haw.2 hmk1'
        go_wp2_with fail
        apply wp_region_calmL (R := Fr (devB p w5)) (C := fun q W => Fr (devB p w5) w5 W ∧ ArmC p w5 d (armD d ai mk1) q W) [false, false, false, false, false, false, false, false, true] [0, 0, 0, 0, 0, 0, 0, 0, 0]
          [eqv _, eqv _, eqv _, eqv _, eqv (.int .i64 ai), eqv _, eqv _, eqv (.int .u64 mk1), eqv (.tuple #[])]
          (by kernel_rfl) (by kernel_rfl) (fun _ _ _ h1 h2 => h1.then' h2) ((Fr.refl _ _).drew) ⟨(Fr.refl _ _).drew, (Fr.refl noB w5).drew⟩ (by kernel_rfl)
        · refine ⟨?_, ?_, ?_, ?_, ?_, ?_, ?_, ?_, ?_, trivial⟩
          · rw [if_neg (by decide)]; intro kq
            exact calm_mv 7 rfl rfl (Or.inl rfl) (Fr.refl _) (by decide) fun v w hd => hd
          · rw [if_neg (by decide)]; intro kq
            exact calm_mv 1 rfl rfl (Or.inl rfl) (Fr.refl _) (by decide) fun v w hd => hd
          · rw [if_neg (by decide)]; intro kq
            exact calm_mv 9 rfl rfl (Or.inl rfl) (Fr.refl _) (by decide) fun v w hd => hd
          · rw [if_neg (by decide)]; intro kq
            intro a W K hC hd hK
            have d74 : _ = _ := hd 74 (by decide)
            have d75 : _ = _ := hd 75 (by decide)
            refine wpOp_plain rfl rfl ?_
            have c0 := (hgi5.fr hC.1 (fun h => by rw [add_block] at h; have := hdl5' _ h; omega)).c1
            try simp only [add_zero'] at c0
            go_wp2_with fail
            exact hK _ _ (Fr.refl _ _) hC rfl
          · rw [if_neg (by decide)]; intro kq
            intro a W K hC hd hK
            have d76 : _ = _ := hd 76 (by decide)
            refine wpOp_plain rfl rfl ?_
            have c0 := (hgi5.fr hC.1 (fun h => by rw [add_block] at h; have := hdl5' _ h; omega)).c1
            try simp only [add_zero'] at c0
            go_wp2_with fail
            exact hK _ _ (Fr.refl _ _) hC rfl
          · rw [if_neg (by decide)]; intro kq
            exact calm_mv 2 rfl rfl (Or.inl rfl) (Fr.refl _) (by decide) fun v w hd => hd
          · rw [if_neg (by decide)]; intro kq
            exact calm_mv 9 rfl rfl (Or.inl rfl) (Fr.refl _) (by decide) fun v w hd => hd
          · rw [if_neg (by decide)]; intro kq
            intro a W K hC hd hK
            have d78 : _ = _ := hd 78 (by decide)
            have d79 : _ = _ := hd 79 (by decide)
            refine wpOp_plain rfl rfl ?_
            go_wp2_with fail
            exact hK _ _ (Fr.refl _ _) hC rfl
          · rw [if_pos (by decide)]
            intro a W K hC hd hK
            replace hC : (fun q W => Fr (devB p w5) w5 W ∧ ArmC p w5 d (armD d ai mk1) q W) 0 W := hC
            have d73 : _ = _ := hd 73 (by decide)
            have d77 : a.tmps[77]?.getD undef = .int .i64 ai := hd 77 (by decide)
            have d80 : a.tmps[80]?.getD undef = .int .u64 mk1 := hd 80 (by decide)
            refine wpOp_plain rfl rfl ?_
            have c0 := (hgi5.fr hC.1 (fun h => by rw [add_block] at h; have := hdl5' _ h; omega)).c1
            try simp only [add_zero'] at c0
            have h0 : Fr noB w5 W := hC.2
            go_wp2_with fail
            refine (harm W h0).mono ?_
            rintro e9 w9 ⟨rfl, h9, s9⟩
            have S := (DStep.of0 hd5 h0).trans s9
            exact hK _ _ (s9.fr.mono fun j hj h => hd5.foot0 h0 j h) ⟨S.fr, h9, S⟩ rfl
        · intro vs w6 fw6 cw6 hV
          clear hV
          simp only [putL, Act.put, Nat.reduceAdd, List.setIfInBounds_toArray, List.set_cons_zero, List.set_cons_succ]
          obtain ⟨-, h6, s6⟩ := cw6
          have b6 := hsb5.fr s6.fr (hd5.not_S hsb5)
          have l6 := hbl5.fr s6.fr (hd5.not_S hbl5)
          have F6 : Fr noB w w6 := F5.trans s6.fr (fun i hi h => by have := hdl5' i h; omega)
          have hdl6 : ∀ j, devB p w6 j → w.heap.size ≤ j := fun j hj => (s6.foot j hj).elim (hdl5' j) fun h => by have := F5.size; omega
          have hw2 : (⟨q', v', n', g', h', s', b', size, sum⟩ : SuV).wf := by
            have h1 := hB.out; have h2 := HSZ.out
            exact ⟨by simp only []; omega, by simp only []; omega, by simp only []; omega, by simp only []; omega, by simp only []; omega, by simp only []; omega, by simp only []; omega, h2.1, h2.2⟩
          have hc2 : checkS ⟨q', v', n', g', h', s', b', size, sum⟩ = 0 := by
            have h1 := hB.out
            unfold checkS
            simp only []
            rw [if_neg (by omega), if_neg (by omega), if_neg (by omega)]
          obtain ⟨mk2, hmk2⟩ : ∃ z, mask / 2 ^ (k + 7) = z := ⟨_, rfl⟩
          have em2 : (mask : Int) / 2 ^ (k + 7) = (mk2 : Nat) := by rw [← hmk2]; push_cast; rfl
          have hmk2' : mk2 ≤ 18446744073709551615 := by rw [← hmk2]; exact Nat.le_trans (Nat.div_le_self _ _) hk
          have hst := safe_step (s := ⟨q', v', n', g', h', s', b', size, sum⟩) hrest hw2 hc2 (by simp only []; have := HQ'.out; omega) ai mk1 mk2
          have hwait : (armD d ai mk1).wait.length ≤ 1000000000 := by
            obtain ⟨j0, j1, j2, e, -⟩ := hrest.is
            rw [e]
            exact Nat.zero_le _
          have hsv := save_calls w6 p (armD d ai mk1) ⟨q', v', n', g', h', s', b', size, sum⟩ h6 hw2 hwait
          generalize armD d ai mk1 = D1 at *
          generalize saveD D1 ⟨q', v', n', g', h', s', b', size, sum⟩ = sv at *
          obtain ⟨D2, e2⟩ := sv
          obtain ⟨got, hrg, hgot, hge⟩ := hst
          unfold SuV.v SuV.C at hsv
          simp only [] at hsv hrg hge
          have hup : upD D2 mk2 = { cutD mk2 D2 with down := false } := rfl
          have hct := fun W g => cut_calls W p mk2 D2 g hmk2'
          have hsta := fun W g => start_calls W p (cutD mk2 D2) g
          have hlw : (upD D2 mk2).wait.length ≤ 1000000 := by
            obtain ⟨j0, j1, j2, e, -⟩ := hrg.is
            rw [e]
            exact Nat.zero_le _
          have hld := fun W g => load_calls W p (upD D2 mk2) g hlw
          rw [hrg.load] at hld
          unfold SuEPost at hld
          rw [← hup] at hsta
          generalize upD D2 mk2 = D4 at *
          generalize cutD mk2 D2 = D3 at *
          clear hmk2 hup hlw hwait hw2 hc2 hrest fw6 hsb5 hbl5 F5 hdl5' hd5 harm s6
          obtain ⟨x0, x1, x2, x3, x4, x5, x6, x7, x8, xf⟩ := BlkAt.c9 b6
          go_wp2_with fail
          refine hsv.mono ?_
          rintro ed w7 ⟨rfl, h7, s7⟩
          clear hsv x0 x1 x2 x3 x4 x5 x6 x7 x8 xf
          go_wp2_with fail
          refine (hct w7 h7).mono ?_
          rintro ed w8 ⟨rfl, h8, s8⟩
          go_wp2_with fail
          refine (hsta w8 h8).mono ?_
          rintro ed w9 ⟨rfl, h9, s9⟩
          go_wp2_with fail
          refine (hld w9 h9).mono ?_
          rintro ed w10 ⟨rfl, f10⟩
          clear hct hsta hld em1 em2
          have S := (s7.trans s8).trans s9
          have b10 := (b6.fr S.fr (h6.not_S b6)).fr f10 id
          have l10 := (l6.fr S.fr (h6.not_S l6)).fr f10 id
          have h10 := h9.fr0 f10
          have F10 : Fr noB w w10 := (F6.trans S.fr (fun i hi h => by have := hdl6 i h; omega)).then' f10
          have hdl10 : ∀ j, devB p w10 j → w.heap.size ≤ j := fun j hj => (S.foot j (h9.foot0 f10 j hj)).elim (hdl6 j) fun h => by have := F6.size; omega
          clear h6 h7 h8 h9 s7 s8 s9 S b6 l6 F6 hdl6 f10
          have hHM := Try.gSu
          have f11 := (Fr.refl noB w10).alloc (.cells got.C.toArray 61)
          have b11 := b10.fr f11 id
          have l11 := l10.fr f11 id
          have g11 := BlkAt.new w10 got.C.toArray 61
          have h11 := h10.fr0 f11
          have F11 := F10.then' f11
          have hdl11 : ∀ j, devB p _ j → w.heap.size ≤ j := fun j hj => hdl10 j (h10.foot0 f11 j hj)
          obtain ⟨gb, hgb⟩ : ∃ x, w10.heap.size = x := ⟨_, rfl⟩
          rw [hgb] at g11
          clear b10 l10 h10 F10 hdl10 f11
          have hgs : ∀ (e f : SuV) (b : Bool), (!@decide (e = f) (Classical.propDecidable _)) = b → Hid (∀ W, (binOp .neq 61 e.v f.v).run Try.prog W = .ok (.bool b) W) := fun e f b h => by
            unfold Hid; intro W; rw [suNeq]; rw [h]
          by_cases hsame : got = ⟨q', v', n', g', h', s', b', size, sum⟩
          · have hn1 := hgs got ⟨q', v', n', g', h', s', b', size, sum⟩ false (by simp [hsame])
            subst hsame
            unfold SuV.v SuV.C at hn1
            simp only [] at hn1
            have hnn := hn1.out
            clear hn1 hgs hgot hge
            unfold SuV.C at b11 l11 g11 h11 F11 hdl11
            simp only [] at b11 l11 g11 h11 F11 hdl11
            unfold SuV.v SuV.C
            simp only []
            go_upto_region 19 with fail
            generalize (w10.alloc (.cells #[.int .u64 q', .int .u64 v', .int .u64 n', .int .u64 g', .int .u8 h', .int .u8 s', .int .u64 b', .int .u32 size, .int .u32 sum] 61)) = w11 at *
            obtain ⟨x0, x1, x2, x3, x4, x5, x6, x7, x8, xf⟩ := BlkAt.c9 b11
            obtain ⟨y0, y1, y2, y3, y4, y5, y6, y7, y8, yf⟩ := BlkAt.c9 l11
            obtain ⟨z0, z1, z2, z3, z4, z5, z6, z7, z8, zf⟩ := BlkAt.c9 g11
            have fs := fr_setU9 w11 lb (.int .u64 q') (.int .u64 v') (.int .u64 n') (.int .u64 g') (.int .u8 h') (.int .u8 s') (.int .u64 b') (.int .u32 size) (.int .u32 sum)
            obtain ⟨h12, hdl12⟩ := h11.frS l11 fs
            have l12 := l11.setU9 (.int .u64 q') (.int .u64 v') (.int .u64 n') (.int .u64 g') (.int .u8 h') (.int .u8 s') (.int .u64 b') (.int .u32 size) (.int .u32 sum)
            have F12 := F11.trans fs (fun i hi h => by unfold eqB at h; omega)
            have HI : SafeI w p lb (k + 1) _ := ⟨D4, _, h12, hrg, by simp only []; have := HQ'.out; omega, l12, F12, fun j hj => hdl11 j (hdl12 j hj)⟩
            obtain ⟨ev2, he2⟩ : ∃ v, ((e2 : Int) == 0) = v := ⟨_, rfl⟩
            clear fs h11 hdl11 F11 l11 b11 g11 h12 hdl12 l12 F12
            cases ev2
            all_goals
              go_wp2_with fail
              go_roundw
              case rel => exact ⟨k + 1, by omega, by go_num, HI⟩
              case measure => simp [intOf]; omega
          · have hgl : got = ⟨l1, l2, l3, l4, l5, l6, l7, l8, l9⟩ := hgot.resolve_left hsame
            have he0 : ((e2 : Int) == 0) = false := by rw [beq_eq_false_iff_ne]; intro h; exact hsame (hge (by omega))
            have hn1 := hgs got ⟨q', v', n', g', h', s', b', size, sum⟩ true (by simp [hsame])
            have hn2 := hgs got ⟨l1, l2, l3, l4, l5, l6, l7, l8, l9⟩ false (by simp [hgl])
            subst hgl
            unfold SuV.v SuV.C at hn1 hn2
            simp only [] at hn1 hn2
            have hnn := hn1.out
            have hnm := hn2.out
            clear hn1 hn2 hgs hgot hge hsame
            unfold SuV.C at b11 l11 g11 h11 F11 hdl11
            simp only [] at b11 l11 g11 h11 F11 hdl11
            unfold SuV.v SuV.C
            simp only []
            go_upto_region 19 with fail
            generalize (w10.alloc (.cells #[.int .u64 l1, .int .u64 l2, .int .u64 l3, .int .u64 l4, .int .u8 l5, .int .u8 l6, .int .u64 l7, .int .u32 l8, .int .u32 l9] 61)) = w11 at *
            obtain ⟨x0, x1, x2, x3, x4, x5, x6, x7, x8, xf⟩ := BlkAt.c9 b11
            obtain ⟨y0, y1, y2, y3, y4, y5, y6, y7, y8, yf⟩ := BlkAt.c9 l11
            obtain ⟨z0, z1, z2, z3, z4, z5, z6, z7, z8, zf⟩ := BlkAt.c9 g11
            have fs := fr_setU9 w11 lb (.int .u64 l1) (.int .u64 l2) (.int .u64 l3) (.int .u64 l4) (.int .u8 l5) (.int .u8 l6) (.int .u64 l7) (.int .u32 l8) (.int .u32 l9)
            obtain ⟨h12, hdl12⟩ := h11.frS l11 fs
            have l12 := l11.setU9 (.int .u64 l1) (.int .u64 l2) (.int .u64 l3) (.int .u64 l4) (.int .u8 l5) (.int .u8 l6) (.int .u64 l7) (.int .u32 l8) (.int .u32 l9)
            have F12 := F11.trans fs (fun i hi h => by unfold eqB at h; omega)
            have HI : SafeI w p lb (k + 1) _ := ⟨D4, _, h12, hrg, by simp only []; omega, l12, F12, fun j hj => hdl11 j (hdl12 j hj)⟩
            clear fs h11 hdl11 F11 l11 b11 g11 h12 hdl12 l12 F12
            go_wp2_with fail
            go_roundw
            case rel => exact ⟨k + 1, by omega, by go_num, HI⟩
            case measure => simp [intOf]; omega
      · have : k = n := by omega
        subst this
        go_wp2_with fail
        go_ret
        exact ⟨rfl, hf⟩
end Go.Proofs.Ytnkdlmmdaagonaa
