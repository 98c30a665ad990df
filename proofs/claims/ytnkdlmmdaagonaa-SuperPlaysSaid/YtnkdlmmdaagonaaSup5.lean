/- Contracts, several texts in one. -/
import Derived.Test.YtnkdlmmdaagonaaSup2b
import Derived.Test.YtnkdlmmdaagonaaSup3
import Derived.Test.YtnkdlmmdaagonaaDev12
/- super.Save. -/
namespace Go.Proofs.Ytnkdlmmdaagonaa
open Go.RowKit
/-- A save: the device behind it, and the error's number. -/
def saveD (d : DevV) (s : SuV) : DevV × Nat :=
  if checkS s ≠ 0 then (d, checkS s) else if (writeD d (s.seq % 2 : Nat) (superB s)).2 ≠ 0 then writeD d (s.seq % 2 : Nat) (superB s) else flushD (writeD d (s.seq % 2 : Nat) (superB s)).1
theorem DevAt.not_u {w : World} {p : Nat} {d : DevV} (h : DevAt w p d) {a : Nat} {C : Array Value} (hb : BlkAt w a 5 C) : ¬ devB p w a := by
  obtain ⟨KA, kn, kc, WA, wn, wc, ks, ws, h⟩ := h
  exact h.not_b hb
set_option maxRecDepth 100000 in
set_option maxHeartbeats 3200000 in
theorem save_calls (w : World) (p : Nat) (d : DevV) (s : SuV) (h : DevAt w p d) (hw : s.wf) (hwl : d.wait.length ≤ 1000000000) :
    Calls Try.prog 38 #[.pointer (some ⟨p, 0, none⟩), s.v] w (DPost w p (saveD d s).1 (.int .i64 ((saveD d s).2 : Nat))) := by
  have f0 : Fr noB w (w.alloc (.cells s.C.toArray 61)) := (Fr.refl noB w).alloc _
  have hb0 : BlkAt (w.alloc (.cells s.C.toArray 61)) w.heap.size 61 s.C.toArray := BlkAt.new _ _ _
  by_cases hc : checkS s = 0
  · have HS : Hid (saveD d s = if (writeD d (s.seq % 2 : Nat) (superB s)).2 ≠ 0 then writeD d (s.seq % 2 : Nat) (superB s) else flushD (writeD d (s.seq % 2 : Nat) (superB s)).1) := by
      unfold Hid saveD; rw [if_neg (by omega)]
    have hby := suBytesOk_calls (w.alloc (.cells s.C.toArray 61)) s hw hc
    have hl := superB_length s
    have hwr := fun W A c (g : DevAt W p d) hx hB hbB hnc => write_calls W p d (s.seq % 2 : Nat) A 54 c (superB s) g hx hl hB hbB hwl hnc
    generalize writeD d (s.seq % 2 : Nat) (superB s) = wd at *
    generalize saveD d s = sd at *
    unfold BytesSPost at hby
    rw [hl] at hby
    generalize superB s = sb at *
    obtain ⟨wd1, we⟩ := wd
    simp only [] at hwr HS
    obtain ⟨seq, view, normal, gen, half, slot, base, size, sum⟩ := s
    unfold SuV.C at f0 hb0 hby
    unfold SuV.v SuV.C at *
    simp only [] at *
    obtain ⟨sq, hsq⟩ : ∃ z, seq % 2 = z := ⟨_, rfl⟩
    have hsq2 : sq < 2 := by omega
    clear hc hw hl
    go_enter Try.func38, Try.ntmps38
    go_upto_region 1 with fail
    generalize (w.alloc _) = wa at *
    obtain ⟨x0, x1, x2, x3, x4, x5, x6, x7, x8, xf⟩ := BlkAt.c9 hb0
    go_wp2_with fail
    refine hby.mono ?_
    rintro ed w1 ⟨A, c, rfl, hA, f1⟩
    have F1 := f0.then' f1
    have h1 := h.fr0 F1
    have hrow := own_row hA
    have hnil := own_nilU hA
    have hcap := own_capB hA
    have hty : ∀ a, A = some a → ¬ devB p w1 a.block := fun a e => by
      obtain ⟨C, hC⟩ := own_typ hA (k := a.block) (by subst e; rfl)
      exact h1.not_u hC
    have S1 := DStep.of0 h F1
    replace hb0 := hb0.fr f1 id
    clear hby hA x0 x1 x2 x3 x4 x5 x6 x7 x8 xf f0 f1 h
    obtain ⟨x0, x1, x2, x3, x4, x5, x6, x7, x8, xf⟩ := BlkAt.c9 hb0
    have hwr' := hwr w1 A c h1 hrow hnil (fun a e _ => hty a e) hcap.1
    have hfl := fun W g => flush_calls W p wd1 g
    generalize flushD wd1 = fd at *
    obtain ⟨fd1, fe⟩ := fd
    have hr2 : ((seq : Int) % 2) = (sq : Nat) := by omega
    rw [hsq] at hwr'
    clear hwr hty hrow hnil hsq
    by_cases h0 : we = 0
    · subst h0
      have HS2 : Hid (sd = (fd1, fe)) := by unfold Hid; rw [HS.out]; rfl
      clear HS
      go_wp2_with fail
      refine hwr'.mono ?_
      rintro ed w2 ⟨rfl, h2, s2⟩
      have S2 := S1.trans s2
      clear hwr' S1 s2 x0 x1 x2 x3 x4 x5 x6 x7 x8 xf
      go_wp2_with fail
      refine (hfl w2 h2).mono ?_
      rintro ed w3 ⟨rfl, h3, s3⟩
      go_wp2_with fail
      go_ret
      rw [HS2.out]
      exact ⟨rfl, h3, S2.trans s3⟩
    · have HS2 : Hid (sd = (wd1, we)) := by unfold Hid; rw [HS.out, if_pos h0]
      have t1 : ((we : Int) != 0) = true := by rw [bne_iff_ne]; omega
      clear HS h0
      go_wp2_with fail
      refine hwr'.mono ?_
      rintro ed w2 ⟨rfl, h2, s2⟩
      have S2 := S1.trans s2
      clear hwr' S1 s2 x0 x1 x2 x3 x4 x5 x6 x7 x8 xf
      go_wp2_with fail
      go_ret
      rw [HS2.out]
      exact ⟨rfl, h2, S2⟩
  · have HS : Hid (saveD d s = (d, checkS s)) := by unfold Hid saveD; rw [if_pos hc]
    rw [HS.out]
    have hby := suBytesNo_calls (w.alloc (.cells s.C.toArray 61)) s hc
    have t1 : ((checkS s : Int) != 0) = true := by rw [bne_iff_ne]; omega
    clear HS
    generalize checkS s = cv at *
    obtain ⟨seq, view, normal, gen, half, slot, base, size, sum⟩ := s
    unfold SuV.C at f0 hb0 hby
    unfold SuV.v SuV.C at *
    simp only [] at *
    clear hc hw
    go_enter Try.func38, Try.ntmps38
    go_upto_region 1 with fail
    generalize (w.alloc _) = wa at *
    obtain ⟨x0, x1, x2, x3, x4, x5, x6, x7, x8, xf⟩ := BlkAt.c9 hb0
    go_wp2_with fail
    refine hby.mono ?_
    rintro ed w1 ⟨rfl, f1⟩
    have F1 := f0.then' f1
    clear hby x0 x1 x2 x3 x4 x5 x6 x7 x8 xf
    go_wp2_with fail
    go_ret
    exact ⟨rfl, h.fr0 F1, DStep.of0 h F1⟩
end Go.Proofs.Ytnkdlmmdaagonaa
/- super.Load. -/
namespace Go.Proofs.Ytnkdlmmdaagonaa
open Go.RowKit
/-- What is best behind a block. -/
def pickS (bs : List UInt8) (i : Nat) (q : SuV × Bool) : SuV × Bool :=
  if (suRead bs).2 ≠ 0 ∨ (suRead bs).1.seq % 2 ≠ i then q else if q.2 = false ∨ q.1.seq < (suRead bs).1.seq then ((suRead bs).1, true) else q
def bestS (d : DevV) : Nat → SuV × Bool
  | 0 => (zeroS, false)
  | k + 1 => pickS (blockD d k) k (bestS d k)
/-- What is loaded, and the error's number. -/
def loadD (d : DevV) : SuV × Nat :=
  if thereE d 0 ≠ 0 then (zeroS, thereE d 0) else if thereE d 1 ≠ 0 then (zeroS, thereE d 1) else if (bestS d 2).2 then ((bestS d 2).1, 0) else (zeroS, 8)
theorem BlkAt.setU9 {w : World} {b : Nat} {T : TypeId} {v0 v1 v2 v3 v4 v5 v6 v7 v8 : Value} (h : BlkAt w b T #[v0, v1, v2, v3, v4, v5, v6, v7, v8]) (u0 u1 u2 u3 u4 u5 u6 u7 u8 : Value) : BlkAt (((((((((w.setCell ⟨b, 0, none⟩ u0).setCell ⟨b, 1, none⟩ u1).setCell ⟨b, 2, none⟩ u2).setCell ⟨b, 3, none⟩ u3).setCell ⟨b, 4, none⟩ u4).setCell ⟨b, 5, none⟩ u5).setCell ⟨b, 6, none⟩ u6).setCell ⟨b, 7, none⟩ u7).setCell ⟨b, 8, none⟩ u8) b T #[u0, u1, u2, u3, u4, u5, u6, u7, u8] := by
  have := (((((((((h.set 0 u0).set 1 u1).set 2 u2).set 3 u3).set 4 u4).set 5 u5).set 6 u6).set 7 u7).set 8 u8)
  simpa using this
set_option maxRecDepth 100000 in
set_option maxHeartbeats 6400000 in
theorem load_calls (w : World) (p : Nat) (d : DevV) (h : DevAt w p d) (hwl : d.wait.length ≤ 1000000) :
    Calls Try.prog 39 #[.pointer (some ⟨p, 0, none⟩)] w (SuEPost w (loadD d)) := by
  have HRES : Hid (Try.f39.results = #[.cell 2 61, .tmp 3]) := by unfold Hid; kernel_rfl
  have f0 : Fr noB w ((w.alloc (.cells #[.int .u64 0, .int .u64 0, .int .u64 0, .int .u64 0, .int .u8 0, .int .u8 0, .int .u64 0, .int .u32 0, .int .u32 0] 61)).alloc (.cells #[.int .u64 0, .int .u64 0, .int .u64 0, .int .u64 0, .int .u8 0, .int .u8 0, .int .u64 0, .int .u32 0, .int .u32 0] 61)) := ((Fr.refl noB w).alloc _).alloc _
  have hb0 := (BlkAt.new w #[.int .u64 0, .int .u64 0, .int .u64 0, .int .u64 0, .int .u8 0, .int .u8 0, .int .u64 0, .int .u32 0, .int .u32 0] 61).al (.cells #[.int .u64 0, .int .u64 0, .int .u64 0, .int .u64 0, .int .u8 0, .int .u8 0, .int .u64 0, .int .u32 0, .int .u32 0] 61)
  have hb1 := BlkAt.new (w.alloc (.cells #[.int .u64 0, .int .u64 0, .int .u64 0, .int .u64 0, .int .u8 0, .int .u8 0, .int .u64 0, .int .u32 0, .int .u32 0] 61)) #[.int .u64 0, .int .u64 0, .int .u64 0, .int .u64 0, .int .u8 0, .int .u8 0, .int .u64 0, .int .u32 0, .int .u32 0] 61
  simp only [al_size] at hb1
  go_enter Try.func39, Try.ntmps39
  go_upto_region 3 with fail
  generalize (w.alloc (.cells #[.int .u64 0, .int .u64 0, .int .u64 0, .int .u64 0, .int .u8 0, .int .u8 0, .int .u64 0, .int .u32 0, .int .u32 0] 61)).alloc (.cells #[.int .u64 0, .int .u64 0, .int .u64 0, .int .u64 0, .int .u8 0, .int .u8 0, .int .u64 0, .int .u32 0, .int .u32 0] 61) = wa at *
  go_wp2_with fail
  go_loopw [5, 10] (fun fnd i wr => ∃ k : Nat, k ≤ 2 ∧ i = .int .i64 k ∧ fnd = .bool (bestS d k).2 ∧ Fr noB w wr ∧ BlkAt wr w.heap.size 61 #[.int .u64 0, .int .u64 0, .int .u64 0, .int .u64 0, .int .u8 0, .int .u8 0, .int .u64 0, .int .u32 0, .int .u32 0] ∧ BlkAt wr (w.heap.size + 1) 61 (bestS d k).1.C.toArray ∧ ∀ j : Nat, j < k → thereE d j = 0) (fun _ i _ => 2 - (intOf i).toNat)
  case atStart => exact ⟨0, Nat.zero_le _, rfl, rfl, f0, hb0, hb1, fun j hj => by omega⟩
  case round =>
    obtain ⟨k, hk, rfl, rfl, hf, hz, hbe, hall⟩ := hrel
    clear f0 hb0 hb1
    by_cases hk2 : k < 2
    · by_cases ht : thereE d (k : Int) = 0
      · have hrd := read_ok wr p d k (h.fr0 hf) ht hwl
        have HB : Hid (bestS d (k + 1) = pickS (blockD d k) k (bestS d k)) := rfl
        have hall' : ∀ j : Nat, j < k + 1 → thereE d j = 0 := fun j hj => by
          by_cases hjk : j < k
          · exact hall j hjk
          · rw [show j = k by omega]; exact ht
        unfold pickS at HB
        generalize hbn : bestS d (k + 1) = bn at *
        have HBN := hid hbn; clear hbn
        generalize bestS d k = bq at *
        generalize blockD d k = bs at *
        have hsr := fun W A c hx hl h1 h2 => suRead_calls W A 128 c bs hx hl h1 h2
        generalize suRead bs = sr at *
        obtain ⟨⟨seq, view, normal, gen, half, slot, base, size, sum⟩, se⟩ := sr
        obtain ⟨⟨b1, b2, b3, b4, b5, b6, b7, b8, b9⟩, fb⟩ := bq
        unfold SuEPost SuV.v SuV.C at hsr
        unfold SuV.C at hbe
        simp only [] at hsr HB hbe
        clear hall ht
        go_wp2_with fail
        refine hrd.mono ?_
        rintro ed w1 ⟨A, c, rfl, hx, hl, -, hc1, hc2, f1⟩
        have F1 := hf.then' f1
        replace hz := hz.fr f1 id
        replace hbe := hbe.fr f1 id
        clear hrd hf f1
        go_wp2_with fail
        refine (hsr w1 A c hx hl hc1 hc2).mono ?_
        rintro ed w2 ⟨rfl, f2⟩
        have F2 := F1.then' f2
        replace hz := hz.fr f2 id
        replace hbe := hbe.fr f2 id
        clear hsr hx hl hc1 hc2 F1 f2
        have hbs := BlkAt.new w2 #[.int .u64 seq, .int .u64 view, .int .u64 normal, .int .u64 gen, .int .u8 half, .int .u8 slot, .int .u64 base, .int .u32 size, .int .u32 sum] 61
        have hlt := hbe.lt
        have f3 := (Fr.refl noB w2).alloc (.cells #[.int .u64 seq, .int .u64 view, .int .u64 normal, .int .u64 gen, .int .u8 half, .int .u8 slot, .int .u64 base, .int .u32 size, .int .u32 sum] 61)
        have F3 := F2.then' f3
        replace hz := hz.fr f3 id
        replace hbe := hbe.fr f3 id
        obtain ⟨m2, hm2⟩ : ∃ m, w2.heap.size = m := ⟨_, rfl⟩
        have hq2 : w.heap.size + 1 < m2 := by omega
        rw [hm2] at hbs
        go_upto_region 10 with fail
        generalize (w2.alloc (.cells #[.int .u64 seq, .int .u64 view, .int .u64 normal, .int .u64 gen, .int .u8 half, .int .u8 slot, .int .u64 base, .int .u32 size, .int .u32 sum] 61)) = w3 at *
        obtain ⟨x0, x1, x2, x3, x4, x5, x6, x7, x8, xf⟩ := BlkAt.c9 hbs
        obtain ⟨y0, y1, y2, y3, y4, y5, y6, y7, y8, yf⟩ := BlkAt.c9 hbe
        obtain ⟨v1, h1⟩ : ∃ v, ((se : Int) != 0) = v := ⟨_, rfl⟩
        obtain ⟨v2, h2⟩ : ∃ v, ((seq : Int) % 2 != (k : Int)) = v := ⟨_, rfl⟩
        obtain ⟨v3, h3⟩ : ∃ v, decide (b1 < seq) = v := ⟨_, rfl⟩
        cases v1
        · have g1 : ¬ se ≠ 0 := by simpa using h1
          cases v2
          · have g2 : ¬ seq % 2 ≠ k := by
              have : ((seq : Int) % 2) = k := by simpa using h2
              omega
            cases fb
            · have E : Hid (bn = (⟨seq, view, normal, gen, half, slot, base, size, sum⟩, true)) := by
                unfold Hid
                rw [HB.out, if_neg (by rintro (g | g) <;> first | exact g1 g | exact g2 g), if_pos (by first | exact .inl rfl | exact .inr (of_decide_eq_true h3))]
              have FF := F3.trans (fr_setU9 w3 (w.heap.size + 1) (.int .u64 seq) (.int .u64 view) (.int .u64 normal) (.int .u64 gen) (.int .u8 half) (.int .u8 slot) (.int .u64 base) (.int .u32 size) (.int .u32 sum)) (fun i hi h => by unfold eqB at h; omega)
              replace hz := hz.fr (fr_setU9 w3 (w.heap.size + 1) (.int .u64 seq) (.int .u64 view) (.int .u64 normal) (.int .u64 gen) (.int .u8 half) (.int .u8 slot) (.int .u64 base) (.int .u32 size) (.int .u32 sum)) (fun h => by unfold eqB at h; omega)
              replace hbe := hbe.setU9 (.int .u64 seq) (.int .u64 view) (.int .u64 normal) (.int .u64 gen) (.int .u8 half) (.int .u8 slot) (.int .u64 base) (.int .u32 size) (.int .u32 sum)
              go_wp2_with fail
              go_roundw
              case rel => exact ⟨k + 1, by omega, by go_num, by rw [HBN.out, E.out], FF, hz, by rw [HBN.out, E.out]; exact hbe, hall'⟩
              case measure => simp [intOf]; omega
            · cases v3
              · have E : Hid (bn = (⟨b1, b2, b3, b4, b5, b6, b7, b8, b9⟩, true)) := by
                  unfold Hid
                  rw [HB.out, if_neg (by rintro (g | g) <;> first | exact g1 g | exact g2 g), if_neg (by rintro (g | g) <;> first | (have := of_decide_eq_false h3; omega) | cases g)]
                go_wp2_with fail
                go_roundw
                case rel => exact ⟨k + 1, by omega, by go_num, by rw [HBN.out, E.out], F3, hz, by rw [HBN.out, E.out]; exact hbe, hall'⟩
                case measure => simp [intOf]; omega
              · have E : Hid (bn = (⟨seq, view, normal, gen, half, slot, base, size, sum⟩, true)) := by
                  unfold Hid
                  rw [HB.out, if_neg (by rintro (g | g) <;> first | exact g1 g | exact g2 g), if_pos (by first | exact .inl rfl | exact .inr (of_decide_eq_true h3))]
                have FF := F3.trans (fr_setU9 w3 (w.heap.size + 1) (.int .u64 seq) (.int .u64 view) (.int .u64 normal) (.int .u64 gen) (.int .u8 half) (.int .u8 slot) (.int .u64 base) (.int .u32 size) (.int .u32 sum)) (fun i hi h => by unfold eqB at h; omega)
                replace hz := hz.fr (fr_setU9 w3 (w.heap.size + 1) (.int .u64 seq) (.int .u64 view) (.int .u64 normal) (.int .u64 gen) (.int .u8 half) (.int .u8 slot) (.int .u64 base) (.int .u32 size) (.int .u32 sum)) (fun h => by unfold eqB at h; omega)
                replace hbe := hbe.setU9 (.int .u64 seq) (.int .u64 view) (.int .u64 normal) (.int .u64 gen) (.int .u8 half) (.int .u8 slot) (.int .u64 base) (.int .u32 size) (.int .u32 sum)
                go_wp2_with fail
                go_roundw
                case rel => exact ⟨k + 1, by omega, by go_num, by rw [HBN.out, E.out], FF, hz, by rw [HBN.out, E.out]; exact hbe, hall'⟩
                case measure => simp [intOf]; omega
          · have g2 : seq % 2 ≠ k := by
              have : ((seq : Int) % 2) ≠ k := by simpa using h2
              omega
            have E : Hid (bn = (⟨b1, b2, b3, b4, b5, b6, b7, b8, b9⟩, fb)) := by
              unfold Hid
              rw [HB.out, if_pos (Or.inr g2)]
            go_wp2_with fail
            go_roundw
            case rel => exact ⟨k + 1, by omega, by go_num, by rw [HBN.out, E.out], F3, hz, by rw [HBN.out, E.out]; exact hbe, hall'⟩
            case measure => simp [intOf]; omega
        · have g1 : se ≠ 0 := by simpa using h1
          have E : Hid (bn = (⟨b1, b2, b3, b4, b5, b6, b7, b8, b9⟩, fb)) := by
            unfold Hid
            rw [HB.out, if_pos (Or.inl g1)]
          go_wp2_with fail
          go_roundw
          case rel => exact ⟨k + 1, by omega, by go_num, by rw [HBN.out, E.out], F3, hz, by rw [HBN.out, E.out]; exact hbe, hall'⟩
          case measure => simp [intOf]; omega
      · have hrd := read_no wr p d k (h.fr0 hf) (by omega) ht
        have E : Hid (loadD d = (zeroS, thereE d k)) := by
          unfold Hid loadD
          by_cases hk0 : k = 0
          · subst hk0; rw [if_pos (show thereE d 0 ≠ 0 from ht)]; rfl
          · have hk1 : k = 1 := by omega
            subst hk1
            rw [if_neg (by have := hall 0 (by omega); simpa using this), if_pos (show thereE d 1 ≠ 0 from ht)]; rfl
        have t1 : ((thereE d (k : Int) : Int) != 0) = true := by rw [bne_iff_ne]; omega
        generalize thereE d (k : Int) = te at *
        clear hall ht hbe
        go_wp2_with fail
        refine hrd.mono ?_
        rintro ed w1 ⟨rfl, f1⟩
        have F1 := hf.then' f1
        replace hz := hz.fr f1 id
        obtain ⟨y0, y1, y2, y3, y4, y5, y6, y7, y8, yf⟩ := BlkAt.c9 hz
        have FF := F1.trans (fr_setU9 w1 w.heap.size (.int .u64 0) (.int .u64 0) (.int .u64 0) (.int .u64 0) (.int .u8 0) (.int .u8 0) (.int .u64 0) (.int .u32 0) (.int .u32 0)) (fun i hi h => by unfold eqB at h; omega)
        go_wp2_with fail
        have hr := HRES.out
        exact bodyPost_ret (v := .tuple #[zeroS.v, .int .i64 te]) (by simp [results, hr, go_sem, zeroS, SuV.v, SuV.C, y0, y1, y2, y3, y4, y5, y6, y7, y8]) rfl ⟨by rw [E.out] <;> rfl, FF⟩
    · have hk2' : k = 2 := by omega
      subst hk2'
      have h0 := hall 0 (by omega)
      have h1 := hall 1 (by omega)
      have HL : Hid (loadD d = if (bestS d 2).2 then ((bestS d 2).1, 0) else (zeroS, 8)) := by
        unfold Hid loadD; rw [if_neg (by simpa using h0), if_neg (by simpa using h1)]
      generalize bestS d 2 = bq at *
      obtain ⟨⟨b1, b2, b3, b4, b5, b6, b7, b8, b9⟩, fb⟩ := bq
      unfold SuV.C at hbe
      simp only [] at hbe HL
      clear h0 h1 hall
      obtain ⟨x0, x1, x2, x3, x4, x5, x6, x7, x8, xf⟩ := BlkAt.c9 hbe
      obtain ⟨y0, y1, y2, y3, y4, y5, y6, y7, y8, yf⟩ := BlkAt.c9 hz
      cases fb
      · have E : Hid (loadD d = (zeroS, 8)) := HL.out
        have FF := hf.trans (fr_setU9 wr w.heap.size (.int .u64 0) (.int .u64 0) (.int .u64 0) (.int .u64 0) (.int .u8 0) (.int .u8 0) (.int .u64 0) (.int .u32 0) (.int .u32 0)) (fun i hi h => by unfold eqB at h; omega)
        clear HL
        go_wp2_with fail
        have hr := HRES.out
        exact bodyPost_ret (v := .tuple #[zeroS.v, .int .i64 8]) (by simp [results, hr, go_sem, zeroS, SuV.v, SuV.C, y0, y1, y2, y3, y4, y5, y6, y7, y8]) rfl ⟨by rw [E.out] <;> rfl, FF⟩
      · have E : Hid (loadD d = (⟨b1, b2, b3, b4, b5, b6, b7, b8, b9⟩, 0)) := HL.out
        have FF := hf.trans (fr_setU9 wr w.heap.size (.int .u64 b1) (.int .u64 b2) (.int .u64 b3) (.int .u64 b4) (.int .u8 b5) (.int .u8 b6) (.int .u64 b7) (.int .u32 b8) (.int .u32 b9)) (fun i hi h => by unfold eqB at h; omega)
        clear HL
        go_wp2_with fail
        have hr := HRES.out
        exact bodyPost_ret (v := .tuple #[(⟨b1, b2, b3, b4, b5, b6, b7, b8, b9⟩ : SuV).v, .int .i64 0]) (by simp [results, hr, go_sem, SuV.v, SuV.C, y0, y1, y2, y3, y4, y5, y6, y7, y8]) rfl ⟨by rw [E.out] <;> rfl, FF⟩
end Go.Proofs.Ytnkdlmmdaagonaa
