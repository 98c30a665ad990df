/- The reference's Get of a block, and its Load of a super block. -/
import Derived.Test.YtnkdlmmdaagonaaSame21
import Derived.Test.YtnkdlmmdaagonaaSupR2
import Derived.Test.YtnkdlmmdaagonaaSup5
namespace Go.Proofs.Ytnkdlmmdaagonaa
open Go.RowKit
def thereR (r : RefD) (i : Nat) : Nat := if r.down then 15 else if r.n ≤ i then 1 else 0
theorem SameD.there {d : DevV} {r : RefD} (h : SameD d r) (i : Nat) : thereE d i = thereR r i := by
  unfold thereE thereR
  rw [h.down, h.len]
  have e : ((i : Int) < 0 ∨ (r.n : Int) ≤ i) ↔ r.n ≤ i := by omega
  simp only [e]
theorem blockR_len {r : RefD} (hb : ∀ x ∈ r.l, x.b.size ≤ 128) (k : Nat) : (blockR r k).length = 128 := by
  unfold blockR
  suffices h : ∀ (l : List RWr) (o : List UInt8), (∀ x ∈ l, x.b.size ≤ 128) → o.length = 128 → (l.foldl (blkF k) o).length = 128 from h r.l _ hb List.length_replicate
  intro l
  induction l with
  | nil => intro o _ h; exact h
  | cons x l ih =>
    intro o hl h
    rw [List.foldl_cons]
    refine ih _ (fun y hy => hl y (List.mem_cons_of_mem _ hy)) ?_
    unfold blkF
    split
    · exact pad_len (by have := hl x (List.mem_cons_self ..); simpa using this)
    · exact h
theorem getDR_calls (w : World) (v : Value) (r : RefD) (k : Nat) (h : RefAt w v r) (hb : ∀ x ∈ r.l, x.b.size ≤ 128) (hl : r.l.length ≤ 1000000) :
    Calls Try.prog 56 #[v, .int .i64 k] w (fun e w' => e = .returned (.tuple #[.string (if thereR r k = 0 then mkS (blockR r k) else ⟨#[]⟩), .int .i64 (thereR r k : Nat)]) ∧ Fr noB w w') := by
  have hbl := fun W f => blockR_calls W v r k (h.fr (w' := W) f) hb hl
  obtain ⟨A, n, c, rfl, hR⟩ := id h
  clear h
  have HT : Hid (thereR r k = if r.down then 15 else if r.n ≤ k then 1 else 0) := rfl
  generalize thereR r k = te at *
  generalize blockR r k = bb at *
  obtain ⟨N, l, dn, fu, mk⟩ := r
  unfold refC at *
  simp only [] at HT hbl ⊢
  have f0 := (Fr.refl noB w).alloc (.cells #[.int .i64 N, .slice A n c, .bool dn, .int .i64 fu, .int .u64 mk] 43)
  have b0 := BlkAt.new w #[.int .i64 N, .slice A n c, .bool dn, .int .i64 fu, .int .u64 mk] 43
  obtain ⟨v2, h2⟩ : ∃ v, decide (N ≤ k) = v := ⟨_, rfl⟩
  clear hR
  cases dn
  · cases v2
    · have hte : te = 0 := by rw [HT.out]; simp; have := of_decide_eq_false h2; omega
      subst hte
      rw [if_pos rfl]
      go_enter Try.func56, Try.ntmps56
      go_upto_region 1 with fail
      generalize (w.alloc (.cells #[.int .i64 N, .slice A n c, .bool false, .int .i64 fu, .int .u64 mk] 43)) = wa at *
      obtain ⟨x0, x1, x2, x3, x4, xf⟩ := BlkAt.c5 b0
      go_wp2_with fail
      refine (hbl wa f0).mono ?_
      rintro ed w1 ⟨rfl, f1⟩
      go_wp2_with fail
      go_ret2
      exact ⟨rfl, f0.then' f1⟩
    · have hte : te = 1 := by rw [HT.out]; simp; exact of_decide_eq_true h2
      subst hte
      rw [if_neg (by decide)]
      go_enter Try.func56, Try.ntmps56
      go_upto_region 1 with fail
      generalize (w.alloc (.cells #[.int .i64 N, .slice A n c, .bool false, .int .i64 fu, .int .u64 mk] 43)) = wa at *
      obtain ⟨x0, x1, x2, x3, x4, xf⟩ := BlkAt.c5 b0
      go_wp2_with fail
      go_ret2
      exact ⟨rfl, f0⟩
  · have hte : te = 15 := HT.out
    subst hte
    rw [if_neg (by decide)]
    go_enter Try.func56, Try.ntmps56
    go_upto_region 1 with fail
    generalize (w.alloc (.cells #[.int .i64 N, .slice A n c, .bool true, .int .i64 fu, .int .u64 mk] 43)) = wa at *
    obtain ⟨x0, x1, x2, x3, x4, xf⟩ := BlkAt.c5 b0
    go_wp2_with fail
    go_ret2
    exact ⟨rfl, f0⟩
set_option maxRecDepth 100000 in
set_option maxHeartbeats 6400000 in
theorem loadR_calls (w : World) (v : Value) (r : RefD) (d : DevV) (h : RefAt w v r) (hsm : SameD d r) (hl : r.l.length ≤ 1000000) :
    Calls Try.prog 40 #[v] w (SuEPost w (loadD d)) := by
  have HRES : Hid (Try.f40.results = #[.cell 2 64, .tmp 3]) := by unfold Hid; kernel_rfl
  have hgt := fun W f k => getDR_calls W v r k (h.fr (w' := W) f) (by obtain ⟨_, _, _, K, U, _, _, _, hb, _⟩ := hsm; exact fun x hx => (hb x hx).2) hl
  have hbl := fun k => blockR_len (r := r) (by obtain ⟨_, _, _, K, U, _, _, _, hb, _⟩ := hsm; exact fun x hx => (hb x hx).2) k
  have hth := fun k => hsm.there k
  have hbk := fun k hk => hsm.block (i := k) hk
  have htr : ∀ k, thereR r k = 0 → k < r.n := fun k h => by
    unfold thereR at h
    split at h
    · cases h
    · split at h
      · cases h
      · omega
  obtain ⟨A, n, c, rfl, hR⟩ := id h
  clear h hR
  obtain ⟨N, l, dn, fu, mk⟩ := r
  unfold refC at *
  simp only [] at hgt htr ⊢
  have f0 : Fr noB w (((w.alloc (.cells #[.int .i64 N, .slice A n c, .bool dn, .int .i64 fu, .int .u64 mk] 43)).alloc (.cells #[.int .u64 0, .int .u64 0, .int .u64 0, .int .u64 0, .int .u8 0, .int .u8 0, .int .u64 0, .int .u32 0, .int .u32 0] 64)).alloc (.cells #[.int .u64 0, .int .u64 0, .int .u64 0, .int .u64 0, .int .u8 0, .int .u8 0, .int .u64 0, .int .u32 0, .int .u32 0] 64)) := (((Fr.refl noB w).alloc _).alloc _).alloc _
  have hd0 := ((BlkAt.new w #[.int .i64 N, .slice A n c, .bool dn, .int .i64 fu, .int .u64 mk] 43).al (.cells #[.int .u64 0, .int .u64 0, .int .u64 0, .int .u64 0, .int .u8 0, .int .u8 0, .int .u64 0, .int .u32 0, .int .u32 0] 64)).al (.cells #[.int .u64 0, .int .u64 0, .int .u64 0, .int .u64 0, .int .u8 0, .int .u8 0, .int .u64 0, .int .u32 0, .int .u32 0] 64)
  have hb0 := (BlkAt.new (w.alloc (.cells #[.int .i64 N, .slice A n c, .bool dn, .int .i64 fu, .int .u64 mk] 43)) #[.int .u64 0, .int .u64 0, .int .u64 0, .int .u64 0, .int .u8 0, .int .u8 0, .int .u64 0, .int .u32 0, .int .u32 0] 64).al (.cells #[.int .u64 0, .int .u64 0, .int .u64 0, .int .u64 0, .int .u8 0, .int .u8 0, .int .u64 0, .int .u32 0, .int .u32 0] 64)
  have hb1 := BlkAt.new ((w.alloc (.cells #[.int .i64 N, .slice A n c, .bool dn, .int .i64 fu, .int .u64 mk] 43)).alloc (.cells #[.int .u64 0, .int .u64 0, .int .u64 0, .int .u64 0, .int .u8 0, .int .u8 0, .int .u64 0, .int .u32 0, .int .u32 0] 64)) #[.int .u64 0, .int .u64 0, .int .u64 0, .int .u64 0, .int .u8 0, .int .u8 0, .int .u64 0, .int .u32 0, .int .u32 0] 64
  simp only [al_size] at hb0 hb1
  go_enter Try.func40, Try.ntmps40
  go_upto_region 3 with fail
  generalize ((w.alloc (.cells #[.int .i64 N, .slice A n c, .bool dn, .int .i64 fu, .int .u64 mk] 43)).alloc (.cells #[.int .u64 0, .int .u64 0, .int .u64 0, .int .u64 0, .int .u8 0, .int .u8 0, .int .u64 0, .int .u32 0, .int .u32 0] 64)).alloc (.cells #[.int .u64 0, .int .u64 0, .int .u64 0, .int .u64 0, .int .u8 0, .int .u8 0, .int .u64 0, .int .u32 0, .int .u32 0] 64) = wa at *
  go_wp2_with fail
  go_loopw [5, 12] (fun fnd i wr => ∃ k : Nat, k ≤ 2 ∧ i = .int .i64 k ∧ fnd = .bool (bestS d k).2 ∧ Fr noB w wr ∧ BlkAt wr w.heap.size 43 #[.int .i64 N, .slice A n c, .bool dn, .int .i64 fu, .int .u64 mk] ∧ BlkAt wr (w.heap.size + 1) 64 #[.int .u64 0, .int .u64 0, .int .u64 0, .int .u64 0, .int .u8 0, .int .u8 0, .int .u64 0, .int .u32 0, .int .u32 0] ∧ BlkAt wr (w.heap.size + 1 + 1) 64 (bestS d k).1.C.toArray ∧ ∀ j : Nat, j < k → thereE d j = 0) (fun _ i _ => 2 - (intOf i).toNat)
  case atStart => exact ⟨0, Nat.zero_le _, rfl, rfl, f0, hd0, hb0, hb1, fun j hj => by omega⟩
  case round =>
    obtain ⟨k, hk, rfl, rfl, hf, hdv, hz, hbe, hall⟩ := hrel
    clear f0 hd0 hb0 hb1
    by_cases hk2 : k < 2
    · by_cases ht : thereE d (k : Int) = 0
      · have ht2 : thereR ⟨N, l, dn, fu, mk⟩ k = 0 := by rw [← hth]; exact ht
        have hrd := hgt wr hf k
        rw [ht2, if_pos rfl, ← hbk k (htr k ht2)] at hrd
        obtain ⟨w0, w1, w2, w3, w4, wf⟩ := BlkAt.c5 hdv
        have hlb : (blockD d k).length = 128 := by rw [hbk k (htr k ht2)]; exact hbl _
        have HB : Hid (bestS d (k + 1) = pickS (blockD d k) k (bestS d k)) := rfl
        have hall' : ∀ j : Nat, j < k + 1 → thereE d j = 0 := fun j hj => by
          by_cases hjk : j < k
          · exact hall j hjk
          · rw [show j = k by omega]; exact ht
        unfold pickS at HB
        generalize hbn : bestS d (k + 1) = bn at *
        have HBN := hid hbn; clear hbn
        generalize bestS d k = bq at *
        generalize blockD d k = bs at *
        have hsr := fun W => suReadR_calls W (mkS bs) (by rw [mkS_size]; omega)
        rw [mkS_data] at hsr
        generalize suRead bs = sr at *
        obtain ⟨⟨seq, view, normal, gen, half, slot, base, size, sum⟩, se⟩ := sr
        obtain ⟨⟨b1, b2, b3, b4, b5, b6, b7, b8, b9⟩, fb⟩ := bq
        unfold SuEPost SuV.v SuV.C at hsr
        unfold SuV.C at hbe
        simp only [] at hsr HB hbe
        clear hall ht
        go_wp2_with fail
        refine hrd.mono ?_
        rintro ed w5 ⟨rfl, f1⟩
        have F1 := hf.then' f1
        replace hz := hz.fr f1 id
        replace hbe := hbe.fr f1 id
        replace hdv := hdv.fr f1 id
        clear hrd hf f1 w0 w1 w2 w3 w4 wf hlb ht2
        go_wp2_with fail
        refine (hsr w5).mono ?_
        rintro ed w2 ⟨rfl, f2⟩
        have F2 := F1.then' f2
        replace hz := hz.fr f2 id
        replace hbe := hbe.fr f2 id
        replace hdv := hdv.fr f2 id
        clear hsr F1 f2
        have hbs := BlkAt.new w2 #[.int .u64 seq, .int .u64 view, .int .u64 normal, .int .u64 gen, .int .u8 half, .int .u8 slot, .int .u64 base, .int .u32 size, .int .u32 sum] 64
        have hlt := hbe.lt
        have f3 := (Fr.refl noB w2).alloc (.cells #[.int .u64 seq, .int .u64 view, .int .u64 normal, .int .u64 gen, .int .u8 half, .int .u8 slot, .int .u64 base, .int .u32 size, .int .u32 sum] 64)
        have F3 := F2.then' f3
        replace hz := hz.fr f3 id
        replace hdv := hdv.fr f3 id
        replace hbe := hbe.fr f3 id
        obtain ⟨m2, hm2⟩ : ∃ m, w2.heap.size = m := ⟨_, rfl⟩
        have hq2 : w.heap.size + 1 + 1 < m2 := by omega
        rw [hm2] at hbs
        go_upto_region 10 with fail
        generalize (w2.alloc (.cells #[.int .u64 seq, .int .u64 view, .int .u64 normal, .int .u64 gen, .int .u8 half, .int .u8 slot, .int .u64 base, .int .u32 size, .int .u32 sum] 64)) = w3 at *
        obtain ⟨x0, x1, x2, x3, x4, x5, x6, x7, x8, xf⟩ := BlkAt.c9 hbs
        obtain ⟨y0, y1, y2, y3, y4, y5, y6, y7, y8, yf⟩ := BlkAt.c9 hbe
        obtain ⟨v1, h1⟩ : ∃ v, ((se : Int) == 0) = v := ⟨_, rfl⟩
        obtain ⟨v2, h2⟩ : ∃ v, ((seq : Int) % 2 == (k : Int)) = v := ⟨_, rfl⟩
        obtain ⟨v3, h3⟩ : ∃ v, decide (b1 < seq) = v := ⟨_, rfl⟩
        rcases Bool.eq_false_or_eq_true v1 with rfl | rfl
        · have g1 : ¬ se ≠ 0 := by
            have : (se : Int) = 0 := by simpa using h1
            omega
          rcases Bool.eq_false_or_eq_true v2 with rfl | rfl
          · have g2 : ¬ seq % 2 ≠ k := by
              have : ((seq : Int) % 2) = k := by simpa using h2
              omega
            cases fb
            · have E : Hid (bn = (⟨seq, view, normal, gen, half, slot, base, size, sum⟩, true)) := by
                unfold Hid
                rw [HB.out, if_neg (by rintro (g | g) <;> first | exact g1 g | exact g2 g), if_pos (by first | exact .inl rfl | exact .inr (of_decide_eq_true h3))]
              have FF := F3.trans (fr_setU9 w3 (w.heap.size + 1 + 1) (.int .u64 seq) (.int .u64 view) (.int .u64 normal) (.int .u64 gen) (.int .u8 half) (.int .u8 slot) (.int .u64 base) (.int .u32 size) (.int .u32 sum)) (fun i hi h => by unfold eqB at h; omega)
              replace hdv := hdv.fr (fr_setU9 w3 (w.heap.size + 1 + 1) (.int .u64 seq) (.int .u64 view) (.int .u64 normal) (.int .u64 gen) (.int .u8 half) (.int .u8 slot) (.int .u64 base) (.int .u32 size) (.int .u32 sum)) (fun h => by unfold eqB at h; omega)
              replace hz := hz.fr (fr_setU9 w3 (w.heap.size + 1 + 1) (.int .u64 seq) (.int .u64 view) (.int .u64 normal) (.int .u64 gen) (.int .u8 half) (.int .u8 slot) (.int .u64 base) (.int .u32 size) (.int .u32 sum)) (fun h => by unfold eqB at h; omega)
              replace hbe := hbe.setU9 (.int .u64 seq) (.int .u64 view) (.int .u64 normal) (.int .u64 gen) (.int .u8 half) (.int .u8 slot) (.int .u64 base) (.int .u32 size) (.int .u32 sum)
              go_wp2_with fail
              go_roundw
              case rel => exact ⟨k + 1, by omega, by go_num, by rw [HBN.out, E.out], FF, hdv, hz, by rw [HBN.out, E.out]; exact hbe, hall'⟩
              case measure => simp [intOf]; omega
            · cases v3
              · have E : Hid (bn = (⟨b1, b2, b3, b4, b5, b6, b7, b8, b9⟩, true)) := by
                  unfold Hid
                  rw [HB.out, if_neg (by rintro (g | g) <;> first | exact g1 g | exact g2 g), if_neg (by rintro (g | g) <;> first | (have := of_decide_eq_false h3; omega) | cases g)]
                go_wp2_with fail
                go_roundw
                case rel => exact ⟨k + 1, by omega, by go_num, by rw [HBN.out, E.out], F3, hdv, hz, by rw [HBN.out, E.out]; exact hbe, hall'⟩
                case measure => simp [intOf]; omega
              · have E : Hid (bn = (⟨seq, view, normal, gen, half, slot, base, size, sum⟩, true)) := by
                  unfold Hid
                  rw [HB.out, if_neg (by rintro (g | g) <;> first | exact g1 g | exact g2 g), if_pos (by first | exact .inl rfl | exact .inr (of_decide_eq_true h3))]
                have FF := F3.trans (fr_setU9 w3 (w.heap.size + 1 + 1) (.int .u64 seq) (.int .u64 view) (.int .u64 normal) (.int .u64 gen) (.int .u8 half) (.int .u8 slot) (.int .u64 base) (.int .u32 size) (.int .u32 sum)) (fun i hi h => by unfold eqB at h; omega)
                replace hdv := hdv.fr (fr_setU9 w3 (w.heap.size + 1 + 1) (.int .u64 seq) (.int .u64 view) (.int .u64 normal) (.int .u64 gen) (.int .u8 half) (.int .u8 slot) (.int .u64 base) (.int .u32 size) (.int .u32 sum)) (fun h => by unfold eqB at h; omega)
                replace hz := hz.fr (fr_setU9 w3 (w.heap.size + 1 + 1) (.int .u64 seq) (.int .u64 view) (.int .u64 normal) (.int .u64 gen) (.int .u8 half) (.int .u8 slot) (.int .u64 base) (.int .u32 size) (.int .u32 sum)) (fun h => by unfold eqB at h; omega)
                replace hbe := hbe.setU9 (.int .u64 seq) (.int .u64 view) (.int .u64 normal) (.int .u64 gen) (.int .u8 half) (.int .u8 slot) (.int .u64 base) (.int .u32 size) (.int .u32 sum)
                go_wp2_with fail
                go_roundw
                case rel => exact ⟨k + 1, by omega, by go_num, by rw [HBN.out, E.out], FF, hdv, hz, by rw [HBN.out, E.out]; exact hbe, hall'⟩
                case measure => simp [intOf]; omega
          · have g2 : seq % 2 ≠ k := by
              have : ((seq : Int) % 2) ≠ k := by simpa using h2
              omega
            have E : Hid (bn = (⟨b1, b2, b3, b4, b5, b6, b7, b8, b9⟩, fb)) := by
              unfold Hid
              rw [HB.out, if_pos (Or.inr g2)]
            go_wp2_with fail
            go_roundw
            case rel => exact ⟨k + 1, by omega, by go_num, by rw [HBN.out, E.out], F3, hdv, hz, by rw [HBN.out, E.out]; exact hbe, hall'⟩
            case measure => simp [intOf]; omega
        · have g1 : se ≠ 0 := by
            have : ¬ (se : Int) = 0 := by simpa using h1
            omega
          have E : Hid (bn = (⟨b1, b2, b3, b4, b5, b6, b7, b8, b9⟩, fb)) := by
            unfold Hid
            rw [HB.out, if_pos (Or.inl g1)]
          go_wp2_with fail
          go_roundw
          case rel => exact ⟨k + 1, by omega, by go_num, by rw [HBN.out, E.out], F3, hdv, hz, by rw [HBN.out, E.out]; exact hbe, hall'⟩
          case measure => simp [intOf]; omega
      · have hrd := hgt wr hf k
        rw [← hth k, if_neg ht] at hrd
        obtain ⟨w0, w1, w2, w3, w4, wf⟩ := BlkAt.c5 hdv
        have E : Hid (loadD d = (zeroS, thereE d k)) := by
          unfold Hid loadD
          by_cases hk0 : k = 0
          · subst hk0; rw [if_pos (show thereE d 0 ≠ 0 from ht)]; rfl
          · have hk1 : k = 1 := by omega
            subst hk1
            rw [if_neg (by have := hall 0 (by omega); simpa using this), if_pos (show thereE d 1 ≠ 0 from ht)]; rfl
        have t1 : ((thereE d (k : Int) : Int) != 0) = true := by rw [bne_iff_ne]; omega
        generalize thereE d (k : Int) = te at *
        clear hall ht hbe
        go_wp2_with fail
        refine hrd.mono ?_
        rintro ed w5 ⟨rfl, f1⟩
        have F1 := hf.then' f1
        replace hz := hz.fr f1 id
        obtain ⟨y0, y1, y2, y3, y4, y5, y6, y7, y8, yf⟩ := BlkAt.c9 hz
        have FF := F1.trans (fr_setU9 w5 (w.heap.size + 1) (.int .u64 0) (.int .u64 0) (.int .u64 0) (.int .u64 0) (.int .u8 0) (.int .u8 0) (.int .u64 0) (.int .u32 0) (.int .u32 0)) (fun i hi h => by unfold eqB at h; omega)
        go_wp2_with fail
        have hr := HRES.out
        exact bodyPost_ret (v := .tuple #[zeroS.v, .int .i64 te]) (by simp [results, hr, go_sem, zeroS, SuV.v, SuV.C, y0, y1, y2, y3, y4, y5, y6, y7, y8]) rfl ⟨by rw [E.out] <;> rfl, FF⟩
    · have hk2' : k = 2 := by omega
      subst hk2'
      have h0 := hall 0 (by omega)
      have h1 := hall 1 (by omega)
      have HL : Hid (loadD d = if (bestS d 2).2 then ((bestS d 2).1, 0) else (zeroS, 8)) := by
        unfold Hid loadD; rw [if_neg (by simpa using h0), if_neg (by simpa using h1)]
      generalize bestS d 2 = bq at *
      obtain ⟨⟨b1, b2, b3, b4, b5, b6, b7, b8, b9⟩, fb⟩ := bq
      unfold SuV.C at hbe
      simp only [] at hbe HL
      clear h0 h1 hall
      obtain ⟨x0, x1, x2, x3, x4, x5, x6, x7, x8, xf⟩ := BlkAt.c9 hbe
      obtain ⟨y0, y1, y2, y3, y4, y5, y6, y7, y8, yf⟩ := BlkAt.c9 hz
      cases fb
      · have E : Hid (loadD d = (zeroS, 8)) := HL.out
        have FF := hf.trans (fr_setU9 wr (w.heap.size + 1) (.int .u64 0) (.int .u64 0) (.int .u64 0) (.int .u64 0) (.int .u8 0) (.int .u8 0) (.int .u64 0) (.int .u32 0) (.int .u32 0)) (fun i hi h => by unfold eqB at h; omega)
        clear HL
        go_wp2_with fail
        have hr := HRES.out
        exact bodyPost_ret (v := .tuple #[zeroS.v, .int .i64 8]) (by simp [results, hr, go_sem, zeroS, SuV.v, SuV.C, y0, y1, y2, y3, y4, y5, y6, y7, y8]) rfl ⟨by rw [E.out] <;> rfl, FF⟩
      · have E : Hid (loadD d = (⟨b1, b2, b3, b4, b5, b6, b7, b8, b9⟩, 0)) := HL.out
        have FF := hf.trans (fr_setU9 wr (w.heap.size + 1) (.int .u64 b1) (.int .u64 b2) (.int .u64 b3) (.int .u64 b4) (.int .u8 b5) (.int .u8 b6) (.int .u64 b7) (.int .u32 b8) (.int .u32 b9)) (fun i hi h => by unfold eqB at h; omega)
        clear HL
        go_wp2_with fail
        have hr := HRES.out
        exact bodyPost_ret (v := .tuple #[(⟨b1, b2, b3, b4, b5, b6, b7, b8, b9⟩ : SuV).v, .int .i64 0]) (by simp [results, hr, go_sem, SuV.v, SuV.C, y0, y1, y2, y3, y4, y5, y6, y7, y8]) rfl ⟨by rw [E.out] <;> rfl, FF⟩
end Go.Proofs.Ytnkdlmmdaagonaa
