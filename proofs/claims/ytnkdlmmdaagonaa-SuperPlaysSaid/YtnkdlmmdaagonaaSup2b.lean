/- Contracts, several texts in one. -/
import Derived.Test.YtnkdlmmdaagonaaSupR1
import Derived.Test.YtnkdlmmdaagonaaSeal
import Derived.Test.YtnkdlmmdaagonaaWr4
import Derived.Test.YtnkdlmmdaagonaaCalmH
/- super.Bytes. -/
namespace Go.Proofs.Ytnkdlmmdaagonaa
open Go.RowKit
theorem WrAt.madeU {w : World} {n0 : Nat} (h : w.heap.size = n0) : WrAt (w.alloc (.cells #[.slice none 0 0] 113)) (upB n0) n0 [] := by
  subst h; exact WrAt.new w
theorem WrAt.upnU {w w' : World} {n0 : Nat} {p : Nat} {bs : List UInt8} (h : WrAt w' (andNew (upB n0) w) p bs) (hs : n0 ≤ w.heap.size) : WrAt w' (upB n0) p bs :=
  h.mono fun k _ hk => hk.elim id fun q => Nat.le_trans hs q
/-- A super block's bytes ahead of the sum. -/
def bodyS (s : SuV) : List UInt8 := leB 8 s.seq ++ (leB 8 s.view ++ (leB 8 s.normal ++ (leB 8 s.gen ++ (leB 1 s.half ++ (leB 1 s.slot ++ (leB 8 s.base ++ (leB 4 s.size ++ leB 4 s.sum)))))))
theorem bodyS_length (s : SuV) : (bodyS s).length = 50 := by unfold bodyS; simp only [List.length_append, leB_length]
def superB (s : SuV) : List UInt8 := sealB (bodyS s)
theorem superB_length (s : SuV) : (superB s).length = 54 := by unfold superB; rw [sealB_length, bodyS_length]
/-- Bytes in new memory, and no error. -/
def BytesSPost (w : World) (xs : List UInt8) (e : Ending) (w' : World) : Prop := ∃ A c, e = .returned (.tuple #[.slice A xs.length c, .int .i64 0]) ∧ w'.ownsRow w.heap.size 5 1 (.slice A xs.length c) xs.length (bcells xs) ∧ Fr noB w w'
/-- What is written behind so many operations. -/
def SuWC (n0 : Nat) (ps : List (List UInt8)) : Nat → World → Prop
  | 0, W => W.heap.size = n0
  | q + 1, W => WrAt W (upB n0) n0 (ps.getD q [])
theorem own_nilU {w : World} {base n : Nat} {e : TypeId} {size : Nat} {A : Option Addr} {m c : Nat} {xs : List Value} (h : w.ownsRow base e size (.slice A m c) n xs) : A = none → m = 0 ∧ c = 0 := by
  rintro rfl
  rcases h.2 with ⟨e1, _⟩ | ⟨g, cap, cur, e1, _⟩
  · cases e1; exact ⟨rfl, rfl⟩
  · cases e1
set_option maxRecDepth 100000 in
set_option maxHeartbeats 1600000 in
theorem suBytesNo_calls (w : World) (s : SuV) (h : checkS s ≠ 0) :
    Calls Try.prog 31 #[s.v] w (fun ed w' => ed = .returned (.tuple #[.slice none 0 0, .int .i64 (checkS s : Nat)]) ∧ Fr noB w w') := by
  have f0 : Fr noB w (w.alloc (.cells s.C.toArray 61)) := (Fr.refl noB w).alloc _
  have hb0 : BlkAt (w.alloc (.cells s.C.toArray 61)) w.heap.size 61 s.C.toArray := BlkAt.new _ _ _
  have hck := checkS_calls (w.alloc (.cells s.C.toArray 61)) s
  have t1 : ((checkS s : Int) != 0) = true := by rw [bne_iff_ne]; omega
  generalize checkS s = cv at *
  obtain ⟨seq, view, normal, gen, half, slot, base, size, sum⟩ := s
  unfold SuV.C at f0 hb0 hck
  unfold SuV.v SuV.C at *
  simp only [] at *
  go_enter Try.func31, Try.ntmps31
  go_upto_region 1 with fail
  generalize (w.alloc (.cells #[.int .u64 seq, .int .u64 view, .int .u64 normal, .int .u64 gen, .int .u8 half, .int .u8 slot, .int .u64 base, .int .u32 size, .int .u32 sum] 61)) = wa at *
  obtain ⟨x0, x1, x2, x3, x4, x5, x6, x7, x8, xf⟩ := BlkAt.c9 hb0
  go_wp2_with fail
  refine hck.mono ?_
  rintro ed w1 ⟨rfl, f1⟩
  clear hck x0 x1 x2 x3 x4 x5 x6 x7 x8 xf hb0 h
  go_wp2_with fail
  go_ret2
  exact ⟨rfl, f0.then' f1⟩
end Go.Proofs.Ytnkdlmmdaagonaa
/- super.Bytes of one that may be. -/
namespace Go.Proofs.Ytnkdlmmdaagonaa
open Go.RowKit
set_option maxRecDepth 100000 in
set_option maxHeartbeats 12800000 in
theorem suBytesOk_calls (w : World) (s : SuV) (hw : s.wf) (h : checkS s = 0) :
    Calls Try.prog 31 #[s.v] w (BytesSPost w (superB s)) := by
  have f0 : Fr noB w (w.alloc (.cells s.C.toArray 61)) := (Fr.refl noB w).alloc _
  have hb0 : BlkAt (w.alloc (.cells s.C.toArray 61)) w.heap.size 61 s.C.toArray := BlkAt.new _ _ _
  have hck := checkS_calls (w.alloc (.cells s.C.toArray 61)) s
  have HE : Hid (bodyS s = leB 8 s.seq ++ (leB 8 s.view ++ (leB 8 s.normal ++ (leB 8 s.gen ++ (leB 1 s.half ++ (leB 1 s.slot ++ (leB 8 s.base ++ (leB 4 s.size ++ leB 4 s.sum)))))))) := rfl
  rw [h] at hck
  have HSL := bodyS_length s
  unfold superB
  generalize bodyS s = eb at *
  obtain ⟨seq, view, normal, gen, half, slot, base, size, sum⟩ := s
  obtain ⟨-, -, -, -, hh5, hh6, -, hh8, hh9⟩ := hw
  unfold SuV.C at f0 hb0
  unfold SuV.v SuV.C at *
  simp only [] at *
  have HH5 := hid hh5
  have HH6 := hid hh6
  have HH8 := hid hh8
  have HH9 := hid hh9
  clear h hh5 hh6 hh8 hh9
  obtain ⟨p1, hp1⟩ : ∃ p, leB 8 seq = p := ⟨_, rfl⟩
  obtain ⟨p2, hp2⟩ : ∃ p, p1 ++ leB 8 view = p := ⟨_, rfl⟩
  obtain ⟨p3, hp3⟩ : ∃ p, p2 ++ leB 8 normal = p := ⟨_, rfl⟩
  obtain ⟨p4, hp4⟩ : ∃ p, p3 ++ leB 8 gen = p := ⟨_, rfl⟩
  obtain ⟨p5, hp5⟩ : ∃ p, p4 ++ leB 1 half = p := ⟨_, rfl⟩
  obtain ⟨p6, hp6⟩ : ∃ p, p5 ++ leB 1 slot = p := ⟨_, rfl⟩
  obtain ⟨p7, hp7⟩ : ∃ p, p6 ++ leB 8 base = p := ⟨_, rfl⟩
  obtain ⟨p8, hp8⟩ : ∃ p, p7 ++ leB 4 size = p := ⟨_, rfl⟩
  obtain ⟨p9, hp9⟩ : ∃ p, p8 ++ leB 4 sum = p := ⟨_, rfl⟩
  have HL : Hid (p1.length = 8 ∧ p2.length = 16 ∧ p3.length = 24 ∧ p4.length = 32 ∧ p5.length = 33 ∧ p6.length = 34 ∧ p7.length = 42 ∧ p8.length = 46 ∧ p9.length = 50) := by
    unfold Hid
    rw [← hp9, ← hp8, ← hp7, ← hp6, ← hp5, ← hp4, ← hp3, ← hp2, ← hp1]
    simp only [List.length_append, leB_length]
    exact ⟨trivial, trivial, trivial, trivial, trivial, trivial, trivial, trivial, trivial⟩
  have HB : Hid (eb = p9) := by
    unfold Hid; rw [HE.out, ← hp9, ← hp8, ← hp7, ← hp6, ← hp5, ← hp4, ← hp3, ← hp2, ← hp1]; simp only [List.append_assoc]
  have HP1 := hid hp1
  have HP2 := hid hp2
  have HP3 := hid hp3
  have HP4 := hid hp4
  have HP5 := hid hp5
  have HP6 := hid hp6
  have HP7 := hid hp7
  have HP8 := hid hp8
  have HP9 := hid hp9
  clear HE hp1 hp2 hp3 hp4 hp5 hp6 hp7 hp8 hp9
  go_enter Try.func31, Try.ntmps31
  go_upto_region 1 with fail
  generalize (w.alloc (.cells #[.int .u64 seq, .int .u64 view, .int .u64 normal, .int .u64 gen, .int .u8 half, .int .u8 slot, .int .u64 base, .int .u32 size, .int .u32 sum] 61)) = wa at *
  obtain ⟨x0, x1, x2, x3, x4, x5, x6, x7, x8, xf⟩ := BlkAt.c9 hb0
  go_wp2_with fail
  refine hck.mono ?_
  rintro ed w1 ⟨rfl, f1⟩
  have F1 := f0.then' f1
  replace hb0 := hb0.fr f1 id
  have hs2 := F1.size
  have hq := hb0.lt
  obtain ⟨n0, hn0⟩ : ∃ n0, w1.heap.size = n0 := ⟨_, rfl⟩
  rw [hn0] at hs2 hq
  clear hck x0 x1 x2 x3 x4 x5 x6 x7 x8 xf f0 f1
  go_wp2_with fail
  apply wp_region_calmL (R := Fr (upB n0)) (C := fun q W => Fr (upB n0) w1 W ∧ BlkAt W w.heap.size 61 #[.int .u64 seq, .int .u64 view, .int .u64 normal, .int .u64 gen, .int .u8 half, .int .u8 slot, .int .u64 base, .int .u32 size, .int .u32 sum] ∧ SuWC n0 [[], p1, p2, p3, p4] q W) [false, true, false, false, true, false, false, true, false, false, true, false, false, true, false] [0, 0, 0, 0, 1, 0, 0, 2, 0, 0, 3, 0, 0, 4, 5]
    [eqv _, eqv (.pointer (some ⟨n0, 0, none⟩)), eqv _, eqv _, eqv (.pointer (some ⟨n0, 0, none⟩)), eqv _, eqv _, eqv (.pointer (some ⟨n0, 0, none⟩)), eqv _, eqv _, eqv (.pointer (some ⟨n0, 0, none⟩)), eqv _, eqv _, eqv (.pointer (some ⟨n0, 0, none⟩)), eqv (.pointer (some ⟨n0, 0, none⟩))]
    (by kernel_rfl) (by kernel_rfl) (fun _ _ _ h1 h2 => h1.then' h2) ((Fr.refl _ _).drew) ⟨(Fr.refl _ _).drew, hb0, hn0⟩ (by kernel_rfl)
  · refine ⟨?_, ?_, ?_, ?_, ?_, ?_, ?_, ?_, ?_, ?_, ?_, ?_, ?_, ?_, ?_, trivial⟩
    · rw [if_neg (by decide)]; intro kq
      intro a W K hC hd hK
      refine wpOp_plain rfl rfl ?_
      go_wp2_with fail
      exact hK _ _ (Fr.refl _ _) hC rfl
    · rw [if_pos (by decide)]
      intro a W K hC hd hK
      replace hC : (fun q W => Fr (upB n0) w1 W ∧ BlkAt W w.heap.size 61 #[.int .u64 seq, .int .u64 view, .int .u64 normal, .int .u64 gen, .int .u8 half, .int .u8 slot, .int .u64 base, .int .u32 size, .int .u32 sum] ∧ SuWC n0 [[], p1, p2, p3, p4] q W) 0 W := hC
      have d11 : _ = _ := hd 11 (by decide)
      refine wpOp_plain rfl rfl ?_
      have hz : W.heap.size = n0 := hC.2.2
      go_wp2_with fail
      have fs : Fr (upB n0) W (W.alloc (.cells #[.slice none 0 0] 113)) := (Fr.refl _ W).alloc _
      exact hK _ _ fs ⟨hC.1.then' fs, hC.2.1.al _, WrAt.madeU hz⟩ rfl
    · rw [if_neg (by decide)]; intro kq
      intro a W K hC hd hK
      have d1 : a.tmps[1]?.getD undef = .pointer (some ⟨w.heap.size, 0, none⟩) := hd 1 (by decide)
      refine wpOp_plain rfl rfl ?_
      obtain ⟨x0, x1, x2, x3, x4, x5, x6, x7, x8, xf⟩ := BlkAt.c9 hC.2.1
      go_wp2_with fail
      exact hK _ _ (Fr.refl _ _) hC rfl
    · rw [if_neg (by decide)]; intro kq
      intro a W K hC hd hK
      have d13 : _ = _ := hd 13 (by decide)
      refine wpOp_plain rfl rfl ?_
      obtain ⟨x0, x1, x2, x3, x4, x5, x6, x7, x8, xf⟩ := BlkAt.c9 hC.2.1
      go_wp2_with fail
      exact hK _ _ (Fr.refl _ _) hC rfl
    · rw [if_pos (by decide)]
      intro a W K hC hd hK
      replace hC : (fun q W => Fr (upB n0) w1 W ∧ BlkAt W w.heap.size 61 #[.int .u64 seq, .int .u64 view, .int .u64 normal, .int .u64 gen, .int .u8 half, .int .u8 slot, .int .u64 base, .int .u32 size, .int .u32 sum] ∧ SuWC n0 [[], p1, p2, p3, p4] q W) 1 W := hC
      have d12 : a.tmps[12]?.getD undef = .pointer (some ⟨n0, 0, none⟩) := hd 12 (by decide)
      have d14 : _ = _ := hd 14 (by decide)
      refine wpOp_plain rfl rfl ?_
      obtain ⟨x0, x1, x2, x3, x4, x5, x6, x7, x8, xf⟩ := BlkAt.c9 hC.2.1
      go_wp2_with fail
      refine (eight_calls W (upB n0) n0 [] seq hC.2.2 (by have := HL.out; simp only [List.length_nil]; omega)).mono ?_
      rintro e9 w9 ⟨rfl, h9, f9⟩
      rw [List.nil_append, HP1.out] at h9
      exact hK _ _ f9 ⟨hC.1.then' f9, hC.2.1.fr f9 (fun h => by unfold upB at h; omega), h9.upnU (by have := hC.1.size; omega)⟩ rfl
    · rw [if_neg (by decide)]; intro kq
      intro a W K hC hd hK
      have d1 : a.tmps[1]?.getD undef = .pointer (some ⟨w.heap.size, 0, none⟩) := hd 1 (by decide)
      refine wpOp_plain rfl rfl ?_
      obtain ⟨x0, x1, x2, x3, x4, x5, x6, x7, x8, xf⟩ := BlkAt.c9 hC.2.1
      go_wp2_with fail
      exact hK _ _ (Fr.refl _ _) hC rfl
    · rw [if_neg (by decide)]; intro kq
      intro a W K hC hd hK
      have d16 : _ = _ := hd 16 (by decide)
      refine wpOp_plain rfl rfl ?_
      obtain ⟨x0, x1, x2, x3, x4, x5, x6, x7, x8, xf⟩ := BlkAt.c9 hC.2.1
      go_wp2_with fail
      exact hK _ _ (Fr.refl _ _) hC rfl
    · rw [if_pos (by decide)]
      intro a W K hC hd hK
      replace hC : (fun q W => Fr (upB n0) w1 W ∧ BlkAt W w.heap.size 61 #[.int .u64 seq, .int .u64 view, .int .u64 normal, .int .u64 gen, .int .u8 half, .int .u8 slot, .int .u64 base, .int .u32 size, .int .u32 sum] ∧ SuWC n0 [[], p1, p2, p3, p4] q W) 2 W := hC
      have d15 : a.tmps[15]?.getD undef = .pointer (some ⟨n0, 0, none⟩) := hd 15 (by decide)
      have d17 : _ = _ := hd 17 (by decide)
      refine wpOp_plain rfl rfl ?_
      obtain ⟨x0, x1, x2, x3, x4, x5, x6, x7, x8, xf⟩ := BlkAt.c9 hC.2.1
      go_wp2_with fail
      refine (eight_calls W (upB n0) n0 p1 view hC.2.2 (by have := HL.out; omega)).mono ?_
      rintro e9 w9 ⟨rfl, h9, f9⟩
      rw [HP2.out] at h9
      exact hK _ _ f9 ⟨hC.1.then' f9, hC.2.1.fr f9 (fun h => by unfold upB at h; omega), h9.upnU (by have := hC.1.size; omega)⟩ rfl
    · rw [if_neg (by decide)]; intro kq
      intro a W K hC hd hK
      have d1 : a.tmps[1]?.getD undef = .pointer (some ⟨w.heap.size, 0, none⟩) := hd 1 (by decide)
      refine wpOp_plain rfl rfl ?_
      obtain ⟨x0, x1, x2, x3, x4, x5, x6, x7, x8, xf⟩ := BlkAt.c9 hC.2.1
      go_wp2_with fail
      exact hK _ _ (Fr.refl _ _) hC rfl
    · rw [if_neg (by decide)]; intro kq
      intro a W K hC hd hK
      have d19 : _ = _ := hd 19 (by decide)
      refine wpOp_plain rfl rfl ?_
      obtain ⟨x0, x1, x2, x3, x4, x5, x6, x7, x8, xf⟩ := BlkAt.c9 hC.2.1
      go_wp2_with fail
      exact hK _ _ (Fr.refl _ _) hC rfl
    · rw [if_pos (by decide)]
      intro a W K hC hd hK
      replace hC : (fun q W => Fr (upB n0) w1 W ∧ BlkAt W w.heap.size 61 #[.int .u64 seq, .int .u64 view, .int .u64 normal, .int .u64 gen, .int .u8 half, .int .u8 slot, .int .u64 base, .int .u32 size, .int .u32 sum] ∧ SuWC n0 [[], p1, p2, p3, p4] q W) 3 W := hC
      have d18 : a.tmps[18]?.getD undef = .pointer (some ⟨n0, 0, none⟩) := hd 18 (by decide)
      have d20 : _ = _ := hd 20 (by decide)
      refine wpOp_plain rfl rfl ?_
      obtain ⟨x0, x1, x2, x3, x4, x5, x6, x7, x8, xf⟩ := BlkAt.c9 hC.2.1
      go_wp2_with fail
      refine (eight_calls W (upB n0) n0 p2 normal hC.2.2 (by have := HL.out; omega)).mono ?_
      rintro e9 w9 ⟨rfl, h9, f9⟩
      rw [HP3.out] at h9
      exact hK _ _ f9 ⟨hC.1.then' f9, hC.2.1.fr f9 (fun h => by unfold upB at h; omega), h9.upnU (by have := hC.1.size; omega)⟩ rfl
    · rw [if_neg (by decide)]; intro kq
      intro a W K hC hd hK
      have d1 : a.tmps[1]?.getD undef = .pointer (some ⟨w.heap.size, 0, none⟩) := hd 1 (by decide)
      refine wpOp_plain rfl rfl ?_
      obtain ⟨x0, x1, x2, x3, x4, x5, x6, x7, x8, xf⟩ := BlkAt.c9 hC.2.1
      go_wp2_with fail
      exact hK _ _ (Fr.refl _ _) hC rfl
    · rw [if_neg (by decide)]; intro kq
      intro a W K hC hd hK
      have d22 : _ = _ := hd 22 (by decide)
      refine wpOp_plain rfl rfl ?_
      obtain ⟨x0, x1, x2, x3, x4, x5, x6, x7, x8, xf⟩ := BlkAt.c9 hC.2.1
      go_wp2_with fail
      exact hK _ _ (Fr.refl _ _) hC rfl
    · rw [if_pos (by decide)]
      intro a W K hC hd hK
      replace hC : (fun q W => Fr (upB n0) w1 W ∧ BlkAt W w.heap.size 61 #[.int .u64 seq, .int .u64 view, .int .u64 normal, .int .u64 gen, .int .u8 half, .int .u8 slot, .int .u64 base, .int .u32 size, .int .u32 sum] ∧ SuWC n0 [[], p1, p2, p3, p4] q W) 4 W := hC
      have d21 : a.tmps[21]?.getD undef = .pointer (some ⟨n0, 0, none⟩) := hd 21 (by decide)
      have d23 : _ = _ := hd 23 (by decide)
      refine wpOp_plain rfl rfl ?_
      obtain ⟨x0, x1, x2, x3, x4, x5, x6, x7, x8, xf⟩ := BlkAt.c9 hC.2.1
      go_wp2_with fail
      refine (eight_calls W (upB n0) n0 p3 gen hC.2.2 (by have := HL.out; omega)).mono ?_
      rintro e9 w9 ⟨rfl, h9, f9⟩
      rw [HP4.out] at h9
      exact hK _ _ f9 ⟨hC.1.then' f9, hC.2.1.fr f9 (fun h => by unfold upB at h; omega), h9.upnU (by have := hC.1.size; omega)⟩ rfl
    · rw [if_neg (by decide)]; intro kq
      exact calm_mv 24 rfl rfl (Or.inr rfl) (Fr.refl _) (by decide) fun v w hd => hd
  · intro vs w2 fw2 cw2 hV
    have v5 : vs 14 = .pointer (some ⟨n0, 0, none⟩) := hV 14 _ _ rfl rfl (by decide)
    clear hV
    simp only [putL, Act.put, Nat.reduceAdd, List.setIfInBounds_toArray, List.set_cons_zero, List.set_cons_succ, v5]
    have F2 : Fr noB w w2 := F1.trans fw2 (fun i hi h => by unfold upB at h; omega)
    have hw2 : WrAt w2 (upB n0) n0 p4 := cw2.2.2
    have hb2 := cw2.2.1
    have hs3 := fw2.size
    have hs4 := F2.size
    rw [hn0] at hs3
    clear cw2 fw2 F1 hb0 hn0
    go_wp2_with fail
    apply wp_region_calmL (R := Fr (upB n0)) (C := fun q W => Fr (upB n0) w2 W ∧ BlkAt W w.heap.size 61 #[.int .u64 seq, .int .u64 view, .int .u64 normal, .int .u64 gen, .int .u8 half, .int .u8 slot, .int .u64 base, .int .u32 size, .int .u32 sum] ∧ WrAt W (upB n0) n0 ([p4, p5, p6, p7, p8, p9].getD q [])) [false, false, false, true, false, false, true, false, false, true, false, false, true, false, false, true] [0, 0, 0, 0, 0, 0, 1, 0, 0, 2, 0, 0, 3, 0, 0, 4]
      [eqv (.pointer (some ⟨n0, 0, none⟩)), eqv _, eqv _, eqv (.pointer (some ⟨n0, 0, none⟩)), eqv _, eqv _, eqv (.pointer (some ⟨n0, 0, none⟩)), eqv _, eqv _, eqv (.pointer (some ⟨n0, 0, none⟩)), eqv _, eqv _, eqv (.pointer (some ⟨n0, 0, none⟩)), eqv _, eqv _, eqv (.pointer (some ⟨n0, 0, none⟩))]
      (by kernel_rfl) (by kernel_rfl) (fun _ _ _ h1 h2 => h1.then' h2) ((Fr.refl _ _).drew) ⟨(Fr.refl _ _).drew, hb2, hw2.fr (Fr.refl noB w2).drew (fun _ _ _ => id)⟩ (by kernel_rfl)
    · refine ⟨?_, ?_, ?_, ?_, ?_, ?_, ?_, ?_, ?_, ?_, ?_, ?_, ?_, ?_, ?_, ?_, trivial⟩
      · rw [if_neg (by decide)]; intro kq
        exact calm_mv 5 rfl rfl (Or.inl rfl) (Fr.refl _) (by decide) fun v w hd => hd
      · rw [if_neg (by decide)]; intro kq
        intro a W K hC hd hK
        have d1 : a.tmps[1]?.getD undef = .pointer (some ⟨w.heap.size, 0, none⟩) := hd 1 (by decide)
        refine wpOp_plain rfl rfl ?_
        obtain ⟨x0, x1, x2, x3, x4, x5, x6, x7, x8, xf⟩ := BlkAt.c9 hC.2.1
        go_wp2_with fail
        exact hK _ _ (Fr.refl _ _) hC rfl
      · rw [if_neg (by decide)]; intro kq
        intro a W K hC hd hK
        have d26 : _ = _ := hd 26 (by decide)
        refine wpOp_plain rfl rfl ?_
        obtain ⟨x0, x1, x2, x3, x4, x5, x6, x7, x8, xf⟩ := BlkAt.c9 hC.2.1
        go_wp2_with fail
        exact hK _ _ (Fr.refl _ _) hC rfl
      · rw [if_pos (by decide)]
        intro a W K hC hd hK
        replace hC : (fun q W => Fr (upB n0) w2 W ∧ BlkAt W w.heap.size 61 #[.int .u64 seq, .int .u64 view, .int .u64 normal, .int .u64 gen, .int .u8 half, .int .u8 slot, .int .u64 base, .int .u32 size, .int .u32 sum] ∧ WrAt W (upB n0) n0 ([p4, p5, p6, p7, p8, p9].getD q [])) 0 W := hC
        have d25 : a.tmps[25]?.getD undef = .pointer (some ⟨n0, 0, none⟩) := hd 25 (by decide)
        have d27 : _ = _ := hd 27 (by decide)
        refine wpOp_plain rfl rfl ?_
        obtain ⟨x0, x1, x2, x3, x4, x5, x6, x7, x8, xf⟩ := BlkAt.c9 hC.2.1
        go_wp2_with fail
        refine (byte_calls W (upB n0) n0 p4 half hC.2.2 HH5.out (by have := HL.out; omega)).mono ?_
        rintro e9 w9 ⟨rfl, h9, f9⟩
        rw [HP5.out] at h9
        exact hK _ _ f9 ⟨hC.1.then' f9, hC.2.1.fr f9 (fun h => by unfold upB at h; omega), h9.upnU (by have := hC.1.size; omega)⟩ rfl
      · rw [if_neg (by decide)]; intro kq
        intro a W K hC hd hK
        have d1 : a.tmps[1]?.getD undef = .pointer (some ⟨w.heap.size, 0, none⟩) := hd 1 (by decide)
        refine wpOp_plain rfl rfl ?_
        obtain ⟨x0, x1, x2, x3, x4, x5, x6, x7, x8, xf⟩ := BlkAt.c9 hC.2.1
        go_wp2_with fail
        exact hK _ _ (Fr.refl _ _) hC rfl
      · rw [if_neg (by decide)]; intro kq
        intro a W K hC hd hK
        have d29 : _ = _ := hd 29 (by decide)
        refine wpOp_plain rfl rfl ?_
        obtain ⟨x0, x1, x2, x3, x4, x5, x6, x7, x8, xf⟩ := BlkAt.c9 hC.2.1
        go_wp2_with fail
        exact hK _ _ (Fr.refl _ _) hC rfl
      · rw [if_pos (by decide)]
        intro a W K hC hd hK
        replace hC : (fun q W => Fr (upB n0) w2 W ∧ BlkAt W w.heap.size 61 #[.int .u64 seq, .int .u64 view, .int .u64 normal, .int .u64 gen, .int .u8 half, .int .u8 slot, .int .u64 base, .int .u32 size, .int .u32 sum] ∧ WrAt W (upB n0) n0 ([p4, p5, p6, p7, p8, p9].getD q [])) 1 W := hC
        have d28 : a.tmps[28]?.getD undef = .pointer (some ⟨n0, 0, none⟩) := hd 28 (by decide)
        have d30 : _ = _ := hd 30 (by decide)
        refine wpOp_plain rfl rfl ?_
        obtain ⟨x0, x1, x2, x3, x4, x5, x6, x7, x8, xf⟩ := BlkAt.c9 hC.2.1
        go_wp2_with fail
        refine (byte_calls W (upB n0) n0 p5 slot hC.2.2 HH6.out (by have := HL.out; omega)).mono ?_
        rintro e9 w9 ⟨rfl, h9, f9⟩
        rw [HP6.out] at h9
        exact hK _ _ f9 ⟨hC.1.then' f9, hC.2.1.fr f9 (fun h => by unfold upB at h; omega), h9.upnU (by have := hC.1.size; omega)⟩ rfl
      · rw [if_neg (by decide)]; intro kq
        intro a W K hC hd hK
        have d1 : a.tmps[1]?.getD undef = .pointer (some ⟨w.heap.size, 0, none⟩) := hd 1 (by decide)
        refine wpOp_plain rfl rfl ?_
        obtain ⟨x0, x1, x2, x3, x4, x5, x6, x7, x8, xf⟩ := BlkAt.c9 hC.2.1
        go_wp2_with fail
        exact hK _ _ (Fr.refl _ _) hC rfl
      · rw [if_neg (by decide)]; intro kq
        intro a W K hC hd hK
        have d32 : _ = _ := hd 32 (by decide)
        refine wpOp_plain rfl rfl ?_
        obtain ⟨x0, x1, x2, x3, x4, x5, x6, x7, x8, xf⟩ := BlkAt.c9 hC.2.1
        go_wp2_with fail
        exact hK _ _ (Fr.refl _ _) hC rfl
      · rw [if_pos (by decide)]
        intro a W K hC hd hK
        replace hC : (fun q W => Fr (upB n0) w2 W ∧ BlkAt W w.heap.size 61 #[.int .u64 seq, .int .u64 view, .int .u64 normal, .int .u64 gen, .int .u8 half, .int .u8 slot, .int .u64 base, .int .u32 size, .int .u32 sum] ∧ WrAt W (upB n0) n0 ([p4, p5, p6, p7, p8, p9].getD q [])) 2 W := hC
        have d31 : a.tmps[31]?.getD undef = .pointer (some ⟨n0, 0, none⟩) := hd 31 (by decide)
        have d33 : _ = _ := hd 33 (by decide)
        refine wpOp_plain rfl rfl ?_
        obtain ⟨x0, x1, x2, x3, x4, x5, x6, x7, x8, xf⟩ := BlkAt.c9 hC.2.1
        go_wp2_with fail
        refine (eight_calls W (upB n0) n0 p6 base hC.2.2 (by have := HL.out; omega)).mono ?_
        rintro e9 w9 ⟨rfl, h9, f9⟩
        rw [HP7.out] at h9
        exact hK _ _ f9 ⟨hC.1.then' f9, hC.2.1.fr f9 (fun h => by unfold upB at h; omega), h9.upnU (by have := hC.1.size; omega)⟩ rfl
      · rw [if_neg (by decide)]; intro kq
        intro a W K hC hd hK
        have d1 : a.tmps[1]?.getD undef = .pointer (some ⟨w.heap.size, 0, none⟩) := hd 1 (by decide)
        refine wpOp_plain rfl rfl ?_
        obtain ⟨x0, x1, x2, x3, x4, x5, x6, x7, x8, xf⟩ := BlkAt.c9 hC.2.1
        go_wp2_with fail
        exact hK _ _ (Fr.refl _ _) hC rfl
      · rw [if_neg (by decide)]; intro kq
        intro a W K hC hd hK
        have d35 : _ = _ := hd 35 (by decide)
        refine wpOp_plain rfl rfl ?_
        obtain ⟨x0, x1, x2, x3, x4, x5, x6, x7, x8, xf⟩ := BlkAt.c9 hC.2.1
        go_wp2_with fail
        exact hK _ _ (Fr.refl _ _) hC rfl
      · rw [if_pos (by decide)]
        intro a W K hC hd hK
        replace hC : (fun q W => Fr (upB n0) w2 W ∧ BlkAt W w.heap.size 61 #[.int .u64 seq, .int .u64 view, .int .u64 normal, .int .u64 gen, .int .u8 half, .int .u8 slot, .int .u64 base, .int .u32 size, .int .u32 sum] ∧ WrAt W (upB n0) n0 ([p4, p5, p6, p7, p8, p9].getD q [])) 3 W := hC
        have d34 : a.tmps[34]?.getD undef = .pointer (some ⟨n0, 0, none⟩) := hd 34 (by decide)
        have d36 : _ = _ := hd 36 (by decide)
        refine wpOp_plain rfl rfl ?_
        obtain ⟨x0, x1, x2, x3, x4, x5, x6, x7, x8, xf⟩ := BlkAt.c9 hC.2.1
        go_wp2_with fail
        refine (four_calls W (upB n0) n0 p7 size hC.2.2 HH8.out (by have := HL.out; omega)).mono ?_
        rintro e9 w9 ⟨rfl, h9, f9⟩
        rw [HP8.out] at h9
        exact hK _ _ f9 ⟨hC.1.then' f9, hC.2.1.fr f9 (fun h => by unfold upB at h; omega), h9.upnU (by have := hC.1.size; omega)⟩ rfl
      · rw [if_neg (by decide)]; intro kq
        intro a W K hC hd hK
        have d1 : a.tmps[1]?.getD undef = .pointer (some ⟨w.heap.size, 0, none⟩) := hd 1 (by decide)
        refine wpOp_plain rfl rfl ?_
        obtain ⟨x0, x1, x2, x3, x4, x5, x6, x7, x8, xf⟩ := BlkAt.c9 hC.2.1
        go_wp2_with fail
        exact hK _ _ (Fr.refl _ _) hC rfl
      · rw [if_neg (by decide)]; intro kq
        intro a W K hC hd hK
        have d38 : _ = _ := hd 38 (by decide)
        refine wpOp_plain rfl rfl ?_
        obtain ⟨x0, x1, x2, x3, x4, x5, x6, x7, x8, xf⟩ := BlkAt.c9 hC.2.1
        go_wp2_with fail
        exact hK _ _ (Fr.refl _ _) hC rfl
      · rw [if_pos (by decide)]
        intro a W K hC hd hK
        replace hC : (fun q W => Fr (upB n0) w2 W ∧ BlkAt W w.heap.size 61 #[.int .u64 seq, .int .u64 view, .int .u64 normal, .int .u64 gen, .int .u8 half, .int .u8 slot, .int .u64 base, .int .u32 size, .int .u32 sum] ∧ WrAt W (upB n0) n0 ([p4, p5, p6, p7, p8, p9].getD q [])) 4 W := hC
        have d37 : a.tmps[37]?.getD undef = .pointer (some ⟨n0, 0, none⟩) := hd 37 (by decide)
        have d39 : _ = _ := hd 39 (by decide)
        refine wpOp_plain rfl rfl ?_
        obtain ⟨x0, x1, x2, x3, x4, x5, x6, x7, x8, xf⟩ := BlkAt.c9 hC.2.1
        go_wp2_with fail
        refine (four_calls W (upB n0) n0 p8 sum hC.2.2 HH9.out (by have := HL.out; omega)).mono ?_
        rintro e9 w9 ⟨rfl, h9, f9⟩
        rw [HP9.out] at h9
        exact hK _ _ f9 ⟨hC.1.then' f9, hC.2.1.fr f9 (fun h => by unfold upB at h; omega), h9.upnU (by have := hC.1.size; omega)⟩ rfl
    · intro vs w3 fw3 cw3 hV
      clear hV
      simp only [putL, Act.put, Nat.reduceAdd, List.setIfInBounds_toArray, List.set_cons_zero, List.set_cons_succ]
      have hw3 : WrAt w3 (upB n0) n0 p9 := cw3.2.2
      have F3 : Fr noB w w3 := F2.trans fw3 (fun i hi h => by unfold upB at h; omega)
      clear cw3 fw3 hb2 hw2 F2
      have h50 : p9.length = 50 := by have := HL.out; omega
      clear HL HSL
      go_wp2_with fail
      refine (newT_calls w3).mono ?_
      rintro ed w4 ⟨rfl, ht4, f4, hs5⟩
      have hw4 := hw3.fr f4 (fun _ _ _ => id)
      have F4 := F3.then' f4
      clear f4
      go_wp2_with fail
      refine (bytes_calls w4 _ _ p9 hw4 (by omega)).mono ?_
      rintro ed w5 ⟨A5, c5, rfl, h5, f5⟩
      have ht5 := ht4.fr f5 id
      have F5 := F4.then' f5
      have hr5 := own_row h5
      have hnil := own_nilU h5
      have hlow : ∀ a, A5 = some a → 0 < 50 → a.block ≠ w3.heap.size := fun a e _ => by
        have := (h5.lt a.block (by subst e; rfl)).1
        omega
      clear h5 f5 hw4 hw3
      go_wp2_with fail
      refine (seal_calls w5 w3.heap.size false A5 50 c5 p9 ht5 hr5 (hid h50) (by omega) (fun e => by have := hnil e; omega) hlow).mono ?_
      rintro ed w6 ⟨A6, c6, rfl, h6, -, f6⟩
      have F6 : Fr noB w w6 := F5.trans f6 (fun i hi h => by unfold eqB at h; have := F3.size; omega)
      have h6' := own_mono h6 (b' := w.heap.size) (fun g hg => Nat.le_trans F5.size (h6.lt g hg).1)
      clear h6 f6
      go_wp2_with fail
      go_ret2
      rw [HB.out]
      exact ⟨A6, c6, rfl, h6', F6⟩
end Go.Proofs.Ytnkdlmmdaagonaa
