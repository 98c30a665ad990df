/- slot.Put where it may not be; the chapter's example (24). -/
import Derived.Test.YtnkdlmmdaagonaaSlot2
import Derived.Test.YtnkdlmmdaagonaaSlot4
namespace Go.Proofs.Ytnkdlmmdaagonaa
open Go.RowKit Go.Shelf
attribute [local go_sem] Oper.semAt_some
/-- Put, whatever the slot and the bytes. -/
def putA (d : DevV) (s : Nat) (bs : List UInt8) : DevV × Nat × Nat × Nat := if checkT s bs.length ≠ 0 then (d, 0, 0, checkT s bs.length) else putS d s bs
set_option maxRecDepth 100000 in
set_option maxHeartbeats 3200000 in
theorem slotPut_no (w : World) (p : Nat) (d : DevV) (s : Nat) (A : Option Addr) (n c : Nat) (h : DevAt w p d) (hc : checkT s n ≠ 0) :
    Calls Try.prog 15 #[.pointer (some ⟨p, 0, none⟩), .int .u8 s, .slice A n c] w (SlotPPost w p (d, 0, 0, checkT s n)) := by
  have HRES : Hid (Try.f15.results = #[.cell 6 34, .cell 7 34, .cell 8 31]) := by unfold Hid; kernel_rfl
  have hck := fun W => slotCheck_calls W s n
  have t1 : ((checkT s n : Int) != 0) = true := by rw [bne_iff_ne]; omega
  generalize checkT s n = cv at *
  refine (callsIn_wide (n := 6)).1 ?_
  refine callsIn_of_wp_marks Try.func15 rfl trivial ?_ rfl
  simp only [Try.ntmps15, List.size_toArray, List.length_cons, List.length_nil, Nat.reduceAdd, Nat.reduceSub, Array.replicate_succ, Array.replicate_zero, List.push_toArray, List.append_toArray, List.nil_append, List.cons_append]
  have f0 : Fr noB w ((((w.alloc (.cells #[.pointer (some ⟨p, 0, none⟩)] 29)).alloc (.cells #[.int .u32 0] 34)).alloc (.cells #[.int .u32 0] 34)).alloc (.cells #[.int .i64 0] 31)) := ((((Fr.refl noB w).alloc _).alloc _).alloc _).alloc _
  have b6 := ((BlkAt.new (w.alloc (.cells #[.pointer (some ⟨p, 0, none⟩)] 29)) #[.int .u32 0] 34).al (.cells #[.int .u32 0] 34)).al (.cells #[.int .i64 0] 31)
  have b7 := (BlkAt.new ((w.alloc (.cells #[.pointer (some ⟨p, 0, none⟩)] 29)).alloc (.cells #[.int .u32 0] 34)) #[.int .u32 0] 34).al (.cells #[.int .i64 0] 31)
  have b8 := BlkAt.new (((w.alloc (.cells #[.pointer (some ⟨p, 0, none⟩)] 29)).alloc (.cells #[.int .u32 0] 34)).alloc (.cells #[.int .u32 0] 34)) #[.int .i64 0] 31
  simp only [al_size] at b6 b7 b8
  refine wpIn_wide.2 ?_
  go_wp2_with fail
  refine (hck _).mono ?_
  rintro e w' ⟨rfl, rfl⟩
  generalize ((((w.alloc (.cells #[.pointer (some ⟨p, 0, none⟩)] 29)).alloc (.cells #[.int .u32 0] 34)).alloc (.cells #[.int .u32 0] 34)).alloc (.cells #[.int .i64 0] 31)) = W1 at *
  clear hck
  obtain ⟨x6, xf6⟩ := BlkAt.c1 b6
  obtain ⟨x7, xf7⟩ := BlkAt.c1 b7
  obtain ⟨x8, xf8⟩ := BlkAt.c1 b8
  have g1 := fr_set1 W1 (w.heap.size + 1) 0 (.int .u32 0)
  have g2 := fr_set1 (W1.setCell ⟨w.heap.size + 1, 0, none⟩ (.int .u32 0)) (w.heap.size + 1 + 1) 0 (.int .u32 0)
  have g3 := fr_set1 ((W1.setCell ⟨w.heap.size + 1, 0, none⟩ (.int .u32 0)).setCell ⟨w.heap.size + 1 + 1, 0, none⟩ (.int .u32 0)) (w.heap.size + 1 + 1 + 1) 0 (.int .i64 cv)
  have n6 := ((b6.set 0 (.int .u32 0)).fr g2 (by unfold eqB; omega)).fr g3 (by unfold eqB; omega)
  have n7 := ((b7.fr g1 (by unfold eqB; omega)).set 0 (.int .u32 0)).fr g3 (by unfold eqB; omega)
  have n8 := ((b8.fr g1 (by unfold eqB; omega)).fr g2 (by unfold eqB; omega)).set 0 (.int .i64 cv)
  have FF : Fr noB w _ := ((f0.trans g1 (fun i hi h => by unfold eqB at h; omega)).trans g2 (fun i hi h => by unfold eqB at h; omega)).trans g3 (fun i hi h => by unfold eqB at h; omega)
  clear g1 g2 g3 b6 b7 b8 f0
  go_wp2_with fail
  generalize (((W1.setCell ⟨w.heap.size + 1, 0, none⟩ (.int .u32 0)).setCell ⟨w.heap.size + 1 + 1, 0, none⟩ (.int .u32 0)).setCell ⟨w.heap.size + 1 + 1 + 1, 0, none⟩ (.int .i64 cv)) = Wf at *
  have e1 : Wf.cell? ⟨w.heap.size + 1, 0, none⟩ = some (.int .u32 0) := BlkAt.cell n6 rfl
  have e2 : Wf.cell? ⟨w.heap.size + 1 + 1, 0, none⟩ = some (.int .u32 0) := BlkAt.cell n7 rfl
  have e3 : Wf.cell? ⟨w.heap.size + 1 + 1 + 1, 0, none⟩ = some (.int .i64 cv) := BlkAt.cell n8 rfl
  have hr := HRES.out
  exact ⟨.tuple #[.int .u32 0, .int .u32 0, .int .i64 cv], by simp [results, hr, go_sem, e1, e2, e3], rfl, h.fr0 FF, DStep.of0 h FF⟩
theorem slotPut_calls (w : World) (p : Nat) (d : DevV) (s : Nat) (A : Option Addr) (n c : Nat) (bs : List UInt8) (h : DevAt w p d) (hrow : RowAt w A (bcells bs)) (hl : bs.length = n) (hnc : n ≤ c) (hcm : c ≤ 9223372036854775807) (hnil : A = none → n = 0 ∧ c = 0) (hbB : ∀ a, A = some a → 0 < n → ¬ devB p w a.block) (hwl : d.wait.length ≤ 1000000) :
    Calls Try.prog 15 #[.pointer (some ⟨p, 0, none⟩), .int .u8 s, .slice A n c] w (SlotPPost w p (putA d s bs)) := by
  unfold putA
  rw [hl]
  by_cases hc : checkT s n ≠ 0
  · rw [if_pos hc]; exact slotPut_no w p d s A n c h hc
  · rw [if_neg hc]
    have hs : s ≤ 1 ∧ n ≤ 5632 := by
      unfold checkT at hc
      by_cases h1 : 1 < s
      · rw [if_pos h1] at hc; exact absurd (by decide) hc
      · rw [if_neg h1] at hc
        by_cases h2 : 5632 < n
        · rw [if_pos h2] at hc; exact absurd (by decide) hc
        · omega
    exact slotPut_ok w p d s A n c bs h hs.1 hs.2 hrow hl hnc hcm hnil hbB hwl
/-- The example's values. -/
def abcB : List UInt8 := [97, 98, 99]
def liv24 : DevV := { newD 122 with wait := [(78, pad abcB)] }
theorem put_nil (d : DevV) : putA d 0 [] = (d, 0, 0, 0) := by
  have : crcSum [] = 0 := by decide
  unfold putA putS
  rw [if_neg (by decide)]
  simp [putQ, this]
theorem put_abc : putA (newD 122) 1 abcB = (liv24, 3, crcSum abcB, 0) := by
  have hw : writeD (newD 122) ((firstS 1 + 0 : Nat) : Int) (partS abcB 0) = (liv24, 0) := by
    have hk : (newD 122).kept.length = 122 := by simp [newD]
    have hth : thereE (newD 122) ((firstS 1 + 0 : Nat) : Int) = 0 := by
      unfold thereE
      rw [if_neg (by decide), if_neg (by rw [hk]; unfold firstS; omega)]
    unfold writeD
    rw [hth, if_neg (by decide), if_neg (by decide)]
    rfl
  unfold putA putS
  rw [if_neg (by decide)]
  have e : putQ (newD 122) (firstS 1) abcB (List.range ((abcB.length + 127) / 128)) = (liv24, 0, 1) := by
    show stepQ (firstS 1) abcB (newD 122, 0, 0) 0 = _
    unfold stepQ
    rw [if_neg (by simp), hw]
  rw [e]
  rfl
theorem get_abc : getS liv24 1 3 (crcSum abcB) = (abcB, 0) := by
  have hb : blockD liv24 78 = pad abcB := rfl
  have ho : (outB liv24 (firstS 1) ((3 + 127) / 128)).take 3 = abcB := by
    show (blockD liv24 (34 + 44 * 1 + 0) ++ []).take 3 = abcB
    rw [List.append_nil, show 34 + 44 * 1 + 0 = 78 from rfl, hb]
    rfl
  unfold getS
  rw [if_neg (by decide), if_neg (by decide), ho, if_neg (by simp)]
end Go.Proofs.Ytnkdlmmdaagonaa
