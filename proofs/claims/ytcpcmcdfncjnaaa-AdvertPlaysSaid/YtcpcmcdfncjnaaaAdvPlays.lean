/- interrexlaw16.AdvertPlays: the walk. -/
import Derived.Test.YtcpcmcdfncjnaaaRefAdv3
namespace Go.Proofs.Ytcpcmcdfncjnaaa
open Go.RowKit

theorem RdAt.cutA {w : World} {S : Nat → Prop} {p : Nat} {r : Rd} (h : RdAt w S p r) : RdAt w (fun k => S k ∧ k < w.heap.size) p r := by
  obtain ⟨A, n, c, T, h⟩ := h
  refine ⟨A, n, c, T, h.len, h.heap, h.row, h.cap, h.max, h.nil, ⟨h.inS, (Array.getElem?_eq_some_iff.1 h.heap).1⟩, fun h0 a e => ⟨⟨(h.rowS h0 a e).1, ?_⟩, (h.rowS h0 a e).2⟩, h.err⟩
  have := h.row
  rw [e] at this
  exact this.lt (by rw [bcells_length, h.len.out]; exact h0)
theorem fr_set8 (w : World) (b : Nat) (u0 u1 u2 u3 u4 u5 u6 u7 : Value) : Fr (eqB b) w ((((((((w.setCell ⟨b, 0, none⟩ u0).setCell ⟨b, 1, none⟩ u1).setCell ⟨b, 2, none⟩ u2).setCell ⟨b, 3, none⟩ u3).setCell ⟨b, 4, none⟩ u4).setCell ⟨b, 5, none⟩ u5).setCell ⟨b, 6, none⟩ u6).setCell ⟨b, 7, none⟩ u7) :=
  (((((((((Fr.refl (eqB b) w).setCell (p := ⟨b, 0, none⟩) (Or.inl rfl) _).setCell (p := ⟨b, 1, none⟩) (Or.inl rfl) _).setCell (p := ⟨b, 2, none⟩) (Or.inl rfl) _).setCell (p := ⟨b, 3, none⟩) (Or.inl rfl) _).setCell (p := ⟨b, 4, none⟩) (Or.inl rfl) _).setCell (p := ⟨b, 5, none⟩) (Or.inl rfl) _).setCell (p := ⟨b, 6, none⟩) (Or.inl rfl) _).setCell (p := ⟨b, 7, none⟩) (Or.inl rfl) _)
theorem set8 {w : World} {b : Nat} {x0 x1 x2 x3 x4 x5 x6 x7 u0 u1 u2 u3 u4 u5 u6 u7 : Value} {t : TypeId} (h : w.heap[b]? = some (.cells #[x0, x1, x2, x3, x4, x5, x6, x7] t (0, 0))) : ((((((((w.setCell ⟨b, 0, none⟩ u0).setCell ⟨b, 1, none⟩ u1).setCell ⟨b, 2, none⟩ u2).setCell ⟨b, 3, none⟩ u3).setCell ⟨b, 4, none⟩ u4).setCell ⟨b, 5, none⟩ u5).setCell ⟨b, 6, none⟩ u6).setCell ⟨b, 7, none⟩ u7).heap[b]? = some (.cells #[u0, u1, u2, u3, u4, u5, u6, u7] t (0, 0)) := by
  simp [World.setCell, Array.getElem?_modify, h]

set_option maxRecDepth 100000 in
set_option maxHeartbeats 12800000 in
theorem advPlays_walk (w : World) (a0 : Int) (A : Option Addr) (n c : Nat) (l : List Act16) (rr : Nat) (h : RowAt w A (l.flatMap Act16.cells)) (HN : Hid (l.length = n)) (hn : n ≤ maxLen) (hok : ∀ i ∈ l, i.ok) (hrr256 : rr < 256) :
    Calls Try.prog 10 #[.int .i64 a0, .slice A n c, .int .u8 rr] w (BoolPost w true) := by
  have hlv := @lives16_calls
  unfold maxLen at hn
  by_cases h40 : 40 < n
  · have t40 : decide (40 < (n : Int)) = true := by simp; omega
    go_enter Try.func10, Try.ntmps10
    go_wp2_with fail
    refine (hlv _).mono ?_
    rintro e w1 ⟨rfl, f1⟩
    go_wp2_with fail
    refine (hlv _).mono ?_
    rintro e w2 ⟨rfl, f2⟩
    go_wp2_with fail
    go_ret
    exact ⟨rfl, f1.then' f2⟩
  · have t40 : decide (40 < (n : Int)) = false := by simp; omega
    have hrt := right_calls
    cases hrb : rightB a0 with
    | false =>
      have hnew := fun W => newB_no W a0 hrb
      have HRB := hid hrb; clear hrb
      have hrt2 := fun W => hrt W a0
      rw [HRB.out] at hrt2
      clear hrt
      go_enter Try.func10, Try.ntmps10
      go_wp2_with fail
      refine (hlv _).mono ?_
      rintro e w1 ⟨rfl, f1⟩
      go_wp2_with fail
      refine (hnew _).mono ?_
      rintro e w2 ⟨rfl, rfl⟩
      go_wp2_with fail
      refine (hrt2 _).mono ?_
      rintro e w2 ⟨rfl, rfl⟩
      go_wp2_with fail
      go_ret
      exact ⟨rfl, f1⟩
    | true =>
      have hm : ∃ m : Nat, a0 = m ∧ (m = 3 ∨ m = 5 ∨ m = 7) := by
        simp only [rightB, Bool.or_eq_true, beq_iff_eq] at hrb
        rcases hrb with (h | h) | h
        · exact ⟨3, h, by simp⟩
        · exact ⟨5, h, by simp⟩
        · exact ⟨7, h, by simp⟩
      obtain ⟨m, rfl, hm3⟩ := hm
      have hm7 : m ≤ 7 := by omega
      have hrt2 := fun W => hrt W m
      rw [hrb] at hrt2
      have HRBB := hid hrb
      have HM3 := hid hm3
      clear hrt hrb hm3
      go_enter Try.func10, Try.ntmps10
      go_wp2_with fail
      refine (hlv _).mono ?_
      rintro e w1 ⟨rfl, f1⟩
      have hnew := newB_yes w1 m HM3.out
      go_wp2_with fail
      refine hnew.mono ?_
      clear hnew
      rintro e w2 ⟨rfl, hbo, f2⟩
      have f02 : Fr noB w w2 := f1.then' f2
      have hbo2 := hbo.cut
      have z1 := f1.size
      have z2 := f2.size
      generalize hp : w1.heap.size + 1 = p at *
      have HP := hid hp; clear hp
      obtain ⟨S, hS⟩ : ∃ S : Nat → Prop, S = fun k => upB w1.heap.size k ∧ k < w2.heap.size := ⟨_, rfl⟩
      have hS1 : ∀ k, S k → w.heap.size ≤ k ∧ k < w2.heap.size := fun k hk => by subst hS; exact ⟨Nat.le_trans z1 hk.1, hk.2⟩
      replace hbo : BoAt w2 S p (List.replicate m 0) := by subst hS; exact hbo2
      clear hS hbo2 f1 f2
      go_wp2_with fail
      refine (hrt2 _).mono ?_
      rintro e w2 ⟨rfl, rfl⟩
      clear hrt2
      have f3 : Fr (upB w.heap.size) w (w2.alloc (.cells #[.int .i64 m, .int .u8 0, .int .u8 0, .int .u8 0, .int .u8 0, .int .u8 0, .int .u8 0, .int .u8 0] 86)) := (f02.alloc _).up0 _
      have hbo3 := hbo.fr0 ((Fr.refl noB w2).alloc (.cells #[.int .i64 m, .int .u8 0, .int .u8 0, .int .u8 0, .int .u8 0, .int .u8 0, .int .u8 0, .int .u8 0] 86))
      have z3 : (w2.alloc (.cells #[.int .i64 m, .int .u8 0, .int .u8 0, .int .u8 0, .int .u8 0, .int .u8 0, .int .u8 0, .int .u8 0] 86)).heap.size = w2.heap.size + 1 := by simp
      have hrb3 : (w2.alloc (.cells #[.int .i64 m, .int .u8 0, .int .u8 0, .int .u8 0, .int .u8 0, .int .u8 0, .int .u8 0, .int .u8 0] 86)).heap[w2.heap.size]? = some (.cells (rbC m [0, 0, 0, 0, 0, 0, 0]).toArray 86 (0, 0)) := heap_alloc_new w2 _
      go_wp2_with fail
      generalize w2.alloc (.cells #[.int .i64 m, .int .u8 0, .int .u8 0, .int .u8 0, .int .u8 0, .int .u8 0, .int .u8 0, .int .u8 0] 86) = w3 at *
      generalize hwb : w2.heap.size = wb at *
      have HWB := hid hwb; clear hwb hbo f02
      have hww : w.heap.size ≤ wb := by omega
      go_loopw [7, 35] (fun v i wr => ∃ k p S L, k ≤ n ∧ i = .int .i64 (k : Nat) ∧ v = .pointer (some ⟨p, 0, none⟩) ∧ wr.heap[wb]? = some (.cells (rbC m L).toArray 86 (0, 0)) ∧ BoAt wr S p (L.take m) ∧ L.length = 7 ∧ (∀ x ∈ L, x ≤ 3) ∧ ¬ S wb ∧ (∀ k, S k → w.heap.size ≤ k ∧ k < wr.heap.size) ∧ Fr (upB w.heap.size) w wr) (fun _ i _ => n - (intOf i).toNat)
      case atStart =>
        refine ⟨0, p, S, [0, 0, 0, 0, 0, 0, 0], Nat.zero_le _, rfl, rfl, hrb3, ?_, rfl, by decide, fun h => Nat.lt_irrefl _ (hS1 _ h).2, fun k hk => ⟨(hS1 k hk).1, by have := (hS1 k hk).2; omega⟩, f3⟩
        have e : ([0, 0, 0, 0, 0, 0, 0] : List Nat).take m = List.replicate m 0 := by rcases HM3.out with h | h | h <;> rw [h] <;> rfl
        rw [e]; exact hbo3
      case round =>
        clear hbo3 hrb3 f3 z3 hS1 z2
        obtain ⟨k, p, S, L, hk, rfl, rfl, hrb, hbo, hL, hl3, hSwb, hSS, hf⟩ := hrel
        by_cases hkn : k < n
        · obtain ⟨it, hit⟩ : ∃ it, l[k]? = some it := ⟨_, List.getElem?_eq_getElem (by rw [HN.out]; exact hkn)⟩
          obtain ⟨ad, rfl⟩ := h.some_flat (by simp [Act16.cells]) hit
          obtain ⟨c0, c1, c2⟩ := ((h.seg 3 Act16.cells_length hit).fr hf (by
            have := (h.seg 3 Act16.cells_length hit) 0 _ rfl
            have := World.block_lt_of_cell? w _ this
            rw [add_block] at this
            unfold upB; omega)).c3
          obtain ⟨hi1, hi2, hi3⟩ := hok it (List.mem_of_getElem? hit)
          clear hit
          obtain ⟨ik, iN, ir⟩ := it
          simp only [] at hi1 hi2 hi3 c0 c1 c2
          have hwlt : wb < wr.heap.size := (Array.getElem?_eq_some_iff.1 hrb).1
          have hbo2 := hbo.fr0 ((Fr.refl noB wr).alloc (.cells #[.int .u8 (ik : Nat), .int .u8 (iN : Nat), .int .u8 (ir : Nat)] 42))
          have hrb2 := ((Fr.refl noB wr).alloc (.cells #[.int .u8 (ik : Nat), .int .u8 (iN : Nat), .int .u8 (ir : Nat)] 42)).heap hrb id
          have hf2 : Fr (upB w.heap.size) w (wr.alloc (.cells #[.int .u8 (ik : Nat), .int .u8 (iN : Nat), .int .u8 (ir : Nat)] 42)) := hf.alloc _
          have hit2 : (wr.alloc (.cells #[.int .u8 (ik : Nat), .int .u8 (iN : Nat), .int .u8 (ir : Nat)] 42)).heap[wr.heap.size]? = some (.cells #[.int .u8 (ik : Nat), .int .u8 (iN : Nat), .int .u8 (ir : Nat)] 42 (0, 0)) := heap_alloc_new wr _
          have zb : (wr.alloc (.cells #[.int .u8 (ik : Nat), .int .u8 (iN : Nat), .int .u8 (ir : Nat)] 42)).heap.size = wr.heap.size + 1 := by simp
          have HSB : Hid (¬ S wr.heap.size) := fun h => Nat.lt_irrefl _ (hSS _ h).2
          have HW := hid hSwb
          have HSS : Hid (∀ k, S k → w.heap.size ≤ k ∧ k < wr.heap.size + 1) := fun k hk => ⟨(hSS k hk).1, by have := (hSS k hk).2; omega⟩
          have HL3 := hid hl3
          clear hbo hrb hf hSwb hSS hl3
          rcases (show ik % 3 = 0 ∨ ik % 3 = 1 ∨ ik % 3 = 2 by omega) with h3 | h3 | h3
          · have t0 : ((ik : Int) % 3 == 0) = true := by simp; omega
            clear h3
            obtain ⟨x0, x1, x2, x3, x4, x5, x6, rfl⟩ := list7 hL
            have hrb2' : (wr.alloc (.cells #[.int .u8 (ik : Nat), .int .u8 (iN : Nat), .int .u8 (ir : Nat)] 42)).heap[wb]? = some (.cells #[.int .i64 m, .int .u8 x0, .int .u8 x1, .int .u8 x2, .int .u8 x3, .int .u8 x4, .int .u8 x5, .int .u8 x6] 86 (0, 0)) := hrb2
            have hnt := noteR_calls (wr.alloc (.cells #[.int .u8 (ik : Nat), .int .u8 (iN : Nat), .int .u8 (ir : Nat)] 42)) m [x0, x1, x2, x3, x4, x5, x6] iN ir rfl hm7 hi2 hi3
            obtain ⟨g1, g2, g3⟩ := rNote_take m [x0, x1, x2, x3, x4, x5, x6] iN ir hm7
            have HBN := hid (And.intro g1 g2)
            have hl3' : ∀ x ∈ (rNote m [x0, x1, x2, x3, x4, x5, x6] iN ir).1, x ≤ 3 := fun x hx => by
              unfold rNote at hx
              split at hx
              · rcases List.mem_or_eq_of_mem_set hx with h1 | h1
                · exact HL3.out x h1
                · omega
              · exact HL3.out x hx
            have HL3' := hid hl3'
            clear g1 g2 hl3' HL3
            generalize (rNote m [x0, x1, x2, x3, x4, x5, x6] iN ir).1 = L' at *
            generalize hee : (rNote m [x0, x1, x2, x3, x4, x5, x6] iN ir).2 = ee at *
            clear hee
            obtain ⟨y0, y1, y2, y3, y4, y5, y6, rfl⟩ := list7 g3
            clear g3
            have HL3 := HL3'
            rw [show rbV m [x0, x1, x2, x3, x4, x5, x6] = .agg #[.int .i64 m, .int .u8 x0, .int .u8 x1, .int .u8 x2, .int .u8 x3, .int .u8 x4, .int .u8 x5, .int .u8 x6] from rfl, show rbV m [y0, y1, y2, y3, y4, y5, y6] = .agg #[.int .i64 m, .int .u8 y0, .int .u8 y1, .int .u8 y2, .int .u8 y3, .int .u8 y4, .int .u8 y5, .int .u8 y6] from rfl] at hnt
            have hnb := note_calls
            have cx0 : (wr.alloc (.cells #[.int .u8 (ik : Nat), .int .u8 (iN : Nat), .int .u8 (ir : Nat)] 42)).cell? ⟨wb, 0, none⟩ = some (.int .i64 m) := by rw [cell_of_row _ _ _ _ _ _ hrb2']; rfl
            have cx1 : (wr.alloc (.cells #[.int .u8 (ik : Nat), .int .u8 (iN : Nat), .int .u8 (ir : Nat)] 42)).cell? ⟨wb, 1, none⟩ = some (.int .u8 x0) := by rw [cell_of_row _ _ _ _ _ _ hrb2']; rfl
            have cx2 : (wr.alloc (.cells #[.int .u8 (ik : Nat), .int .u8 (iN : Nat), .int .u8 (ir : Nat)] 42)).cell? ⟨wb, 2, none⟩ = some (.int .u8 x1) := by rw [cell_of_row _ _ _ _ _ _ hrb2']; rfl
            have cx3 : (wr.alloc (.cells #[.int .u8 (ik : Nat), .int .u8 (iN : Nat), .int .u8 (ir : Nat)] 42)).cell? ⟨wb, 3, none⟩ = some (.int .u8 x2) := by rw [cell_of_row _ _ _ _ _ _ hrb2']; rfl
            have cx4 : (wr.alloc (.cells #[.int .u8 (ik : Nat), .int .u8 (iN : Nat), .int .u8 (ir : Nat)] 42)).cell? ⟨wb, 4, none⟩ = some (.int .u8 x3) := by rw [cell_of_row _ _ _ _ _ _ hrb2']; rfl
            have cx5 : (wr.alloc (.cells #[.int .u8 (ik : Nat), .int .u8 (iN : Nat), .int .u8 (ir : Nat)] 42)).cell? ⟨wb, 5, none⟩ = some (.int .u8 x4) := by rw [cell_of_row _ _ _ _ _ _ hrb2']; rfl
            have cx6 : (wr.alloc (.cells #[.int .u8 (ik : Nat), .int .u8 (iN : Nat), .int .u8 (ir : Nat)] 42)).cell? ⟨wb, 6, none⟩ = some (.int .u8 x5) := by rw [cell_of_row _ _ _ _ _ _ hrb2']; rfl
            have cx7 : (wr.alloc (.cells #[.int .u8 (ik : Nat), .int .u8 (iN : Nat), .int .u8 (ir : Nat)] 42)).cell? ⟨wb, 7, none⟩ = some (.int .u8 x6) := by rw [cell_of_row _ _ _ _ _ _ hrb2']; rfl
            have ci0 : (wr.alloc (.cells #[.int .u8 (ik : Nat), .int .u8 (iN : Nat), .int .u8 (ir : Nat)] 42)).cell? ⟨wr.heap.size, 0, none⟩ = some (.int .u8 (ik : Nat)) := by rw [cell_of_row _ _ _ _ _ _ hit2]; rfl
            have ci1 : (wr.alloc (.cells #[.int .u8 (ik : Nat), .int .u8 (iN : Nat), .int .u8 (ir : Nat)] 42)).cell? ⟨wr.heap.size, 1, none⟩ = some (.int .u8 (iN : Nat)) := by rw [cell_of_row _ _ _ _ _ _ hit2]; rfl
            have ci2 : (wr.alloc (.cells #[.int .u8 (ik : Nat), .int .u8 (iN : Nat), .int .u8 (ir : Nat)] 42)).cell? ⟨wr.heap.size, 2, none⟩ = some (.int .u8 (ir : Nat)) := by rw [cell_of_row _ _ _ _ _ _ hit2]; rfl
            go_wp2_with fail
            refine hnt.mono ?_
            rintro e w5 ⟨rfl, f5⟩
            have hrb5 : (w5.alloc (.cells #[.int .i64 m, .int .u8 y0, .int .u8 y1, .int .u8 y2, .int .u8 y3, .int .u8 y4, .int .u8 y5, .int .u8 y6] 86)).heap[wb]? = _ := ((f5.alloc (.cells #[.int .i64 m, .int .u8 y0, .int .u8 y1, .int .u8 y2, .int .u8 y3, .int .u8 y4, .int .u8 y5, .int .u8 y6] 86))).heap hrb2' id
            have hit5 : (w5.alloc (.cells #[.int .i64 m, .int .u8 y0, .int .u8 y1, .int .u8 y2, .int .u8 y3, .int .u8 y4, .int .u8 y5, .int .u8 y6] 86)).heap[wr.heap.size]? = _ := ((f5.alloc (.cells #[.int .i64 m, .int .u8 y0, .int .u8 y1, .int .u8 y2, .int .u8 y3, .int .u8 y4, .int .u8 y5, .int .u8 y6] 86))).heap hit2 id
            have z5 := f5.size
            clear hnt cx0 cx1 cx2 cx3 cx4 cx5 cx6 cx7 ci0 ci1 ci2
            have cx0 : (w5.alloc (.cells #[.int .i64 m, .int .u8 y0, .int .u8 y1, .int .u8 y2, .int .u8 y3, .int .u8 y4, .int .u8 y5, .int .u8 y6] 86)).cell? ⟨wb, 0, none⟩ = some (.int .i64 m) := by rw [cell_of_row _ _ _ _ _ _ hrb5]; rfl
            have cx1 : (w5.alloc (.cells #[.int .i64 m, .int .u8 y0, .int .u8 y1, .int .u8 y2, .int .u8 y3, .int .u8 y4, .int .u8 y5, .int .u8 y6] 86)).cell? ⟨wb, 1, none⟩ = some (.int .u8 x0) := by rw [cell_of_row _ _ _ _ _ _ hrb5]; rfl
            have cx2 : (w5.alloc (.cells #[.int .i64 m, .int .u8 y0, .int .u8 y1, .int .u8 y2, .int .u8 y3, .int .u8 y4, .int .u8 y5, .int .u8 y6] 86)).cell? ⟨wb, 2, none⟩ = some (.int .u8 x1) := by rw [cell_of_row _ _ _ _ _ _ hrb5]; rfl
            have cx3 : (w5.alloc (.cells #[.int .i64 m, .int .u8 y0, .int .u8 y1, .int .u8 y2, .int .u8 y3, .int .u8 y4, .int .u8 y5, .int .u8 y6] 86)).cell? ⟨wb, 3, none⟩ = some (.int .u8 x2) := by rw [cell_of_row _ _ _ _ _ _ hrb5]; rfl
            have cx4 : (w5.alloc (.cells #[.int .i64 m, .int .u8 y0, .int .u8 y1, .int .u8 y2, .int .u8 y3, .int .u8 y4, .int .u8 y5, .int .u8 y6] 86)).cell? ⟨wb, 4, none⟩ = some (.int .u8 x3) := by rw [cell_of_row _ _ _ _ _ _ hrb5]; rfl
            have cx5 : (w5.alloc (.cells #[.int .i64 m, .int .u8 y0, .int .u8 y1, .int .u8 y2, .int .u8 y3, .int .u8 y4, .int .u8 y5, .int .u8 y6] 86)).cell? ⟨wb, 5, none⟩ = some (.int .u8 x4) := by rw [cell_of_row _ _ _ _ _ _ hrb5]; rfl
            have cx6 : (w5.alloc (.cells #[.int .i64 m, .int .u8 y0, .int .u8 y1, .int .u8 y2, .int .u8 y3, .int .u8 y4, .int .u8 y5, .int .u8 y6] 86)).cell? ⟨wb, 6, none⟩ = some (.int .u8 x5) := by rw [cell_of_row _ _ _ _ _ _ hrb5]; rfl
            have cx7 : (w5.alloc (.cells #[.int .i64 m, .int .u8 y0, .int .u8 y1, .int .u8 y2, .int .u8 y3, .int .u8 y4, .int .u8 y5, .int .u8 y6] 86)).cell? ⟨wb, 7, none⟩ = some (.int .u8 x6) := by rw [cell_of_row _ _ _ _ _ _ hrb5]; rfl
            have zz0 : ∀ j, (w5.alloc (.cells #[.int .i64 m, .int .u8 y0, .int .u8 y1, .int .u8 y2, .int .u8 y3, .int .u8 y4, .int .u8 y5, .int .u8 y6] 86)).frozen? ⟨wb, j, none⟩ = false := fun j => by simp [World.frozen?, hrb5]
            have ci1 : (w5.alloc (.cells #[.int .i64 m, .int .u8 y0, .int .u8 y1, .int .u8 y2, .int .u8 y3, .int .u8 y4, .int .u8 y5, .int .u8 y6] 86)).cell? ⟨wr.heap.size, 1, none⟩ = some (.int .u8 (iN : Nat)) := by rw [cell_of_row _ _ _ _ _ _ hit5]; rfl
            have ci2 : (w5.alloc (.cells #[.int .i64 m, .int .u8 y0, .int .u8 y1, .int .u8 y2, .int .u8 y3, .int .u8 y4, .int .u8 y5, .int .u8 y6] 86)).cell? ⟨wr.heap.size, 2, none⟩ = some (.int .u8 (ir : Nat)) := by rw [cell_of_row _ _ _ _ _ _ hit5]; rfl
            have hne : ¬ (wb = wr.heap.size) := by omega
            have hne2 : ¬ (wr.heap.size = wb) := by omega
            have hset := set8 (u0 := .int .i64 m) (u1 := .int .u8 y0) (u2 := .int .u8 y1) (u3 := .int .u8 y2) (u4 := .int .u8 y3) (u5 := .int .u8 y4) (u6 := .int .u8 y5) (u7 := .int .u8 y6) hrb5
            have fset := fr_set8 (w5.alloc (.cells #[.int .i64 m, .int .u8 y0, .int .u8 y1, .int .u8 y2, .int .u8 y3, .int .u8 y4, .int .u8 y5, .int .u8 y6] 86)) wb (.int .i64 m) (.int .u8 y0) (.int .u8 y1) (.int .u8 y2) (.int .u8 y3) (.int .u8 y4) (.int .u8 y5) (.int .u8 y6)
            have hbo5 := (hbo2.fr0 (f5.alloc (.cells #[.int .i64 m, .int .u8 y0, .int .u8 y1, .int .u8 y2, .int .u8 y3, .int .u8 y4, .int .u8 y5, .int .u8 y6] 86))).fr fset (fun b _ hb he => HW.out (he ▸ hb))
            have hf5 : Fr (upB w.heap.size) w _ := (hf2.then' ((f5.alloc (.cells #[.int .i64 m, .int .u8 y0, .int .u8 y1, .int .u8 y2, .int .u8 y3, .int .u8 y4, .int .u8 y5, .int .u8 y6] 86)).up0 _)).then' (fset.mono fun b _ hb => by unfold eqB at hb; unfold upB; omega)
            have zs := fset.size
            have HSET := hid hset
            have HF5 := hid hf5
            have HBO5 := hid hbo5
            have HZS := hid zs
            clear hset hf5 hbo5 zs fset
            go_wp2_with fail
            have hnb := note_calls _ S p _ iN ir HBO5.out hi2 hi3
            rw [← HBN.out.1, ← HBN.out.2] at hnb
            clear cx0 cx1 cx2 cx3 cx4 cx5 cx6 cx7 ci1 ci2 hrb5 hit5 zz0
            have HSET2 := hid (rfl : [y0, y1, y2, y3, y4, y5, y6] = [y0, y1, y2, y3, y4, y5, y6])
            generalize ((((((((w5.alloc (.cells #[.int .i64 m, .int .u8 y0, .int .u8 y1, .int .u8 y2, .int .u8 y3, .int .u8 y4, .int .u8 y5, .int .u8 y6] 86)).setCell ⟨wb, 0, none⟩ (.int .i64 m)).setCell ⟨wb, 1, none⟩ (.int .u8 y0)).setCell ⟨wb, 2, none⟩ (.int .u8 y1)).setCell ⟨wb, 3, none⟩ (.int .u8 y2)).setCell ⟨wb, 4, none⟩ (.int .u8 y3)).setCell ⟨wb, 5, none⟩ (.int .u8 y4)).setCell ⟨wb, 6, none⟩ (.int .u8 y5)).setCell ⟨wb, 7, none⟩ (.int .u8 y6) = w6 at *
            refine hnb.mono ?_
            clear hnb
            rintro e wx ⟨rfl, hbo, fx⟩
            have HRB : Hid (wx.heap[wb]? = some (.cells (rbC m [y0, y1, y2, y3, y4, y5, y6]).toArray 86 (0, 0))) := fx.heap HSET.out HW.out
            have hfx : Fr (upB w.heap.size) w wx := HF5.out.then' (fx.mono fun b _ hb => (HSS.out b hb).1)
            have zx := fx.size
            replace HSS : Hid (∀ k, S k → w.heap.size ≤ k ∧ k < wx.heap.size) := fun k hk => ⟨(HSS.out k hk).1, by have := (HSS.out k hk).2; have := HZS.out; simp at this; omega⟩
            clear HSET HF5 HBO5 HZS fx f5 z5 zx hrb2 hbo2 hf2 hit2 hrb2' zb HSET2 HSB HBN HL3'
            have HX256 : Hid (∀ x ∈ [y0, y1, y2, y3, y4, y5, y6], x < 256) := fun x hx => by have := HL3.out x hx; omega
            have HL256 : Hid (∀ x ∈ [y0, y1, y2, y3, y4, y5, y6].take m, x < 256) := fun x hx => HX256.out x (List.mem_of_mem_take hx)
            have HLM : Hid (([y0, y1, y2, y3, y4, y5, y6].take m).length = m) := by unfold Hid; rw [List.length_take]; exact Nat.min_eq_left hm7
            have HL7 : Hid (([y0, y1, y2, y3, y4, y5, y6].take m).length ≤ 7) := by unfold Hid; rw [HLM.out]; exact hm7
            go_wp2_with fail
            refine wp_region_calm (R := Fr noB) (C := fun _ w' => Fr noB wx w') [false, false, false, false, false, false, false, false]
              [eqv (.pointer (some ⟨p, 0, none⟩)), eqv (.int .u8 rr), BytsU noB (lackB ([y0, y1, y2, y3, y4, y5, y6].take m) rr), eqv (.agg #[.int .i64 m, .int .u8 y0, .int .u8 y1, .int .u8 y2, .int .u8 y3, .int .u8 y4, .int .u8 y5, .int .u8 y6]), eqv (.int .u8 rr), BytsU noB (lackB ([y0, y1, y2, y3, y4, y5, y6].take m) rr), BytsU noB (lackB ([y0, y1, y2, y3, y4, y5, y6].take m) rr), BytsU noB (lackB ([y0, y1, y2, y3, y4, y5, y6].take m) rr)]
              (by kernel_rfl) (by kernel_rfl) (fun _ _ _ h1 h2 => h1.then' h2) ((Fr.refl _ _).drew) ((Fr.refl _ _).drew) (by kernel_rfl) ?_ ?_
            · refine ⟨?_, ?_, ?_, ?_, ?_, ?_, ?_, ?_, trivial⟩
              · rw [if_neg (by decide)]; intro kq
                exact calm_mv 7 rfl rfl (Or.inl rfl) (Fr.refl _) (by decide) fun v w hd => hd
              · rw [if_neg (by decide)]; intro kq
                exact calm_mv 2 rfl rfl (Or.inl rfl) (Fr.refl _) (by decide) fun v w hd => hd
              · rw [if_neg (by decide)]; intro kq
                intro a W K hC hd hK
                have d80 : a.tmps[80]?.getD undef = .pointer (some ⟨p, 0, none⟩) := hd 80 (by decide)
                have d81 : a.tmps[81]?.getD undef = .int .u8 rr := hd 81 (by decide)
                refine wpOp_plain rfl rfl ?_
                have hcl := lacking_calls W _ p _ rr (hbo.fr0 hC) hrr256 HL256.out HL7.out
                go_wp2_with fail
                refine hcl.mono ?_
                rintro e w' ⟨A4, c4, rfl, hr4, f4⟩
                exact hK _ _ f4 (hC.then' f4) ⟨A4, _, c4, rfl, rfl, own_row hr4, fun _ _ h => h⟩
              · rw [if_neg (by decide)]; intro kq
                intro a W K hC hd hK
                have d8 : a.tmps[8]?.getD undef = .pointer (some ⟨wb, 0, none⟩) := hd 8 (by decide)
                have hbx := hC.heap HRB.out id
                have c0 : W.cell? ⟨wb, 0, none⟩ = some (.int .i64 m) := by rw [cell_of_row _ _ _ _ _ _ hbx]; rfl
                have c1 : W.cell? ⟨wb, 1, none⟩ = some (.int .u8 y0) := by rw [cell_of_row _ _ _ _ _ _ hbx]; rfl
                have c2 : W.cell? ⟨wb, 2, none⟩ = some (.int .u8 y1) := by rw [cell_of_row _ _ _ _ _ _ hbx]; rfl
                have c3 : W.cell? ⟨wb, 3, none⟩ = some (.int .u8 y2) := by rw [cell_of_row _ _ _ _ _ _ hbx]; rfl
                have c4 : W.cell? ⟨wb, 4, none⟩ = some (.int .u8 y3) := by rw [cell_of_row _ _ _ _ _ _ hbx]; rfl
                have c5 : W.cell? ⟨wb, 5, none⟩ = some (.int .u8 y4) := by rw [cell_of_row _ _ _ _ _ _ hbx]; rfl
                have c6 : W.cell? ⟨wb, 6, none⟩ = some (.int .u8 y5) := by rw [cell_of_row _ _ _ _ _ _ hbx]; rfl
                have c7 : W.cell? ⟨wb, 7, none⟩ = some (.int .u8 y6) := by rw [cell_of_row _ _ _ _ _ _ hbx]; rfl
                refine wpOp_plain rfl rfl ?_
                go_wp2_with fail
                exact hK _ _ (Fr.refl _ _) hC rfl
              · rw [if_neg (by decide)]; intro kq
                exact calm_mv 2 rfl rfl (Or.inl rfl) (Fr.refl _) (by decide) fun v w hd => hd
              · rw [if_neg (by decide)]; intro kq
                intro a W K hC hd hK
                have d83 : a.tmps[83]?.getD undef = .agg #[.int .i64 m, .int .u8 y0, .int .u8 y1, .int .u8 y2, .int .u8 y3, .int .u8 y4, .int .u8 y5, .int .u8 y6] := hd 83 (by decide)
                have d84 : a.tmps[84]?.getD undef = .int .u8 rr := hd 84 (by decide)
                refine wpOp_plain rfl rfl ?_
                have hcl := lackR_calls W m [y0, y1, y2, y3, y4, y5, y6] rr rfl hm7 hrr256 HX256.out
                rw [show rbV m [y0, y1, y2, y3, y4, y5, y6] = .agg #[.int .i64 m, .int .u8 y0, .int .u8 y1, .int .u8 y2, .int .u8 y3, .int .u8 y4, .int .u8 y5, .int .u8 y6] from rfl] at hcl
                go_wp2_with fail
                refine hcl.mono ?_
                rintro e w' ⟨A4, c4, rfl, hr4, f4⟩
                exact hK _ _ f4 (hC.then' f4) ⟨A4, _, c4, rfl, rfl, own_row hr4, fun _ _ h => h⟩
              · rw [if_neg (by decide)]; intro kq
                exact calm_mv 82 rfl rfl (Or.inr rfl) (Fr.refl _) (by decide) fun v w hd => hd
              · rw [if_neg (by decide)]; intro kq
                exact calm_mv 85 rfl rfl (Or.inr rfl) (Fr.refl _) (by decide) fun v w hd => hd
            · intro vs w9 fw9 cw9 hV
              have v14 : (BytsU noB (lackB ([y0, y1, y2, y3, y4, y5, y6].take m) rr)).V (vs 6) w9 := hV 6 _ _ rfl rfl (by decide)
              have v15 : (BytsU noB (lackB ([y0, y1, y2, y3, y4, y5, y6].take m) rr)).V (vs 7) w9 := hV 7 _ _ rfl rfl (by decide)
              clear hV
              simp only [putL, Act.put, Nat.reduceAdd, List.setIfInBounds_toArray, List.set_cons_zero, List.set_cons_succ]
              obtain ⟨A1, m1, c1, e1, hm1, hr1, _⟩ := v14
              obtain ⟨A2, m2, c2, e2, hm2, hr2, _⟩ := v15
              simp only [e1, e2]
              have hbo9 := hbo.fr0 fw9
              have hsm := same16_calls w9 _ p m _ [y0, y1, y2, y3, y4, y5, y6] hbo9 HX256.out rfl hm7 rfl
              rw [show rbV m [y0, y1, y2, y3, y4, y5, y6] = .agg #[.int .i64 m, .int .u8 y0, .int .u8 y1, .int .u8 y2, .int .u8 y3, .int .u8 y4, .int .u8 y5, .int .u8 y6] from rfl] at hsm
              have hbx := fw9.heap HRB.out id
              have c10 : w9.cell? ⟨wb, 0, none⟩ = some (.int .i64 m) := by rw [cell_of_row _ _ _ _ _ _ hbx]; rfl
              have c11 : w9.cell? ⟨wb, 1, none⟩ = some (.int .u8 y0) := by rw [cell_of_row _ _ _ _ _ _ hbx]; rfl
              have c12 : w9.cell? ⟨wb, 2, none⟩ = some (.int .u8 y1) := by rw [cell_of_row _ _ _ _ _ _ hbx]; rfl
              have c13 : w9.cell? ⟨wb, 3, none⟩ = some (.int .u8 y2) := by rw [cell_of_row _ _ _ _ _ _ hbx]; rfl
              have c14 : w9.cell? ⟨wb, 4, none⟩ = some (.int .u8 y3) := by rw [cell_of_row _ _ _ _ _ _ hbx]; rfl
              have c15 : w9.cell? ⟨wb, 5, none⟩ = some (.int .u8 y4) := by rw [cell_of_row _ _ _ _ _ _ hbx]; rfl
              have c16 : w9.cell? ⟨wb, 6, none⟩ = some (.int .u8 y5) := by rw [cell_of_row _ _ _ _ _ _ hbx]; rfl
              have c17 : w9.cell? ⟨wb, 7, none⟩ = some (.int .u8 y6) := by rw [cell_of_row _ _ _ _ _ _ hbx]; rfl
              clear hbx
              go_wp2_with fail
              refine hsm.mono ?_
              rintro e w10 ⟨rfl, f10⟩
              clear hsm c10 c11 c12 c13 c14 c15 c16 c17
              have hcv1 := Try.toStr (hr1.fr0 f10) hm1 c1
              have hcv2 := Try.toStr (hr2.fr0 f10) hm2 c2
              have hal := all_calls w10 _ p _ rr (hbo9.fr0 f10) hrr256 HL256.out HL7.out
              have hlb := lackB_nil ([y0, y1, y2, y3, y4, y5, y6].take m) rr
              rw [hm2] at hlb
              have hself : ((mkS (lackB ([y0, y1, y2, y3, y4, y5, y6].take m) rr)).toList == (mkS (lackB ([y0, y1, y2, y3, y4, y5, y6].take m) rr)).toList) = true := by simp
              generalize lackB ([y0, y1, y2, y3, y4, y5, y6].take m) rr = lk at *
              have ht : ((m2 : Int) == 0) = allB' ([y0, y1, y2, y3, y4, y5, y6].take m) rr := by rw [Bool.eq_iff_iff, ← hlb]; simp
              generalize allB' ([y0, y1, y2, y3, y4, y5, y6].take m) rr = ta at *
              clear hlb hr1 hr2
              go_wp2_with fail
              refine hal.mono ?_
              rintro e w11 ⟨rfl, f11⟩
              clear hal hcv1 hcv2
              have hf11 : Fr noB wx w11 := (fw9.then' f10).then' f11
              have HQ1 := hid (hbo.fr0 hf11)
              have HQ2 := hid (hf11.heap HRB.out id)
              have HQ3 : Hid (Fr (upB w.heap.size) w w11) := hfx.then' (hf11.up0 _)
              have HQ4 := hid hf11.size
              clear fw9 f10 f11 hf11 hbo hbo9 hfx cw9
              go_wp2_with fail
              go_roundw
              case rel => exact ⟨k + 1, p, _, [y0, y1, y2, y3, y4, y5, y6], by omega, by go_num, rfl, HQ2.out, HQ1.out, rfl, HL3.out, HW.out, fun b hb => ⟨(HSS.out b hb).1, Nat.lt_of_lt_of_le (HSS.out b hb).2 HQ4.out⟩, HQ3.out⟩
              case measure => simp [intOf]; omega
          · have t0 : ((ik : Int) % 3 == 0) = false := by simp; omega
            have t1 : ((ik : Int) % 3 == 1) = true := by simp; omega
            clear h3
            obtain ⟨x0, x1, x2, x3, x4, x5, x6, rfl⟩ := list7 hL
            have ci0 : (wr.alloc (.cells #[.int .u8 (ik : Nat), .int .u8 (iN : Nat), .int .u8 (ir : Nat)] 42)).cell? ⟨wr.heap.size, 0, none⟩ = some (.int .u8 (ik : Nat)) := by rw [cell_of_row _ _ _ _ _ _ hit2]; rfl
            have hlm : ([x0, x1, x2, x3, x4, x5, x6].take m).length = m := by rw [List.length_take]; exact Nat.min_eq_left hm7
            have hcp := copyBo_calls _ S p _ hbo2 (by rw [hlm]; exact hm7) (by rw [hlm]; rcases HM3.out with h | h | h <;> omega)
            clear hlm
            go_wp2_with fail
            generalize wr.alloc (.cells #[.int .u8 (ik : Nat), .int .u8 (iN : Nat), .int .u8 (ir : Nat)] 42) = wy at *
            refine hcp.mono ?_
            clear hcp
            rintro e w5 ⟨q, rfl, hbq, f5⟩
            have hnb := note_calls w5 _ q _ 0 2 hbq (by omega) (by omega)
            go_wp2_with fail
            refine hnb.mono ?_
            clear hnb
            rintro e wx ⟨rfl, _, fx⟩
            have hbo := (hbo2.fr0 f5).fr fx (fun b hb1 hb2 hb3 => by have := (HSS.out b hb2).2; unfold upB at hb3; omega)
            have HRB : Hid (wx.heap[wb]? = some (.cells (rbC m [x0, x1, x2, x3, x4, x5, x6]).toArray 86 (0, 0))) := fx.heap (f5.heap hrb2 id) (fun h => by unfold upB at h; omega)
            have z2w := hf2.size
            have hfx : Fr (upB w.heap.size) w wx := (hf2.then' (f5.up0 _)).then' (fx.mono fun b _ hb => by unfold upB at *; omega)
            have zx := fx.size
            have z5 := f5.size
            replace HSS : Hid (∀ k, S k → w.heap.size ≤ k ∧ k < wx.heap.size) := fun k hk => ⟨(HSS.out k hk).1, by have := (HSS.out k hk).2; omega⟩
            clear fx f5 z5 zx hrb2 hbo2 hf2 hit2 zb HSB hbq ci0 z2w
            have HX256 : Hid (∀ x ∈ [x0, x1, x2, x3, x4, x5, x6], x < 256) := fun x hx => by have := HL3.out x hx; omega
            have HL256 : Hid (∀ x ∈ [x0, x1, x2, x3, x4, x5, x6].take m, x < 256) := fun x hx => HX256.out x (List.mem_of_mem_take hx)
            have HLM : Hid (([x0, x1, x2, x3, x4, x5, x6].take m).length = m) := by unfold Hid; rw [List.length_take]; exact Nat.min_eq_left hm7
            have HL7 : Hid (([x0, x1, x2, x3, x4, x5, x6].take m).length ≤ 7) := by unfold Hid; rw [HLM.out]; exact hm7
            go_wp2_with fail
            refine wp_region_calm (R := Fr noB) (C := fun _ w' => Fr noB wx w') [false, false, false, false, false, false, false, false]
              [eqv (.pointer (some ⟨p, 0, none⟩)), eqv (.int .u8 rr), BytsU noB (lackB ([x0, x1, x2, x3, x4, x5, x6].take m) rr), eqv (.agg #[.int .i64 m, .int .u8 x0, .int .u8 x1, .int .u8 x2, .int .u8 x3, .int .u8 x4, .int .u8 x5, .int .u8 x6]), eqv (.int .u8 rr), BytsU noB (lackB ([x0, x1, x2, x3, x4, x5, x6].take m) rr), BytsU noB (lackB ([x0, x1, x2, x3, x4, x5, x6].take m) rr), BytsU noB (lackB ([x0, x1, x2, x3, x4, x5, x6].take m) rr)]
              (by kernel_rfl) (by kernel_rfl) (fun _ _ _ h1 h2 => h1.then' h2) ((Fr.refl _ _).drew) ((Fr.refl _ _).drew) (by kernel_rfl) ?_ ?_
            · refine ⟨?_, ?_, ?_, ?_, ?_, ?_, ?_, ?_, trivial⟩
              · rw [if_neg (by decide)]; intro kq
                exact calm_mv 7 rfl rfl (Or.inl rfl) (Fr.refl _) (by decide) fun v w hd => hd
              · rw [if_neg (by decide)]; intro kq
                exact calm_mv 2 rfl rfl (Or.inl rfl) (Fr.refl _) (by decide) fun v w hd => hd
              · rw [if_neg (by decide)]; intro kq
                intro a W K hC hd hK
                have d80 : a.tmps[80]?.getD undef = .pointer (some ⟨p, 0, none⟩) := hd 80 (by decide)
                have d81 : a.tmps[81]?.getD undef = .int .u8 rr := hd 81 (by decide)
                refine wpOp_plain rfl rfl ?_
                have hcl := lacking_calls W _ p _ rr (hbo.fr0 hC) hrr256 HL256.out HL7.out
                go_wp2_with fail
                refine hcl.mono ?_
                rintro e w' ⟨A4, c4, rfl, hr4, f4⟩
                exact hK _ _ f4 (hC.then' f4) ⟨A4, _, c4, rfl, rfl, own_row hr4, fun _ _ h => h⟩
              · rw [if_neg (by decide)]; intro kq
                intro a W K hC hd hK
                have d8 : a.tmps[8]?.getD undef = .pointer (some ⟨wb, 0, none⟩) := hd 8 (by decide)
                have hbx := hC.heap HRB.out id
                have c0 : W.cell? ⟨wb, 0, none⟩ = some (.int .i64 m) := by rw [cell_of_row _ _ _ _ _ _ hbx]; rfl
                have c1 : W.cell? ⟨wb, 1, none⟩ = some (.int .u8 x0) := by rw [cell_of_row _ _ _ _ _ _ hbx]; rfl
                have c2 : W.cell? ⟨wb, 2, none⟩ = some (.int .u8 x1) := by rw [cell_of_row _ _ _ _ _ _ hbx]; rfl
                have c3 : W.cell? ⟨wb, 3, none⟩ = some (.int .u8 x2) := by rw [cell_of_row _ _ _ _ _ _ hbx]; rfl
                have c4 : W.cell? ⟨wb, 4, none⟩ = some (.int .u8 x3) := by rw [cell_of_row _ _ _ _ _ _ hbx]; rfl
                have c5 : W.cell? ⟨wb, 5, none⟩ = some (.int .u8 x4) := by rw [cell_of_row _ _ _ _ _ _ hbx]; rfl
                have c6 : W.cell? ⟨wb, 6, none⟩ = some (.int .u8 x5) := by rw [cell_of_row _ _ _ _ _ _ hbx]; rfl
                have c7 : W.cell? ⟨wb, 7, none⟩ = some (.int .u8 x6) := by rw [cell_of_row _ _ _ _ _ _ hbx]; rfl
                refine wpOp_plain rfl rfl ?_
                go_wp2_with fail
                exact hK _ _ (Fr.refl _ _) hC rfl
              · rw [if_neg (by decide)]; intro kq
                exact calm_mv 2 rfl rfl (Or.inl rfl) (Fr.refl _) (by decide) fun v w hd => hd
              · rw [if_neg (by decide)]; intro kq
                intro a W K hC hd hK
                have d83 : a.tmps[83]?.getD undef = .agg #[.int .i64 m, .int .u8 x0, .int .u8 x1, .int .u8 x2, .int .u8 x3, .int .u8 x4, .int .u8 x5, .int .u8 x6] := hd 83 (by decide)
                have d84 : a.tmps[84]?.getD undef = .int .u8 rr := hd 84 (by decide)
                refine wpOp_plain rfl rfl ?_
                have hcl := lackR_calls W m [x0, x1, x2, x3, x4, x5, x6] rr rfl hm7 hrr256 HX256.out
                rw [show rbV m [x0, x1, x2, x3, x4, x5, x6] = .agg #[.int .i64 m, .int .u8 x0, .int .u8 x1, .int .u8 x2, .int .u8 x3, .int .u8 x4, .int .u8 x5, .int .u8 x6] from rfl] at hcl
                go_wp2_with fail
                refine hcl.mono ?_
                rintro e w' ⟨A4, c4, rfl, hr4, f4⟩
                exact hK _ _ f4 (hC.then' f4) ⟨A4, _, c4, rfl, rfl, own_row hr4, fun _ _ h => h⟩
              · rw [if_neg (by decide)]; intro kq
                exact calm_mv 82 rfl rfl (Or.inr rfl) (Fr.refl _) (by decide) fun v w hd => hd
              · rw [if_neg (by decide)]; intro kq
                exact calm_mv 85 rfl rfl (Or.inr rfl) (Fr.refl _) (by decide) fun v w hd => hd
            · intro vs w9 fw9 cw9 hV
              have v14 : (BytsU noB (lackB ([x0, x1, x2, x3, x4, x5, x6].take m) rr)).V (vs 6) w9 := hV 6 _ _ rfl rfl (by decide)
              have v15 : (BytsU noB (lackB ([x0, x1, x2, x3, x4, x5, x6].take m) rr)).V (vs 7) w9 := hV 7 _ _ rfl rfl (by decide)
              clear hV
              simp only [putL, Act.put, Nat.reduceAdd, List.setIfInBounds_toArray, List.set_cons_zero, List.set_cons_succ]
              obtain ⟨A1, m1, c1, e1, hm1, hr1, _⟩ := v14
              obtain ⟨A2, m2, c2, e2, hm2, hr2, _⟩ := v15
              simp only [e1, e2]
              have hbo9 := hbo.fr0 fw9
              have hsm := same16_calls w9 _ p m _ [x0, x1, x2, x3, x4, x5, x6] hbo9 HX256.out rfl hm7 rfl
              rw [show rbV m [x0, x1, x2, x3, x4, x5, x6] = .agg #[.int .i64 m, .int .u8 x0, .int .u8 x1, .int .u8 x2, .int .u8 x3, .int .u8 x4, .int .u8 x5, .int .u8 x6] from rfl] at hsm
              have hbx := fw9.heap HRB.out id
              have c10 : w9.cell? ⟨wb, 0, none⟩ = some (.int .i64 m) := by rw [cell_of_row _ _ _ _ _ _ hbx]; rfl
              have c11 : w9.cell? ⟨wb, 1, none⟩ = some (.int .u8 x0) := by rw [cell_of_row _ _ _ _ _ _ hbx]; rfl
              have c12 : w9.cell? ⟨wb, 2, none⟩ = some (.int .u8 x1) := by rw [cell_of_row _ _ _ _ _ _ hbx]; rfl
              have c13 : w9.cell? ⟨wb, 3, none⟩ = some (.int .u8 x2) := by rw [cell_of_row _ _ _ _ _ _ hbx]; rfl
              have c14 : w9.cell? ⟨wb, 4, none⟩ = some (.int .u8 x3) := by rw [cell_of_row _ _ _ _ _ _ hbx]; rfl
              have c15 : w9.cell? ⟨wb, 5, none⟩ = some (.int .u8 x4) := by rw [cell_of_row _ _ _ _ _ _ hbx]; rfl
              have c16 : w9.cell? ⟨wb, 6, none⟩ = some (.int .u8 x5) := by rw [cell_of_row _ _ _ _ _ _ hbx]; rfl
              have c17 : w9.cell? ⟨wb, 7, none⟩ = some (.int .u8 x6) := by rw [cell_of_row _ _ _ _ _ _ hbx]; rfl
              clear hbx
              go_wp2_with fail
              refine hsm.mono ?_
              rintro e w10 ⟨rfl, f10⟩
              clear hsm c10 c11 c12 c13 c14 c15 c16 c17
              have hcv1 := Try.toStr (hr1.fr0 f10) hm1 c1
              have hcv2 := Try.toStr (hr2.fr0 f10) hm2 c2
              have hal := all_calls w10 _ p _ rr (hbo9.fr0 f10) hrr256 HL256.out HL7.out
              have hlb := lackB_nil ([x0, x1, x2, x3, x4, x5, x6].take m) rr
              rw [hm2] at hlb
              have hself : ((mkS (lackB ([x0, x1, x2, x3, x4, x5, x6].take m) rr)).toList == (mkS (lackB ([x0, x1, x2, x3, x4, x5, x6].take m) rr)).toList) = true := by simp
              generalize lackB ([x0, x1, x2, x3, x4, x5, x6].take m) rr = lk at *
              have ht : ((m2 : Int) == 0) = allB' ([x0, x1, x2, x3, x4, x5, x6].take m) rr := by rw [Bool.eq_iff_iff, ← hlb]; simp
              generalize allB' ([x0, x1, x2, x3, x4, x5, x6].take m) rr = ta at *
              clear hlb hr1 hr2
              go_wp2_with fail
              refine hal.mono ?_
              rintro e w11 ⟨rfl, f11⟩
              clear hal hcv1 hcv2
              have hf11 : Fr noB wx w11 := (fw9.then' f10).then' f11
              have HQ1 := hid (hbo.fr0 hf11)
              have HQ2 := hid (hf11.heap HRB.out id)
              have HQ3 : Hid (Fr (upB w.heap.size) w w11) := hfx.then' (hf11.up0 _)
              have HQ4 := hid hf11.size
              clear fw9 f10 f11 hf11 hbo hbo9 hfx cw9
              go_wp2_with fail
              go_roundw
              case rel => exact ⟨k + 1, p, _, [x0, x1, x2, x3, x4, x5, x6], by omega, by go_num, rfl, HQ2.out, HQ1.out, rfl, HL3.out, HW.out, fun b hb => ⟨(HSS.out b hb).1, Nat.lt_of_lt_of_le (HSS.out b hb).2 HQ4.out⟩, HQ3.out⟩
              case measure => simp [intOf]; omega
          · have t0 : ((ik : Int) % 3 == 0) = false := by simp; omega
            have t1 : ((ik : Int) % 3 == 1) = false := by simp; omega
            clear h3
            obtain ⟨x0, x1, x2, x3, x4, x5, x6, rfl⟩ := list7 hL
            have ci0 : (wr.alloc (.cells #[.int .u8 (ik : Nat), .int .u8 (iN : Nat), .int .u8 (ir : Nat)] 42)).cell? ⟨wr.heap.size, 0, none⟩ = some (.int .u8 (ik : Nat)) := by rw [cell_of_row _ _ _ _ _ _ hit2]; rfl
            have hlm : ([x0, x1, x2, x3, x4, x5, x6].take m).length = m := by rw [List.length_take]; exact Nat.min_eq_left hm7
            have HLMM := hid hlm
            have hby := bytes16_calls _ S p _ hbo2 (fun x hx => by have := HL3.out x (List.mem_of_mem_take hx); omega) (by rw [hlm]; exact hm7)
            rw [hlm] at hby
            clear hlm
            have HBB : Hid ((boardB m ([x0, x1, x2, x3, x4, x5, x6].take m)).length ≤ 8) := by unfold Hid boardB; rw [List.length_append, leB_length, List.length_map, HLMM.out]; omega
            go_wp2_with fail
            generalize wr.alloc (.cells #[.int .u8 (ik : Nat), .int .u8 (iN : Nat), .int .u8 (ir : Nat)] 42) = wy at *
            refine hby.mono ?_
            clear hby
            rintro e w5 ⟨rfl, f5⟩
            have hfs := Try.fromStr w5 (mkS (boardB m ([x0, x1, x2, x3, x4, x5, x6].take m)))
            have hrow := bytesW_row w5 (mkS (boardB m ([x0, x1, x2, x3, x4, x5, x6].take m)))
            have ffs := bytesW_fr w5 (mkS (boardB m ([x0, x1, x2, x3, x4, x5, x6].take m)))
            rw [mkS_data] at hrow
            have hsz : (boardB m ([x0, x1, x2, x3, x4, x5, x6].take m)).length = (mkS (boardB m ([x0, x1, x2, x3, x4, x5, x6].take m))).size := by rw [mkS_size]
            have hof := of_calls (Lib.bytesWorld w5 5 (mkS (boardB m ([x0, x1, x2, x3, x4, x5, x6].take m)))) _ _ (grownCap w5 (mkS (boardB m ([x0, x1, x2, x3, x4, x5, x6].take m))).size 0 5) _ hrow hsz (fun e => by cases e) (by rw [← hsz]; have := HBB.out; omega)
            clear hsz hrow
            go_wp2_with fail
            generalize Lib.bytesWorld w5 5 (mkS (boardB m ([x0, x1, x2, x3, x4, x5, x6].take m))) = w6 at *
            refine hof.mono ?_
            clear hof hfs
            rintro e w7 ⟨q, rfl, q1, q2, q3, q4⟩
            have q5 := q3.cutA
            have hrd := readBo_calls w7 _ q m _ q5 (fun b hb => hb.2) HM3.out HLMM.out (fun x hx => HL3.out x (List.mem_of_mem_take hx))
            go_wp2_with fail
            refine hrd.mono ?_
            clear hrd
            rintro e wx ⟨p', rfl, hbo, hrx, fx⟩
            have hend := endRd_calls wx _ q ⟨[], 0⟩ hrx
            rw [show rEnd ⟨[], 0⟩ = 0 from rfl] at hend
            have hbo' := hbo.cut
            have z6 := ffs.size
            have z7 := q4.size
            have z8 := fx.size
            have z5 := f5.size
            have HRB : Hid (wx.heap[wb]? = some (.cells (rbC m [x0, x1, x2, x3, x4, x5, x6]).toArray 86 (0, 0))) := fx.heap (q4.heap (ffs.heap (f5.heap hrb2 id) id) id) (fun h => by have := h.1; unfold upB at this; omega)
            have z2w := hf2.size
            have hfx : Fr (upB w.heap.size) w wx := (hf2.then' ((f5.then' (ffs.then' q4)).up0 _)).then' (fx.mono fun b _ hb => by have := hb.1; unfold upB at *; omega)
            have HW' : Hid (¬ (fun k => upB w7.heap.size k ∧ k < wx.heap.size) wb) := fun h => by have := h.1; unfold upB at this; omega
            have HSS' : Hid (∀ k, (fun k => upB w7.heap.size k ∧ k < wx.heap.size) k → w.heap.size ≤ k ∧ k < wx.heap.size) := fun k hk => ⟨by have := hk.1; unfold upB at this; omega, hk.2⟩
            clear HW HSS hbo hrx fx q5 q3 q4 ffs f5 hrb2 hbo2 hf2 hit2 zb HSB ci0 z2w z5 z6 z7 z8 q1 q2
            have hbo := hbo'; clear hbo'
            have HW := HW'; clear HW'
            have HSS := HSS'; clear HSS'
            go_wp2_with fail
            refine hend.mono ?_
            clear hend
            rintro e wx9 ⟨rfl, rfl⟩
            have HX256 : Hid (∀ x ∈ [x0, x1, x2, x3, x4, x5, x6], x < 256) := fun x hx => by have := HL3.out x hx; omega
            have HL256 : Hid (∀ x ∈ [x0, x1, x2, x3, x4, x5, x6].take m, x < 256) := fun x hx => HX256.out x (List.mem_of_mem_take hx)
            have HLM : Hid (([x0, x1, x2, x3, x4, x5, x6].take m).length = m) := by unfold Hid; rw [List.length_take]; exact Nat.min_eq_left hm7
            have HL7 : Hid (([x0, x1, x2, x3, x4, x5, x6].take m).length ≤ 7) := by unfold Hid; rw [HLM.out]; exact hm7
            go_wp2_with fail
            refine wp_region_calm (R := Fr noB) (C := fun _ w' => Fr noB wx w') [false, false, false, false, false, false, false, false]
              [eqv (.pointer (some ⟨p', 0, none⟩)), eqv (.int .u8 rr), BytsU noB (lackB ([x0, x1, x2, x3, x4, x5, x6].take m) rr), eqv (.agg #[.int .i64 m, .int .u8 x0, .int .u8 x1, .int .u8 x2, .int .u8 x3, .int .u8 x4, .int .u8 x5, .int .u8 x6]), eqv (.int .u8 rr), BytsU noB (lackB ([x0, x1, x2, x3, x4, x5, x6].take m) rr), BytsU noB (lackB ([x0, x1, x2, x3, x4, x5, x6].take m) rr), BytsU noB (lackB ([x0, x1, x2, x3, x4, x5, x6].take m) rr)]
              (by kernel_rfl) (by kernel_rfl) (fun _ _ _ h1 h2 => h1.then' h2) ((Fr.refl _ _).drew) ((Fr.refl _ _).drew) (by kernel_rfl) ?_ ?_
            · refine ⟨?_, ?_, ?_, ?_, ?_, ?_, ?_, ?_, trivial⟩
              · rw [if_neg (by decide)]; intro kq
                exact calm_mv 7 rfl rfl (Or.inl rfl) (Fr.refl _) (by decide) fun v w hd => hd
              · rw [if_neg (by decide)]; intro kq
                exact calm_mv 2 rfl rfl (Or.inl rfl) (Fr.refl _) (by decide) fun v w hd => hd
              · rw [if_neg (by decide)]; intro kq
                intro a W K hC hd hK
                have d80 : a.tmps[80]?.getD undef = .pointer (some ⟨p', 0, none⟩) := hd 80 (by decide)
                have d81 : a.tmps[81]?.getD undef = .int .u8 rr := hd 81 (by decide)
                refine wpOp_plain rfl rfl ?_
                have hcl := lacking_calls W _ p' _ rr (hbo.fr0 hC) hrr256 HL256.out HL7.out
                go_wp2_with fail
                refine hcl.mono ?_
                rintro e w' ⟨A4, c4, rfl, hr4, f4⟩
                exact hK _ _ f4 (hC.then' f4) ⟨A4, _, c4, rfl, rfl, own_row hr4, fun _ _ h => h⟩
              · rw [if_neg (by decide)]; intro kq
                intro a W K hC hd hK
                have d8 : a.tmps[8]?.getD undef = .pointer (some ⟨wb, 0, none⟩) := hd 8 (by decide)
                have hbx := hC.heap HRB.out id
                have c0 : W.cell? ⟨wb, 0, none⟩ = some (.int .i64 m) := by rw [cell_of_row _ _ _ _ _ _ hbx]; rfl
                have c1 : W.cell? ⟨wb, 1, none⟩ = some (.int .u8 x0) := by rw [cell_of_row _ _ _ _ _ _ hbx]; rfl
                have c2 : W.cell? ⟨wb, 2, none⟩ = some (.int .u8 x1) := by rw [cell_of_row _ _ _ _ _ _ hbx]; rfl
                have c3 : W.cell? ⟨wb, 3, none⟩ = some (.int .u8 x2) := by rw [cell_of_row _ _ _ _ _ _ hbx]; rfl
                have c4 : W.cell? ⟨wb, 4, none⟩ = some (.int .u8 x3) := by rw [cell_of_row _ _ _ _ _ _ hbx]; rfl
                have c5 : W.cell? ⟨wb, 5, none⟩ = some (.int .u8 x4) := by rw [cell_of_row _ _ _ _ _ _ hbx]; rfl
                have c6 : W.cell? ⟨wb, 6, none⟩ = some (.int .u8 x5) := by rw [cell_of_row _ _ _ _ _ _ hbx]; rfl
                have c7 : W.cell? ⟨wb, 7, none⟩ = some (.int .u8 x6) := by rw [cell_of_row _ _ _ _ _ _ hbx]; rfl
                refine wpOp_plain rfl rfl ?_
                go_wp2_with fail
                exact hK _ _ (Fr.refl _ _) hC rfl
              · rw [if_neg (by decide)]; intro kq
                exact calm_mv 2 rfl rfl (Or.inl rfl) (Fr.refl _) (by decide) fun v w hd => hd
              · rw [if_neg (by decide)]; intro kq
                intro a W K hC hd hK
                have d83 : a.tmps[83]?.getD undef = .agg #[.int .i64 m, .int .u8 x0, .int .u8 x1, .int .u8 x2, .int .u8 x3, .int .u8 x4, .int .u8 x5, .int .u8 x6] := hd 83 (by decide)
                have d84 : a.tmps[84]?.getD undef = .int .u8 rr := hd 84 (by decide)
                refine wpOp_plain rfl rfl ?_
                have hcl := lackR_calls W m [x0, x1, x2, x3, x4, x5, x6] rr rfl hm7 hrr256 HX256.out
                rw [show rbV m [x0, x1, x2, x3, x4, x5, x6] = .agg #[.int .i64 m, .int .u8 x0, .int .u8 x1, .int .u8 x2, .int .u8 x3, .int .u8 x4, .int .u8 x5, .int .u8 x6] from rfl] at hcl
                go_wp2_with fail
                refine hcl.mono ?_
                rintro e w' ⟨A4, c4, rfl, hr4, f4⟩
                exact hK _ _ f4 (hC.then' f4) ⟨A4, _, c4, rfl, rfl, own_row hr4, fun _ _ h => h⟩
              · rw [if_neg (by decide)]; intro kq
                exact calm_mv 82 rfl rfl (Or.inr rfl) (Fr.refl _) (by decide) fun v w hd => hd
              · rw [if_neg (by decide)]; intro kq
                exact calm_mv 85 rfl rfl (Or.inr rfl) (Fr.refl _) (by decide) fun v w hd => hd
            · intro vs w9 fw9 cw9 hV
              have v14 : (BytsU noB (lackB ([x0, x1, x2, x3, x4, x5, x6].take m) rr)).V (vs 6) w9 := hV 6 _ _ rfl rfl (by decide)
              have v15 : (BytsU noB (lackB ([x0, x1, x2, x3, x4, x5, x6].take m) rr)).V (vs 7) w9 := hV 7 _ _ rfl rfl (by decide)
              clear hV
              simp only [putL, Act.put, Nat.reduceAdd, List.setIfInBounds_toArray, List.set_cons_zero, List.set_cons_succ]
              obtain ⟨A1, m1, c1, e1, hm1, hr1, _⟩ := v14
              obtain ⟨A2, m2, c2, e2, hm2, hr2, _⟩ := v15
              simp only [e1, e2]
              have hbo9 := hbo.fr0 fw9
              have hsm := same16_calls w9 _ p' m _ [x0, x1, x2, x3, x4, x5, x6] hbo9 HX256.out rfl hm7 rfl
              rw [show rbV m [x0, x1, x2, x3, x4, x5, x6] = .agg #[.int .i64 m, .int .u8 x0, .int .u8 x1, .int .u8 x2, .int .u8 x3, .int .u8 x4, .int .u8 x5, .int .u8 x6] from rfl] at hsm
              have hbx := fw9.heap HRB.out id
              have c10 : w9.cell? ⟨wb, 0, none⟩ = some (.int .i64 m) := by rw [cell_of_row _ _ _ _ _ _ hbx]; rfl
              have c11 : w9.cell? ⟨wb, 1, none⟩ = some (.int .u8 x0) := by rw [cell_of_row _ _ _ _ _ _ hbx]; rfl
              have c12 : w9.cell? ⟨wb, 2, none⟩ = some (.int .u8 x1) := by rw [cell_of_row _ _ _ _ _ _ hbx]; rfl
              have c13 : w9.cell? ⟨wb, 3, none⟩ = some (.int .u8 x2) := by rw [cell_of_row _ _ _ _ _ _ hbx]; rfl
              have c14 : w9.cell? ⟨wb, 4, none⟩ = some (.int .u8 x3) := by rw [cell_of_row _ _ _ _ _ _ hbx]; rfl
              have c15 : w9.cell? ⟨wb, 5, none⟩ = some (.int .u8 x4) := by rw [cell_of_row _ _ _ _ _ _ hbx]; rfl
              have c16 : w9.cell? ⟨wb, 6, none⟩ = some (.int .u8 x5) := by rw [cell_of_row _ _ _ _ _ _ hbx]; rfl
              have c17 : w9.cell? ⟨wb, 7, none⟩ = some (.int .u8 x6) := by rw [cell_of_row _ _ _ _ _ _ hbx]; rfl
              clear hbx
              go_wp2_with fail
              refine hsm.mono ?_
              rintro e w10 ⟨rfl, f10⟩
              clear hsm c10 c11 c12 c13 c14 c15 c16 c17
              have hcv1 := Try.toStr (hr1.fr0 f10) hm1 c1
              have hcv2 := Try.toStr (hr2.fr0 f10) hm2 c2
              have hal := all_calls w10 _ p' _ rr (hbo9.fr0 f10) hrr256 HL256.out HL7.out
              have hlb := lackB_nil ([x0, x1, x2, x3, x4, x5, x6].take m) rr
              rw [hm2] at hlb
              have hself : ((mkS (lackB ([x0, x1, x2, x3, x4, x5, x6].take m) rr)).toList == (mkS (lackB ([x0, x1, x2, x3, x4, x5, x6].take m) rr)).toList) = true := by simp
              generalize lackB ([x0, x1, x2, x3, x4, x5, x6].take m) rr = lk at *
              have ht : ((m2 : Int) == 0) = allB' ([x0, x1, x2, x3, x4, x5, x6].take m) rr := by rw [Bool.eq_iff_iff, ← hlb]; simp
              generalize allB' ([x0, x1, x2, x3, x4, x5, x6].take m) rr = ta at *
              clear hlb hr1 hr2
              go_wp2_with fail
              refine hal.mono ?_
              rintro e w11 ⟨rfl, f11⟩
              clear hal hcv1 hcv2
              have hf11 : Fr noB wx w11 := (fw9.then' f10).then' f11
              have HQ1 := hid (hbo.fr0 hf11)
              have HQ2 := hid (hf11.heap HRB.out id)
              have HQ3 : Hid (Fr (upB w.heap.size) w w11) := hfx.then' (hf11.up0 _)
              have HQ4 := hid hf11.size
              clear fw9 f10 f11 hf11 hbo hbo9 hfx cw9
              go_wp2_with fail
              go_roundw
              case rel => exact ⟨k + 1, p', _, [x0, x1, x2, x3, x4, x5, x6], by omega, by go_num, rfl, HQ2.out, HQ1.out, rfl, HL3.out, HW.out, fun b hb => ⟨(HSS.out b hb).1, Nat.lt_of_lt_of_le (HSS.out b hb).2 HQ4.out⟩, HQ3.out⟩
              case measure => simp [intOf]; omega
        · have hlast := fun W => has_calls W rr 2 hrr256 (by decide)
          have hlast2 := fun W => hasR_calls W rr 2 hrr256 (by decide)
          generalize hasB rr 2 = tt at *
          have HF := hid hf
          clear hrb hbo hL hl3 hSwb hSS hf
          go_wp2_with fail
          refine (hlast _).mono ?_
          rintro e w5 ⟨rfl, rfl⟩
          go_wp2_with fail
          refine (hlast2 _).mono ?_
          rintro e w5 ⟨rfl, rfl⟩
          go_wp2_with fail
          go_ret
          exact ⟨by simp, HF.out.none⟩
theorem advPlays_law (w : World) (a0 : Int) (_w0 : (Lit.int .i64 a0).wf = true) (A : Option Addr) (n c : Nat) (l : List Act16) (o : RowAt w A (l.flatMap Act16.cells) ∧ l.length = n ∧ n ≤ c ∧ c ≤ maxLen ∧ (∀ i ∈ l, i.ok) ∧ (A = none → n = 0 ∧ c = 0))
    (a1 : Int) (w1 : (Lit.int .u8 a1).wf = true) :
    Calls Try.prog 10 #[.int .i64 a0, .slice A n c, .int .u8 a1] w (BoolPost w true) := by
  obtain ⟨u2, u3⟩ := u8_nat16 w1
  obtain ⟨n1, rfl⟩ := Int.eq_ofNat_of_zero_le u2
  exact advPlays_walk w a0 A n c l n1 o.1 o.2.1 (Nat.le_trans o.2.2.1 o.2.2.2.1) o.2.2.2.2.1 (by omega)
end Go.Proofs.Ytcpcmcdfncjnaaa
