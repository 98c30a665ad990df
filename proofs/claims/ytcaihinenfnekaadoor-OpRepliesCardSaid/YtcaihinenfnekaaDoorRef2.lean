/- Contracts of interrexref01's Reader. -/
import Derived.Test.YtcaihinenfnekaaDoorRef1
import Derived.Test.YtcaihinenfnekaaDoorRd3
import Derived.Test.YtcaihinenfnekaaDoorCalm
import Derived.Laws.ResultCell
namespace Go.Proofs.YtcaihinenfnekaaDoor
open Go.RowKit

def Rd.inv (r : Rd) : Prop := r.e ≠ 0 → r.bs = []
/-- A Reader of the reference, as a value. -/
def Rd.val (r : Rd) : Value := .agg #[.string (mkS r.bs), .int .i64 (r.e : Nat)]
theorem rFail_inv {r : Rd} (k : Nat) (h : r.inv) : (rFail r k).inv := by
  unfold rFail Rd.inv at *
  split
  · intro _; rfl
  · exact h
theorem rTake_inv {r : Rd} (n : Nat) (h : r.inv) : (rTake r n).1.inv := by
  unfold rTake
  split
  · exact rFail_inv 2 h
  · intro e; simp only at e ⊢; rw [h e]; simp
set_option maxRecDepth 100000 in
theorem failR_calls (w : World) (r : Rd) (k : Nat) : Calls Tryd.prog 91 #[.agg #[.string (mkS r.bs), .int .i64 (r.e : Nat)], .int .i64 k] w (fun e w' => e = .returned (rFail r k).val ∧ Fr noB w w') := by
  obtain ⟨bs, ee⟩ := r
  by_cases e0 : ee = 0
  · by_cases k0 : k = 0
    · have HF : Hid (rFail ⟨bs, ee⟩ k = ⟨bs, ee⟩) := by unfold Hid rFail; rw [if_neg (by simp [k0])]
      have t0 : ((ee : Int) != 0) = false := by simp; exact e0
      have t1 : ((k : Int) == 0) = true := by simp; exact k0
      have HE := hid (And.intro e0 k0); clear e0 k0
      go_enter Tryd.func91, Tryd.ntmps91
      go_wp2_with fail
      exact bodyPost_ret (v := .agg #[.string (mkS bs), .int .i64 (ee : Nat)]) (by simp [results, Tryd.results91, go_sem]) rfl ⟨by rw [HF.out]; rfl, ((Fr.refl _ _).alloc _).alloc _⟩
    · have HF : Hid (rFail ⟨bs, ee⟩ k = ⟨[], k⟩) := by unfold Hid rFail; rw [if_pos ⟨e0, k0⟩]
      have t0 : ((ee : Int) != 0) = false := by simp; exact e0
      have t1 : ((k : Int) == 0) = false := by simp; exact k0
      have HE := hid (And.intro e0 k0); clear e0 k0
      go_enter Tryd.func91, Tryd.ntmps91
      go_wp2_with fail
      exact bodyPost_ret (v := .agg #[.string (mkS []), .int .i64 (k : Nat)]) (by simp [results, Tryd.results91, go_sem]; rfl) rfl ⟨by rw [HF.out]; rfl, ((Fr.refl _ _).alloc _).alloc _⟩
  · have HF : Hid (rFail ⟨bs, ee⟩ k = ⟨bs, ee⟩) := by unfold Hid rFail; rw [if_neg (by simp [e0])]
    have t0 : ((ee : Int) != 0) = true := by simp; exact e0
    have HE := hid e0; clear e0
    go_enter Tryd.func91, Tryd.ntmps91
    go_wp2_with fail
    exact bodyPost_ret (v := .agg #[.string (mkS bs), .int .i64 (ee : Nat)]) (by simp [results, Tryd.results91, go_sem]) rfl ⟨by rw [HF.out]; rfl, ((Fr.refl _ _).alloc _).alloc _⟩

theorem fr_set2 (W : World) (b : Nat) (u v : Value) : Fr (eqB b) W ((W.setCell ⟨b, 0, none⟩ u).setCell ⟨b, 1, none⟩ v) :=
  Fr.setCell (S := eqB b) (Fr.setCell (S := eqB b) (Fr.refl _ W) (p := ⟨b, 0, none⟩) (Or.inl rfl) u) (p := ⟨b, 1, none⟩) (Or.inl rfl) v
theorem set2 {w : World} {b : Nat} {x y u v : Value} {t : TypeId} (h : w.heap[b]? = some (.cells #[x, y] t (0, 0))) : ((w.setCell ⟨b, 0, none⟩ u).setCell ⟨b, 1, none⟩ v).heap[b]? = some (.cells #[u, v] t (0, 0)) := two_set1 (two_set0 h)
theorem cells2 {W : World} {b : Nat} {x y : Value} {t : TypeId} (h : W.heap[b]? = some (.cells #[x, y] t (0, 0))) : W.cell? ⟨b, 0, none⟩ = some x ∧ W.cell? ⟨b, 1, none⟩ = some y := by
  constructor <;> simp [World.cell?, h]
theorem heap_al {W : World} {b : Nat} {o : Obj} (h : W.heap[b]? = some o) (o' : Obj) : (W.alloc o').heap[b]? = some o := ((Fr.refl noB W).alloc o').heap h id
theorem fr_cells {W w1 : World} {S : Nat → Prop} (f : Fr S W w1) {b : Nat} {c : Array Value} {t : TypeId} (h : W.heap[b]? = some (.cells c t (0, 0))) (hS : ¬ S b) :
    (∀ j v, c[j]? = some v → w1.cell? ⟨b, j, none⟩ = some v) ∧ ∀ j, w1.frozen? ⟨b, j, none⟩ = false := by
  have h1 := f.heap h hS
  exact ⟨fun j v hv => by simp [World.cell?, h1, hv], fun j => by simp [World.frozen?, h1]⟩
theorem heap_two (w : World) (A B : Obj) : ((w.alloc A).alloc B).heap[w.heap.size]? = some A ∧ ((w.alloc A).alloc B).heap[w.heap.size + 1]? = some B := by
  constructor
  · rw [Below.heap_alloc _ _ _ (by simp)]; exact heap_alloc_new w A
  · have := heap_alloc_new (w.alloc A) B
    rwa [World.size_alloc] at this
theorem mkS_from (bs : List UInt8) (k : Nat) : (mkS bs).extract k bs.length = mkS (bs.drop k) := by
  apply ByteArray.ext; apply Array.ext'
  simp [mkS]
  exact List.take_of_length_le (by simp)
theorem mkS_to (bs : List UInt8) (k : Nat) : (mkS bs).extract 0 k = mkS (bs.take k) := by
  apply ByteArray.ext; apply Array.ext'
  simp [mkS]

set_option maxRecDepth 100000 in
set_option maxHeartbeats 1600000 in
theorem takeR_calls (w : World) (r : Rd) (k : Nat) (hi : r.inv) (hl : r.bs.length ≤ 1000000000000) (hk : k ≤ 9223372036854775807) :
    Calls Tryd.prog 121 #[.agg #[.string (mkS r.bs), .int .i64 (r.e : Nat)], .int .i64 k] w
      (fun e w' => ∃ b, e = .returned (.tuple #[(rTake r k).1.val, .string (mkS (rTake r k).2), .bool b]) ∧ Fr noB w w') := by
  have hf := fun w => failR_calls w r 2
  have hsz : (mkS r.bs).size = r.bs.length := mkS_size _
  obtain ⟨bs, ee⟩ := r
  simp only [] at *
  have hA : (ee ≠ 0 ∨ bs.length < k) → rTake ⟨bs, ee⟩ k = (rFail ⟨bs, ee⟩ 2, []) := by
    rintro (h | h)
    · have hb : bs = [] := hi h
      subst hb
      unfold rTake rFail
      simp [h]
    · unfold rTake; rw [if_pos h]
  by_cases e0 : ee = 0
  · have t0 : ((ee : Int) != 0) = false := by simp; exact e0
    by_cases hn : bs.length < k
    · have HF := hid (hA (Or.inr hn))
      have hn2 : (mkS bs).size < k := by rw [hsz]; exact hn
      have HE := hid e0; clear e0 hsz hA
      go_enter Tryd.func121, Tryd.ntmps121
      go_wp2_with fail
      refine (hf _).mono ?_
      generalize rFail ⟨bs, ee⟩ 2 = q at *
      obtain ⟨qb, qe⟩ := q
      rintro e w1 ⟨rfl, f1⟩
      simp only [Rd.val]
      obtain ⟨g1, g2⟩ := fr_cells f1 (heap_two _ _ _).2 id
      have g3 := g1 0 _ rfl
      have g4 := g1 1 _ rfl
      clear g1
      have f2 : Fr noB w w1 := (((Fr.refl _ _).alloc _).alloc _).then' f1
      have F1 := hid f1
      clear f1
      go_wp2_with fail
      exact bodyPost_ret (v := .tuple #[.agg #[.string (mkS qb), .int .i64 (qe : Nat)], .string ⟨#[]⟩, .bool false]) (by simp [results, Tryd.results121, go_sem, g3, g4]) rfl
        ⟨false, by rw [HF.out]; rfl, (f2.setCell (Or.inr (Nat.le_succ _)) _).setCell (p := ⟨w.heap.size + 1, 1, none⟩) (Or.inr (Nat.le_succ _)) _⟩
    · have HF : Hid (rTake ⟨bs, ee⟩ k = (⟨bs.drop k, ee⟩, bs.take k)) := by unfold Hid rTake; rw [if_neg hn]
      have hn2 : k ≤ (mkS bs).size := by rw [hsz]; omega
      have hn3 : (mkS bs).size ≤ 9223372036854775807 := by rw [hsz]; omega
      have HN : Hid (k ≤ bs.length) := by unfold Hid; omega
      have HS := hid hsz
      have HE := hid e0; clear e0 hsz hA hf hn
      go_enter Tryd.func121, Tryd.ntmps121
      go_wp2_with fail
      have h1 := (heap_two w (.cells #[.string (mkS bs), .int .i64 (ee : Nat)] 138) (.cells #[.string ⟨#[]⟩, .int .i64 0] 138)).1
      have h2 := (heap_two w (.cells #[.string (mkS bs), .int .i64 (ee : Nat)] 138) (.cells #[.string ⟨#[]⟩, .int .i64 0] 138)).2
      have f0 : Fr noB w ((w.alloc (.cells #[.string (mkS bs), .int .i64 (ee : Nat)] 138)).alloc (.cells #[.string ⟨#[]⟩, .int .i64 0] 138)) := ((Fr.refl _ _).alloc _).alloc _
      generalize (w.alloc (.cells #[.string (mkS bs), .int .i64 (ee : Nat)] 138)).alloc (.cells #[.string ⟨#[]⟩, .int .i64 0] 138) = wa at *
      refine wp_region_calm (R := Fr (eqB (w.heap.size + 1))) (C := fun q W => Fr (eqB (w.heap.size + 1)) wa W ∧ W.heap[w.heap.size]? = some (.cells #[.string (mkS bs), .int .i64 (ee : Nat)] 138 (0, 0)) ∧ W.heap[w.heap.size + 1]? = some (.cells (if q = 0 then #[.string ⟨#[]⟩, .int .i64 0] else #[.string (mkS (bs.drop k)), .int .i64 0]) 138 (0, 0))) [false, false, false, false, false, false, false, false, false, true, false, false]
        [eqv (.pointer (some ⟨w.heap.size, 0, none⟩)), eqv (.string (mkS bs)), eqv (.int .i64 k), eqv (.string (mkS (bs.drop k))), eqv (.agg #[.string (mkS (bs.drop k)), .int .i64 0]), eqv (.pointer (some ⟨w.heap.size, 0, none⟩)), eqv (.string (mkS bs)), eqv (.int .i64 k), eqv (.string (mkS (bs.take k))), anyv, eqv (.string (mkS (bs.take k))), eqv (.bool true)]
        (by kernel_rfl) (by kernel_rfl) (fun _ _ _ h1 h2 => h1.then' h2) ((Fr.refl _ _).drew) ⟨(Fr.refl _ _).drew, h1, h2⟩ (by kernel_rfl) ?_ ?_
      · refine ⟨?_, ?_, ?_, ?_, ?_, ?_, ?_, ?_, ?_, ?_, ?_, ?_, trivial⟩
        · rw [if_neg (by decide)]; intro kq
          intro a W K hC hd hK
          have d2 : a.tmps[2]?.getD undef = .pointer (some ⟨w.heap.size, 0, none⟩) := hd 2 (by decide)
          refine wpOp_plain rfl rfl ?_
          go_wp2_with fail
          exact hK _ _ (Fr.refl _ _) hC rfl
        · rw [if_neg (by decide)]; intro kq
          intro a W K hC hd hK
          have d19 : a.tmps[19]?.getD undef = .pointer (some ⟨w.heap.size, 0, none⟩) := hd 19 (by decide)
          have b0 : W.cell? ⟨w.heap.size, 0, none⟩ = some (.string (mkS bs)) := by simp [World.cell?, hC.2.1]
          refine wpOp_plain rfl rfl ?_
          go_wp2_with fail
          exact hK _ _ (Fr.refl _ _) hC rfl
        · rw [if_neg (by decide)]; intro kq
          exact calm_mv 1 rfl rfl (Or.inl rfl) (Fr.refl _) (by decide) fun v w hd => hd
        · rw [if_neg (by decide)]; intro kq
          intro a W K hC hd hK
          have d20 : a.tmps[20]?.getD undef = .string (mkS bs) := hd 20 (by decide)
          have d21 : a.tmps[21]?.getD undef = .int .i64 k := hd 21 (by decide)
          refine wpOp_plain rfl rfl ?_
          have hx := mkS_from bs k
          rw [← HS.out] at hx
          go_wp2_with fail
          exact hK _ _ (Fr.refl _ _) hC rfl
        · rw [if_neg (by decide)]; intro kq
          intro a W K hC hd hK
          have d22 : a.tmps[22]?.getD undef = .string (mkS (bs.drop k)) := hd 22 (by decide)
          refine wpOp_plain rfl rfl ?_
          go_wp2_with fail
          exact hK _ _ (Fr.refl _ _) hC rfl
        · rw [if_neg (by decide)]; intro kq
          intro a W K hC hd hK
          have d2 : a.tmps[2]?.getD undef = .pointer (some ⟨w.heap.size, 0, none⟩) := hd 2 (by decide)
          refine wpOp_plain rfl rfl ?_
          go_wp2_with fail
          exact hK _ _ (Fr.refl _ _) hC rfl
        · rw [if_neg (by decide)]; intro kq
          intro a W K hC hd hK
          have d24 : a.tmps[24]?.getD undef = .pointer (some ⟨w.heap.size, 0, none⟩) := hd 24 (by decide)
          have b0 : W.cell? ⟨w.heap.size, 0, none⟩ = some (.string (mkS bs)) := by simp [World.cell?, hC.2.1]
          refine wpOp_plain rfl rfl ?_
          go_wp2_with fail
          exact hK _ _ (Fr.refl _ _) hC rfl
        · rw [if_neg (by decide)]; intro kq
          exact calm_mv 1 rfl rfl (Or.inl rfl) (Fr.refl _) (by decide) fun v w hd => hd
        · rw [if_neg (by decide)]; intro kq
          intro a W K hC hd hK
          have d25 : a.tmps[25]?.getD undef = .string (mkS bs) := hd 25 (by decide)
          have d26 : a.tmps[26]?.getD undef = .int .i64 k := hd 26 (by decide)
          refine wpOp_plain rfl rfl ?_
          have hx := mkS_to bs k
          go_wp2_with fail
          exact hK _ _ (Fr.refl _ _) hC rfl
        · rw [if_pos (by decide)]
          intro a W K hC hd hK
          replace hC : (fun q W => Fr (eqB (w.heap.size + 1)) wa W ∧ W.heap[w.heap.size]? = some (.cells #[.string (mkS bs), .int .i64 (ee : Nat)] 138 (0, 0)) ∧ W.heap[w.heap.size + 1]? = some (.cells (if q = 0 then #[.string ⟨#[]⟩, .int .i64 0] else #[.string (mkS (bs.drop k)), .int .i64 0]) 138 (0, 0))) 0 W := hC
          have d4 : a.tmps[4]?.getD undef = .pointer (some ⟨w.heap.size + 1, 0, none⟩) := hd 4 (by decide)
          have d23 : a.tmps[23]?.getD undef = .agg #[.string (mkS (bs.drop k)), .int .i64 0] := hd 23 (by decide)
          have hz : W.heap[w.heap.size + 1]? = some (.cells #[.string ⟨#[]⟩, .int .i64 0] 138 (0, 0)) := hC.2.2
          have b0 : W.cell? ⟨w.heap.size + 1, 0, none⟩ = some (.string ⟨#[]⟩) := by simp [World.cell?, hz]
          have b1 : W.cell? ⟨w.heap.size + 1, 1, none⟩ = some (.int .i64 0) := by simp [World.cell?, hz]
          have z0 : ∀ j, W.frozen? ⟨w.heap.size + 1, j, none⟩ = false := fun j => by simp [World.frozen?, hz]
          refine wpOp_plain rfl rfl ?_
          go_wp2_with fail
          have fs := fr_set2 W (w.heap.size + 1) (.string (mkS (bs.drop k))) (.int .i64 0)
          exact hK undef _ fs ⟨hC.1.then' fs, fs.heap hC.2.1 (by unfold eqB; omega), two_set1 (two_set0 hz)⟩ trivial
        · rw [if_neg (by decide)]; intro kq
          exact calm_mv 27 rfl rfl (Or.inr rfl) (Fr.refl _) (by decide) fun v w hd => hd
        · rw [if_neg (by decide)]; intro kq
          intro a W K hC hd hK
          refine wpOp_plain rfl rfl ?_
          go_wp2_with fail
          exact hK _ _ (Fr.refl _ _) hC rfl
      · intro vs w9 fw9 cw9 hV
        have v5 : vs 10 = .string (mkS (bs.take k)) := hV 10 _ _ rfl rfl (by decide)
        have v6 : vs 11 = .bool true := hV 11 _ _ rfl rfl (by decide)
        clear hV
        simp only [putL, Act.put, List.setIfInBounds_toArray, List.set_cons_zero, List.set_cons_succ, v5, v6]
        have hz : w9.heap[w.heap.size + 1]? = some (.cells #[.string (mkS (bs.drop k)), .int .i64 0] 138 (0, 0)) := cw9.2.2
        have b0 : w9.cell? ⟨w.heap.size + 1, 0, none⟩ = some (.string (mkS (bs.drop k))) := by simp [World.cell?, hz]
        have b1 : w9.cell? ⟨w.heap.size + 1, 1, none⟩ = some (.int .i64 0) := by simp [World.cell?, hz]
        go_wp2_with fail
        have hE := HE.out
        subst hE
        exact bodyPost_ret (v := .tuple #[.agg #[.string (mkS (bs.drop k)), .int .i64 0], .string (mkS (bs.take k)), .bool true]) (by simp [results, Tryd.results121, go_sem, b0, b1]) rfl
          ⟨true, by rw [HF.out]; rfl, f0.trans fw9 (fun i hi h => by unfold eqB at h; omega)⟩
  · have t0 : ((ee : Int) != 0) = true := by simp; exact e0
    have HF := hid (hA (Or.inl e0))
    have HE := hid e0; clear e0 hsz hA
    go_enter Tryd.func121, Tryd.ntmps121
    go_wp2_with fail
    refine (hf _).mono ?_
    generalize rFail ⟨bs, ee⟩ 2 = q at *
    obtain ⟨qb, qe⟩ := q
    rintro e w1 ⟨rfl, f1⟩
    simp only [Rd.val]
    obtain ⟨g1, g2⟩ := fr_cells f1 (heap_two _ _ _).2 id
    have g3 := g1 0 _ rfl
    have g4 := g1 1 _ rfl
    clear g1
    have f2 : Fr noB w w1 := (((Fr.refl _ _).alloc _).alloc _).then' f1
    have F1 := hid f1
    clear f1
    go_wp2_with fail
    exact bodyPost_ret (v := .tuple #[.agg #[.string (mkS qb), .int .i64 (qe : Nat)], .string ⟨#[]⟩, .bool false]) (by simp [results, Tryd.results121, go_sem, g3, g4]) rfl
      ⟨false, by rw [HF.out]; rfl, (f2.setCell (Or.inr (Nat.le_succ _)) _).setCell (p := ⟨w.heap.size + 1, 1, none⟩) (Or.inr (Nat.le_succ _)) _⟩
end Go.Proofs.YtcaihinenfnekaaDoor
