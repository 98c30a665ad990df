/- Contracts, several texts in one. -/
import Derived.Test.YtahcopmdffengaaDoorRef1
import Derived.Test.YtahcopmdffengaaDoorRd3
import Derived.Test.YtahcopmdffengaaDoorCalm
import Derived.Laws.ResultCell
/- Contracts of interrexref01's Reader. -/
namespace Go.Proofs.YtahcopmdffengaaDoor
open Go.RowKit

def Rd.inv (r : Rd) : Prop := r.e ≠ 0 → r.bs = []
/-- A Reader of the reference, as a value. -/
def Rd.val (r : Rd) : Value := .agg #[.string (mkS r.bs), .int .i64 (r.e : Nat)]
theorem rFail_inv {r : Rd} (k : Nat) (h : r.inv) : (rFail r k).inv := by
  unfold rFail Rd.inv at *
  split
  · intro _; rfl
  · exact h
theorem rTake_inv {r : Rd} (n : Nat) (h : r.inv) : (rTake r n).1.inv := by
  unfold rTake
  split
  · exact rFail_inv 2 h
  · intro e; simp only at e ⊢; rw [h e]; simp
set_option maxRecDepth 100000 in
theorem failR_calls (w : World) (r : Rd) (k : Nat) : Calls Tryd.prog 64 #[.agg #[.string (mkS r.bs), .int .i64 (r.e : Nat)], .int .i64 k] w (fun e w' => e = .returned (rFail r k).val ∧ Fr noB w w') := by
  obtain ⟨bs, ee⟩ := r
  by_cases e0 : ee = 0
  · by_cases k0 : k = 0
    · have HF : Hid (rFail ⟨bs, ee⟩ k = ⟨bs, ee⟩) := by unfold Hid rFail; rw [if_neg (by simp [k0])]
      have t0 : ((ee : Int) != 0) = false := by simp; exact e0
      have t1 : ((k : Int) == 0) = true := by simp; exact k0
      have HE := hid (And.intro e0 k0); clear e0 k0
      go_enter Tryd.func64, Tryd.ntmps64
      go_wp2_with fail
      exact bodyPost_ret (v := .agg #[.string (mkS bs), .int .i64 (ee : Nat)]) (by simp [results, Tryd.results64, go_sem]) rfl ⟨by rw [HF.out]; rfl, ((Fr.refl _ _).alloc _).alloc _⟩
    · have HF : Hid (rFail ⟨bs, ee⟩ k = ⟨[], k⟩) := by unfold Hid rFail; rw [if_pos ⟨e0, k0⟩]
      have t0 : ((ee : Int) != 0) = false := by simp; exact e0
      have t1 : ((k : Int) == 0) = false := by simp; exact k0
      have HE := hid (And.intro e0 k0); clear e0 k0
      go_enter Tryd.func64, Tryd.ntmps64
      go_wp2_with fail
      exact bodyPost_ret (v := .agg #[.string (mkS []), .int .i64 (k : Nat)]) (by simp [results, Tryd.results64, go_sem]; rfl) rfl ⟨by rw [HF.out]; rfl, ((Fr.refl _ _).alloc _).alloc _⟩
  · have HF : Hid (rFail ⟨bs, ee⟩ k = ⟨bs, ee⟩) := by unfold Hid rFail; rw [if_neg (by simp [e0])]
    have t0 : ((ee : Int) != 0) = true := by simp; exact e0
    have HE := hid e0; clear e0
    go_enter Tryd.func64, Tryd.ntmps64
    go_wp2_with fail
    exact bodyPost_ret (v := .agg #[.string (mkS bs), .int .i64 (ee : Nat)]) (by simp [results, Tryd.results64, go_sem]) rfl ⟨by rw [HF.out]; rfl, ((Fr.refl _ _).alloc _).alloc _⟩

theorem fr_set2 (W : World) (b : Nat) (u v : Value) : Fr (eqB b) W ((W.setCell ⟨b, 0, none⟩ u).setCell ⟨b, 1, none⟩ v) :=
  Fr.setCell (S := eqB b) (Fr.setCell (S := eqB b) (Fr.refl _ W) (p := ⟨b, 0, none⟩) (Or.inl rfl) u) (p := ⟨b, 1, none⟩) (Or.inl rfl) v
theorem set2 {w : World} {b : Nat} {x y u v : Value} {t : TypeId} (h : w.heap[b]? = some (.cells #[x, y] t (0, 0))) : ((w.setCell ⟨b, 0, none⟩ u).setCell ⟨b, 1, none⟩ v).heap[b]? = some (.cells #[u, v] t (0, 0)) := two_set1 (two_set0 h)
theorem cells2 {W : World} {b : Nat} {x y : Value} {t : TypeId} (h : W.heap[b]? = some (.cells #[x, y] t (0, 0))) : W.cell? ⟨b, 0, none⟩ = some x ∧ W.cell? ⟨b, 1, none⟩ = some y := by
  constructor <;> simp [World.cell?, h]
theorem heap_al {W : World} {b : Nat} {o : Obj} (h : W.heap[b]? = some o) (o' : Obj) : (W.alloc o').heap[b]? = some o := ((Fr.refl noB W).alloc o').heap h id
theorem fr_cells {W w1 : World} {S : Nat → Prop} (f : Fr S W w1) {b : Nat} {c : Array Value} {t : TypeId} (h : W.heap[b]? = some (.cells c t (0, 0))) (hS : ¬ S b) :
    (∀ j v, c[j]? = some v → w1.cell? ⟨b, j, none⟩ = some v) ∧ ∀ j, w1.frozen? ⟨b, j, none⟩ = false := by
  have h1 := f.heap h hS
  exact ⟨fun j v hv => by simp [World.cell?, h1, hv], fun j => by simp [World.frozen?, h1]⟩
theorem heap_two (w : World) (A B : Obj) : ((w.alloc A).alloc B).heap[w.heap.size]? = some A ∧ ((w.alloc A).alloc B).heap[w.heap.size + 1]? = some B := by
  constructor
  · rw [Below.heap_alloc _ _ _ (by simp)]; exact heap_alloc_new w A
  · have := heap_alloc_new (w.alloc A) B
    rwa [World.size_alloc] at this
theorem mkS_from (bs : List UInt8) (k : Nat) : (mkS bs).extract k bs.length = mkS (bs.drop k) := by
  apply ByteArray.ext; apply Array.ext'
  simp [mkS]
  exact List.take_of_length_le (by simp)
theorem mkS_to (bs : List UInt8) (k : Nat) : (mkS bs).extract 0 k = mkS (bs.take k) := by
  apply ByteArray.ext; apply Array.ext'
  simp [mkS]

set_option maxRecDepth 100000 in
set_option maxHeartbeats 1600000 in
theorem takeR_calls (w : World) (r : Rd) (k : Nat) (hi : r.inv) (hl : r.bs.length ≤ 1000000000000) (hk : k ≤ 9223372036854775807) :
    Calls Tryd.prog 82 #[.agg #[.string (mkS r.bs), .int .i64 (r.e : Nat)], .int .i64 k] w
      (fun e w' => ∃ b, e = .returned (.tuple #[(rTake r k).1.val, .string (mkS (rTake r k).2), .bool b]) ∧ Fr noB w w') := by
  have hf := fun w => failR_calls w r 2
  have hsz : (mkS r.bs).size = r.bs.length := mkS_size _
  obtain ⟨bs, ee⟩ := r
  simp only [] at *
  have hA : (ee ≠ 0 ∨ bs.length < k) → rTake ⟨bs, ee⟩ k = (rFail ⟨bs, ee⟩ 2, []) := by
    rintro (h | h)
    · have hb : bs = [] := hi h
      subst hb
      unfold rTake rFail
      simp [h]
    · unfold rTake; rw [if_pos h]
  by_cases e0 : ee = 0
  · have t0 : ((ee : Int) != 0) = false := by simp; exact e0
    by_cases hn : bs.length < k
    · have HF := hid (hA (Or.inr hn))
      have hn2 : (mkS bs).size < k := by rw [hsz]; exact hn
      have HE := hid e0; clear e0 hsz hA
      go_enter Tryd.func82, Tryd.ntmps82
      go_wp2_with fail
      refine (hf _).mono ?_
      generalize rFail ⟨bs, ee⟩ 2 = q at *
      obtain ⟨qb, qe⟩ := q
      rintro e w1 ⟨rfl, f1⟩
      simp only [Rd.val]
      obtain ⟨g1, g2⟩ := fr_cells f1 (heap_two _ _ _).2 id
      have g3 := g1 0 _ rfl
      have g4 := g1 1 _ rfl
      clear g1
      have f2 : Fr noB w w1 := (((Fr.refl _ _).alloc _).alloc _).then' f1
      have F1 := hid f1
      clear f1
      go_wp2_with fail
      exact bodyPost_ret (v := .tuple #[.agg #[.string (mkS qb), .int .i64 (qe : Nat)], .string ⟨#[]⟩, .bool false]) (by simp [results, Tryd.results82, go_sem, g3, g4]) rfl
        ⟨false, by rw [HF.out]; rfl, (f2.setCell (Or.inr (Nat.le_succ _)) _).setCell (p := ⟨w.heap.size + 1, 1, none⟩) (Or.inr (Nat.le_succ _)) _⟩
    · have HF : Hid (rTake ⟨bs, ee⟩ k = (⟨bs.drop k, ee⟩, bs.take k)) := by unfold Hid rTake; rw [if_neg hn]
      have hn2 : k ≤ (mkS bs).size := by rw [hsz]; omega
      have hn3 : (mkS bs).size ≤ 9223372036854775807 := by rw [hsz]; omega
      have HN : Hid (k ≤ bs.length) := by unfold Hid; omega
      have HS := hid hsz
      have HE := hid e0; clear e0 hsz hA hf hn
      go_enter Tryd.func82, Tryd.ntmps82
      go_wp2_with fail
      have h1 := (heap_two w (.cells #[.string (mkS bs), .int .i64 (ee : Nat)] 46) (.cells #[.string ⟨#[]⟩, .int .i64 0] 46)).1
      have h2 := (heap_two w (.cells #[.string (mkS bs), .int .i64 (ee : Nat)] 46) (.cells #[.string ⟨#[]⟩, .int .i64 0] 46)).2
      have f0 : Fr noB w ((w.alloc (.cells #[.string (mkS bs), .int .i64 (ee : Nat)] 46)).alloc (.cells #[.string ⟨#[]⟩, .int .i64 0] 46)) := ((Fr.refl _ _).alloc _).alloc _
      generalize (w.alloc (.cells #[.string (mkS bs), .int .i64 (ee : Nat)] 46)).alloc (.cells #[.string ⟨#[]⟩, .int .i64 0] 46) = wa at *
      refine wp_region_calm (R := Fr (eqB (w.heap.size + 1))) (C := fun q W => Fr (eqB (w.heap.size + 1)) wa W ∧ W.heap[w.heap.size]? = some (.cells #[.string (mkS bs), .int .i64 (ee : Nat)] 46 (0, 0)) ∧ W.heap[w.heap.size + 1]? = some (.cells (if q = 0 then #[.string ⟨#[]⟩, .int .i64 0] else #[.string (mkS (bs.drop k)), .int .i64 0]) 46 (0, 0))) [false, false, false, false, false, false, false, false, false, true, false, false]
        [eqv (.pointer (some ⟨w.heap.size, 0, none⟩)), eqv (.string (mkS bs)), eqv (.int .i64 k), eqv (.string (mkS (bs.drop k))), eqv (.agg #[.string (mkS (bs.drop k)), .int .i64 0]), eqv (.pointer (some ⟨w.heap.size, 0, none⟩)), eqv (.string (mkS bs)), eqv (.int .i64 k), eqv (.string (mkS (bs.take k))), anyv, eqv (.string (mkS (bs.take k))), eqv (.bool true)]
        (by kernel_rfl) (by kernel_rfl) (fun _ _ _ h1 h2 => h1.then' h2) ((Fr.refl _ _).drew) ⟨(Fr.refl _ _).drew, h1, h2⟩ (by kernel_rfl) ?_ ?_
      · refine ⟨?_, ?_, ?_, ?_, ?_, ?_, ?_, ?_, ?_, ?_, ?_, ?_, trivial⟩
        · rw [if_neg (by decide)]; intro kq
          intro a W K hC hd hK
          have d2 : a.tmps[2]?.getD undef = .pointer (some ⟨w.heap.size, 0, none⟩) := hd 2 (by decide)
          refine wpOp_plain rfl rfl ?_
          go_wp2_with fail
          exact hK _ _ (Fr.refl _ _) hC rfl
        · rw [if_neg (by decide)]; intro kq
          intro a W K hC hd hK
          have d19 : a.tmps[19]?.getD undef = .pointer (some ⟨w.heap.size, 0, none⟩) := hd 19 (by decide)
          have b0 : W.cell? ⟨w.heap.size, 0, none⟩ = some (.string (mkS bs)) := by simp [World.cell?, hC.2.1]
          refine wpOp_plain rfl rfl ?_
          go_wp2_with fail
          exact hK _ _ (Fr.refl _ _) hC rfl
        · rw [if_neg (by decide)]; intro kq
          exact calm_mv 1 rfl rfl (Or.inl rfl) (Fr.refl _) (by decide) fun v w hd => hd
        · rw [if_neg (by decide)]; intro kq
          intro a W K hC hd hK
          have d20 : a.tmps[20]?.getD undef = .string (mkS bs) := hd 20 (by decide)
          have d21 : a.tmps[21]?.getD undef = .int .i64 k := hd 21 (by decide)
          refine wpOp_plain rfl rfl ?_
          have hx := mkS_from bs k
          rw [← HS.out] at hx
          go_wp2_with fail
          exact hK _ _ (Fr.refl _ _) hC rfl
        · rw [if_neg (by decide)]; intro kq
          intro a W K hC hd hK
          have d22 : a.tmps[22]?.getD undef = .string (mkS (bs.drop k)) := hd 22 (by decide)
          refine wpOp_plain rfl rfl ?_
          go_wp2_with fail
          exact hK _ _ (Fr.refl _ _) hC rfl
        · rw [if_neg (by decide)]; intro kq
          intro a W K hC hd hK
          have d2 : a.tmps[2]?.getD undef = .pointer (some ⟨w.heap.size, 0, none⟩) := hd 2 (by decide)
          refine wpOp_plain rfl rfl ?_
          go_wp2_with fail
          exact hK _ _ (Fr.refl _ _) hC rfl
        · rw [if_neg (by decide)]; intro kq
          intro a W K hC hd hK
          have d24 : a.tmps[24]?.getD undef = .pointer (some ⟨w.heap.size, 0, none⟩) := hd 24 (by decide)
          have b0 : W.cell? ⟨w.heap.size, 0, none⟩ = some (.string (mkS bs)) := by simp [World.cell?, hC.2.1]
          refine wpOp_plain rfl rfl ?_
          go_wp2_with fail
          exact hK _ _ (Fr.refl _ _) hC rfl
        · rw [if_neg (by decide)]; intro kq
          exact calm_mv 1 rfl rfl (Or.inl rfl) (Fr.refl _) (by decide) fun v w hd => hd
        · rw [if_neg (by decide)]; intro kq
          intro a W K hC hd hK
          have d25 : a.tmps[25]?.getD undef = .string (mkS bs) := hd 25 (by decide)
          have d26 : a.tmps[26]?.getD undef = .int .i64 k := hd 26 (by decide)
          refine wpOp_plain rfl rfl ?_
          have hx := mkS_to bs k
          go_wp2_with fail
          exact hK _ _ (Fr.refl _ _) hC rfl
        · rw [if_pos (by decide)]
          intro a W K hC hd hK
          replace hC : (fun q W => Fr (eqB (w.heap.size + 1)) wa W ∧ W.heap[w.heap.size]? = some (.cells #[.string (mkS bs), .int .i64 (ee : Nat)] 46 (0, 0)) ∧ W.heap[w.heap.size + 1]? = some (.cells (if q = 0 then #[.string ⟨#[]⟩, .int .i64 0] else #[.string (mkS (bs.drop k)), .int .i64 0]) 46 (0, 0))) 0 W := hC
          have d4 : a.tmps[4]?.getD undef = .pointer (some ⟨w.heap.size + 1, 0, none⟩) := hd 4 (by decide)
          have d23 : a.tmps[23]?.getD undef = .agg #[.string (mkS (bs.drop k)), .int .i64 0] := hd 23 (by decide)
          have hz : W.heap[w.heap.size + 1]? = some (.cells #[.string ⟨#[]⟩, .int .i64 0] 46 (0, 0)) := hC.2.2
          have b0 : W.cell? ⟨w.heap.size + 1, 0, none⟩ = some (.string ⟨#[]⟩) := by simp [World.cell?, hz]
          have b1 : W.cell? ⟨w.heap.size + 1, 1, none⟩ = some (.int .i64 0) := by simp [World.cell?, hz]
          have z0 : ∀ j, W.frozen? ⟨w.heap.size + 1, j, none⟩ = false := fun j => by simp [World.frozen?, hz]
          refine wpOp_plain rfl rfl ?_
          go_wp2_with fail
          have fs := fr_set2 W (w.heap.size + 1) (.string (mkS (bs.drop k))) (.int .i64 0)
          exact hK undef _ fs ⟨hC.1.then' fs, fs.heap hC.2.1 (by unfold eqB; omega), two_set1 (two_set0 hz)⟩ trivial
        · rw [if_neg (by decide)]; intro kq
          exact calm_mv 27 rfl rfl (Or.inr rfl) (Fr.refl _) (by decide) fun v w hd => hd
        · rw [if_neg (by decide)]; intro kq
          intro a W K hC hd hK
          refine wpOp_plain rfl rfl ?_
          go_wp2_with fail
          exact hK _ _ (Fr.refl _ _) hC rfl
      · intro vs w9 fw9 cw9 hV
        have v5 : vs 10 = .string (mkS (bs.take k)) := hV 10 _ _ rfl rfl (by decide)
        have v6 : vs 11 = .bool true := hV 11 _ _ rfl rfl (by decide)
        clear hV
        simp only [putL, Act.put, List.setIfInBounds_toArray, List.set_cons_zero, List.set_cons_succ, v5, v6]
        have hz : w9.heap[w.heap.size + 1]? = some (.cells #[.string (mkS (bs.drop k)), .int .i64 0] 46 (0, 0)) := cw9.2.2
        have b0 : w9.cell? ⟨w.heap.size + 1, 0, none⟩ = some (.string (mkS (bs.drop k))) := by simp [World.cell?, hz]
        have b1 : w9.cell? ⟨w.heap.size + 1, 1, none⟩ = some (.int .i64 0) := by simp [World.cell?, hz]
        go_wp2_with fail
        have hE := HE.out
        subst hE
        exact bodyPost_ret (v := .tuple #[.agg #[.string (mkS (bs.drop k)), .int .i64 0], .string (mkS (bs.take k)), .bool true]) (by simp [results, Tryd.results82, go_sem, b0, b1]) rfl
          ⟨true, by rw [HF.out]; rfl, f0.trans fw9 (fun i hi h => by unfold eqB at h; omega)⟩
  · have t0 : ((ee : Int) != 0) = true := by simp; exact e0
    have HF := hid (hA (Or.inl e0))
    have HE := hid e0; clear e0 hsz hA
    go_enter Tryd.func82, Tryd.ntmps82
    go_wp2_with fail
    refine (hf _).mono ?_
    generalize rFail ⟨bs, ee⟩ 2 = q at *
    obtain ⟨qb, qe⟩ := q
    rintro e w1 ⟨rfl, f1⟩
    simp only [Rd.val]
    obtain ⟨g1, g2⟩ := fr_cells f1 (heap_two _ _ _).2 id
    have g3 := g1 0 _ rfl
    have g4 := g1 1 _ rfl
    clear g1
    have f2 : Fr noB w w1 := (((Fr.refl _ _).alloc _).alloc _).then' f1
    have F1 := hid f1
    clear f1
    go_wp2_with fail
    exact bodyPost_ret (v := .tuple #[.agg #[.string (mkS qb), .int .i64 (qe : Nat)], .string ⟨#[]⟩, .bool false]) (by simp [results, Tryd.results82, go_sem, g3, g4]) rfl
      ⟨false, by rw [HF.out]; rfl, (f2.setCell (Or.inr (Nat.le_succ _)) _).setCell (p := ⟨w.heap.size + 1, 1, none⟩) (Or.inr (Nat.le_succ _)) _⟩
end Go.Proofs.YtahcopmdffengaaDoor
/- Contracts of interrexref01: Value, Get, GetTruth. -/
namespace Go.Proofs.YtahcopmdffengaaDoor
open Go.RowKit

theorem u64_wrap (x : Nat) (h : x < 18446744073709551616) : IntKind.u64.wrap (x : Int) = x := by
  rw [IntKind.wrap_u64]; omega
theorem leV_drop {bs : List UInt8} {m : Nat} (h : m < bs.length) : leV (bs.drop m) = (bs.getD m 0).toNat + 256 * leV (bs.drop (m + 1)) := by
  rw [List.drop_eq_getElem_cons h, leV, List.getD_eq_getElem?_getD, List.getElem?_eq_getElem h]
  rfl
theorem value_step {bs : List UInt8} {m : Nat} (hl : bs.length ≤ 8) (h : m < bs.length) :
    IntKind.u64.wrap (IntKind.u64.wrap ((leV (bs.drop (m + 1)) : Nat) * 256 : Int) + IntKind.u64.wrap (((bs[m]?.getD 0).toNat : Nat) : Int)) = ((leV (bs.drop m) : Nat) : Int) := by
  have h1 := leV_drop h
  have h2 := leV_lt (bs.drop m)
  have h3 : (256 : Nat) ^ (bs.drop m).length ≤ 256 ^ 8 := Nat.pow_le_pow_right (by omega) (by rw [List.length_drop]; omega)
  have h4 : (256 : Nat) ^ 8 = 18446744073709551616 := by decide
  rw [List.getD_eq_getElem?_getD] at h1
  have hb := (bs[m]?.getD 0).toNat_lt
  generalize (bs[m]?.getD 0).toNat = b at *
  generalize leV (bs.drop (m + 1)) = x at *
  generalize leV (bs.drop m) = y at *
  have e1 : ((x : Int) * 256) = ((x * 256 : Nat) : Int) := (Int.natCast_mul x 256).symm
  rw [e1, u64_wrap _ (by omega), u64_wrap _ (by omega), ← Int.natCast_add, u64_wrap _ (by omega)]
  omega
set_option maxRecDepth 100000 in
set_option maxHeartbeats 1600000 in
theorem valueR_calls (w : World) (bs : List UInt8) (hl : bs.length ≤ 8) : Calls Tryd.prog 92 #[.string (mkS bs)] w (fun e w' => e = .returned (.int .u64 (leV bs : Nat)) ∧ w = w') := by
  have hsz : (mkS bs).size = bs.length := mkS_size _
  have hx : ∀ (j : Nat) (h : j < (mkS bs).size), ((mkS bs)[j]'h).toNat = (bs.getD j 0).toNat := fun j h => by
    rw [hsz] at h
    rw [List.getD_eq_getElem?_getD, List.getElem?_eq_getElem h]
    simp [mkS]
    rfl
  generalize hS : mkS bs = s at *
  generalize hn : bs.length = n at *
  have HS := hid hS; clear hS
  have HN := hid hn; clear hn
  have HZ := hid hsz
  have h64 : s.size ≤ 8 := by omega
  clear hsz
  go_enter Tryd.func92, Tryd.ntmps92
  go_wp2_with fail
  go_loop [3, 4] (fun x i => ∃ j : Nat, j ≤ s.size ∧ i = .int .i64 ((j : Int) - 1) ∧ x = .int .u64 (leV (bs.drop j) : Nat)) (fun _ i => (intOf i + 1).toNat)
  case atStart =>
    refine ⟨s.size, Nat.le_refl _, rfl, ?_⟩
    rw [HZ.out, List.drop_eq_nil_of_le (by rw [HN.out]; exact Nat.le_refl _)]
    rfl
  case round =>
    obtain ⟨j, hj, rfl, rfl⟩ := hrel
    by_cases hj0 : j = 0
    · subst hj0
      go_wp2_with fail
      go_ret
      exact ⟨rfl, rfl⟩
    · obtain ⟨m, rfl⟩ : ∃ m, j = m + 1 := ⟨j - 1, by omega⟩
      have hst := value_step (bs := bs) (m := m) (by rw [HN.out]; exact hl) (by rw [HN.out, ← HZ.out]; omega)
      have HST := hid hst; clear hst
      go_wp2_with fail
      go_round
      case rel => exact ⟨m, by omega, rfl, by rw [HST.out]⟩
      case measure => simp [intOf]

set_option maxRecDepth 100000 in
set_option maxHeartbeats 1600000 in
theorem getR_calls (w : World) (r : Rd) (k : Nat) (hi : r.inv) (hl : r.bs.length ≤ 1000000000000) (hk : k ≤ 8) :
    Calls Tryd.prog 81 #[.agg #[.string (mkS r.bs), .int .i64 (r.e : Nat)], .int .i64 k] w
      (fun e w' => e = .returned (.tuple #[(rNum r k).1.val, .int .u64 ((rNum r k).2 : Nat)]) ∧ Fr noB w w') := by
  have hc := fun W => takeR_calls W r k hi hl (by omega)
  have hx := rTake_len r k
  have HF : Hid (rNum r k = ((rTake r k).1, leV (rTake r k).2)) := rfl
  generalize (rTake r k).1 = q at *
  generalize (rTake r k).2 = xs at *
  obtain ⟨bs, ee⟩ := r
  obtain ⟨qb, qe⟩ := q
  simp only [Rd.val] at *
  go_enter Tryd.func81, Tryd.ntmps81
  go_wp2_with fail
  refine (hc _).mono ?_
  rintro e w1 ⟨b, rfl, f1⟩
  clear hc
  obtain ⟨g1, g2⟩ := fr_cells f1 (heap_two _ _ _).2 id
  have hz := f1.heap (heap_two _ _ _).2 id
  have z1 := f1.size
  have f2 : Fr noB w w1 := (((Fr.refl _ _).alloc _).alloc _).then' f1
  have F1 := hid f1
  clear f1 g1
  go_wp2_with fail
  have hb0 : (w1.alloc (.cells #[.string (mkS qb), .int .i64 (qe : Nat)] 46)).heap[w1.heap.size]? = some (.cells #[.string (mkS qb), .int .i64 (qe : Nat)] 46 (0, 0)) := heap_alloc_new _ _
  have hres : (w1.alloc (.cells #[.string (mkS qb), .int .i64 (qe : Nat)] 46)).heap[w.heap.size + 1]? = some (.cells #[.string ⟨#[]⟩, .int .i64 0] 46 (0, 0)) := ((Fr.refl noB w1).alloc _).heap hz id
  have f3 : Fr noB w (w1.alloc (.cells #[.string (mkS qb), .int .i64 (qe : Nat)] 46)) := f2.alloc _
  have z2 : w.heap.size + 1 < w1.heap.size := by simp at z1; omega
  generalize w1.alloc (.cells #[.string (mkS qb), .int .i64 (qe : Nat)] 46) = wa at *
  refine wp_region_calm (R := Fr (eqB (w.heap.size + 1))) (C := fun q W => Fr (eqB (w.heap.size + 1)) wa W ∧ W.heap[w1.heap.size]? = some (.cells #[.string (mkS qb), .int .i64 (qe : Nat)] 46 (0, 0)) ∧ W.heap[w.heap.size + 1]? = some (.cells (if q = 0 then #[.string ⟨#[]⟩, .int .i64 0] else #[.string (mkS qb), .int .i64 (qe : Nat)]) 46 (0, 0))) [false, false, false, true, false]
    [eqv (.agg #[.string (mkS qb), .int .i64 (qe : Nat)]), eqv (.string (mkS xs)), eqv (.int .u64 (leV xs : Nat)), anyv, eqv (.int .u64 (leV xs : Nat))]
    (by kernel_rfl) (by kernel_rfl) (fun _ _ _ h1 h2 => h1.then' h2) ((Fr.refl _ _).drew) ⟨(Fr.refl _ _).drew, hb0, hres⟩ (by kernel_rfl) ?_ ?_
  · refine ⟨?_, ?_, ?_, ?_, ?_, trivial⟩
    · rw [if_neg (by decide)]; intro kq
      intro a W K hC hd hK
      have d6 : a.tmps[6]?.getD undef = .pointer (some ⟨w1.heap.size, 0, none⟩) := hd 6 (by decide)
      have c0 : W.cell? ⟨w1.heap.size, 0, none⟩ = some (.string (mkS qb)) := by simp [World.cell?, hC.2.1]
      have c1 : W.cell? ⟨w1.heap.size, 1, none⟩ = some (.int .i64 (qe : Nat)) := by simp [World.cell?, hC.2.1]
      refine wpOp_plain rfl rfl ?_
      go_wp2_with fail
      exact hK _ _ (Fr.refl _ _) hC rfl
    · rw [if_neg (by decide)]; intro kq
      exact calm_mv 7 rfl rfl (Or.inl rfl) (Fr.refl _) (by decide) fun v w hd => hd
    · rw [if_neg (by decide)]; intro kq
      intro a W K hC hd hK
      have d17 : a.tmps[17]?.getD undef = .string (mkS xs) := hd 17 (by decide)
      refine wpOp_plain rfl rfl ?_
      go_wp2_with fail
      refine (valueR_calls W xs (by omega)).mono ?_
      rintro e w' ⟨rfl, rfl⟩
      exact hK _ _ (Fr.refl _ _) hC rfl
    · rw [if_pos (by decide)]
      intro a W K hC hd hK
      replace hC : (fun q W => Fr (eqB (w.heap.size + 1)) wa W ∧ W.heap[w1.heap.size]? = some (.cells #[.string (mkS qb), .int .i64 (qe : Nat)] 46 (0, 0)) ∧ W.heap[w.heap.size + 1]? = some (.cells (if q = 0 then #[.string ⟨#[]⟩, .int .i64 0] else #[.string (mkS qb), .int .i64 (qe : Nat)]) 46 (0, 0))) 0 W := hC
      have d4 : a.tmps[4]?.getD undef = .pointer (some ⟨w.heap.size + 1, 0, none⟩) := hd 4 (by decide)
      have d16 : a.tmps[16]?.getD undef = .agg #[.string (mkS qb), .int .i64 (qe : Nat)] := hd 16 (by decide)
      have hz : W.heap[w.heap.size + 1]? = some (.cells #[.string ⟨#[]⟩, .int .i64 0] 46 (0, 0)) := hC.2.2
      have b0 : W.cell? ⟨w.heap.size + 1, 0, none⟩ = some (.string ⟨#[]⟩) := by simp [World.cell?, hz]
      have b1 : W.cell? ⟨w.heap.size + 1, 1, none⟩ = some (.int .i64 0) := by simp [World.cell?, hz]
      have z0 : ∀ j, W.frozen? ⟨w.heap.size + 1, j, none⟩ = false := fun j => by simp [World.frozen?, hz]
      refine wpOp_plain rfl rfl ?_
      have fs := fr_set2 W (w.heap.size + 1) (.string (mkS qb)) (.int .i64 (qe : Nat))
      go_wp2_with fail
      exact hK undef _ fs ⟨hC.1.then' fs, fs.heap hC.2.1 (by unfold eqB; omega), set2 hz⟩ trivial
    · rw [if_neg (by decide)]; intro kq
      exact calm_mv 18 rfl rfl (Or.inr rfl) (Fr.refl _) (by decide) fun v w hd => hd
  · intro vs w9 fw9 cw9 hV
    have v5 : vs 4 = .int .u64 (leV xs : Nat) := hV 4 _ _ rfl rfl (by decide)
    clear hV
    simp only [putL, Act.put, List.setIfInBounds_toArray, List.set_cons_zero, List.set_cons_succ, v5]
    have hz9 : w9.heap[w.heap.size + 1]? = some (.cells #[.string (mkS qb), .int .i64 (qe : Nat)] 46 (0, 0)) := cw9.2.2
    have b0 : w9.cell? ⟨w.heap.size + 1, 0, none⟩ = some (.string (mkS qb)) := by simp [World.cell?, hz9]
    have b1 : w9.cell? ⟨w.heap.size + 1, 1, none⟩ = some (.int .i64 (qe : Nat)) := by simp [World.cell?, hz9]
    go_wp2_with fail
    exact bodyPost_ret (v := .tuple #[.agg #[.string (mkS qb), .int .i64 (qe : Nat)], .int .u64 (leV xs : Nat)]) (by simp [results, Tryd.results81, go_sem, b0, b1]) rfl
      ⟨by rw [HF.out], f3.trans fw9 (fun i hi h => by unfold eqB at h; omega)⟩
end Go.Proofs.YtahcopmdffengaaDoor
/- Contracts of interrexref01: GetTruth, GetText. -/
namespace Go.Proofs.YtahcopmdffengaaDoor
open Go.RowKit

theorem rNum_pos {r : Rd} {n : Nat} (hi : r.inv) (h : 0 < (rNum r n).2) : (rNum r n).1.e = 0 := by
  unfold rNum rTake at *
  split
  · rename_i h1; rw [if_pos h1] at h; simp [leV] at h
  · rename_i h1
    rw [if_neg h1] at h
    simp only at h ⊢
    rcases Nat.eq_zero_or_pos r.e with e | e
    · exact e
    · have := hi (by omega)
      rw [this] at h; simp [leV] at h
theorem rNum_inv {r : Rd} (n : Nat) (hi : r.inv) : (rNum r n).1.inv := rTake_inv n hi
theorem rFail_len (r : Rd) (k : Nat) : (rFail r k).bs.length ≤ r.bs.length := by
  unfold rFail; split <;> simp
theorem rTake_left (r : Rd) (n : Nat) : (rTake r n).1.bs.length ≤ r.bs.length := by
  unfold rTake; split
  · exact rFail_len r 2
  · simp
/-- The result's block and the box of a struct: what a call leaves. -/
def RRPost (w : World) (r : Rd) (v : Value) (e : Ending) (w' : World) : Prop := e = .returned (.tuple #[r.val, v]) ∧ Fr noB w w'

set_option maxRecDepth 100000 in
set_option maxHeartbeats 1600000 in
theorem truthGetR_calls (w : World) (r : Rd) (hi : r.inv) (hl : r.bs.length ≤ 1000000000000) :
    Calls Tryd.prog 66 #[.agg #[.string (mkS r.bs), .int .i64 (r.e : Nat)]] w (RRPost w (rTruth r).1 (.bool (rTruth r).2)) := by
  have hc := fun W => getR_calls W r 1 hi hl (by omega)
  have hx : (rNum r 1).2 < 256 := rNum_lt r 1
  have hp := rNum_pos (n := 1) hi
  have HF : Hid (rTruth r = (if 1 < (rNum r 1).2 then rFail (rNum r 1).1 4 else (rNum r 1).1, (rNum r 1).2 == 1)) := rfl
  generalize (rNum r 1).1 = q at *
  generalize (rNum r 1).2 = x at *
  obtain ⟨bs, ee⟩ := r
  obtain ⟨qb, qe⟩ := q
  simp only [Rd.val] at *
  by_cases hx1 : 1 < x
  · have h1 : rFail ⟨qb, qe⟩ 4 = ⟨[], 4⟩ := by unfold rFail; rw [if_pos ⟨hp (by omega), by decide⟩]
    have h2 : (x == 1) = false := by simp; omega
    rw [if_pos hx1, h1, h2] at HF
    clear h1 h2 hp
    go_enter Tryd.func66, Tryd.ntmps66
    go_wp2_with fail
    refine (hc _).mono ?_
    rintro e w1 ⟨rfl, f1⟩
    clear hc
    obtain ⟨g1, g2⟩ := fr_cells f1 (heap_two _ _ _).2 id
    have hz := f1.heap (heap_two _ _ _).2 id
    have g3 := g1 0 (.string ⟨#[]⟩) rfl
    have g4 := g1 1 (.int .i64 0) rfl
    have z1 := f1.size
    have z2 : w.heap.size + 1 < w1.heap.size := by simp at z1; omega
    have f2 : Fr noB w w1 := (((Fr.refl _ _).alloc _).alloc _).then' f1
    have F1 := hid f1
    clear f1 g1 z1
    have g5 := cell_al g3
    have g6 := cell_al g4
    go_wp2_with fail
    obtain ⟨b0, b1⟩ := cells2 (heap_al (set2 (u := .string ⟨#[]⟩) (v := .int .i64 4) hz) (.cells #[.string (mkS qb), .int .i64 (qe : Nat)] 46))
    exact bodyPost_ret (v := .tuple #[.agg #[.string ⟨#[]⟩, .int .i64 4], .bool false]) (by simp [results, Tryd.results66, go_sem, b0, b1]) rfl
      ⟨by rw [HF.out]; rfl, ((f2.setCell (p := ⟨w.heap.size + 1, 0, none⟩) (Or.inr (Nat.le_succ _)) _).setCell (p := ⟨w.heap.size + 1, 1, none⟩) (Or.inr (Nat.le_succ _)) _).alloc _⟩
  · rw [if_neg hx1] at HF
    obtain ⟨tb, htb⟩ : ∃ tb, tb = (x == 1) := ⟨_, rfl⟩
    have t1 : ((x : Int) == 1) = tb := by rw [htb, Bool.eq_iff_iff]; simp; omega
    rw [← htb] at HF
    clear htb hp
    go_enter Tryd.func66, Tryd.ntmps66
    go_wp2_with fail
    refine (hc _).mono ?_
    rintro e w1 ⟨rfl, f1⟩
    clear hc
    obtain ⟨g1, g2⟩ := fr_cells f1 (heap_two _ _ _).2 id
    have hz := f1.heap (heap_two _ _ _).2 id
    have g3 := g1 0 (.string ⟨#[]⟩) rfl
    have g4 := g1 1 (.int .i64 0) rfl
    have z1 := f1.size
    have z2 : w.heap.size + 1 < w1.heap.size := by simp at z1; omega
    have f2 : Fr noB w w1 := (((Fr.refl _ _).alloc _).alloc _).then' f1
    have F1 := hid f1
    clear f1 g1 z1
    have g5 := cell_al g3
    have g6 := cell_al g4
    go_wp2_with fail
    obtain ⟨b0, b1⟩ := cells2 (heap_al (set2 (u := .string (mkS qb)) (v := .int .i64 (qe : Nat)) hz) (.cells #[.string (mkS qb), .int .i64 (qe : Nat)] 46))
    exact bodyPost_ret (v := .tuple #[.agg #[.string (mkS qb), .int .i64 (qe : Nat)], .bool tb]) (by simp [results, Tryd.results66, go_sem, b0, b1]) rfl
      ⟨by rw [HF.out]; rfl, ((f2.setCell (p := ⟨w.heap.size + 1, 0, none⟩) (Or.inr (Nat.le_succ _)) _).setCell (p := ⟨w.heap.size + 1, 1, none⟩) (Or.inr (Nat.le_succ _)) _).alloc _⟩

theorem rFail_ne {r : Rd} (k : Nat) (h : r.e ≠ 0) : rFail r k = r := by unfold rFail; rw [if_neg (by simp [h])]
set_option maxRecDepth 100000 in
set_option maxHeartbeats 1600000 in
theorem textGetR_calls (w : World) (r : Rd) (most : Int) (hi : r.inv) (hl : r.bs.length ≤ 1000000000000) (hm1 : -9223372036854775808 ≤ most) (hm2 : most ≤ 9223372036854775807) :
    Calls Tryd.prog 65 #[.agg #[.string (mkS r.bs), .int .i64 (r.e : Nat)], .int .i64 most] w (RRPost w (rText r most).1 (.string (mkS (rText r most).2))) := by
  have hc := fun W => getR_calls W r 2 hi hl (by omega)
  have hx : (rNum r 2).2 < 65536 := rNum_lt r 2
  have hp := rNum_pos (n := 2) hi
  have hv := rNum_inv 2 hi
  have hle : (rNum r 2).1.bs.length ≤ 1000000000000 := Nat.le_trans (rTake_left r 2) hl
  have HF : Hid (rText r most = rTake (if max 0 most < ((rNum r 2).2 : Int) then (rFail (rNum r 2).1 3, 0) else ((rNum r 2).1, (rNum r 2).2)).1 (if max 0 most < ((rNum r 2).2 : Int) then (rFail (rNum r 2).1 3, 0) else ((rNum r 2).1, (rNum r 2).2)).2) := rfl
  generalize (rNum r 2).1 = q at *
  generalize (rNum r 2).2 = x at *
  obtain ⟨bs, ee⟩ := r
  obtain ⟨qb, qe⟩ := q
  simp only [Rd.val] at *
  by_cases hx1 : max 0 most < (x : Int)
  · have q0 : qe = 0 := hp (by omega)
    have h1 : rFail ⟨qb, qe⟩ 3 = ⟨[], 3⟩ := by unfold rFail; rw [if_pos ⟨q0, by decide⟩]
    rw [if_pos hx1, h1] at HF
    have t0 : ((qe : Int) == 0) = true := by simp; exact q0
    have Q0 := hid q0; clear q0 hp h1
    go_enter Tryd.func65, Tryd.ntmps65
    go_wp2_with fail
    refine (hc _).mono ?_
    rintro e w1 ⟨rfl, f1⟩
    clear hc
    obtain ⟨g1, g2⟩ := fr_cells f1 (heap_two _ _ _).2 id
    have hz := f1.heap (heap_two _ _ _).2 id
    have g3 := g1 0 (.string ⟨#[]⟩) rfl
    have g4 := g1 1 (.int .i64 0) rfl
    have z1 := f1.size
    have z2 : w.heap.size + 1 < w1.heap.size := by simp at z1; omega
    have f2 : Fr noB w w1 := (((Fr.refl _ _).alloc _).alloc _).then' f1
    have F1 := hid f1
    clear f1 g1 z1
    have g5 := cell_al g3
    have g6 := cell_al g4
    go_wp2_with fail
    all_goals
      obtain ⟨b0, b1⟩ := cells2 (heap_al (set2 (u := .string ⟨#[]⟩) (v := .int .i64 3) hz) (.cells #[.string (mkS qb), .int .i64 (qe : Nat)] 46))
      exact bodyPost_ret (v := .tuple #[.agg #[.string ⟨#[]⟩, .int .i64 3], .string ⟨#[]⟩]) (by simp [results, Tryd.results65, go_sem, b0, b1]) rfl
        ⟨by rw [HF.out]; rfl, ((f2.setCell (p := ⟨w.heap.size + 1, 0, none⟩) (Or.inr (Nat.le_succ _)) _).setCell (p := ⟨w.heap.size + 1, 1, none⟩) (Or.inr (Nat.le_succ _)) _).alloc _⟩
  · rw [if_neg hx1] at HF
    have ht := fun W => takeR_calls W ⟨qb, qe⟩ x hv hle (by omega)
    simp only [] at HF
    generalize rTake ⟨qb, qe⟩ x = q2 at *
    obtain ⟨⟨tb, te⟩, tx⟩ := q2
    simp only [Rd.val] at ht
    have hm : ((qe : Int) == 0) = false ∨ (((qe : Int) == 0) = true ∧ ((0 < most ∧ (x : Int) ≤ most) ∨ (most ≤ 0 ∧ (x : Int) ≤ 0))) := by
      rcases Nat.eq_zero_or_pos qe with h | h
      · refine Or.inr ⟨by simp [h], ?_⟩; omega
      · exact Or.inl (by simp; omega)
    clear hp hx1
    go_enter Tryd.func65, Tryd.ntmps65
    go_wp2_with fail
    refine (hc _).mono ?_
    rintro e w1 ⟨rfl, f1⟩
    clear hc
    obtain ⟨g1, g2⟩ := fr_cells f1 (heap_two _ _ _).2 id
    have hz := f1.heap (heap_two _ _ _).2 id
    have g3 := g1 0 (.string ⟨#[]⟩) rfl
    have g4 := g1 1 (.int .i64 0) rfl
    have z1 := f1.size
    have z2 : w.heap.size + 1 < w1.heap.size := by simp at z1; omega
    have f2 : Fr noB w w1 := (((Fr.refl _ _).alloc _).alloc _).then' f1
    have F1 := hid f1
    clear f1 g1 z1
    have g5 := cell_al g3
    have g6 := cell_al g4
    rcases hm with t0 | ⟨t0, ⟨m1, m2⟩ | ⟨m1, m2⟩⟩
    all_goals
      go_wp2_with fail
      refine (ht _).mono ?_
      rintro e w2 ⟨b, rfl, f3⟩
      clear ht
      obtain ⟨-, k2⟩ := fr_cells f3 (heap_alloc_new w1 _) id
      obtain ⟨-, l2⟩ := fr_cells f3 (heap_al hz _) id
      have hz2 := f3.heap (heap_al hz _) id
      have hz1 := f3.heap (heap_alloc_new w1 _) id
      obtain ⟨k3, k4⟩ := cells2 hz1
      obtain ⟨l3, l4⟩ := cells2 hz2
      have z3 := f3.size
      have z4 : w1.heap.size < w2.heap.size := by simp at z3; omega
      have f4 : Fr noB w w2 := (f2.alloc _).then' f3
      have F3 := hid f3
      clear f3 z3
      go_wp2_with fail
      have hz3 := (fr_set2 w2 w1.heap.size (.string (mkS tb)) (.int .i64 (te : Nat))).heap hz2 (by unfold eqB; omega)
      obtain ⟨b0, b1⟩ := cells2 (set2 (u := .string (mkS tb)) (v := .int .i64 (te : Nat)) hz3)
      exact bodyPost_ret (v := .tuple #[.agg #[.string (mkS tb), .int .i64 (te : Nat)], .string (mkS tx)]) (by simp [results, Tryd.results65, go_sem, b0, b1]) rfl
        ⟨by rw [HF.out]; rfl, (((f4.setCell (p := ⟨w1.heap.size, 0, none⟩) (Or.inr (by show w.heap.size ≤ w1.heap.size; omega)) _).setCell (p := ⟨w1.heap.size, 1, none⟩) (Or.inr (by show w.heap.size ≤ w1.heap.size; omega)) _).setCell (p := ⟨w.heap.size + 1, 0, none⟩) (Or.inr (Nat.le_succ _)) _).setCell (p := ⟨w.heap.size + 1, 1, none⟩) (Or.inr (Nat.le_succ _)) _⟩
end Go.Proofs.YtahcopmdffengaaDoor
/- Contract of interrexref01.GetRow. -/
namespace Go.Proofs.YtahcopmdffengaaDoor
open Go.RowKit

theorem rText_err {r : Rd} (hi : r.inv) (h : r.e ≠ 0) (long : Int) : rText r long = (r, []) := by
  have hb := hi h
  obtain ⟨bs, ee⟩ := r
  subst hb
  have h1 : rTake ⟨[], ee⟩ 2 = (⟨[], ee⟩, []) := by unfold rTake; rw [if_pos (by simp), rFail_ne 2 h]
  have h2 : rNum ⟨[], ee⟩ 2 = (⟨[], ee⟩, 0) := by unfold rNum; rw [h1]; rfl
  have h3 : rCount ⟨[], ee⟩ long = (⟨[], ee⟩, 0) := by unfold rCount; rw [h2, if_neg (by simp; omega)]
  unfold rText
  rw [h3]
  rfl
theorem rText_inv {r : Rd} (hi : r.inv) (long : Int) : (rText r long).1.inv := by
  unfold rText rCount
  refine rTake_inv _ ?_
  split
  · exact rFail_inv 3 (rNum_inv 2 hi)
  · exact rNum_inv 2 hi
theorem rCount_left (r : Rd) (most : Int) : (rCount r most).1.bs.length ≤ r.bs.length := by
  unfold rCount
  split
  · exact Nat.le_trans (rFail_len _ 3) (rTake_left r 2)
  · exact rTake_left r 2
theorem rText_left (r : Rd) (long : Int) : (rText r long).1.bs.length ≤ r.bs.length := Nat.le_trans (rTake_left _ _) (rCount_left r long)
theorem rTexts_inv {r : Rd} (hi : r.inv) (long : Int) (n : Nat) : (rTexts r long n).1.inv := by
  induction n with
  | zero => exact hi
  | succ n ih => exact rText_inv ih long
theorem rTexts_left (r : Rd) (long : Int) (n : Nat) : (rTexts r long n).1.bs.length ≤ r.bs.length := by
  induction n with
  | zero => exact Nat.le_refl _
  | succ n ih => exact Nat.le_trans (rText_left _ long) ih
theorem rTexts_err {r : Rd} (hi : r.inv) (long : Int) {n : Nat} (h : (rTexts r long n).1.e ≠ 0) : ∀ m, (rTexts r long (n + m)).1 = (rTexts r long n).1 := by
  intro m
  induction m with
  | zero => rfl
  | succ m ih =>
    show (rText (rTexts r long (n + m)).1 long).1 = _
    rw [rText_err (rTexts_inv hi long _) (by rw [ih]; exact h), ih]
theorem rRow_err {r r1 : Rd} {x : Nat} (hi : r1.inv) (most long : Int) (hc : rCount r most = (r1, x)) {k : Nat} (hk : k ≤ x) (h : (rTexts r1 long k).1.e ≠ 0) : rRow r most long = ((rTexts r1 long k).1, []) := by
  obtain ⟨m, rfl⟩ := Nat.exists_eq_add_of_le hk
  unfold rRow
  rw [hc]
  simp only
  rw [rTexts_err hi long h m, if_neg h]
theorem rRow_ok {r r1 : Rd} {x : Nat} (most long : Int) (hc : rCount r most = (r1, x)) (h : (rTexts r1 long x).1.e = 0) : rRow r most long = rTexts r1 long x := by
  unfold rRow
  rw [hc]
  simp only
  rw [if_pos h]

theorem cell_one_row' (w : World) (x : Value) (t : TypeId) {n : Nat} (h : w.heap.size = n) : RowAt (w.alloc (.cells #[x] t)) (some ⟨n, 0, none⟩) [x] := h ▸ cell_one_row w x t
/-- What GetRow leaves. -/
def RowRPost (w : World) (q : Rd × List ByteArray) (e : Ending) (w' : World) : Prop :=
  ∃ A n c, e = .returned (.tuple #[q.1.val, .slice A n c]) ∧ Hid (q.2.length = n) ∧ n ≤ 65535 ∧ RowAt w' A (strs q.2) ∧ (∀ ad, A = some ad → w.heap.size ≤ ad.block) ∧ Fr noB w w'

set_option maxRecDepth 100000 in
set_option maxHeartbeats 3200000 in
theorem rowGetR_calls (w : World) (r : Rd) (most long : Int) (hi : r.inv) (hl : r.bs.length ≤ 1000000000000) (hm1 : -9223372036854775808 ≤ most) (hm2 : most ≤ 9223372036854775807) (hl1 : -9223372036854775808 ≤ long) (hl2 : long ≤ 9223372036854775807) :
    Calls Tryd.prog 67 #[.agg #[.string (mkS r.bs), .int .i64 (r.e : Nat)], .int .i64 most, .int .i64 long] w (RowRPost w (rRow r most long)) := by
  have hc := fun W => getR_calls W r 2 hi hl (by omega)
  have hx : (rNum r 2).2 < 65536 := rNum_lt r 2
  have hp := rNum_pos (n := 2) hi
  have hv := rNum_inv 2 hi
  have hle : (rNum r 2).1.bs.length ≤ 1000000000000 := Nat.le_trans (rTake_left r 2) hl
  have HC : Hid (rCount r most = if max 0 most < ((rNum r 2).2 : Int) then (rFail (rNum r 2).1 3, 0) else ((rNum r 2).1, (rNum r 2).2)) := rfl
  generalize (rNum r 2).1 = q at *
  generalize (rNum r 2).2 = x at *
  by_cases hx1 : max 0 most < (x : Int)
  · obtain ⟨bs, ee⟩ := r
    obtain ⟨qb, qe⟩ := q
    simp only [Rd.val] at *
    have q0 : qe = 0 := hp (by omega)
    have h1 : rFail ⟨qb, qe⟩ 3 = ⟨[], 3⟩ := by unfold rFail; rw [if_pos ⟨q0, by decide⟩]
    rw [if_pos hx1, h1] at HC
    have HF : Hid (rRow ⟨bs, ee⟩ most long = (⟨[], 3⟩, [])) := rRow_err (fun _ => rfl) most long HC.out (Nat.le_refl _) (show (3 : Nat) ≠ 0 by decide)
    clear HC
    have t0 : ((qe : Int) == 0) = true := by simp; exact q0
    have Q0 := hid q0; clear q0 hp h1
    go_enter Tryd.func67, Tryd.ntmps67
    go_wp2_with fail
    refine (hc _).mono ?_
    rintro e w1 ⟨rfl, f1⟩
    clear hc
    obtain ⟨g1, g2⟩ := fr_cells f1 (heap_two _ _ _).2 id
    have hz := f1.heap (heap_two _ _ _).2 id
    have g3 := g1 0 (.string ⟨#[]⟩) rfl
    have g4 := g1 1 (.int .i64 0) rfl
    have z1 := f1.size
    have z2 : w.heap.size + 1 < w1.heap.size := by simp at z1; omega
    have f2 : Fr noB w w1 := (((Fr.refl _ _).alloc _).alloc _).then' f1
    have F1 := hid f1
    clear f1 g1 z1
    have g5 := cell_al g3
    have g6 := cell_al g4
    go_wp2_with fail
    all_goals
      obtain ⟨b0, b1⟩ := cells2 (heap_al (set2 (u := .string ⟨#[]⟩) (v := .int .i64 3) hz) (.cells #[.string (mkS qb), .int .i64 (qe : Nat)] 46))
      exact bodyPost_ret (v := .tuple #[.agg #[.string ⟨#[]⟩, .int .i64 3], .slice none 0 0]) (by simp [results, Tryd.results67, go_sem, b0, b1]) rfl
        ⟨none, 0, 0, by rw [HF.out]; rfl, by rw [HF.out]; rfl, by omega, by rw [HF.out]; exact RowAt.nil _ _, (fun _ e => by cases e), ((f2.setCell (p := ⟨w.heap.size + 1, 0, none⟩) (Or.inr (Nat.le_succ _)) _).setCell (p := ⟨w.heap.size + 1, 1, none⟩) (Or.inr (Nat.le_succ _)) _).alloc _⟩
  · rw [if_neg hx1] at HC
    have HE : ∀ k, k ≤ x → (rTexts q long k).1.e ≠ 0 → Hid (rRow r most long = ((rTexts q long k).1, [])) := fun k hk h => rRow_err hv most long HC.out hk h
    have HO : (rTexts q long x).1.e = 0 → Hid (rRow r most long = rTexts q long x) := fun h => rRow_ok most long HC.out h
    clear HC
    have hm : ((q.e : Int) == 0) = false ∨ (((q.e : Int) == 0) = true ∧ ((0 < most ∧ (x : Int) ≤ most) ∨ (most ≤ 0 ∧ (x : Int) ≤ 0))) := by
      rcases Nat.eq_zero_or_pos q.e with h | h
      · refine Or.inr ⟨by simp [h], ?_⟩; omega
      · exact Or.inl (by simp; omega)
    have hti := rTexts_inv hv long
    have htl := fun k => Nat.le_trans (rTexts_left q long k) hle
    have HP : Hid (0 < x → q.e = 0) := hp
    clear hx1 hp
    generalize hR : rRow r most long = R at *
    have HR := hid hR; clear hR
    obtain ⟨bs, ee⟩ := r
    simp only [Rd.val] at *
    go_enter Tryd.func67, Tryd.ntmps67
    go_wp2_with fail
    refine (hc _).mono ?_
    rintro e w1 ⟨rfl, f1⟩
    clear hc
    obtain ⟨g1, g2⟩ := fr_cells f1 (heap_two _ _ _).2 id
    have hz := f1.heap (heap_two _ _ _).2 id
    have z1 := f1.size
    have z2 : w.heap.size + 1 < w1.heap.size := by simp at z1; omega
    have f2 : Fr noB w w1 := (((Fr.refl _ _).alloc _).alloc _).then' f1
    have F1 := hid f1
    clear f1 g1 z1
    rcases hm with t0 | ⟨t0, ⟨m1, m2⟩ | ⟨m1, m2⟩⟩
    all_goals
      go_wp2_with fail
      go_loopw [10, 30] (fun v i wr => ∃ k : Nat, k ≤ x ∧ i = .int .u64 k ∧ (∃ A c, v = .slice A k c ∧ wr.ownsRow w.heap.size 9 1 v k (strs (rTexts q long k).2)) ∧ (0 < k → (rTexts q long k).1.e = 0) ∧ wr.heap[w1.heap.size]? = some (.cells #[.string (mkS (rTexts q long k).1.bs), .int .i64 ((rTexts q long k).1.e : Nat)] 46 (0, 0)) ∧ wr.heap[w.heap.size + 1]? = some (.cells #[.string ⟨#[]⟩, .int .i64 0] 46 (0, 0)) ∧ Fr noB w wr) (fun _ i _ => x - (intOf i).toNat)
      case atStart => exact ⟨0, Nat.zero_le _, rfl, ⟨none, 0, rfl, World.ownsRow_nil _ _ _ _⟩, fun h => absurd h (Nat.lt_irrefl _), heap_alloc_new _ _, heap_al hz _, f2.alloc _⟩
      case round =>
        obtain ⟨k, hk, rfl, ⟨A, c, rfl, hown⟩, hok, hs, hres, hf⟩ := hrel
        by_cases hkx : k < x
        · try (exfalso; omega)
          all_goals
            have hS : rTexts q long (k + 1) = ((rText (rTexts q long k).1 long).1, (rTexts q long k).2 ++ [mkS (rText (rTexts q long k).1 long).2]) := rfl
            have hct := textGetR_calls wr (rTexts q long k).1 long (hti k) (htl k) hl1 hl2
            have hEk := HE (k + 1) hkx
            have hOk : (rTexts q long (k + 1)).1.e = 0 ∨ (rTexts q long (k + 1)).1.e ≠ 0 := by omega
            have HS : Hid ((rTexts q long (k + 1)) = ((rText (rTexts q long k).1 long).1, (rTexts q long k).2 ++ [mkS (rText (rTexts q long k).1 long).2])) := hS
            rw [hS] at hEk hOk
            clear hS hok
            generalize rTexts q long k = rk at *
            obtain ⟨⟨kb, ke⟩, ks⟩ := rk
            simp only [] at *
            obtain ⟨c0, c1⟩ := cells2 hs
            unfold RRPost at hct
            generalize rText ⟨kb, ke⟩ long = tt at *
            obtain ⟨⟨tb, te⟩, tx⟩ := tt
            simp only [Rd.val] at *
            go_wp2_with fail
            refine hct.mono ?_
            rintro e w2 ⟨rfl, f2⟩
            clear hct
            have hs2 := f2.heap hs id
            have hr2 := f2.heap hres id
            obtain ⟨-, k2⟩ := fr_cells f2 hs id
            obtain ⟨-, l2⟩ := fr_cells f2 hres id
            obtain ⟨d0, d1⟩ := cells2 hs2
            obtain ⟨d2, d3⟩ := cells2 hr2
            have hown2 : w2.ownsRow w.heap.size 9 1 (.slice A k c) k (strs ks) := own_fr hown f2 (fun g _ => id)
            have hne : ∀ g, (Value.slice A k c).ownBlock = some g → g ≠ w1.heap.size := fun g hg => own_ne hown2 hg hs2 (by decide)
            have hne2 : ∀ g, (Value.slice A k c).ownBlock = some g → g ≠ w.heap.size + 1 := fun g hg => own_ne hown2 hg hr2 (by decide)
            have z5 : w1.heap.size < w2.heap.size := by
              rcases Nat.lt_or_ge w1.heap.size w2.heap.size with h | h
              · exact h
              · rw [Array.getElem?_eq_none h] at hs2; exact absurd hs2 (by simp)
            have f4 : Fr noB w w2 := hf.then' f2
            have hbase : ∀ g, (Value.slice A k c).ownBlock = some g → w.heap.size ≤ g := fun g hg => (hown.lt g hg).1
            have F2 := hid f2
            clear f2 hf hown hs hres c0 c1
            have fs := fr_set2 w2 w1.heap.size (.string (mkS tb)) (.int .i64 (te : Nat))
            have s3 := set2 (u := .string (mkS tb)) (v := .int .i64 (te : Nat)) hs2
            have s4 := fs.heap hr2 (by unfold eqB; omega)
            have f5 := ((f4.setCell (p := ⟨w1.heap.size, 0, none⟩) (Or.inr (by show w.heap.size ≤ w1.heap.size; omega)) (.string (mkS tb))).setCell (p := ⟨w1.heap.size, 1, none⟩) (Or.inr (by show w.heap.size ≤ w1.heap.size; omega)) (.int .i64 (te : Nat)))
            have hown3 := own_fr hown2 fs hne
            clear fs
            rcases hOk with e0' | e0'
            · have t1 : ((te : Int) != 0) = false := by simp; exact e0'
              have E0 := hid e0'; clear e0'
              have hown4 : World.ownsRow _ 0 9 1 (.slice A k c) k (strs ks) := own_mono hown3 (fun _ _ => Nat.zero_le _)
              clear hown3 hown2
              go_wp2_with (at_builtin; refine wpList_app Tryd.appS rfl (.tmp 43) (.tmp 45) rfl _ k (strs ks) rfl ((hown4.alloc _).alloc _) _ 1 1 [.string (mkS tx)] rfl rfl (cell_one_row' _ _ _ (by simp)) (fun u hu => by simp at hu; subst hu; rfl) (by simp) (by omega) (by omega) ?_)
              intro A' c' w3 hown5 hg hat
              have fg : Fr (fun g => (Value.slice A k c).ownBlock = some g) _ w3 := Fr.grown (Fr.refl _ _) hg (fun g hg => Or.inl hg)
              have s5 := fg.heap (heap_al (heap_al s3 _) _) (fun h => hne _ h rfl)
              have s6 := fg.heap (heap_al (heap_al s4 _) _) (fun h => hne2 _ h rfl)
              have f6 : Fr noB w w3 := Fr.grown ((f5.alloc _).alloc _) hg (fun g hg => Or.inr (hbase g hg))
              obtain ⟨zz0, zz1⟩ := cells2 s5
              have hown6 : w3.ownsRow w.heap.size 9 1 (.slice A' (k + 1) c') (k + 1) (strs (ks ++ [mkS tx])) := by
                have : strs (ks ++ [mkS tx]) = strs ks ++ [.string (mkS tx)] := by simp [strs]
                rw [this]
                refine own_mono hown5 (fun g hg => ?_)
                rcases hat with e | e
                · exact hbase g (e ▸ hg)
                · rw [hg] at e; simp at e; have := f5.size; simp at this; omega
              clear fg hg hat hown4 hown5 s3 s4
              go_wp2_with fail
              go_roundw
              case rel => exact ⟨k + 1, by omega, by go_num, ⟨A', c', rfl, by rw [HS.out]; exact hown6⟩, fun _ => by rw [HS.out]; exact E0.out, by rw [HS.out]; exact s5, s6, f6⟩
              case measure => simp [intOf]; omega
            · have t1 : ((te : Int) != 0) = true := by simp; exact e0'
              have H1 := hEk e0'
              have E0 := hid e0'; clear e0'
              have s7 := heap_al s4 (.cells #[.string (mkS tb), .int .i64 (te : Nat)] 46)
              obtain ⟨n0, n1⟩ := cells2 s7
              obtain ⟨-, n2⟩ := fr_cells (Fr.refl noB _) s7 id
              go_wp2_with fail
              obtain ⟨b0, b1⟩ := cells2 (set2 (u := .string (mkS tb)) (v := .int .i64 (te : Nat)) s7)
              exact bodyPost_ret (v := .tuple #[.agg #[.string (mkS tb), .int .i64 (te : Nat)], .slice none 0 0]) (by simp [results, Tryd.results67, go_sem, b0, b1]) rfl
                ⟨none, 0, 0, by rw [H1.out]; rfl, by rw [H1.out]; rfl, by omega, by rw [H1.out]; exact RowAt.nil _ _, (fun _ e => by cases e), ((f5.alloc _).setCell (p := ⟨w.heap.size + 1, 0, none⟩) (Or.inr (Nat.le_succ _)) _).setCell (p := ⟨w.heap.size + 1, 1, none⟩) (Or.inr (Nat.le_succ _)) _⟩
        · have : k = x := by omega
          subst this
          have hlen := rTexts_len q long k
          have hinv := hti k
          have hEk := HE k (Nat.le_refl _)
          have hOk : (rTexts q long k).1.e = 0 → k = 0 ∨ 0 < k := by omega
          have hRR : Hid (∃ ss, R = ((rTexts q long k).1, ss) ∧ RowAt ((wr.setCell ⟨w.heap.size + 1, 0, none⟩ (.string (mkS (rTexts q long k).1.bs))).setCell ⟨w.heap.size + 1, 1, none⟩ (.int .i64 ((rTexts q long k).1.e : Nat))) A (strs ss) ∧ ss.length = k) := by
            rcases Nat.eq_zero_or_pos (rTexts q long k).1.e with h | h
            · exact ⟨(rTexts q long k).2, (HO h).out, own_row (own_fr hown (fr_set2 wr (w.heap.size + 1) _ _) (fun g hg => own_ne hown hg hres (by decide))), hlen⟩
            · rcases Nat.eq_zero_or_pos k with h' | h'
              · refine ⟨[], (HE k (Nat.le_refl _) (by omega)).out, RowAt.nil _ _, ?_⟩
                rw [h']; rfl
              · have := hok h'; omega
          have hbase : ∀ ad, A = some ad → w.heap.size ≤ ad.block := fun ad e => (hown.lt _ (by rw [e]; rfl)).1
          clear hEk hOk HO HE hok hlen hinv hown
          generalize rTexts q long k = rk at *
          obtain ⟨⟨kb, ke⟩, ks⟩ := rk
          simp only [] at *
          obtain ⟨c0, c1⟩ := cells2 hs
          obtain ⟨c2, c3⟩ := cells2 hres
          obtain ⟨-, l2⟩ := fr_cells (Fr.refl noB wr) hres id
          go_wp2_with fail
          obtain ⟨b0, b1⟩ := cells2 (set2 (u := .string (mkS kb)) (v := .int .i64 (ke : Nat)) hres)
          obtain ⟨ss, e1, e2, e3⟩ := hRR.out
          refine bodyPost_ret (v := .tuple #[.agg #[.string (mkS kb), .int .i64 (ke : Nat)], .slice A k c]) (by simp [results, Tryd.results67, go_sem, b0, b1]) rfl
            ⟨A, k, c, by rw [e1]; rfl, by rw [e1]; exact e3, by omega, ?_, hbase, (hf.setCell (p := ⟨w.heap.size + 1, 0, none⟩) (Or.inr (Nat.le_succ _)) _).setCell (p := ⟨w.heap.size + 1, 1, none⟩) (Or.inr (Nat.le_succ _)) _⟩
          rw [e1]
          exact e2
end Go.Proofs.YtahcopmdffengaaDoor
