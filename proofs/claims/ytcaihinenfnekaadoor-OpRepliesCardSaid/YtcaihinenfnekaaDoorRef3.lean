/- Contracts of interrexref01: Value, Get, GetTruth. -/
import Derived.Test.YtcaihinenfnekaaDoorRef2
namespace Go.Proofs.YtcaihinenfnekaaDoor
open Go.RowKit

theorem u64_wrap (x : Nat) (h : x < 18446744073709551616) : IntKind.u64.wrap (x : Int) = x := by
  rw [IntKind.wrap_u64]; omega
theorem leV_drop {bs : List UInt8} {m : Nat} (h : m < bs.length) : leV (bs.drop m) = (bs.getD m 0).toNat + 256 * leV (bs.drop (m + 1)) := by
  rw [List.drop_eq_getElem_cons h, leV, List.getD_eq_getElem?_getD, List.getElem?_eq_getElem h]
  rfl
theorem value_step {bs : List UInt8} {m : Nat} (hl : bs.length ≤ 8) (h : m < bs.length) :
    IntKind.u64.wrap (IntKind.u64.wrap ((leV (bs.drop (m + 1)) : Nat) * 256 : Int) + IntKind.u64.wrap (((bs[m]?.getD 0).toNat : Nat) : Int)) = ((leV (bs.drop m) : Nat) : Int) := by
  have h1 := leV_drop h
  have h2 := leV_lt (bs.drop m)
  have h3 : (256 : Nat) ^ (bs.drop m).length ≤ 256 ^ 8 := Nat.pow_le_pow_right (by omega) (by rw [List.length_drop]; omega)
  have h4 : (256 : Nat) ^ 8 = 18446744073709551616 := by decide
  rw [List.getD_eq_getElem?_getD] at h1
  have hb := (bs[m]?.getD 0).toNat_lt
  generalize (bs[m]?.getD 0).toNat = b at *
  generalize leV (bs.drop (m + 1)) = x at *
  generalize leV (bs.drop m) = y at *
  have e1 : ((x : Int) * 256) = ((x * 256 : Nat) : Int) := (Int.natCast_mul x 256).symm
  rw [e1, u64_wrap _ (by omega), u64_wrap _ (by omega), ← Int.natCast_add, u64_wrap _ (by omega)]
  omega
set_option maxRecDepth 100000 in
set_option maxHeartbeats 1600000 in
theorem valueR_calls (w : World) (bs : List UInt8) (hl : bs.length ≤ 8) : Calls Tryd.prog 122 #[.string (mkS bs)] w (fun e w' => e = .returned (.int .u64 (leV bs : Nat)) ∧ w = w') := by
  have hsz : (mkS bs).size = bs.length := mkS_size _
  have hx : ∀ (j : Nat) (h : j < (mkS bs).size), ((mkS bs)[j]'h).toNat = (bs.getD j 0).toNat := fun j h => by
    rw [hsz] at h
    rw [List.getD_eq_getElem?_getD, List.getElem?_eq_getElem h]
    simp [mkS]
    rfl
  generalize hS : mkS bs = s at *
  generalize hn : bs.length = n at *
  have HS := hid hS; clear hS
  have HN := hid hn; clear hn
  have HZ := hid hsz
  have h64 : s.size ≤ 8 := by omega
  clear hsz
  go_enter Tryd.func122, Tryd.ntmps122
  go_wp2_with fail
  go_loop [3, 4] (fun x i => ∃ j : Nat, j ≤ s.size ∧ i = .int .i64 ((j : Int) - 1) ∧ x = .int .u64 (leV (bs.drop j) : Nat)) (fun _ i => (intOf i + 1).toNat)
  case atStart =>
    refine ⟨s.size, Nat.le_refl _, rfl, ?_⟩
    rw [HZ.out, List.drop_eq_nil_of_le (by rw [HN.out]; exact Nat.le_refl _)]
    rfl
  case round =>
    obtain ⟨j, hj, rfl, rfl⟩ := hrel
    by_cases hj0 : j = 0
    · subst hj0
      go_wp2_with fail
      go_ret
      exact ⟨rfl, rfl⟩
    · obtain ⟨m, rfl⟩ : ∃ m, j = m + 1 := ⟨j - 1, by omega⟩
      have hst := value_step (bs := bs) (m := m) (by rw [HN.out]; exact hl) (by rw [HN.out, ← HZ.out]; omega)
      have HST := hid hst; clear hst
      go_wp2_with fail
      go_round
      case rel => exact ⟨m, by omega, rfl, by rw [HST.out]⟩
      case measure => simp [intOf]

set_option maxRecDepth 100000 in
set_option maxHeartbeats 1600000 in
theorem getR_calls (w : World) (r : Rd) (k : Nat) (hi : r.inv) (hl : r.bs.length ≤ 1000000000000) (hk : k ≤ 8) :
    Calls Tryd.prog 90 #[.agg #[.string (mkS r.bs), .int .i64 (r.e : Nat)], .int .i64 k] w
      (fun e w' => e = .returned (.tuple #[(rNum r k).1.val, .int .u64 ((rNum r k).2 : Nat)]) ∧ Fr noB w w') := by
  have hc := fun W => takeR_calls W r k hi hl (by omega)
  have hx := rTake_len r k
  have HF : Hid (rNum r k = ((rTake r k).1, leV (rTake r k).2)) := rfl
  generalize (rTake r k).1 = q at *
  generalize (rTake r k).2 = xs at *
  obtain ⟨bs, ee⟩ := r
  obtain ⟨qb, qe⟩ := q
  simp only [Rd.val] at *
  go_enter Tryd.func90, Tryd.ntmps90
  go_wp2_with fail
  refine (hc _).mono ?_
  rintro e w1 ⟨b, rfl, f1⟩
  clear hc
  obtain ⟨g1, g2⟩ := fr_cells f1 (heap_two _ _ _).2 id
  have hz := f1.heap (heap_two _ _ _).2 id
  have z1 := f1.size
  have f2 : Fr noB w w1 := (((Fr.refl _ _).alloc _).alloc _).then' f1
  have F1 := hid f1
  clear f1 g1
  go_wp2_with fail
  have hb0 : (w1.alloc (.cells #[.string (mkS qb), .int .i64 (qe : Nat)] 138)).heap[w1.heap.size]? = some (.cells #[.string (mkS qb), .int .i64 (qe : Nat)] 138 (0, 0)) := heap_alloc_new _ _
  have hres : (w1.alloc (.cells #[.string (mkS qb), .int .i64 (qe : Nat)] 138)).heap[w.heap.size + 1]? = some (.cells #[.string ⟨#[]⟩, .int .i64 0] 138 (0, 0)) := ((Fr.refl noB w1).alloc _).heap hz id
  have f3 : Fr noB w (w1.alloc (.cells #[.string (mkS qb), .int .i64 (qe : Nat)] 138)) := f2.alloc _
  have z2 : w.heap.size + 1 < w1.heap.size := by simp at z1; omega
  generalize w1.alloc (.cells #[.string (mkS qb), .int .i64 (qe : Nat)] 138) = wa at *
  refine wp_region_calm (R := Fr (eqB (w.heap.size + 1))) (C := fun q W => Fr (eqB (w.heap.size + 1)) wa W ∧ W.heap[w1.heap.size]? = some (.cells #[.string (mkS qb), .int .i64 (qe : Nat)] 138 (0, 0)) ∧ W.heap[w.heap.size + 1]? = some (.cells (if q = 0 then #[.string ⟨#[]⟩, .int .i64 0] else #[.string (mkS qb), .int .i64 (qe : Nat)]) 138 (0, 0))) [false, false, false, true, false]
    [eqv (.agg #[.string (mkS qb), .int .i64 (qe : Nat)]), eqv (.string (mkS xs)), eqv (.int .u64 (leV xs : Nat)), anyv, eqv (.int .u64 (leV xs : Nat))]
    (by kernel_rfl) (by kernel_rfl) (fun _ _ _ h1 h2 => h1.then' h2) ((Fr.refl _ _).drew) ⟨(Fr.refl _ _).drew, hb0, hres⟩ (by kernel_rfl) ?_ ?_
  · refine ⟨?_, ?_, ?_, ?_, ?_, trivial⟩
    · rw [if_neg (by decide)]; intro kq
      intro a W K hC hd hK
      have d6 : a.tmps[6]?.getD undef = .pointer (some ⟨w1.heap.size, 0, none⟩) := hd 6 (by decide)
      have c0 : W.cell? ⟨w1.heap.size, 0, none⟩ = some (.string (mkS qb)) := by simp [World.cell?, hC.2.1]
      have c1 : W.cell? ⟨w1.heap.size, 1, none⟩ = some (.int .i64 (qe : Nat)) := by simp [World.cell?, hC.2.1]
      refine wpOp_plain rfl rfl ?_
      go_wp2_with fail
      exact hK _ _ (Fr.refl _ _) hC rfl
    · rw [if_neg (by decide)]; intro kq
      exact calm_mv 7 rfl rfl (Or.inl rfl) (Fr.refl _) (by decide) fun v w hd => hd
    · rw [if_neg (by decide)]; intro kq
      intro a W K hC hd hK
      have d17 : a.tmps[17]?.getD undef = .string (mkS xs) := hd 17 (by decide)
      refine wpOp_plain rfl rfl ?_
      go_wp2_with fail
      refine (valueR_calls W xs (by omega)).mono ?_
      rintro e w' ⟨rfl, rfl⟩
      exact hK _ _ (Fr.refl _ _) hC rfl
    · rw [if_pos (by decide)]
      intro a W K hC hd hK
      replace hC : (fun q W => Fr (eqB (w.heap.size + 1)) wa W ∧ W.heap[w1.heap.size]? = some (.cells #[.string (mkS qb), .int .i64 (qe : Nat)] 138 (0, 0)) ∧ W.heap[w.heap.size + 1]? = some (.cells (if q = 0 then #[.string ⟨#[]⟩, .int .i64 0] else #[.string (mkS qb), .int .i64 (qe : Nat)]) 138 (0, 0))) 0 W := hC
      have d4 : a.tmps[4]?.getD undef = .pointer (some ⟨w.heap.size + 1, 0, none⟩) := hd 4 (by decide)
      have d16 : a.tmps[16]?.getD undef = .agg #[.string (mkS qb), .int .i64 (qe : Nat)] := hd 16 (by decide)
      have hz : W.heap[w.heap.size + 1]? = some (.cells #[.string ⟨#[]⟩, .int .i64 0] 138 (0, 0)) := hC.2.2
      have b0 : W.cell? ⟨w.heap.size + 1, 0, none⟩ = some (.string ⟨#[]⟩) := by simp [World.cell?, hz]
      have b1 : W.cell? ⟨w.heap.size + 1, 1, none⟩ = some (.int .i64 0) := by simp [World.cell?, hz]
      have z0 : ∀ j, W.frozen? ⟨w.heap.size + 1, j, none⟩ = false := fun j => by simp [World.frozen?, hz]
      refine wpOp_plain rfl rfl ?_
      have fs := fr_set2 W (w.heap.size + 1) (.string (mkS qb)) (.int .i64 (qe : Nat))
      go_wp2_with fail
      exact hK undef _ fs ⟨hC.1.then' fs, fs.heap hC.2.1 (by unfold eqB; omega), set2 hz⟩ trivial
    · rw [if_neg (by decide)]; intro kq
      exact calm_mv 18 rfl rfl (Or.inr rfl) (Fr.refl _) (by decide) fun v w hd => hd
  · intro vs w9 fw9 cw9 hV
    have v5 : vs 4 = .int .u64 (leV xs : Nat) := hV 4 _ _ rfl rfl (by decide)
    clear hV
    simp only [putL, Act.put, List.setIfInBounds_toArray, List.set_cons_zero, List.set_cons_succ, v5]
    have hz9 : w9.heap[w.heap.size + 1]? = some (.cells #[.string (mkS qb), .int .i64 (qe : Nat)] 138 (0, 0)) := cw9.2.2
    have b0 : w9.cell? ⟨w.heap.size + 1, 0, none⟩ = some (.string (mkS qb)) := by simp [World.cell?, hz9]
    have b1 : w9.cell? ⟨w.heap.size + 1, 1, none⟩ = some (.int .i64 (qe : Nat)) := by simp [World.cell?, hz9]
    go_wp2_with fail
    exact bodyPost_ret (v := .tuple #[.agg #[.string (mkS qb), .int .i64 (qe : Nat)], .int .u64 (leV xs : Nat)]) (by simp [results, Tryd.results90, go_sem, b0, b1]) rfl
      ⟨by rw [HF.out], f3.trans fw9 (fun i hi h => by unfold eqB at h; omega)⟩
end Go.Proofs.YtcaihinenfnekaaDoor
