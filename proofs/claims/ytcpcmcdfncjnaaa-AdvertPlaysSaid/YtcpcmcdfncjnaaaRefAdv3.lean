/- interrexlaw16.Same, advert.Read. -/
import Derived.Test.YtcpcmcdfncjnaaaRefAdv2
import Derived.Test.YtcpcmcdfncjnaaaBackLaw
namespace Go.Proofs.Ytcpcmcdfncjnaaa
open Go.RowKit

set_option maxRecDepth 100000 in
set_option maxHeartbeats 3200000 in
theorem same16_calls (w : World) (S : Nat → Prop) (p n : Nat) (l L : List Nat) (h : BoAt w S p l) (hl : ∀ x ∈ L, x < 256) (hL : L.length = 7) (hn : n ≤ 7) (hlL : l = L.take n) :
    Calls Try.prog 59 #[.pointer (some ⟨p, 0, none⟩), rbV n L] w (BoolPost w true) := by
  have HL : Hid (l.length = n) := by unfold Hid; rw [hlL, List.length_take, hL]; omega
  have hll : ∀ x ∈ l, x < 256 := fun x hx => hl x (List.mem_of_mem_take (hlL ▸ hx))
  have HLL := hid hL
  have HLT := hid hlL
  obtain ⟨T, HT⟩ : ∃ T, Hid (T = mkS (boardB n l)) := ⟨_, rfl⟩
  have f0 : Fr noB w (w.alloc (.cells (rbC n L).toArray 86)) := (Fr.refl noB w).alloc _
  have hbo := h.fr0 f0
  have hbytes : ∀ W, Fr noB (w.alloc (.cells (rbC n L).toArray 86)) W → Calls Try.prog 55 #[.pointer (some ⟨p, 0, none⟩)] W (fun e w' => e = .returned (.string T) ∧ Fr noB W w') := fun W f => by
    have := bytes16_calls W S p l (hbo.fr0 f) hll (by rw [HL.out]; exact hn)
    rw [HL.out] at this
    rw [HT.out]; exact this
  have htext : ∀ W, Calls Try.prog 87 #[rbV n L] W (fun e w' => e = .returned (.string T) ∧ Fr noB W w') := fun W => by
    have := textBd_calls W n L hL hn hl
    rw [← hlL] at this
    rw [HT.out]; exact this
  have HGL : Hid (∀ j, j < n → ∃ x, L[j]? = some x ∧ l.getD j 0 = x) := fun j hj => by
    obtain ⟨x, hx⟩ : ∃ x, L[j]? = some x := ⟨_, List.getElem?_eq_getElem (by rw [hL]; omega)⟩
    refine ⟨x, hx, ?_⟩
    rw [hlL, List.getD_eq_getElem?_getD, List.getElem?_take, if_pos hj, hx]; rfl
  have HGZ : Hid (∀ j, ¬ j < n → l.getD j 0 = 0) := fun j hj => by
    rw [List.getD_eq_getElem?_getD, List.getElem?_eq_none (by rw [HL.out]; omega)]; rfl
  have hb0 : (w.alloc (.cells (rbC n L).toArray 86)).heap[w.heap.size]? = some (.cells (rbC n L).toArray 86 (0, 0)) := heap_alloc_new w _
  obtain ⟨x0, x1, x2, x3, x4, x5, x6, e7⟩ := list7 hL
  have e8 : (rbC n L).toArray = #[.int .i64 n, .int .u8 x0, .int .u8 x1, .int .u8 x2, .int .u8 x3, .int .u8 x4, .int .u8 x5, .int .u8 x6] := by rw [e7]; rfl
  have e9 : rbV n L = .agg #[.int .i64 n, .int .u8 x0, .int .u8 x1, .int .u8 x2, .int .u8 x3, .int .u8 x4, .int .u8 x5, .int .u8 x6] := by rw [e7]; rfl
  rw [e8] at f0 hbo hbytes hb0
  rw [e9] at htext ⊢
  have HE8 := hid e8
  have HB := hid hb0
  clear hb0 e7 e8 e9 hL h hlL hll hl
  go_enter Try.func59, Try.ntmps59
  go_wp2_with fail
  generalize w.alloc (.cells #[.int .i64 n, .int .u8 x0, .int .u8 x1, .int .u8 x2, .int .u8 x3, .int .u8 x4, .int .u8 x5, .int .u8 x6] 86) = w0 at *
  generalize hbk : w.heap.size = bk at *
  have HBK := hid hbk; clear hbk
  refine wp_region_calm (R := Fr noB) (C := fun _ w' => Fr noB w0 w') [false, false, false, false, false, false, false, false, false, false, false, false]
    [eqv (.pointer (some ⟨p, 0, none⟩)), eqv (.int .i64 n), eqv (.pointer (some ⟨bk, 0, none⟩)), eqv (.int .i64 n), eqv (.bool false), eqv (.bool false), eqv (.pointer (some ⟨p, 0, none⟩)), eqv (.string T), eqv (.agg #[.int .i64 n, .int .u8 x0, .int .u8 x1, .int .u8 x2, .int .u8 x3, .int .u8 x4, .int .u8 x5, .int .u8 x6]), eqv (.string T), eqv (.bool false), eqv (.bool false)]
    (by kernel_rfl) (by kernel_rfl) (fun _ _ _ h1 h2 => h1.then' h2) ((Fr.refl _ _).drew) ((Fr.refl _ _).drew) (by kernel_rfl) ?_ ?_
  · refine ⟨?_, ?_, ?_, ?_, ?_, ?_, ?_, ?_, ?_, ?_, ?_, ?_, trivial⟩
    · rw [if_neg (by decide)]; intro kq
      exact calm_mv 0 rfl rfl (Or.inl rfl) (Fr.refl _) (by decide) fun v w hd => hd
    · rw [if_neg (by decide)]; intro kq
      intro a W K hC hd hK
      have d7 : a.tmps[7]?.getD undef = .pointer (some ⟨p, 0, none⟩) := hd 7 (by decide)
      refine wpOp_plain rfl rfl ?_
      have hcl := nodes_calls W S p l (hbo.fr0 hC)
      rw [HL.out] at hcl
      go_wp2_with fail
      refine hcl.mono ?_
      rintro e w9 ⟨rfl, rfl⟩
      exact hK _ _ (Fr.refl _ _) hC rfl
    · rw [if_neg (by decide)]; intro kq
      intro a W K hC hd hK
      have d3 : a.tmps[3]?.getD undef = .pointer (some ⟨bk, 0, none⟩) := hd 3 (by decide)
      refine wpOp_plain rfl rfl ?_
      go_wp2_with fail
      exact hK _ _ (Fr.refl _ _) hC rfl
    · rw [if_neg (by decide)]; intro kq
      intro a W K hC hd hK
      have d9 : a.tmps[9]?.getD undef = .pointer (some ⟨bk, 0, none⟩) := hd 9 (by decide)
      have hbx := hC.heap HB.out id
      have c0 : W.cell? ⟨bk, 0, none⟩ = some (.int .i64 n) := by rw [cell_of_row _ _ _ _ _ _ hbx]; rfl
      have c1 : W.cell? ⟨bk, 1, none⟩ = some (.int .u8 x0) := by rw [cell_of_row _ _ _ _ _ _ hbx]; rfl
      have c2 : W.cell? ⟨bk, 2, none⟩ = some (.int .u8 x1) := by rw [cell_of_row _ _ _ _ _ _ hbx]; rfl
      have c3 : W.cell? ⟨bk, 3, none⟩ = some (.int .u8 x2) := by rw [cell_of_row _ _ _ _ _ _ hbx]; rfl
      have c4 : W.cell? ⟨bk, 4, none⟩ = some (.int .u8 x3) := by rw [cell_of_row _ _ _ _ _ _ hbx]; rfl
      have c5 : W.cell? ⟨bk, 5, none⟩ = some (.int .u8 x4) := by rw [cell_of_row _ _ _ _ _ _ hbx]; rfl
      have c6 : W.cell? ⟨bk, 6, none⟩ = some (.int .u8 x5) := by rw [cell_of_row _ _ _ _ _ _ hbx]; rfl
      have c7 : W.cell? ⟨bk, 7, none⟩ = some (.int .u8 x6) := by rw [cell_of_row _ _ _ _ _ _ hbx]; rfl
      refine wpOp_plain rfl rfl ?_
      go_wp2_with fail
      exact hK _ _ (Fr.refl _ _) hC rfl
    · rw [if_neg (by decide)]; intro kq
      intro a W K hC hd hK
      have d8 : a.tmps[8]?.getD undef = .int .i64 n := hd 8 (by decide)
      have d10 : a.tmps[10]?.getD undef = .int .i64 n := hd 10 (by decide)
      refine wpOp_plain rfl rfl ?_
      go_wp2_with fail
      exact hK _ _ (Fr.refl _ _) hC (by show _ = _; simp)
    · rw [if_neg (by decide)]; intro kq
      exact calm_mv 11 rfl rfl (Or.inl rfl) (Fr.refl _) (by decide) fun v w hd => hd
    · rw [if_neg (by decide)]; intro kq
      intro a W K hC hd hK
      have d0 : a.tmps[0]?.getD undef = .pointer (some ⟨p, 0, none⟩) := hd 0 (by decide)
      have d12 : a.tmps[12]?.getD undef = .bool false := hd 12 (by decide)
      refine wpOp_want rfl (wanted_of (want := false) (b := false) rfl rfl (by rw [eval_get]; exact d12)) ?_
      go_wp2_with fail
      exact hK _ _ (Fr.refl _ _) hC rfl
    · rw [if_neg (by decide)]; intro kq
      intro a W K hC hd hK
      have d13 : a.tmps[13]?.getD undef = .pointer (some ⟨p, 0, none⟩) := hd 13 (by decide)
      have d12 : a.tmps[12]?.getD undef = .bool false := hd 12 (by decide)
      refine wpOp_want rfl (wanted_of (want := false) (b := false) rfl rfl (by rw [eval_get]; exact d12)) ?_
      have hcl := hbytes W hC
      go_wp2_with fail
      refine hcl.mono ?_
      rintro e w9 ⟨rfl, f9⟩
      exact hK _ _ f9 (hC.then' f9) rfl
    · rw [if_neg (by decide)]; intro kq
      intro a W K hC hd hK
      have d3 : a.tmps[3]?.getD undef = .pointer (some ⟨bk, 0, none⟩) := hd 3 (by decide)
      have d12 : a.tmps[12]?.getD undef = .bool false := hd 12 (by decide)
      have hbx := hC.heap HB.out id
      have c0 : W.cell? ⟨bk, 0, none⟩ = some (.int .i64 n) := by rw [cell_of_row _ _ _ _ _ _ hbx]; rfl
      have c1 : W.cell? ⟨bk, 1, none⟩ = some (.int .u8 x0) := by rw [cell_of_row _ _ _ _ _ _ hbx]; rfl
      have c2 : W.cell? ⟨bk, 2, none⟩ = some (.int .u8 x1) := by rw [cell_of_row _ _ _ _ _ _ hbx]; rfl
      have c3 : W.cell? ⟨bk, 3, none⟩ = some (.int .u8 x2) := by rw [cell_of_row _ _ _ _ _ _ hbx]; rfl
      have c4 : W.cell? ⟨bk, 4, none⟩ = some (.int .u8 x3) := by rw [cell_of_row _ _ _ _ _ _ hbx]; rfl
      have c5 : W.cell? ⟨bk, 5, none⟩ = some (.int .u8 x4) := by rw [cell_of_row _ _ _ _ _ _ hbx]; rfl
      have c6 : W.cell? ⟨bk, 6, none⟩ = some (.int .u8 x5) := by rw [cell_of_row _ _ _ _ _ _ hbx]; rfl
      have c7 : W.cell? ⟨bk, 7, none⟩ = some (.int .u8 x6) := by rw [cell_of_row _ _ _ _ _ _ hbx]; rfl
      refine wpOp_want rfl (wanted_of (want := false) (b := false) rfl rfl (by rw [eval_get]; exact d12)) ?_
      go_wp2_with fail
      exact hK _ _ (Fr.refl _ _) hC rfl
    · rw [if_neg (by decide)]; intro kq
      intro a W K hC hd hK
      have d15 : a.tmps[15]?.getD undef = .agg #[.int .i64 n, .int .u8 x0, .int .u8 x1, .int .u8 x2, .int .u8 x3, .int .u8 x4, .int .u8 x5, .int .u8 x6] := hd 15 (by decide)
      have d12 : a.tmps[12]?.getD undef = .bool false := hd 12 (by decide)
      refine wpOp_want rfl (wanted_of (want := false) (b := false) rfl rfl (by rw [eval_get]; exact d12)) ?_
      have hcl := htext W
      go_wp2_with fail
      refine hcl.mono ?_
      rintro e w9 ⟨rfl, f9⟩
      exact hK _ _ f9 (hC.then' f9) rfl
    · rw [if_neg (by decide)]; intro kq
      intro a W K hC hd hK
      have d14 : a.tmps[14]?.getD undef = .string T := hd 14 (by decide)
      have d16 : a.tmps[16]?.getD undef = .string T := hd 16 (by decide)
      have d12 : a.tmps[12]?.getD undef = .bool false := hd 12 (by decide)
      refine wpOp_want rfl (wanted_of (want := false) (b := false) rfl rfl (by rw [eval_get]; exact d12)) ?_
      have hself : (T.toList == T.toList) = true := by simp
      go_wp2_with fail
      exact hK _ _ (Fr.refl _ _) hC (by show _ = _; simp)
    · rw [if_neg (by decide)]; intro kq
      intro a W K hC hd hK
      have d12 : a.tmps[12]?.getD undef = .bool false := hd 12 (by decide)
      have d17 : a.tmps[17]?.getD undef = .bool false := hd 17 (by decide)
      refine wpOp_plain rfl rfl ?_
      go_wp2_with fail
      exact hK _ _ (Fr.refl _ _) hC rfl
  · intro vs w9 fw9 cw9 hV
    have v18 : vs 11 = .bool false := hV 11 _ _ rfl rfl (by decide)
    clear hV
    simp only [putL, Act.put, Nat.reduceAdd, List.setIfInBounds_toArray, List.set_cons_zero, List.set_cons_succ, v18]
    have f09 := f0.then' fw9
    have hbo9 := hbo.fr0 fw9
    have HB9 := hid (fw9.heap HB.out id)
    clear hbo hbytes htext fw9 f0 cw9
    go_wp2_with fail
    go_loop [19] (fun i => ∃ j : Nat, j ≤ 8 ∧ i = .int .u8 j) (fun i => 8 - (intOf i).toNat)
    case atStart => exact ⟨0, by omega, rfl⟩
    case round =>
      obtain ⟨j, hj, rfl⟩ := hrel
      have hb9' := HB9.out
      have hc0 : w9.cell? ⟨bk, 0, none⟩ = some (.int .i64 n) := by rw [cell_of_row _ _ _ _ _ _ hb9']; rfl
      clear hb9'
      by_cases hj8 : j < 8
      · have hof := ofB_calls w9 S p l j hbo9 (by omega)
        by_cases hjn : j < n
        · obtain ⟨x, hx, hg⟩ := HGL.out j hjn
          have hc1 : w9.cell? ⟨bk, 1 + j, none⟩ = some (.int .u8 (x : Nat)) := rb_at (n := n) (L := L) (by rw [HE8.out]; exact HB9.out) hx
          rw [hg] at hof
          have HX := hid (And.intro hx hg)
          clear hx hg
          go_wp2_with fail
          refine hof.mono ?_
          rintro e w10 ⟨rfl, rfl⟩
          clear hof
          go_wp2_with fail
          go_round
          case rel => exact ⟨j + 1, by omega, by go_num⟩
          case measure => simp [intOf]; omega
        · have hg := HGZ.out j hjn
          rw [hg] at hof
          clear hg
          go_wp2_with fail
          refine hof.mono ?_
          rintro e w10 ⟨rfl, rfl⟩
          clear hof
          go_wp2_with fail
          go_round
          case rel => exact ⟨j + 1, by omega, by go_num⟩
          case measure => simp [intOf]; omega
      · go_wp2_with fail
        go_ret
        exact ⟨rfl, f09⟩

theorem fill_step {l : List Nat} {n j x : Nat} (hl : l.length = n) (hj : l[j]? = some x) : (l.take j ++ List.replicate (n - j) 0).set j x = l.take (j + 1) ++ List.replicate (n - (j + 1)) 0 := by
  have hjl := (List.getElem?_eq_some_iff.1 hj).1
  rw [List.set_append_right _ _ (by rw [List.length_take]; omega)]
  obtain ⟨d, hd⟩ : ∃ d, n - j = d + 1 := ⟨n - j - 1, by omega⟩
  rw [show n - (j + 1) = d by omega, hd, take_snoc' hj, List.length_take, Nat.min_eq_left (by omega), Nat.sub_self, List.replicate_succ]
  simp
def ReadC (S : Nat → Prop) (p q g n cc : Nat) (lj : List Nat) (x j : Nat) (ys : List UInt8) (wr : World) (k : Nat) (W : World) : Prop :=
  Fr (fun b => S b ∨ b = g) wr W ∧ BoV W (fun b => b = q ∨ b = g) q g n cc (if k < 2 then lj else lj.set j x) ∧ RdAt W S p ⟨if k = 0 then leB 1 x ++ ys else ys, 0⟩
set_option maxRecDepth 100000 in
set_option maxHeartbeats 3200000 in
theorem readBo_calls (w : World) (S : Nat → Prop) (p n : Nat) (l : List Nat) (h : RdAt w S p ⟨boardB n l, 0⟩) (hS : ∀ k, S k → k < w.heap.size) (hn : n = 3 ∨ n = 5 ∨ n = 7) (hl : l.length = n) (h3 : ∀ x ∈ l, x ≤ 3) :
    Calls Try.prog 56 #[.pointer (some ⟨p, 0, none⟩)] w (fun e w' => ∃ q, e = .returned (.pointer (some ⟨q, 0, none⟩)) ∧ BoAt w' (upB w.heap.size) q l ∧ RdAt w' S p ⟨[], 0⟩ ∧ Fr S w w') := by
  have HN := hid hn
  have hn7 : n ≤ 7 := by omega
  have HL := hid hl; clear hl hn
  go_enter Try.func56, Try.ntmps56
  go_wp2_with fail
  have hby := byteRd_calls w S p ⟨leB 1 n ++ l.map UInt8.ofNat, 0⟩ h
  rw [rNum_app, show n % 256 ^ 1 = n by omega] at hby
  refine hby.mono ?_
  clear hby
  rintro e w1 ⟨rfl, h1, f1⟩
  have z1 := f1.size
  go_wp2_with fail
  refine (newB_yes w1 n HN.out).mono ?_
  rintro e w2 ⟨rfl, hb2, f2⟩
  have h2 := h1.fr f2 (fun _ _ _ => id)
  have f02 : Fr S w w2 := f1.then' (f2.mono fun _ _ h => h.elim)
  clear h1 f1 f2 h
  have z2 := f02.size
  generalize hq : w1.heap.size + 1 = q at *
  have HQ := hid hq; clear hq
  obtain ⟨g, n', cc, hbv⟩ := hb2
  have e1 : n' = n := by have := hbv.len.out; rw [List.length_replicate] at this; omega
  subst e1
  have hqg : w1.heap.size ≤ q ∧ w1.heap.size ≤ g := ⟨hbv.inP, hbv.inG⟩
  replace hbv : BoV w2 (fun b => b = q ∨ b = g) q g n' cc (List.replicate n' 0) := ⟨hbv.len, hbv.heap, hbv.row, hbv.cap, hbv.max, Or.inl rfl, Or.inr rfl⟩
  have hgS : ¬ S g := fun h => by have := hS _ h; omega
  have hdisj : ∀ k, (k = q ∨ k = g) → ¬ S k := fun k hk h => by have := hS _ h; omega
  have hcB := hbv.cell
  go_wp2_with fail
  obtain ⟨wo, rfl⟩ : ∃ wo : World, wo = w2 := ⟨_, rfl⟩
  go_loopw [20] (fun i wr => ∃ j : Nat, j ≤ n' ∧ i = .int .i64 j ∧ BoV wr (fun b => b = q ∨ b = g) q g n' cc (l.take j ++ List.replicate (n' - j) 0) ∧ RdAt wr S p ⟨(l.drop j).map UInt8.ofNat, 0⟩ ∧ Fr (fun b => S b ∨ b = g) wo wr) (fun i _ => n' - (intOf i).toNat)
  case atStart => exact ⟨0, Nat.zero_le _, rfl, by simpa using hbv, by simpa using h2, Fr.refl _ _⟩
  case round =>
    clear hbv h2 hcB
    obtain ⟨j, hj, rfl, hbv, hrd, hf⟩ := hrel
    obtain ⟨n, rfl⟩ : ∃ n, n = n' := ⟨_, rfl⟩
    by_cases hjn : j < n
    · obtain ⟨x, hx⟩ : ∃ x, l[j]? = some x := ⟨_, List.getElem?_eq_getElem (by rw [HL.out]; exact hjn)⟩
      have hx3 := h3 x (List.mem_of_getElem? hx)
      have hx256 : x < 256 := by omega
      have hdr : (l.drop j).map UInt8.ofNat = leB 1 x ++ (l.drop (j + 1)).map UInt8.ofNat := by
        obtain ⟨hjl, rfl⟩ := List.getElem?_eq_some_iff.1 hx
        rw [List.drop_eq_getElem_cons hjl, List.map_cons, leB_one]; rfl
      rw [hdr] at hrd
      have HST := hid (fill_step HL.out hx)
      have HY : ∃ ys, Hid (ys = (l.drop (j + 1)).map UInt8.ofNat) := ⟨_, rfl⟩
      obtain ⟨ys, HY⟩ := HY
      rw [← HY.out] at hrd
      clear hdr
      have HX := hid hx; clear hx
      replace hdisj : ∀ k, k < w.heap.size + 0 + k + 1 → (k = q ∨ k = g) → ¬ S k := fun k _ => hdisj k
      have hdis2 : ∀ W : World, ∀ k, k < W.heap.size → (k = q ∨ k = g) → ¬ S k := fun W k _ hk => hdisj k (by omega) hk
      clear hdisj
      go_wp2_with fail
      refine wp_region_calm (R := Fr (fun b => S b ∨ b = g)) (C := ReadC S p q g n cc (l.take j ++ List.replicate (n - j) 0) x j ys wr) [false, false, false, false, false, false, true, false, true]
        [eqv (.pointer (some ⟨q, 0, none⟩)), eqv (.pointer (some ⟨q, 0, none⟩)), eqv (.pointer (some ⟨q, 0, none⟩)), eqv (.slice (some ⟨g, 0, none⟩) n cc), eqv (.int .i64 j), eqv (.pointer (some ⟨p, 0, none⟩)), eqv (.int .u8 x), eqv (.pointer (some ⟨g, j, none⟩)), anyv]
        (by kernel_rfl) (by kernel_rfl) (fun _ _ _ h1 h2 => h1.then' h2) ((Fr.refl _ _).drew) ⟨(Fr.refl _ _).drew, hbv.fr ((Fr.refl noB _).drew) (fun _ _ _ => id), hrd.fr ((Fr.refl noB _).drew) (fun _ _ _ => id)⟩ (by kernel_rfl) ?_ ?_
      · refine ⟨?_, ?_, ?_, ?_, ?_, ?_, ?_, ?_, ?_, trivial⟩
        · rw [if_neg (by decide)]; intro kq
          exact calm_mv 4 rfl rfl (Or.inl rfl) (Fr.refl _) (by decide) fun v w hd => hd
        · rw [if_neg (by decide)]; intro kq
          intro a W K hC hd hK
          have d23 : a.tmps[23]?.getD undef = .pointer (some ⟨q, 0, none⟩) := hd 23 (by decide)
          refine wpOp_plain rfl rfl ?_
          go_wp2_with fail
          exact hK _ _ (Fr.refl _ _) hC rfl
        · rw [if_neg (by decide)]; intro kq
          intro a W K hC hd hK
          have d24 : a.tmps[24]?.getD undef = .pointer (some ⟨q, 0, none⟩) := hd 24 (by decide)
          refine wpOp_plain rfl rfl ?_
          go_wp2_with fail
          exact hK _ _ (Fr.refl _ _) hC rfl
        · rw [if_neg (by decide)]; intro kq
          intro a W K hC hd hK
          have d25 : a.tmps[25]?.getD undef = .pointer (some ⟨q, 0, none⟩) := hd 25 (by decide)
          have hcB := hC.2.1.cell
          refine wpOp_plain rfl rfl ?_
          go_wp2_with fail
          exact hK _ _ (Fr.refl _ _) hC rfl
        · rw [if_neg (by decide)]; intro kq
          exact calm_mv 5 rfl rfl (Or.inl rfl) (Fr.refl _) (by decide) fun v w hd => hd
        · rw [if_neg (by decide)]; intro kq
          exact calm_mv 0 rfl rfl (Or.inl rfl) (Fr.refl _) (by decide) fun v w hd => hd
        · rw [if_pos (by decide)]
          intro a W K hC hd hK
          replace hC : (ReadC S p q g n cc (l.take j ++ List.replicate (n - j) 0) x j ys wr) 0 W := hC
          have d28 : a.tmps[28]?.getD undef = .pointer (some ⟨p, 0, none⟩) := hd 28 (by decide)
          refine wpOp_plain rfl rfl ?_
          have h2 : RdAt W S p ⟨leB 1 x ++ ys, 0⟩ := hC.2.2
          have hcl := byteRd_calls W S p ⟨leB 1 x ++ ys, 0⟩ h2
          rw [rNum_app] at hcl
          go_wp2_with fail
          refine hcl.mono ?_
          rintro e w' ⟨rfl, h1, f1⟩
          exact hK _ _ (f1.mono fun _ _ h => Or.inl h) ⟨hC.1.then' (f1.mono fun _ _ h => Or.inl h), hC.2.1.fr f1 (hdis2 W), h1⟩ (by show _ = _; (try simp only []); rw [Nat.mod_eq_of_lt (by simpa using hx256)])
        · rw [if_neg (by decide)]; intro kq
          intro a W K hC hd hK
          have d26 : a.tmps[26]?.getD undef = .slice (some ⟨g, 0, none⟩) n cc := hd 26 (by decide)
          have d27 : a.tmps[27]?.getD undef = .int .i64 j := hd 27 (by decide)
          refine wpOp_plain rfl rfl ?_
          go_wp2_with fail
          exact hK _ _ (Fr.refl _ _) hC rfl
        · rw [if_pos (by decide)]
          intro a W K hC hd hK
          replace hC : (ReadC S p q g n cc (l.take j ++ List.replicate (n - j) 0) x j ys wr) 1 W := hC
          have d30 : a.tmps[30]?.getD undef = .pointer (some ⟨g, j, none⟩) := hd 30 (by decide)
          have d29 : a.tmps[29]?.getD undef = .int .u8 x := hd 29 (by decide)
          have hC21 : BoV W (fun b => b = q ∨ b = g) q g n cc (l.take j ++ List.replicate (n - j) 0) := hC.2.1
          have hcS := hC21.at (j := j) (x := 0) (by rw [List.getElem?_append_right (by rw [List.length_take, HL.out]; omega), List.length_take, HL.out, List.getElem?_replicate, if_pos (by omega)])
          obtain ⟨hcS1, hcS2⟩ := hcS
          refine wpOp_plain rfl rfl ?_
          have hst := hC.2.1.set hjn x
          have fst : Fr (fun b => S b ∨ b = g) W (W.setCell ⟨g, j, none⟩ (.int .u8 (x : Nat))) := (Fr.refl _ W).setCell (p := ⟨g, j, none⟩) (Or.inl (Or.inr rfl)) _
          have frd : RdAt (W.setCell ⟨g, j, none⟩ (.int .u8 (x : Nat))) S p ⟨ys, 0⟩ := (show RdAt W S p ⟨ys, 0⟩ from hC.2.2).fr ((Fr.refl (eqB g) W).setCell (p := ⟨g, j, none⟩) (Or.inl rfl) _) (fun b _ hb he => by unfold eqB at he; exact hgS (he ▸ hb))
          go_wp2_with fail
          exact hK undef _ fst ⟨hC.1.then' fst, hst, frd⟩ trivial
      · intro vs w9 fw9 cw9 hV
        clear hV
        simp only [putL, Act.put, Nat.reduceAdd, List.setIfInBounds_toArray, List.set_cons_zero, List.set_cons_succ]
        have e9 : BoV w9 (fun b => b = q ∨ b = g) q g n cc ((l.take j ++ List.replicate (n - j) 0).set j x) := cw9.2.1
        rw [HST.out] at e9
        have h9 : RdAt w9 S p ⟨ys, 0⟩ := cw9.2.2
        rw [HY.out] at h9
        have f9 := hf.then' cw9.1
        have hc9 := e9.cell
        have hmx := e9.max
        have hcp := e9.cap
        have hca := (e9.at (j := j) (x := x) (by
          rw [List.getElem?_append_left (by rw [List.length_take, HL.out]; omega), List.getElem?_take, if_pos (by omega)]
          exact HX.out)).1
        clear hbv hrd hf fw9 cw9
        go_wp2_with fail
        go_roundw
        case rel => exact ⟨j + 1, by omega, by go_num, e9, h9, f9⟩
        case measure => simp [intOf]; omega
    · have : j = n := by omega
      subst this
      rw [List.take_of_length_le (by rw [HL.out]; exact Nat.le_refl _), Nat.sub_self, List.replicate_zero, List.append_nil] at hbv
      rw [List.drop_eq_nil_of_le (by rw [HL.out]; exact Nat.le_refl _)] at hrd
      have her := errRd_calls wr S p _ hrd
      go_wp2_with fail
      refine her.mono ?_
      rintro e w9 ⟨rfl, rfl⟩
      go_wp2_with fail
      go_ret
      refine ⟨q, rfl, ⟨g, j, cc, hbv.len, hbv.heap, hbv.row, hbv.cap, hbv.max, by unfold upB; omega, by unfold upB; omega⟩, hrd, ?_⟩
      exact f02.trans hf (fun i hi h => h.elim id fun h => by omega)
end Go.Proofs.Ytcpcmcdfncjnaaa
