/- slices.Chunk over bytes. -/
import Derived.Test.YtnkdlmmdaagonaaDev12
import Derived.Test.YtnkdlmmdaagonaaSup1
import Derived.Test.YtnkdlmmdaagonaaCalmH
namespace Go.Proofs.Ytnkdlmmdaagonaa
open Go.RowKit Go.Shelf
attribute [local go_sem] Oper.semAt_some
theorem min2_int (k : IntKind) (x y : Int) : Builtin.min2 (.int k x) (.int k y) = pure (Value.int k (min x y)) := by
  show pure (Value.int k (if y < x then y else x)) = _
  have e : (if y < x then y else x) = min x y := by split <;> omega
  rw [e]
theorem run_min2 (P : Program) (tt : Array TypeId) (t : TypeId) (k : IntKind) (a b : Int) (W : World) : (Builtin.min_ tt t #[.int k a, .int k b]).run P W = .ok (.int k (min a b)) W := by
  unfold Builtin.min_
  simp only [List.foldlM, min2_int, pure_bind]
  rfl
set_option maxRecDepth 100000 in
theorem chunk_calls (w : World) (A : Option Addr) (n c : Nat) : Calls Try.prog 45 #[.slice A n c, .int .i64 128] w (fun e w' => e = .returned (.func (.func 71) #[] #[.pointer (some ⟨w.heap.size, 0, none⟩), .pointer (some ⟨w.heap.size + 1, 0, none⟩)]) ∧ w' = (w.alloc (.cells #[.slice A n c] 22)).alloc (.cells #[.int .i64 128] 3)) := by
  have hmf : ∀ (fn : Fn) (first cap : Array Value) (w : World), (Instr.makeFunc fn first cap).run Try.prog w = .ok (.func fn first cap) w := fun _ _ _ _ => rfl
  have b1 := BlkAt.new (w.alloc (.cells #[.slice A n c] 22)) #[.int .i64 128] 3
  simp only [al_size] at b1
  obtain ⟨x0, xf⟩ := BlkAt.c1 b1
  go_enter Try.func45, Try.ntmps45
  go_wp2_with fail
  go_ret
  exact ⟨rfl, rfl⟩
theorem blk_grown {w w' : World} {p : Nat} {T : TypeId} {C : Array Value} (h : BlkAt w p T C) (g : w.grownBy w' none) : BlkAt w' p T C := by
  have hl := h.lt
  unfold BlkAt at *
  rw [g.block p hl (by simp)]; exact h
/-- The k-th part. -/
def chM (n k : Nat) : Nat := min 128 (n - 128 * k)
def encC (A : Option Addr) (n : Nat) (k : Nat) : Array Value := #[.slice (A.map (·.add (128 * k))) (chM n k) (chM n k)]
/-- Two boxes stay. -/
def KeepB (b1 b2 : Nat) (W W' : World) : Prop := W.heap.size ≤ W'.heap.size ∧ W'.heap[b1]? = W.heap[b1]? ∧ W'.heap[b2]? = W.heap[b2]?
theorem KeepB.t {b1 b2 : Nat} {A B C : World} (h : KeepB b1 b2 A B) (k : KeepB b1 b2 B C) : KeepB b1 b2 A C := ⟨Nat.le_trans h.1 k.1, k.2.1.trans h.2.1, k.2.2.trans h.2.2⟩
theorem KeepB.refl (b1 b2 : Nat) (W : World) : KeepB b1 b2 W W := ⟨Nat.le_refl _, rfl, rfl⟩
set_option maxRecDepth 100000 in
set_option maxHeartbeats 4000000 in
theorem chunk1_in (m : Nat) (hm : 1 ≤ m) (l B1 B2 n c : Nat) (A : Option Addr) (hn : n ≤ 1000000) (hnc : n ≤ c) (hcm : c ≤ 9223372036854775807) (hnil : A = none → n = 0 ∧ c = 0)
    (J Jx : List Nat → World → Prop) (B0 : Nat) (hAb : AbidesFrom B0 J)
    (hY : ∀ pre x W, J pre W → pre.length < (n + 127) / 128 → YieldAt Fence.wide (m - 1) Try.prog l (encC A n x) W fun e W' =>
      (e = .returned (.bool true) ∧ J (pre ++ [x]) W' ∧ KeepB B1 B2 W W') ∨ (e = .returned (.bool false) ∧ Jx (pre ++ [x]) W'))
    (W : World) (h1 : BlkAt W B1 22 #[.slice A n c]) (h2 : BlkAt W B2 3 #[.int .i64 128]) (h0 : J [] W) :
    CallsIn Fence.wide m Try.prog 71 #[.func (.yield l) #[] #[], .pointer (some ⟨B1, 0, none⟩), .pointer (some ⟨B2, 0, none⟩)] W fun e W' => (∃ v, e = .returned v) ∧
      ((∃ ys, ys = List.range ((n + 127) / 128) ∧ J ys W') ∨ (∃ pre, (∃ k, k < (n + 127) / 128 ∧ pre = List.range (k + 1)) ∧ Jx pre W')) := by
  refine callsIn_of_wp Try.func71 rfl trivial ?_ rfl
  simp only [Try.ntmps71, List.size_toArray, List.length_cons, List.length_nil, Nat.reduceAdd, Nat.reduceSub, Array.replicate_succ, Array.replicate_zero, List.push_toArray, List.append_toArray, List.nil_append, List.cons_append]
  obtain ⟨x0, xf⟩ := BlkAt.c1 h1
  obtain ⟨y0, yf⟩ := BlkAt.c1 h2
  gi_wp2
  gi_loopw [4] (fun i wr => ∃ k : Nat, (k = 0 ∨ 128 * (k - 1) < n) ∧ i = .int .i64 (128 * k : Nat) ∧ J (List.range k) wr ∧ KeepB B1 B2 W wr)
    (fun i _ => n - (intOf i).toNat)
  case atStart => exact ⟨0, .inl rfl, rfl, h0, KeepB.refl _ _ _⟩
  case round =>
    obtain ⟨k, hk, rfl, hJ, hb⟩ := hrel
    have h1' : BlkAt wr B1 22 #[.slice A n c] := by unfold BlkAt at *; rw [hb.2.1]; exact h1
    have h2' : BlkAt wr B2 3 #[.int .i64 128] := by unfold BlkAt at *; rw [hb.2.2]; exact h2
    clear x0 xf y0 yf
    obtain ⟨x0, xf⟩ := BlkAt.c1 h1'
    obtain ⟨y0, yf⟩ := BlkAt.c1 h2'
    by_cases hlt : 128 * k < n
    · have t1 : decide (128 * k < n) = true := decide_eq_true hlt
      have hkl : k < (n + 127) / 128 := by omega
      have hHX : Hid (encC A n k = #[.slice (A.map (·.add (128 * k))) (min 128 (n - 128 * k)) (min 128 (n - 128 * k))]) := rfl
      have HK := hid (List.range_succ (n := k))
      obtain ⟨ad, rfl⟩ : ∃ ad, A = some ad := by
        cases A with
        | none => have := (hnil rfl).1; omega
        | some ad => exact ⟨ad, rfl⟩
      simp only [Option.map_some] at hHX
      obtain ⟨i0, hi0⟩ : ∃ z, 128 * k = z := ⟨_, rfl⟩
      have HI0 := hid hi0
      rw [hi0] at hlt t1 hHX ⊢
      obtain ⟨r0, hr0⟩ : ∃ z, n - i0 = z := ⟨_, rfl⟩
      obtain ⟨m0, hm0⟩ : ∃ z, min 128 r0 = z := ⟨_, rfl⟩
      rw [hr0, hm0] at hHX
      have hmn : ∀ tt t W, (Builtin.min_ tt t #[.int .i64 128, .int .i64 r0]).run Try.prog W = .ok (.int .i64 m0) W := fun tt t W => by
        rw [run_min2, show min (128 : Int) r0 = m0 by omega]
      have hr0i : (n : Int) - i0 = r0 := by omega
      have hm0r : m0 ≤ r0 := by omega
      have hm0p : 0 < m0 := by omega
      have hlt0 : 128 * k < n := by omega
      have HLT := hid hlt0
      clear hlt0
      have hcr : r0 ≤ c - i0 := by omega
      have hmi : i0 + m0 ≤ n := by omega
      have hHR := hid hr0
      have hHM := hid hm0
      clear hi0 hr0 hm0
      gi_wp2
      refine wpIn_wide.2 ?_
      apply wp_region_calmL (R := (fun a b => World.grownBy a b none)) (C := fun q W => World.grownBy wr W none) [false, false, false, false, false, false, false] [0, 0, 0, 0, 0, 0, 0]
        [eqv (.int .i64 128), eqv (.slice (some ad) n c), eqv (.int .i64 i0), eqv (.slice (some (ad.add i0)) r0 (c - i0)), eqv (.int .i64 r0), eqv (.int .i64 m0), eqv (.int .i64 m0)]
        (by kernel_rfl) (by kernel_rfl) (fun _ _ _ h1 h2 => h1.trans h2) ⟨rfl, rfl, rfl, Nat.le_refl _, fun _ _ _ => rfl⟩ ⟨rfl, rfl, rfl, Nat.le_refl _, fun _ _ _ => rfl⟩ (by kernel_rfl)
      · refine ⟨?_, ?_, ?_, ?_, ?_, ?_, ?_, trivial⟩
        · rw [if_neg (by decide)]; intro kq
          intro a W K hC hd hK
          have d2 : a.tmps[2]?.getD undef = .pointer (some ⟨B2, 0, none⟩) := hd 2 (by decide)
          refine wpOp_plain rfl rfl ?_
          obtain ⟨x0, xf⟩ := BlkAt.c1 (blk_grown h1' hC)
          obtain ⟨y0, yf⟩ := BlkAt.c1 (blk_grown h2' hC)
          go_wp2_with fail
          exact hK _ _ (World.grownBy.refl _ none) hC rfl
        · rw [if_neg (by decide)]; intro kq
          intro a W K hC hd hK
          have d1 : a.tmps[1]?.getD undef = .pointer (some ⟨B1, 0, none⟩) := hd 1 (by decide)
          refine wpOp_plain rfl rfl ?_
          obtain ⟨x0, xf⟩ := BlkAt.c1 (blk_grown h1' hC)
          obtain ⟨y0, yf⟩ := BlkAt.c1 (blk_grown h2' hC)
          go_wp2_with fail
          exact hK _ _ (World.grownBy.refl _ none) hC rfl
        · rw [if_neg (by decide)]; intro kq
          exact calm_mv 4 rfl rfl (Or.inl rfl) (fun w => World.grownBy.refl w none) (by decide) fun v w hd => hd
        · rw [if_neg (by decide)]; intro kq
          intro a W K hC hd hK
          have d14 : a.tmps[14]?.getD undef = .slice (some ad) n c := hd 14 (by decide)
          have d15 : a.tmps[15]?.getD undef = .int .i64 i0 := hd 15 (by decide)
          refine wpOp_plain rfl rfl ?_
          go_wp2_with fail
          rw [hHR.out]
          exact hK _ _ (World.grownBy.refl _ none) hC rfl
        · rw [if_neg (by decide)]; intro kq
          intro a W K hC hd hK
          have d16 : a.tmps[16]?.getD undef = .slice (some (ad.add i0)) r0 (c - i0) := hd 16 (by decide)
          refine wpOp_plain rfl rfl ?_
          obtain ⟨x0, xf⟩ := BlkAt.c1 (blk_grown h1' hC)
          obtain ⟨y0, yf⟩ := BlkAt.c1 (blk_grown h2' hC)
          go_wp2_with fail
          exact hK _ _ (World.grownBy.refl _ none) hC rfl
        · rw [if_neg (by decide)]; intro kq
          intro a W K hC hd hK
          have d13 : a.tmps[13]?.getD undef = .int .i64 128 := hd 13 (by decide)
          have d17 : a.tmps[17]?.getD undef = .int .i64 r0 := hd 17 (by decide)
          refine wpOp_plain rfl rfl ?_
          obtain ⟨x0, xf⟩ := BlkAt.c1 (blk_grown h1' hC)
          obtain ⟨y0, yf⟩ := BlkAt.c1 (blk_grown h2' hC)
          go_wp2_with fail
          exact hK _ _ (World.grownBy.refl _ none) hC rfl
        · rw [if_neg (by decide)]; intro kq
          exact calm_mv 18 rfl rfl (Or.inr rfl) (fun w => World.grownBy.refl w none) (by decide) fun v w hd => hd
      · intro vs w2 fw2 cw2 hV
        have v5 : vs 6 = .int .i64 m0 := hV 6 _ _ rfl rfl (by decide)
        clear hV
        simp only [putL, Act.put, Nat.reduceAdd, List.setIfInBounds_toArray, List.set_cons_zero, List.set_cons_succ, v5]
        have hJ2 := hAb _ _ _ none hJ cw2 (fun r e => by cases e)
        have h12 := blk_grown h1' cw2
        have h22 := blk_grown h2' cw2
        have hb2 : KeepB B1 B2 wr w2 := ⟨cw2.size, cw2.block _ h1'.lt (by simp), cw2.block _ h2'.lt (by simp)⟩
        obtain ⟨fn, tmps, assign, body, hy, hR⟩ := hY _ k w2 hJ2 (by rw [List.length_range]; exact hkl)
        rw [hHX.out] at hy
        clear x0 xf y0 yf
        obtain ⟨x0, xf⟩ := BlkAt.c1 h12
        obtain ⟨y0, yf⟩ := BlkAt.c1 h22
        gi_wp2
        refine hR.mono ?_
        rintro e W3 (⟨rfl, hJ3, hk3⟩ | ⟨rfl, hJx3⟩)
        · have h13 : BlkAt W3 B1 22 #[.slice (some ad) n c] := by unfold BlkAt at *; rw [hk3.2.1]; exact h12
          have h23 : BlkAt W3 B2 3 #[.int .i64 128] := by unfold BlkAt at *; rw [hk3.2.2]; exact h22
          clear x0 xf y0 yf
          obtain ⟨x0, xf⟩ := BlkAt.c1 h13
          obtain ⟨y0, yf⟩ := BlkAt.c1 h23
          gi_wp2
          go_roundw
          case rel => exact ⟨k + 1, .inr (by rw [Nat.add_sub_cancel]; exact HLT.out), by rw [← HI0.out]; go_num, by rw [HK.out]; exact hJ3, hb.t (hb2.t hk3)⟩
          case measure => simp [intOf] <;> omega
        · gi_wp2
          refine bodyPost_ret (results_none rfl _ _ _) rfl ?_
          exact ⟨⟨_, rfl⟩, .inr ⟨_, ⟨k, hkl, HK.out.symm⟩, hJx3⟩⟩
    · have t1 : decide (128 * k < n) = false := decide_eq_false hlt
      have hkk : k = (n + 127) / 128 := by omega
      gi_wp2
      go_end0
      exact ⟨⟨_, rfl⟩, .inl ⟨_, by rw [hkk], hJ⟩⟩
theorem chunk_stops (m : Nat) (hm : 1 ≤ m) (B1 B2 n c : Nat) (A : Option Addr) (hn : n ≤ 1000000) (hnc : n ≤ c) (hcm : c ≤ 9223372036854775807) (hnil : A = none → n = 0 ∧ c = 0) (w : World)
    (h1 : BlkAt w B1 22 #[.slice A n c]) (h2 : BlkAt w B2 3 #[.int .i64 128]) :
    SeqStopsK Fence.wide m Try.prog 71 #[.pointer (some ⟨B1, 0, none⟩), .pointer (some ⟨B2, 0, none⟩)] (encC A n) (KeepB B1 B2) (fun ys => ys = List.range ((n + 127) / 128)) (fun pre => ∃ k, k < (n + 127) / 128 ∧ pre = List.range (k + 1)) ((n + 127) / 128) w := fun l J Jx W hW hJ _ hY h0 =>
  chunk1_in m hm l B1 B2 n c A hn hnc hcm hnil J Jx W.heap.size hJ hY W (blk_below h1 hW h1.lt) (blk_below h2 hW h2.lt) h0
theorem keepB_b {b1 b2 : Nat} {w : World} (h1 : b1 < w.heap.size) (h2 : b2 < w.heap.size) (W : World) (l : Nat) (o o' : Obj) (hl : w.heap.size ≤ l) (h : W.heap[l]? = some o) (_ : o.isCells = false) (_ : o.isWalk = false) : KeepB b1 b2 W (W.putObj l o') := by
  have g := grownBy_putObj' W l o'
  have hlt : l < W.heap.size := (Array.getElem?_eq_some_iff.1 h).1
  exact ⟨g.size, g.block b1 (by omega) (by simp; omega), g.block b2 (by omega) (by simp; omega)⟩
end Go.Proofs.Ytnkdlmmdaagonaa
