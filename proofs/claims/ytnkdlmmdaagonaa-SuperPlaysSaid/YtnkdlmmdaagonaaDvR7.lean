/- Contracts, several texts in one. -/
import Derived.Test.YtnkdlmmdaagonaaDev4
import Derived.Test.YtnkdlmmdaagonaaSupR1
import Derived.Test.YtnkdlmmdaagonaaSeg
import Derived.Test.YtnkdlmmdaagonaaWr2
import Derived.Test.YtnkdlmmdaagonaaOpenT
import Derived.Test.YtnkdlmmdaagonaaDev3
import Derived.Test.YtnkdlmmdaagonaaDev6
import Derived.Test.YtnkdlmmdaagonaaRef1
import Derived.Test.YtnkdlmmdaagonaaWr3
import Derived.Test.YtnkdlmmdaagonaaCalmF
import Derived.Test.YtnkdlmmdaagonaaConv
import Derived.Laws.OwnMore
/- interrexref21: bit. -/
namespace Go.Proofs.Ytnkdlmmdaagonaa
open Go.RowKit
theorem half_u64 (x : Nat) (h : x < 18446744073709551616) : IntKind.u64.wrap ((x : Int).tdiv 2) = ((x / 2 : Nat) : Int) := by
  rw [Int.tdiv_eq_ediv_of_nonneg (by omega), IntKind.wrap_u64]; omega
set_option maxRecDepth 100000 in
set_option maxHeartbeats 800000 in
theorem bitR_calls (w : World) (m k : Nat) (hm : m ≤ 18446744073709551615) (hk : k ≤ 1000000) : Calls Try.prog 53 #[.int .u64 m, .int .i64 k] w (fun e w' => e = .returned (.bool (bitM m k)) ∧ w = w') := by
  obtain ⟨r, hr⟩ : ∃ r, k % 64 = r := ⟨_, rfl⟩
  have hrz : (k : Int) % 64 = (r : Nat) := by omega
  have hr64 : r < 64 := by omega
  have HB : Hid (bitM m k = decide (m / 2 ^ r % 2 = 1)) := by unfold Hid bitM; rw [hr]
  clear hr
  go_enter Try.func53, Try.ntmps53
  go_wp2_with fail
  go_loop [0, 7] (fun v i => ∃ j : Nat, j ≤ r ∧ i = .int .i64 j ∧ v = .int .u64 (m / 2 ^ j : Nat)) (fun _ i => r - (intOf i).toNat)
  case atStart => exact ⟨0, Nat.zero_le _, rfl, by simp⟩
  case round =>
    obtain ⟨j, hj, rfl, rfl⟩ := hrel
    have hle : m / 2 ^ j ≤ 18446744073709551615 := Nat.le_trans (Nat.div_le_self _ _) hm
    have HS := hid (Nat.div_div_eq_div_mul m (2 ^ j) 2)
    obtain ⟨x, hx⟩ : ∃ x, m / 2 ^ j = x := ⟨_, rfl⟩
    have HX := hid hx
    rw [hx] at hle HS ⊢
    have hlt : x < 18446744073709551616 := by omega
    clear hx
    by_cases hjr : j < r
    · have hx2 := half_u64 x hlt
      go_wp2_with fail
      go_round
      case rel => exact ⟨j + 1, by omega, by go_num, by rw [Nat.pow_succ, ← HS.out]; go_num⟩
      case measure => simp [intOf]; omega
    · obtain rfl : j = r := by omega
      have hq2 : ((x : Int) % 2 == 1) = decide (x % 2 = 1) := by rw [Bool.eq_iff_iff, beq_iff_eq, decide_eq_true_iff]; omega
      go_wp2_with fail
      go_ret
      exact ⟨by rw [HB.out, HX.out, ← hq2]; rfl, rfl⟩
/-- The reference's device as a value. -/
def refC (n : Int) (s : Value) (dn : Bool) (f : Int) (m : Nat) : Array Value := #[.int .i64 n, s, .bool dn, .int .i64 f, .int .u64 (m : Nat)]
end Go.Proofs.Ytnkdlmmdaagonaa
/- interrexref21: the device as a value; New. -/
namespace Go.Proofs.Ytnkdlmmdaagonaa
open Go.RowKit
/-- A write, as the reference has it. -/
structure RWr where
  i : Nat
  b : ByteArray
  k : Bool
def RWr.C (x : RWr) : List Value := [.int .i64 x.i, .string x.b, .bool x.k]
/-- The reference's device. -/
structure RefD where
  n : Nat
  l : List RWr
  down : Bool
  fuse : Int
  mask : Nat
/-- A value is a device. -/
def RefAt (w : World) (v : Value) (r : RefD) : Prop :=
  ∃ A m c, v = .agg (refC r.n (.slice A m c) r.down r.fuse r.mask) ∧ RowAt w A (r.l.flatMap RWr.C) ∧ r.l.length = m ∧ m ≤ c ∧ c ≤ 9223372036854775807 ∧ (A = none → m = 0 ∧ c = 0) ∧ ∀ ad, A = some ad → ∃ C, BlkAt w ad.block 105 C
theorem RefAt.fr {w w' : World} {v : Value} {r : RefD} (h : RefAt w v r) (f : Fr noB w w') : RefAt w' v r := by
  obtain ⟨A, m, c, h1, h2, h3, h4, h5, h6, h7⟩ := h
  exact ⟨A, m, c, h1, h2.fr0 f, h3, h4, h5, h6, fun ad e => (h7 ad e).imp fun C hC => hC.fr f id⟩
theorem RefAt.frD {w w' : World} {v : Value} {r : RefD} {b : Nat} {C : Array Value} (h : RefAt w v r) (hb : BlkAt w b 43 C) (f : Fr (eqB b) w w') : RefAt w' v r := by
  obtain ⟨A, m, c, h1, h2, h3, h4, h5, h6, h7⟩ := h
  have hne : ∀ ad, A = some ad → ¬ eqB b ad.block := fun ad e g => by
    obtain ⟨C', hC'⟩ := h7 ad e
    unfold eqB at g; rw [g] at hC'; unfold BlkAt at hb hC'; rw [hb] at hC'; simp at hC'
  exact ⟨A, m, c, h1, h2.fr f (fun ad e _ _ => hne ad e), h3, h4, h5, h6, fun ad e => (h7 ad e).imp fun C hC => hC.fr f (hne ad e)⟩
def newR (n : Nat) : RefD := ⟨n, [], false, -1, 0⟩
theorem run_max2 (P : Program) (tt : Array TypeId) (t : TypeId) (k : IntKind) (a b : Int) (W : World) : (Builtin.max_ tt t #[.int k a, .int k b]).run P W = .ok (.int k (max a b)) W := by
  unfold Builtin.max_
  simp only [List.foldlM, max2_int, pure_bind]
  rfl
theorem fr_setD5 (w : World) (b : Nat) (u0 u1 u2 u3 u4 : Value) : Fr (eqB b) w (((((w.setCell ⟨b, 0, none⟩ u0).setCell ⟨b, 1, none⟩ u1).setCell ⟨b, 2, none⟩ u2).setCell ⟨b, 3, none⟩ u3).setCell ⟨b, 4, none⟩ u4) :=
  (((((fr_set1 w b 0 u0).then' (fr_set1 _ b 1 u1)).then' (fr_set1 _ b 2 u2)).then' (fr_set1 _ b 3 u3)).then' (fr_set1 _ b 4 u4))
set_option maxRecDepth 100000 in
set_option maxHeartbeats 800000 in
theorem newR_calls (w : World) (n : Nat) (hn : n ≤ 1000000) : Calls Try.prog 18 #[.int .i64 n] w (fun e w' => ∃ v, e = .returned v ∧ RefAt w' v (newR n) ∧ Fr noB w w') := by
  have f0 : Fr noB w (w.alloc (.cells #[.int .i64 0, .slice none 0 0, .bool false, .int .i64 0, .int .u64 0] 43)) := (Fr.refl noB w).alloc _
  have hb0 : BlkAt (w.alloc (.cells #[.int .i64 0, .slice none 0 0, .bool false, .int .i64 0, .int .u64 0] 43)) w.heap.size 43 #[.int .i64 0, .slice none 0 0, .bool false, .int .i64 0, .int .u64 0] := BlkAt.new _ _ _
  have HRES : Hid (Try.f18.results = #[.cell 2 43]) := by unfold Hid; kernel_rfl
  have hmx : ∀ tt t W, (Builtin.max_ tt t #[.int .i64 0, .int .i64 n]).run Try.prog W = .ok (.int .i64 n) W := fun tt t W => by
    rw [run_max2, show max (0 : Int) n = n by omega]
  go_enter Try.func18, Try.ntmps18
  go_upto_region 1 with fail
  generalize (w.alloc _) = wa at *
  obtain ⟨y0, y1, y2, y3, y4, yf⟩ := BlkAt.c5 hb0
  go_wp2_with fail
  have hr := HRES.out
  have FF := f0.trans (fr_setD5 wa w.heap.size (.int .i64 n) (.slice none 0 0) (.bool false) (.int .i64 (-1)) (.int .u64 0)) (fun i hi h => by unfold eqB at h; omega)
  exact bodyPost_ret (v := .agg #[.int .i64 n, .slice none 0 0, .bool false, .int .i64 (-1), .int .u64 0]) (by simp [results, hr, go_sem, y0, y1, y2, y3, y4]) rfl ⟨_, rfl, ⟨none, 0, 0, rfl, RowAt.nil _ _, rfl, Nat.le_refl _, by omega, fun _ => ⟨rfl, rfl⟩, fun _ e => by cases e⟩, FF⟩
end Go.Proofs.Ytnkdlmmdaagonaa
/- interrexref21.Cut. -/
namespace Go.Proofs.Ytnkdlmmdaagonaa
open Go.RowKit
theorem Try.appW : AppTy Try.prog 41 105 (.agg #[.int .i64 0, .string ⟨#[]⟩, .bool false]) 3 32 := ⟨Try.underlying41, by kernel_rfl, rfl, by decide⟩
/-- One write at a cut. -/
def cutF (m : Nat) (q : List RWr × Nat) (x : RWr) : List RWr × Nat := if x.k then (q.1 ++ [x], q.2) else (if bitM m q.2 then q.1 ++ [⟨x.i, x.b, true⟩] else q.1, q.2 + 1)
def cutP (m : Nat) (l : List RWr) : List RWr × Nat := l.foldl (cutF m) ([], 0)
def cutR (m : Nat) (r : RefD) : RefD := if r.down then r else { r with l := (cutP m r.l).1, down := true, fuse := -1 }
theorem cutP_snoc (m : Nat) {l : List RWr} {j : Nat} {x : RWr} (h : l[j]? = some x) : cutP m (l.take (j + 1)) = cutF m (cutP m (l.take j)) x := by
  unfold cutP
  rw [take_snoc' h, List.foldl_append]
  rfl
theorem cutP_le (m : Nat) (l : List RWr) : (cutP m l).1.length ≤ l.length ∧ (cutP m l).2 ≤ l.length := by
  unfold cutP
  suffices h : ∀ (l : List RWr) (q : List RWr × Nat), (l.foldl (cutF m) q).1.length ≤ q.1.length + l.length ∧ (l.foldl (cutF m) q).2 ≤ q.2 + l.length by
    have := h l ([], 0); simpa using this
  intro l
  induction l with
  | nil => intro q; exact ⟨Nat.le_refl _, Nat.le_refl _⟩
  | cons x l ih =>
    intro q
    rw [List.foldl_cons, List.length_cons]
    have := ih (cutF m q x)
    have h1 : (cutF m q x).1.length ≤ q.1.length + 1 ∧ (cutF m q x).2 ≤ q.2 + 1 := by
      unfold cutF; split
      · simp
      · split <;> simp
    omega
theorem wcells_len (l : List RWr) : (l.flatMap RWr.C).length = l.length * 3 := by
  induction l with
  | nil => rfl
  | cons x l ih => rw [List.flatMap_cons, List.length_append, ih, List.length_cons]; simp [RWr.C]; omega
theorem wcells_one (l : List RWr) : ∀ u ∈ l.flatMap RWr.C, u.oneCell' = true := by
  intro u hu
  rw [List.mem_flatMap] at hu
  obtain ⟨x, _, hx⟩ := hu
  simp only [RWr.C, List.mem_cons, List.not_mem_nil, or_false] at hx
  rcases hx with rfl | rfl | rfl <;> rfl
/-- The row that grows: what it holds, and that it is new. -/
def GrowW (base : Nat) (w : World) (v : Value) (o : List RWr) : Prop :=
  ∃ B d, v = .slice B o.length d ∧ w.ownsRow 0 105 3 v o.length (o.flatMap RWr.C) ∧ ∀ g, v.ownBlock = some g → base ≤ g
theorem GrowW.fr {base : Nat} {S : Nat → Prop} {w w' : World} {v : Value} {o : List RWr} (h : GrowW base w v o) (f : Fr S w w') (hS : ∀ k, base ≤ k → ¬ S k) : GrowW base w' v o := by
  obtain ⟨B, d, h1, h2, h3⟩ := h
  exact ⟨B, d, h1, own_fr h2 f (fun g hg => hS g (h3 g hg)), h3⟩
set_option maxRecDepth 100000 in
set_option maxHeartbeats 6400000 in
theorem cutR_calls (w : World) (v : Value) (r : RefD) (m : Nat) (h : RefAt w v r) (hm : m ≤ 18446744073709551615) (hl : r.l.length ≤ 1000000) :
    Calls Try.prog 21 #[v, .int .u64 m] w (fun e w' => ∃ v', e = .returned v' ∧ RefAt w' v' (cutR m r) ∧ Fr noB w w') := by
  obtain ⟨A, n, c, rfl, hA, hn, hnc, hc, hnil, hty⟩ := h
  obtain ⟨N, l, dn, fu, mk⟩ := r
  have HRES : Hid (Try.f21.results = #[.cell 4 43]) := by unfold Hid; kernel_rfl
  unfold refC
  simp only [] at hA hn hl ⊢
  have f0 := ((Fr.refl noB w).alloc (.cells #[.int .i64 N, .slice A n c, .bool dn, .int .i64 fu, .int .u64 mk] 43)).alloc (.cells #[.int .i64 0, .slice none 0 0, .bool false, .int .i64 0, .int .u64 0] 43)
  have b0 := (BlkAt.new w #[.int .i64 N, .slice A n c, .bool dn, .int .i64 fu, .int .u64 mk] 43).al (.cells #[.int .i64 0, .slice none 0 0, .bool false, .int .i64 0, .int .u64 0] 43)
  have b1 := BlkAt.new (w.alloc (.cells #[.int .i64 N, .slice A n c, .bool dn, .int .i64 fu, .int .u64 mk] 43)) #[.int .i64 0, .slice none 0 0, .bool false, .int .i64 0, .int .u64 0] 43
  simp only [al_size] at b1
  cases dn
  · have HC : Hid (cutR m ⟨N, l, false, fu, mk⟩ = ⟨N, (cutP m l).1, true, -1, mk⟩) := rfl
    rw [HC.out]
    have HLE := hid (cutP_le m l)
    have HN := hid hn
    clear hn
    go_enter Try.func21, Try.ntmps21
    go_upto_region 1 with fail
    generalize ((w.alloc (.cells #[.int .i64 N, .slice A n c, .bool false, .int .i64 fu, .int .u64 mk] 43)).alloc (.cells #[.int .i64 0, .slice none 0 0, .bool false, .int .i64 0, .int .u64 0] 43)) = wa at *
    obtain ⟨x0, x1, x2, x3, x4, xf⟩ := BlkAt.c5 b0
    go_wp2_with fail
    go_loopw [5, 6, 15] (fun o k i wr => ∃ j : Nat, j ≤ n ∧ i = .int .i64 j ∧ k = .int .i64 ((cutP m (l.take j)).2 : Nat) ∧ GrowW (w.heap.size + 2) wr o (cutP m (l.take j)).1 ∧ BlkAt wr w.heap.size 43 #[.int .i64 N, .slice A n c, .bool false, .int .i64 fu, .int .u64 mk] ∧ BlkAt wr (w.heap.size + 1) 43 #[.int .i64 0, .slice none 0 0, .bool false, .int .i64 0, .int .u64 0] ∧ Fr noB w wr ∧ w.heap.size + 2 ≤ wr.heap.size) (fun _ _ i _ => n - (intOf i).toNat)
    case atStart => exact ⟨0, Nat.zero_le _, rfl, rfl, ⟨none, 0, rfl, World.ownsRow_nil _ _ _ _, fun g hg => by cases hg⟩, b0, b1, f0, by have := b1.lt; omega⟩
    case round =>
      clear x0 x1 x2 x3 x4 xf b0 b1 f0
      obtain ⟨j, hj, rfl, rfl, hg, c0, c1, hf, hsz⟩ := hrel
      by_cases hjn : j < n
      · obtain ⟨x, hx⟩ : ∃ x, l[j]? = some x := ⟨_, List.getElem?_eq_getElem (by rw [HN.out]; exact hjn)⟩
        obtain ⟨ad, rfl⟩ := hA.some_flat (by simp [RWr.C]) hx
        have hseg := (hA.seg 3 (fun _ => rfl) hx).fr hf id
        have HS := hid (cutP_snoc m hx)
        have hle1 : (cutP m (l.take j)).1.length ≤ 1000000 ∧ (cutP m (l.take j)).2 ≤ 1000000 := by
          have := cutP_le m (l.take j); rw [List.length_take] at this; omega
        generalize cutP m (l.take j) = q at *
        generalize hq2 : cutP m (l.take (j + 1)) = q2 at *
        have HQ2 := hid hq2
        clear hq2
        obtain ⟨o, k⟩ := q
        obtain ⟨xi, xb, xk⟩ := x
        unfold RWr.C at hseg
        unfold cutF at HS
        simp only [] at hseg HS hle1 hg ⊢
        obtain ⟨y0, y1, y2⟩ := hseg.c3
        have hcb := BlkAt.new wr #[.int .i64 xi, .string xb, .bool xk] 105
        have fx := (Fr.refl noB wr).alloc (.cells #[.int .i64 xi, .string xb, .bool xk] 105)
        replace hg := hg.fr fx (fun _ _ h => h)
        replace c0 := c0.fr fx id
        replace c1 := c1.fr fx id
        have Fc := hf.then' fx
        have hsz2 := fx.size
        go_upto_region 8 with fail
        obtain ⟨xp, hxp⟩ : ∃ z, wr.heap.size = z := ⟨_, rfl⟩
        rw [hxp] at hcb hsz hsz2 ⊢
        generalize (wr.alloc (.cells #[.int .i64 xi, .string xb, .bool xk] 105)) = wc at *
        clear y0 y1 y2 hf fx hxp
        obtain ⟨z0, z1, z2, zf⟩ := BlkAt.c3 hcb
        cases xk
        · have HS1 : Hid (q2 = (if bitM m k then o ++ [⟨xi, xb, true⟩] else o, k + 1)) := HS.out
          have hbt := bitR_calls wc m k hm hle1.2
          cases hb : bitM m k
          · rw [hb] at HS1 hbt
            have HS2 : Hid (q2 = (o, k + 1)) := HS1.out
            clear HS HS1 hb
            go_wp2_with fail
            refine hbt.mono ?_
            rintro ed w9 ⟨rfl, rfl⟩
            go_wp2_with fail
            go_roundw
            case rel => exact ⟨j + 1, by omega, by go_num, by rw [HQ2.out, HS2.out]; go_num, by rw [HQ2.out, HS2.out]; exact hg, c0, c1, Fc, by omega⟩
            case measure => simp [intOf]; omega
          · rw [hb] at HS1 hbt
            have HS2 : Hid (q2 = (o ++ [⟨xi, xb, true⟩], k + 1)) := HS1.out
            clear HS HS1 hb
            go_wp2_with fail
            refine hbt.mono ?_
            rintro ed w9 ⟨rfl, rfl⟩
            obtain ⟨B, d, rfl, hown, hbb⟩ := hg
            have fe := (Fr.refl noB wc).alloc (.cells #[.int .i64 xi, .string xb, .bool true] 105)
            have hown2 := own_fr hown fe (fun _ _ => id)
            have hrow : RowAt (wc.alloc (.cells #[.int .i64 xi, .string xb, .bool true] 105)) (some ⟨wc.heap.size, 0, none⟩) [.int .i64 xi, .string xb, .bool true] := new_row wc #[.int .i64 xi, .string xb, .bool true] 105
            go_wp2_with (at_builtin; refine wpList_app Try.appW rfl (.tmp 28) (.tmp 34) rfl _ o.length (o.flatMap RWr.C) rfl hown2 (some ⟨wc.heap.size, 0, none⟩) 1 1 [.int .i64 xi, .string xb, .bool true] rfl rfl hrow (by intro u hu; simp at hu; rcases hu with rfl | rfl | rfl <;> rfl) (by simp) (by omega) (by omega) ?_)
            intro B' d' w5 hown5 hg5 hat5
            have f5 : Fr (fun k => (Value.slice B o.length d).ownBlock = some k) wc w5 := Fr.grown (fe.mono fun _ _ h => h.elim) hg5 (fun k hk => Or.inl hk)
            have hGW : GrowW (w.heap.size + 2) w5 (.slice B' (o.length + 1) d') (o ++ [⟨xi, xb, true⟩]) := by
              refine ⟨B', d', by simp, ?_, fun g hg => ?_⟩
              · simpa [List.flatMap_append, RWr.C] using hown5
              · rcases hat5 with e | e
                · exact hbb g (e ▸ hg)
                · rw [hg] at e; simp at e; have := Fc.size; omega
            have c05 := c0.fr f5 (fun h => by have := hbb _ h; omega)
            have c15 := c1.fr f5 (fun h => by have := hbb _ h; omega)
            have F5 : Fr noB w w5 := Fc.trans f5 (fun i hi h => by have := hbb _ h; omega)
            have hz5 := f5.size
            clear hown hown2 hrow hown5 hg5 hat5 f5 fe hbb c0 c1
            go_wp2_with fail
            go_roundw
            case rel => exact ⟨j + 1, by omega, by go_num, by rw [HQ2.out, HS2.out]; go_num, by rw [HQ2.out, HS2.out]; exact hGW, c05, c15, F5, by omega⟩
            case measure => simp [intOf]; omega
        · have HS2 : Hid (q2 = (o ++ [⟨xi, xb, true⟩], k)) := HS.out
          clear HS
          obtain ⟨B, d, rfl, hown, hbb⟩ := hg
          have fe := (Fr.refl noB wc).alloc (.cells #[.int .i64 xi, .string xb, .bool true] 105)
          have hown2 := own_fr hown fe (fun _ _ => id)
          have hrow : RowAt (wc.alloc (.cells #[.int .i64 xi, .string xb, .bool true] 105)) (some ⟨wc.heap.size, 0, none⟩) [.int .i64 xi, .string xb, .bool true] := new_row wc #[.int .i64 xi, .string xb, .bool true] 105
          go_wp2_with (at_builtin; refine wpList_app Try.appW rfl (.tmp 21) (.tmp 23) rfl _ o.length (o.flatMap RWr.C) rfl hown2 (some ⟨wc.heap.size, 0, none⟩) 1 1 [.int .i64 xi, .string xb, .bool true] rfl rfl hrow (by intro u hu; simp at hu; rcases hu with rfl | rfl | rfl <;> rfl) (by simp) (by omega) (by omega) ?_)
          intro B' d' w5 hown5 hg5 hat5
          have f5 : Fr (fun k => (Value.slice B o.length d).ownBlock = some k) wc w5 := Fr.grown (fe.mono fun _ _ h => h.elim) hg5 (fun k hk => Or.inl hk)
          have hGW : GrowW (w.heap.size + 2) w5 (.slice B' (o.length + 1) d') (o ++ [⟨xi, xb, true⟩]) := by
            refine ⟨B', d', by simp, ?_, fun g hg => ?_⟩
            · simpa [List.flatMap_append, RWr.C] using hown5
            · rcases hat5 with e | e
              · exact hbb g (e ▸ hg)
              · rw [hg] at e; simp at e; have := Fc.size; omega
          have c05 := c0.fr f5 (fun h => by have := hbb _ h; omega)
          have c15 := c1.fr f5 (fun h => by have := hbb _ h; omega)
          have F5 : Fr noB w w5 := Fc.trans f5 (fun i hi h => by have := hbb _ h; omega)
          have hz5 := f5.size
          clear hown hown2 hrow hown5 hg5 hat5 f5 fe hbb c0 c1
          go_wp2_with fail
          go_roundw
          case rel => exact ⟨j + 1, by omega, by go_num, by rw [HQ2.out, HS2.out], by rw [HQ2.out, HS2.out]; exact hGW, c05, c15, F5, by omega⟩
          case measure => simp [intOf]; omega
      · have hjn' : j = n := by omega
        subst hjn'
        rw [List.take_of_length_le (by rw [HN.out]; exact Nat.le_refl _)] at hg
        obtain ⟨o, ho⟩ : ∃ o, (cutP m l).1 = o := ⟨_, rfl⟩
        rw [ho] at hg
        have HO := hid ho
        clear ho
        obtain ⟨B, d, rfl, hown, hbb⟩ := hg
        obtain ⟨x0, x1, x2, x3, x4, xf⟩ := BlkAt.c5 c0
        obtain ⟨y0, y1, y2, y3, y4, yf⟩ := BlkAt.c5 c1
        have f1 := ((fr_set1 wr w.heap.size 1 (.slice B o.length d)).then' (fr_set1 _ w.heap.size 2 (.bool true))).then' (fr_set1 _ w.heap.size 3 (.int .i64 (-1)))
        have f2 := fr_setD5 (((wr.setCell ⟨w.heap.size, 1, none⟩ (.slice B o.length d)).setCell ⟨w.heap.size, 2, none⟩ (.bool true)).setCell ⟨w.heap.size, 3, none⟩ (.int .i64 (-1))) (w.heap.size + 1) (.int .i64 N) (.slice B o.length d) (.bool true) (.int .i64 (-1)) (.int .u64 mk)
        have HOW := own_fr (own_fr hown f1 (fun g hg h => by have := hbb g hg; unfold eqB at h; omega)) f2 (fun g hg h => by have := hbb g hg; unfold eqB at h; omega)
        have FF : Fr noB w _ := (hf.trans f1 (fun i hi h => by unfold eqB at h; omega)).trans f2 (fun i hi h => by unfold eqB at h; omega)
        have hcap := own_capB HOW
        go_wp2_with fail
        have hr := HRES.out
        exact bodyPost_ret (v := .agg #[.int .i64 N, .slice B o.length d, .bool true, .int .i64 (-1), .int .u64 mk]) (by simp [results, hr, go_sem, y0, y1, y2, y3, y4]) rfl ⟨_, rfl, ⟨B, o.length, d, rfl, by simp only []; rw [HO.out]; exact own_row HOW, by simp only []; rw [HO.out], hcap.1, hcap.2, own_nilB HOW, fun ad e => own_typ HOW (k := ad.block) (by subst e; rfl)⟩, FF⟩
  · have HC : Hid (cutR m ⟨N, l, true, fu, mk⟩ = ⟨N, l, true, fu, mk⟩) := rfl
    rw [HC.out]
    go_enter Try.func21, Try.ntmps21
    go_upto_region 1 with fail
    generalize ((w.alloc (.cells #[.int .i64 N, .slice A n c, .bool true, .int .i64 fu, .int .u64 mk] 43)).alloc (.cells #[.int .i64 0, .slice none 0 0, .bool false, .int .i64 0, .int .u64 0] 43)) = wa at *
    obtain ⟨x0, x1, x2, x3, x4, xf⟩ := BlkAt.c5 b0
    obtain ⟨y0, y1, y2, y3, y4, yf⟩ := BlkAt.c5 b1
    have FF := f0.trans (fr_setD5 wa (w.heap.size + 1) (.int .i64 N) (.slice A n c) (.bool true) (.int .i64 fu) (.int .u64 mk)) (fun i hi h => by unfold eqB at h; omega)
    go_wp2_with fail
    have hr := HRES.out
    exact bodyPost_ret (v := .agg #[.int .i64 N, .slice A n c, .bool true, .int .i64 fu, .int .u64 mk]) (by simp [results, hr, go_sem, y0, y1, y2, y3, y4]) rfl ⟨_, rfl, ⟨A, n, c, rfl, hA.fr0 FF, hn, hnc, hc, hnil, fun ad e => (hty ad e).imp fun C hC => hC.fr FF id⟩, FF⟩
end Go.Proofs.Ytnkdlmmdaagonaa
/- interrexref21.Burn, Put, Flush. -/
namespace Go.Proofs.Ytnkdlmmdaagonaa
open Go.RowKit
/-- A device and an error's number. -/
def RefPost (w : World) (q : RefD × Nat) (e : Ending) (w' : World) : Prop := ∃ v, e = .returned (.tuple #[v, .int .i64 (q.2 : Nat)]) ∧ RefAt w' v q.1 ∧ Fr noB w w'
def burnR (r : RefD) : RefD × Nat := if r.fuse < 0 then (r, 0) else if r.fuse = 0 then (cutR r.mask r, 15) else ({ r with fuse := r.fuse - 1 }, 0)
set_option maxRecDepth 100000 in
set_option maxHeartbeats 3200000 in
theorem burnR_calls (w : World) (v : Value) (r : RefD) (h : RefAt w v r) (hm : r.mask ≤ 18446744073709551615) (hl : r.l.length ≤ 1000000) (hf : r.fuse ≤ 9223372036854775807) :
    Calls Try.prog 50 #[v] w (RefPost w (burnR r)) := by
  have hcut := fun W f => cutR_calls W v r r.mask (h.fr (w' := W) f) hm hl
  obtain ⟨A, n, c, rfl, hA, hn, hnc, hc, hnil, hty⟩ := h
  obtain ⟨N, l, dn, fu, mk⟩ := r
  have HRES : Hid (Try.f50.results = #[.cell 2 43, .tmp 3]) := by unfold Hid; kernel_rfl
  unfold refC at *
  simp only [] at hA hn hl hcut hm hf ⊢
  have f0 := ((Fr.refl noB w).alloc (.cells #[.int .i64 N, .slice A n c, .bool dn, .int .i64 fu, .int .u64 mk] 43)).alloc (.cells #[.int .i64 0, .slice none 0 0, .bool false, .int .i64 0, .int .u64 0] 43)
  have b0 := (BlkAt.new w #[.int .i64 N, .slice A n c, .bool dn, .int .i64 fu, .int .u64 mk] 43).al (.cells #[.int .i64 0, .slice none 0 0, .bool false, .int .i64 0, .int .u64 0] 43)
  have b1 := BlkAt.new (w.alloc (.cells #[.int .i64 N, .slice A n c, .bool dn, .int .i64 fu, .int .u64 mk] 43)) #[.int .i64 0, .slice none 0 0, .bool false, .int .i64 0, .int .u64 0] 43
  simp only [al_size] at b1
  have HB : Hid (burnR ⟨N, l, dn, fu, mk⟩ = if fu < 0 then (⟨N, l, dn, fu, mk⟩, 0) else if fu = 0 then (cutR mk ⟨N, l, dn, fu, mk⟩, 15) else (⟨N, l, dn, fu - 1, mk⟩, 0)) := rfl
  by_cases h0 : fu < 0
  · have HB2 : Hid (burnR ⟨N, l, dn, fu, mk⟩ = (⟨N, l, dn, fu, mk⟩, 0)) := by unfold Hid; rw [HB.out, if_pos h0]
    rw [HB2.out]
    have t1 : decide (fu < 0) = true := decide_eq_true h0
    clear HB h0 hcut
    go_enter Try.func50, Try.ntmps50
    go_upto_region 1 with fail
    generalize ((w.alloc (.cells #[.int .i64 N, .slice A n c, .bool dn, .int .i64 fu, .int .u64 mk] 43)).alloc (.cells #[.int .i64 0, .slice none 0 0, .bool false, .int .i64 0, .int .u64 0] 43)) = wa at *
    obtain ⟨x0, x1, x2, x3, x4, xf⟩ := BlkAt.c5 b0
    obtain ⟨y0, y1, y2, y3, y4, yf⟩ := BlkAt.c5 b1
    have FF := f0.trans (fr_setD5 wa (w.heap.size + 1) (.int .i64 N) (.slice A n c) (.bool dn) (.int .i64 fu) (.int .u64 mk)) (fun i hi h => by unfold eqB at h; omega)
    go_wp2_with fail
    have hr := HRES.out
    exact bodyPost_ret (v := .tuple #[.agg #[.int .i64 N, .slice A n c, .bool dn, .int .i64 fu, .int .u64 mk], .int .i64 0]) (by simp [results, hr, go_sem, y0, y1, y2, y3, y4]) rfl ⟨_, rfl, ⟨A, n, c, rfl, hA.fr0 FF, hn, hnc, hc, hnil, fun ad e => (hty ad e).imp fun C hC => hC.fr FF id⟩, FF⟩
  · by_cases h1 : fu = 0
    · subst h1
      have HB2 : Hid (burnR ⟨N, l, dn, 0, mk⟩ = (cutR mk ⟨N, l, dn, 0, mk⟩, 15)) := HB.out
      rw [HB2.out]
      clear HB h0
      go_enter Try.func50, Try.ntmps50
      go_upto_region 1 with fail
      generalize ((w.alloc (.cells #[.int .i64 N, .slice A n c, .bool dn, .int .i64 0, .int .u64 mk] 43)).alloc (.cells #[.int .i64 0, .slice none 0 0, .bool false, .int .i64 0, .int .u64 0] 43)) = wa at *
      obtain ⟨x0, x1, x2, x3, x4, xf⟩ := BlkAt.c5 b0
      go_wp2_with fail
      refine (hcut wa f0).mono ?_
      rintro ed w1 ⟨v1, rfl, hRA, f1⟩
      have F1 := f0.then' f1
      replace b1 := b1.fr f1 id
      clear hcut f0 f1 b0 x0 x1 x2 x3 x4 xf
      generalize cutR mk ⟨N, l, dn, 0, mk⟩ = rr at *
      obtain ⟨N1, l1, dn1, fu1, mk1⟩ := rr
      obtain ⟨A1, n1, c1, e1, hR2⟩ := id hRA
      subst e1
      unfold refC at *
      simp only [] at *
      obtain ⟨y0, y1, y2, y3, y4, yf⟩ := BlkAt.c5 b1
      have fz := fr_setD5 w1 (w.heap.size + 1) (.int .i64 N1) (.slice A1 n1 c1) (.bool dn1) (.int .i64 fu1) (.int .u64 mk1)
      have FF := F1.trans fz (fun i hi h => by unfold eqB at h; omega)
      have HRF := hid (hRA.frD b1 fz)
      clear hR2 hRA fz
      go_wp2_with fail
      have hr := HRES.out
      exact bodyPost_ret (v := .tuple #[.agg #[.int .i64 N1, .slice A1 n1 c1, .bool dn1, .int .i64 fu1, .int .u64 mk1], .int .i64 15]) (by simp [results, hr, go_sem, y0, y1, y2, y3, y4]) rfl ⟨_, rfl, HRF.out, FF⟩
    · have HB2 : Hid (burnR ⟨N, l, dn, fu, mk⟩ = (⟨N, l, dn, fu - 1, mk⟩, 0)) := by unfold Hid; rw [HB.out, if_neg h0, if_neg h1]
      rw [HB2.out]
      have t1 : decide (fu < 0) = false := decide_eq_false h0
      have t2 : (fu == 0) = false := by rw [beq_eq_false_iff_ne]; exact h1
      have hfu : 0 < fu := by omega
      clear HB h0 h1 hcut
      go_enter Try.func50, Try.ntmps50
      go_upto_region 1 with fail
      generalize ((w.alloc (.cells #[.int .i64 N, .slice A n c, .bool dn, .int .i64 fu, .int .u64 mk] 43)).alloc (.cells #[.int .i64 0, .slice none 0 0, .bool false, .int .i64 0, .int .u64 0] 43)) = wa at *
      obtain ⟨x0, x1, x2, x3, x4, xf⟩ := BlkAt.c5 b0
      obtain ⟨y0, y1, y2, y3, y4, yf⟩ := BlkAt.c5 b1
      have f1 := fr_set1 wa w.heap.size 3 (.int .i64 (fu - 1))
      have f2 := fr_setD5 (wa.setCell ⟨w.heap.size, 3, none⟩ (.int .i64 (fu - 1))) (w.heap.size + 1) (.int .i64 N) (.slice A n c) (.bool dn) (.int .i64 (fu - 1)) (.int .u64 mk)
      have FF : Fr noB w _ := (f0.trans f1 (fun i hi h => by unfold eqB at h; omega)).trans f2 (fun i hi h => by unfold eqB at h; omega)
      go_wp2_with fail
      have hr := HRES.out
      exact bodyPost_ret (v := .tuple #[.agg #[.int .i64 N, .slice A n c, .bool dn, .int .i64 (fu - 1), .int .u64 mk], .int .i64 0]) (by simp [results, hr, go_sem, y0, y1, y2, y3, y4]) rfl ⟨_, rfl, ⟨A, n, c, rfl, hA.fr0 FF, hn, hnc, hc, hnil, fun ad e => (hty ad e).imp fun C hC => hC.fr FF id⟩, FF⟩
end Go.Proofs.Ytnkdlmmdaagonaa
/- interrexref21.Put. -/
namespace Go.Proofs.Ytnkdlmmdaagonaa
open Go.RowKit
def putR (r : RefD) (i : Int) (b : ByteArray) : RefD × Nat :=
  if r.down then (r, 15) else if i < 0 ∨ (r.n : Int) ≤ i then (r, 1) else if 128 < b.size then (r, 3) else if (burnR r).2 ≠ 0 then burnR r else ({ (burnR r).1 with l := r.l ++ [⟨i.toNat, b, false⟩] }, 0)
/-- The answer where the device stays. -/
theorem putR_stay (w : World) (v : Value) (r : RefD) (i : Int) (b : ByteArray) (h : RefAt w v r) (e : Nat) (he : r.down = true ∧ e = 15 ∨ r.down = false ∧ (i < 0 ∨ (r.n : Int) ≤ i) ∧ e = 1 ∨ r.down = false ∧ ¬ (i < 0 ∨ (r.n : Int) ≤ i) ∧ 128 < b.size ∧ e = 3) :
    Calls Try.prog 25 #[v, .int .i64 i, .string b] w (RefPost w (r, e)) := by
  obtain ⟨A, n, c, rfl, hR⟩ := id h
  clear h
  obtain ⟨N, l, dn, fu, mk⟩ := r
  have HRES : Hid (Try.f25.results = #[.cell 6 43, .tmp 7]) := by unfold Hid; kernel_rfl
  unfold refC at *
  simp only [] at hR he ⊢
  have f0 := ((Fr.refl noB w).alloc (.cells #[.int .i64 N, .slice A n c, .bool dn, .int .i64 fu, .int .u64 mk] 43)).alloc (.cells #[.int .i64 0, .slice none 0 0, .bool false, .int .i64 0, .int .u64 0] 43)
  have b0 := (BlkAt.new w #[.int .i64 N, .slice A n c, .bool dn, .int .i64 fu, .int .u64 mk] 43).al (.cells #[.int .i64 0, .slice none 0 0, .bool false, .int .i64 0, .int .u64 0] 43)
  have b1 := BlkAt.new (w.alloc (.cells #[.int .i64 N, .slice A n c, .bool dn, .int .i64 fu, .int .u64 mk] 43)) #[.int .i64 0, .slice none 0 0, .bool false, .int .i64 0, .int .u64 0] 43
  simp only [al_size] at b1
  obtain ⟨s, hs⟩ : ∃ s, b.size = s := ⟨_, rfl⟩
  rw [hs] at he
  obtain ⟨v1, h1⟩ : ∃ v, decide (i < 0) = v := ⟨_, rfl⟩
  obtain ⟨v2, h2⟩ : ∃ v, decide ((N : Int) ≤ i) = v := ⟨_, rfl⟩
  obtain ⟨v3, h3⟩ : ∃ v, decide ((128 : Int) < s) = v := ⟨_, rfl⟩
  go_enter Try.func25, Try.ntmps25
  go_upto_region 1 with fail
  generalize ((w.alloc (.cells #[.int .i64 N, .slice A n c, .bool dn, .int .i64 fu, .int .u64 mk] 43)).alloc (.cells #[.int .i64 0, .slice none 0 0, .bool false, .int .i64 0, .int .u64 0] 43)) = wa at *
  obtain ⟨x0, x1, x2, x3, x4, xf⟩ := BlkAt.c5 b0
  obtain ⟨y0, y1, y2, y3, y4, yf⟩ := BlkAt.c5 b1
  have FF := f0.trans (fr_setD5 wa (w.heap.size + 1) (.int .i64 N) (.slice A n c) (.bool dn) (.int .i64 fu) (.int .u64 mk)) (fun i hi h => by unfold eqB at h; omega)
  have HRF : Hid (RefAt _ (.agg #[.int .i64 N, .slice A n c, .bool dn, .int .i64 fu, .int .u64 mk]) ⟨N, l, dn, fu, mk⟩) := RefAt.fr (v := .agg #[.int .i64 N, .slice A n c, .bool dn, .int .i64 fu, .int .u64 mk]) ⟨A, n, c, rfl, hR⟩ FF
  clear hR
  rcases he with ⟨rfl, rfl⟩ | ⟨rfl, he, rfl⟩ | ⟨rfl, hne, he, rfl⟩
  · go_wp2_with fail
    have hr := HRES.out
    exact bodyPost_ret (v := .tuple #[.agg #[.int .i64 N, .slice A n c, .bool true, .int .i64 fu, .int .u64 mk], .int .i64 15]) (by simp [results, hr, go_sem, y0, y1, y2, y3, y4]) rfl ⟨_, rfl, HRF.out, FF⟩
  · cases v1
    · have hv2 : v2 = true := by rw [← h2]; exact decide_eq_true (he.resolve_left (of_decide_eq_false h1))
      subst hv2
      clear he
      go_wp2_with fail
      have hr := HRES.out
      exact bodyPost_ret (v := .tuple #[.agg #[.int .i64 N, .slice A n c, .bool false, .int .i64 fu, .int .u64 mk], .int .i64 1]) (by simp [results, hr, go_sem, y0, y1, y2, y3, y4]) rfl ⟨_, rfl, HRF.out, FF⟩
    · clear he
      go_wp2_with fail
      have hr := HRES.out
      exact bodyPost_ret (v := .tuple #[.agg #[.int .i64 N, .slice A n c, .bool false, .int .i64 fu, .int .u64 mk], .int .i64 1]) (by simp [results, hr, go_sem, y0, y1, y2, y3, y4]) rfl ⟨_, rfl, HRF.out, FF⟩
  · have hv1 : v1 = false := by rw [← h1]; exact decide_eq_false (fun g => hne (.inl g))
    have hv2 : v2 = false := by rw [← h2]; exact decide_eq_false (fun g => hne (.inr g))
    have hv3 : v3 = true := by rw [← h3]; exact decide_eq_true (by omega)
    subst hv1 hv2 hv3
    clear he hne
    go_wp2_with fail
    have hr := HRES.out
    exact bodyPost_ret (v := .tuple #[.agg #[.int .i64 N, .slice A n c, .bool false, .int .i64 fu, .int .u64 mk], .int .i64 3]) (by simp [results, hr, go_sem, y0, y1, y2, y3, y4]) rfl ⟨_, rfl, HRF.out, FF⟩
set_option maxRecDepth 100000 in
set_option maxHeartbeats 6400000 in
theorem putR_go (w : World) (v : Value) (r : RefD) (i : Nat) (b : ByteArray) (h : RefAt w v r) (hd : r.down = false) (hi : i < r.n) (hb : b.size ≤ 128) (hm : r.mask ≤ 18446744073709551615) (hl : r.l.length ≤ 1000000) (hf : r.fuse ≤ 9223372036854775807) :
    Calls Try.prog 25 #[v, .int .i64 i, .string b] w (RefPost w (if (burnR r).2 ≠ 0 then burnR r else ({ (burnR r).1 with l := r.l ++ [⟨i, b, false⟩] }, 0))) := by
  have hbu := fun W f => burnR_calls W v r (h.fr (w' := W) f) hm hl hf
  obtain ⟨A, n, c, rfl, hR⟩ := id h
  have hRA := h
  clear h
  obtain ⟨N, l, dn, fu, mk⟩ := r
  simp only [] at hd
  subst hd
  obtain ⟨⟨⟨N1, l1, dn1, fu1, mk1⟩, be⟩, hbr⟩ : ∃ q, burnR ⟨N, l, false, fu, mk⟩ = q := ⟨_, rfl⟩
  rw [hbr] at hbu ⊢
  clear hbr
  generalize hpr : (if ((⟨N1, l1, dn1, fu1, mk1⟩, be) : RefD × Nat).2 ≠ 0 then ((⟨N1, l1, dn1, fu1, mk1⟩, be) : RefD × Nat) else ({ ((⟨N1, l1, dn1, fu1, mk1⟩, be) : RefD × Nat).1 with l := (⟨N, l, false, fu, mk⟩ : RefD).l ++ [⟨i, b, false⟩] }, 0)) = pr
  have HPR := hid hpr.symm
  clear hpr
  simp only [] at HPR
  have HRES : Hid (Try.f25.results = #[.cell 6 43, .tmp 7]) := by unfold Hid; kernel_rfl
  unfold refC at *
  simp only [] at hR hi hl hbu ⊢
  obtain ⟨hA, hn, hnc, hc, hnil, hty⟩ := hR
  have f0 := ((Fr.refl noB w).alloc (.cells #[.int .i64 N, .slice A n c, .bool false, .int .i64 fu, .int .u64 mk] 43)).alloc (.cells #[.int .i64 0, .slice none 0 0, .bool false, .int .i64 0, .int .u64 0] 43)
  have b0 := (BlkAt.new w #[.int .i64 N, .slice A n c, .bool false, .int .i64 fu, .int .u64 mk] 43).al (.cells #[.int .i64 0, .slice none 0 0, .bool false, .int .i64 0, .int .u64 0] 43)
  have b1 := BlkAt.new (w.alloc (.cells #[.int .i64 N, .slice A n c, .bool false, .int .i64 fu, .int .u64 mk] 43)) #[.int .i64 0, .slice none 0 0, .bool false, .int .i64 0, .int .u64 0] 43
  simp only [al_size] at b1
  obtain ⟨s, hs⟩ : ∃ s, b.size = s := ⟨_, rfl⟩
  rw [hs] at hb
  have t1 : decide ((i : Int) < 0) = false := decide_eq_false (by omega)
  have t2 : decide (N ≤ i) = false := decide_eq_false (by omega)
  have t3 : decide ((128 : Int) < s) = false := decide_eq_false (by omega)
  go_enter Try.func25, Try.ntmps25
  go_upto_region 1 with fail
  generalize ((w.alloc (.cells #[.int .i64 N, .slice A n c, .bool false, .int .i64 fu, .int .u64 mk] 43)).alloc (.cells #[.int .i64 0, .slice none 0 0, .bool false, .int .i64 0, .int .u64 0] 43)) = wa at *
  obtain ⟨x0, x1, x2, x3, x4, xf⟩ := BlkAt.c5 b0
  go_wp2_with fail
  refine (hbu wa f0).mono ?_
  rintro ed w1 ⟨v1, rfl, hR1, f1⟩
  have F1 := f0.then' f1
  replace b0 := b0.fr f1 id
  replace b1 := b1.fr f1 id
  have hA1 := hA.fr0 F1
  obtain ⟨A1, n1, c1, rfl, hR2⟩ := id hR1
  unfold refC at *
  simp only [] at *
  have fz := (Fr.refl noB w1).alloc (.cells #[.int .i64 N1, .slice A1 n1 c1, .bool dn1, .int .i64 fu1, .int .u64 mk1] 43)
  have F2 := F1.then' fz
  have bx := BlkAt.new w1 #[.int .i64 N1, .slice A1 n1 c1, .bool dn1, .int .i64 fu1, .int .u64 mk1] 43
  have hlt := b1.lt
  replace b0 := b0.fr fz id
  replace b1 := b1.fr fz id
  have hA2 := hA1.fr0 fz
  have hR3 := hR1.fr fz
  obtain ⟨xb, hxb⟩ : ∃ z, w1.heap.size = z := ⟨_, rfl⟩
  have hb1x : w.heap.size + 1 < xb := by omega
  rw [hxb] at bx
  clear x0 x1 x2 x3 x4 xf hbu f0 f1 F1 hA1 hA hR1 hRA hR2
  go_upto_region 8 with fail
  generalize (w1.alloc (.cells #[.int .i64 N1, .slice A1 n1 c1, .bool dn1, .int .i64 fu1, .int .u64 mk1] 43)) = w2 at *
  clear fz hxb
  have hx2 := bx.lt
  obtain ⟨x0, x1, x2, x3, x4, xf⟩ := BlkAt.c5 b0
  obtain ⟨y0, y1, y2, y3, y4, yf⟩ := BlkAt.c5 b1
  obtain ⟨z0, z1, z2, z3, z4, zf⟩ := BlkAt.c5 bx
  by_cases he : be = 0
  · subst he
    have HP2 : Hid (pr = (⟨N1, l ++ [⟨i, b, false⟩], dn1, fu1, mk1⟩, 0)) := HPR.out
    clear HPR hR3
    have fe := (Fr.refl noB w2).alloc (.cells #[] 105)
    have hown0 : (w2.alloc (.cells #[] 105)).ownsRow 0 105 3 (.slice (some ⟨w2.heap.size, 0, none⟩) 0 0) 0 [] := World.ownsRow_made w2 #[] 0 (Nat.zero_le _) (by unfold maxLen; omega) rfl
    have hA3 := hA2.fr0 fe
    have x1e := (BlkAt.c5 (b0.fr fe id)).2.1
    go_wp2_with (at_builtin; refine wpList_app Try.appW rfl (.tmp 35) (.tmp 37) rfl _ 0 [] rfl hown0 A n c (l.flatMap RWr.C) rfl (by rw [wcells_len, hn]) hA3 (wcells_one _) hnil (by omega) (by omega) ?_)
    intro B d w3 hown3 hg hat
    have f3 : Fr noB w2 w3 := Fr.grown fe hg (fun k hk => Or.inr (by simp [Value.ownBlock] at hk; omega))
    have hbb : ∀ g, (Value.slice B n d).ownBlock = some g → w2.heap.size ≤ g := fun g e => by
      rcases hat with h | h <;> (rw [e] at h; simp [Value.ownBlock] at h; omega)
    have fe4 := (Fr.refl noB w3).alloc (.cells #[.int .i64 i, .string b, .bool false] 105)
    have hown4 := own_fr hown3 fe4 (fun _ _ => id)
    have hrow : RowAt (w3.alloc (.cells #[.int .i64 i, .string b, .bool false] 105)) (some ⟨w3.heap.size, 0, none⟩) [.int .i64 i, .string b, .bool false] := new_row w3 #[.int .i64 i, .string b, .bool false] 105
    clear hg hat hown0 hA3 fe
    go_wp2_with (at_builtin; refine wpList_app Try.appW rfl (.tmp 38) (.tmp 42) rfl _ n (l.flatMap RWr.C) rfl hown4 (some ⟨w3.heap.size, 0, none⟩) 1 1 [.int .i64 i, .string b, .bool false] rfl rfl hrow (by intro u hu; simp at hu; rcases hu with rfl | rfl | rfl <;> rfl) (by simp) (by omega) (by omega) ?_)
    intro B2 d2 w5 hown5 hg5 hat5
    have f5 : Fr (fun k => (Value.slice B n d).ownBlock = some k) w3 w5 := Fr.grown (fe4.mono fun _ _ h => h.elim) hg5 (fun k hk => Or.inl hk)
    have f25 : Fr noB w2 w5 := f3.trans f5 (fun i hi h => by have := hbb _ h; omega)
    have hbb2 : ∀ g, (Value.slice B2 (n + 1) d2).ownBlock = some g → w2.heap.size ≤ g := fun g hg => by
      rcases hat5 with e | e
      · exact hbb g (e ▸ hg)
      · rw [hg] at e; simp at e; have := f3.size; omega
    replace b1 := b1.fr f25 id
    replace bx := bx.fr f25 id
    have F5 := F2.then' f25
    clear x0 x1 x2 x3 x4 xf y0 y1 y2 y3 y4 yf z0 z1 z2 z3 z4 zf hown3 hown4 hrow hg5 hat5 f3 fe4 f5 hbb b0 hA2 x1e
    obtain ⟨y0, y1, y2, y3, y4, yf⟩ := BlkAt.c5 b1
    obtain ⟨z0, z1, z2, z3, z4, zf⟩ := BlkAt.c5 bx
    have g1 := fr_set1 w5 xb 1 (.slice B2 (n + 1) d2)
    have g2 := fr_setD5 (w5.setCell ⟨xb, 1, none⟩ (.slice B2 (n + 1) d2)) (w.heap.size + 1) (.int .i64 N1) (.slice B2 (n + 1) d2) (.bool dn1) (.int .i64 fu1) (.int .u64 mk1)
    have HOW := own_fr (own_fr hown5 g1 (fun g hg h => by have := hbb2 g hg; unfold eqB at h; omega)) g2 (fun g hg h => by have := hbb2 g hg; unfold eqB at h; omega)
    have FF : Fr noB w _ := (F5.trans g1 (fun i hi h => by unfold eqB at h; omega)).trans g2 (fun i hi h => by unfold eqB at h; omega)
    have hcap := own_capB HOW
    clear hown5 g1 g2
    go_wp2_with fail
    have hr := HRES.out
    exact bodyPost_ret (v := .tuple #[.agg #[.int .i64 N1, .slice B2 (n + 1) d2, .bool dn1, .int .i64 fu1, .int .u64 mk1], .int .i64 0]) (by simp [results, hr, go_sem, y0, y1, y2, y3, y4]) rfl ⟨_, by rw [HP2.out]; rfl, by rw [HP2.out]; exact ⟨B2, n + 1, d2, rfl, by simp only [List.flatMap_append]; exact own_row HOW, by simp only [List.length_append, hn]; rfl, hcap.1, hcap.2, own_nilB HOW, fun ad e => own_typ HOW (k := ad.block) (by subst e; rfl)⟩, FF⟩
  · have t4 : ((be : Int) != 0) = true := by rw [bne_iff_ne]; omega
    have fy := fr_setD5 w2 (w.heap.size + 1) (.int .i64 N1) (.slice A1 n1 c1) (.bool dn1) (.int .i64 fu1) (.int .u64 mk1)
    have FF := F2.trans fy (fun i hi h => by unfold eqB at h; omega)
    have HRF := hid (hR3.frD b1 fy)
    have HP2 : Hid (pr = (⟨N1, l1, dn1, fu1, mk1⟩, be)) := by unfold Hid; rw [HPR.out, if_pos he]
    go_wp2_with fail
    have hr := HRES.out
    exact bodyPost_ret (v := .tuple #[.agg #[.int .i64 N1, .slice A1 n1 c1, .bool dn1, .int .i64 fu1, .int .u64 mk1], .int .i64 be]) (by simp [results, hr, go_sem, y0, y1, y2, y3, y4]) rfl ⟨_, by rw [HP2.out], by rw [HP2.out]; exact HRF.out, FF⟩
end Go.Proofs.Ytnkdlmmdaagonaa
/- interrexref21.Flush. -/
namespace Go.Proofs.Ytnkdlmmdaagonaa
open Go.RowKit
def keptW (x : RWr) : RWr := ⟨x.i, x.b, true⟩
def flushR (r : RefD) : RefD × Nat := if r.down then (r, 15) else if (burnR r).2 ≠ 0 then burnR r else ({ (burnR r).1 with l := r.l.map keptW }, 0)
theorem map_snoc {l : List RWr} {j : Nat} {x : RWr} (h : l[j]? = some x) : (l.take (j + 1)).map keptW = (l.take j).map keptW ++ [keptW x] := by
  rw [take_snoc' h, List.map_append]; rfl
theorem flushR_down (w : World) (v : Value) (r : RefD) (h : RefAt w v r) (hd : r.down = true) :
    Calls Try.prog 19 #[v] w (RefPost w (r, 15)) := by
  obtain ⟨A, n, c, rfl, hR⟩ := id h
  clear h
  obtain ⟨N, l, dn, fu, mk⟩ := r
  simp only [] at hd
  subst hd
  have HRES : Hid (Try.f19.results = #[.cell 2 43, .tmp 3]) := by unfold Hid; kernel_rfl
  unfold refC at *
  simp only [] at hR ⊢
  have f0 := ((Fr.refl noB w).alloc (.cells #[.int .i64 N, .slice A n c, .bool true, .int .i64 fu, .int .u64 mk] 43)).alloc (.cells #[.int .i64 0, .slice none 0 0, .bool false, .int .i64 0, .int .u64 0] 43)
  have b0 := (BlkAt.new w #[.int .i64 N, .slice A n c, .bool true, .int .i64 fu, .int .u64 mk] 43).al (.cells #[.int .i64 0, .slice none 0 0, .bool false, .int .i64 0, .int .u64 0] 43)
  have b1 := BlkAt.new (w.alloc (.cells #[.int .i64 N, .slice A n c, .bool true, .int .i64 fu, .int .u64 mk] 43)) #[.int .i64 0, .slice none 0 0, .bool false, .int .i64 0, .int .u64 0] 43
  simp only [al_size] at b1
  go_enter Try.func19, Try.ntmps19
  go_upto_region 1 with fail
  generalize ((w.alloc (.cells #[.int .i64 N, .slice A n c, .bool true, .int .i64 fu, .int .u64 mk] 43)).alloc (.cells #[.int .i64 0, .slice none 0 0, .bool false, .int .i64 0, .int .u64 0] 43)) = wa at *
  obtain ⟨x0, x1, x2, x3, x4, xf⟩ := BlkAt.c5 b0
  obtain ⟨y0, y1, y2, y3, y4, yf⟩ := BlkAt.c5 b1
  have FF := f0.trans (fr_setD5 wa (w.heap.size + 1) (.int .i64 N) (.slice A n c) (.bool true) (.int .i64 fu) (.int .u64 mk)) (fun i hi h => by unfold eqB at h; omega)
  have HRF : Hid (RefAt _ (.agg #[.int .i64 N, .slice A n c, .bool true, .int .i64 fu, .int .u64 mk]) ⟨N, l, true, fu, mk⟩) := RefAt.fr (v := .agg #[.int .i64 N, .slice A n c, .bool true, .int .i64 fu, .int .u64 mk]) ⟨A, n, c, rfl, hR⟩ FF
  clear hR
  go_wp2_with fail
  have hr := HRES.out
  exact bodyPost_ret (v := .tuple #[.agg #[.int .i64 N, .slice A n c, .bool true, .int .i64 fu, .int .u64 mk], .int .i64 15]) (by simp [results, hr, go_sem, y0, y1, y2, y3, y4]) rfl ⟨_, rfl, HRF.out, FF⟩
set_option maxRecDepth 100000 in
set_option maxHeartbeats 6400000 in
theorem flushR_go (w : World) (v : Value) (r : RefD) (h : RefAt w v r) (hd : r.down = false) (hm : r.mask ≤ 18446744073709551615) (hl : r.l.length ≤ 1000000) (hf : r.fuse ≤ 9223372036854775807) :
    Calls Try.prog 19 #[v] w (RefPost w (if (burnR r).2 ≠ 0 then burnR r else ({ (burnR r).1 with l := r.l.map keptW }, 0))) := by
  have hbu := fun W f => burnR_calls W v r (h.fr (w' := W) f) hm hl hf
  obtain ⟨A, n, c, rfl, hR⟩ := id h
  clear h
  obtain ⟨N, l, dn, fu, mk⟩ := r
  simp only [] at hd
  subst hd
  obtain ⟨⟨⟨N1, l1, dn1, fu1, mk1⟩, be⟩, hbr⟩ : ∃ q, burnR ⟨N, l, false, fu, mk⟩ = q := ⟨_, rfl⟩
  rw [hbr] at hbu ⊢
  clear hbr
  generalize hpr : (if ((⟨N1, l1, dn1, fu1, mk1⟩, be) : RefD × Nat).2 ≠ 0 then ((⟨N1, l1, dn1, fu1, mk1⟩, be) : RefD × Nat) else ({ ((⟨N1, l1, dn1, fu1, mk1⟩, be) : RefD × Nat).1 with l := (⟨N, l, false, fu, mk⟩ : RefD).l.map keptW }, 0)) = pr
  have HPR := hid hpr.symm
  clear hpr
  simp only [] at HPR
  have HRES : Hid (Try.f19.results = #[.cell 2 43, .tmp 3]) := by unfold Hid; kernel_rfl
  unfold refC at *
  simp only [] at hR hl hbu ⊢
  obtain ⟨hA, hn, hnc, hc, hnil, hty⟩ := hR
  have HN := hid hn
  clear hn
  have hn' : n ≤ 1000000 := by rw [← HN.out]; exact hl
  have f0 := ((Fr.refl noB w).alloc (.cells #[.int .i64 N, .slice A n c, .bool false, .int .i64 fu, .int .u64 mk] 43)).alloc (.cells #[.int .i64 0, .slice none 0 0, .bool false, .int .i64 0, .int .u64 0] 43)
  have b0 := (BlkAt.new w #[.int .i64 N, .slice A n c, .bool false, .int .i64 fu, .int .u64 mk] 43).al (.cells #[.int .i64 0, .slice none 0 0, .bool false, .int .i64 0, .int .u64 0] 43)
  have b1 := BlkAt.new (w.alloc (.cells #[.int .i64 N, .slice A n c, .bool false, .int .i64 fu, .int .u64 mk] 43)) #[.int .i64 0, .slice none 0 0, .bool false, .int .i64 0, .int .u64 0] 43
  simp only [al_size] at b1
  go_enter Try.func19, Try.ntmps19
  go_upto_region 1 with fail
  generalize ((w.alloc (.cells #[.int .i64 N, .slice A n c, .bool false, .int .i64 fu, .int .u64 mk] 43)).alloc (.cells #[.int .i64 0, .slice none 0 0, .bool false, .int .i64 0, .int .u64 0] 43)) = wa at *
  obtain ⟨x0, x1, x2, x3, x4, xf⟩ := BlkAt.c5 b0
  go_wp2_with fail
  refine (hbu wa f0).mono ?_
  rintro ed w1 ⟨v1, rfl, hR1, f1⟩
  have F1 := f0.then' f1
  replace b0 := b0.fr f1 id
  replace b1 := b1.fr f1 id
  obtain ⟨A1, n1, c1, rfl, hR2⟩ := id hR1
  unfold refC at *
  simp only [] at *
  have fz := (Fr.refl noB w1).alloc (.cells #[.int .i64 N1, .slice A1 n1 c1, .bool dn1, .int .i64 fu1, .int .u64 mk1] 43)
  have F2 := F1.then' fz
  have bx := BlkAt.new w1 #[.int .i64 N1, .slice A1 n1 c1, .bool dn1, .int .i64 fu1, .int .u64 mk1] 43
  have hlt := b1.lt
  replace b0 := b0.fr fz id
  replace b1 := b1.fr fz id
  have hR3 := hR1.fr fz
  obtain ⟨xb, hxb⟩ : ∃ z, w1.heap.size = z := ⟨_, rfl⟩
  have hb1x : w.heap.size + 1 < xb := by omega
  rw [hxb] at bx
  clear x0 x1 x2 x3 x4 xf hbu f0 f1 F1 hR1 hR2
  go_upto_region 4 with fail
  generalize (w1.alloc (.cells #[.int .i64 N1, .slice A1 n1 c1, .bool dn1, .int .i64 fu1, .int .u64 mk1] 43)) = w2 at *
  clear fz hxb
  by_cases he : be = 0
  · subst he
    have HP2 : Hid (pr = (⟨N1, l.map keptW, dn1, fu1, mk1⟩, 0)) := HPR.out
    clear HPR hR3
    rw [show ((0 : Nat) : Int) = 0 from rfl]
    have hx2 := bx.lt
    obtain ⟨x0, x1, x2, x3, x4, xf⟩ := BlkAt.c5 b0
    go_wp2_with fail
    go_loopw [6, 24] (fun o i wr => ∃ j : Nat, j ≤ n ∧ i = .int .i64 j ∧ GrowW (xb + 1) wr o ((l.take j).map keptW) ∧ BlkAt wr (w.heap.size + 1) 43 #[.int .i64 0, .slice none 0 0, .bool false, .int .i64 0, .int .u64 0] ∧ BlkAt wr xb 43 #[.int .i64 N1, .slice A1 n1 c1, .bool dn1, .int .i64 fu1, .int .u64 mk1] ∧ Fr noB w wr ∧ xb + 1 ≤ wr.heap.size) (fun _ i _ => n - (intOf i).toNat)
    case atStart => exact ⟨0, Nat.zero_le _, rfl, ⟨none, 0, rfl, World.ownsRow_nil _ _ _ _, fun g hg => by cases hg⟩, b1, bx, F2, by omega⟩
    case round =>
      clear x0 x1 x2 x3 x4 xf b0 b1 bx F2
      obtain ⟨j, hj, rfl, hg, c1, cx, hf1, hsz⟩ := hrel
      by_cases hjn : j < n
      · obtain ⟨x, hx⟩ : ∃ x, l[j]? = some x := ⟨_, List.getElem?_eq_getElem (by rw [HN.out]; exact hjn)⟩
        obtain ⟨ad, rfl⟩ := hA.some_flat (by simp [RWr.C]) hx
        have hseg := (hA.seg 3 (fun _ => rfl) hx).fr hf1 id
        have HS := hid (map_snoc hx)
        have hle1 : ((l.take j).map keptW).length ≤ 1000000 := by rw [List.length_map, List.length_take]; omega
        generalize (l.take j).map keptW = o at *
        generalize hq2 : (l.take (j + 1)).map keptW = q2 at *
        have HQ2 := hid hq2
        clear hq2
        obtain ⟨xi, xb', xk⟩ := x
        unfold RWr.C at hseg
        unfold keptW at HS
        simp only [] at hseg HS
        obtain ⟨y0, y1, y2⟩ := hseg.c3
        have hcb := BlkAt.new wr #[.int .i64 xi, .string xb', .bool xk] 105
        have fx := (Fr.refl noB wr).alloc (.cells #[.int .i64 xi, .string xb', .bool xk] 105)
        replace hg := hg.fr fx (fun _ _ h => h)
        replace c1 := c1.fr fx id
        replace cx := cx.fr fx id
        have Fc := hf1.then' fx
        have hsz2 := fx.size
        go_upto_region 10 with fail
        obtain ⟨xp, hxp⟩ : ∃ z, wr.heap.size = z := ⟨_, rfl⟩
        rw [hxp] at hcb hsz hsz2 ⊢
        generalize (wr.alloc (.cells #[.int .i64 xi, .string xb', .bool xk] 105)) = wc at *
        clear y0 y1 y2 hf1 fx hxp
        obtain ⟨z0, z1, z2, zf⟩ := BlkAt.c3 hcb
        obtain ⟨B, d, rfl, hown, hbb⟩ := hg
        have fe := (Fr.refl noB wc).alloc (.cells #[.int .i64 xi, .string xb', .bool true] 105)
        have hown2 := own_fr hown fe (fun _ _ => id)
        have hrow : RowAt (wc.alloc (.cells #[.int .i64 xi, .string xb', .bool true] 105)) (some ⟨wc.heap.size, 0, none⟩) [.int .i64 xi, .string xb', .bool true] := new_row wc #[.int .i64 xi, .string xb', .bool true] 105
        go_wp2_with (at_builtin; refine wpList_app Try.appW rfl (.tmp 28) (.tmp 34) rfl _ o.length (o.flatMap RWr.C) rfl hown2 (some ⟨wc.heap.size, 0, none⟩) 1 1 [.int .i64 xi, .string xb', .bool true] rfl rfl hrow (by intro u hu; simp at hu; rcases hu with rfl | rfl | rfl <;> rfl) (by simp) (by omega) (by omega) ?_)
        intro B' d' w5 hown5 hg5 hat5
        have f5 : Fr (fun k => (Value.slice B o.length d).ownBlock = some k) wc w5 := Fr.grown (fe.mono fun _ _ h => h.elim) hg5 (fun k hk => Or.inl hk)
        have hGW : GrowW (xb + 1) w5 (.slice B' (o.length + 1) d') (o ++ [⟨xi, xb', true⟩]) := by
          refine ⟨B', d', by simp, ?_, fun g hg => ?_⟩
          · simpa [List.flatMap_append, RWr.C] using hown5
          · rcases hat5 with e | e
            · exact hbb g (e ▸ hg)
            · rw [hg] at e; simp at e; omega
        have c15 := c1.fr f5 (fun h => by have := hbb _ h; omega)
        have cx5 := cx.fr f5 (fun h => by have := hbb _ h; omega)
        have F5 : Fr noB w w5 := Fc.trans f5 (fun i hi h => by have := hbb _ h; omega)
        have hz5 := f5.size
        clear hown hown2 hrow hown5 hg5 hat5 f5 fe hbb c1 cx
        go_wp2_with fail
        go_roundw
        case rel =>
          exact ⟨j + 1, by omega, by go_num, by rw [HQ2.out, HS.out]; exact hGW, c15, cx5, F5, by omega⟩
        case measure => simp [intOf]; omega
      · have hjn' : j = n := by omega
        subst hjn'
        rw [List.take_of_length_le (by rw [HN.out]; exact Nat.le_refl _)] at hg
        have hlm : (l.map keptW).length = l.length := List.length_map ..
        obtain ⟨o, ho⟩ : ∃ o, l.map keptW = o := ⟨_, rfl⟩
        rw [ho] at hg
        have HO := hid ho
        clear ho hlm
        obtain ⟨B, d, rfl, hown, hbb⟩ := hg
        obtain ⟨x0, x1, x2, x3, x4, xf⟩ := BlkAt.c5 cx
        obtain ⟨y0, y1, y2, y3, y4, yf⟩ := BlkAt.c5 c1
        have g1 := fr_set1 wr xb 1 (.slice B o.length d)
        have g2 := fr_setD5 (wr.setCell ⟨xb, 1, none⟩ (.slice B o.length d)) (w.heap.size + 1) (.int .i64 N1) (.slice B o.length d) (.bool dn1) (.int .i64 fu1) (.int .u64 mk1)
        have HOW := own_fr (own_fr hown g1 (fun g hg h => by have := hbb g hg; unfold eqB at h; omega)) g2 (fun g hg h => by have := hbb g hg; unfold eqB at h; omega)
        have FF : Fr noB w _ := (hf1.trans g1 (fun i hi h => by unfold eqB at h; omega)).trans g2 (fun i hi h => by unfold eqB at h; omega)
        have hcap := own_capB HOW
        go_wp2_with fail
        have hr := HRES.out
        exact bodyPost_ret (v := .tuple #[.agg #[.int .i64 N1, .slice B o.length d, .bool dn1, .int .i64 fu1, .int .u64 mk1], .int .i64 0]) (by simp [results, hr, go_sem, y0, y1, y2, y3, y4]) rfl ⟨_, by rw [HP2.out]; rfl, by rw [HP2.out]; exact ⟨B, o.length, d, rfl, by simp only []; rw [HO.out]; exact own_row HOW, by simp only []; rw [HO.out], hcap.1, hcap.2, own_nilB HOW, fun ad e => own_typ HOW (k := ad.block) (by subst e; rfl)⟩, FF⟩
  · have t4 : ((be : Int) != 0) = true := by rw [bne_iff_ne]; omega
    obtain ⟨y0, y1, y2, y3, y4, yf⟩ := BlkAt.c5 b1
    obtain ⟨z0, z1, z2, z3, z4, zf⟩ := BlkAt.c5 bx
    have fy := fr_setD5 w2 (w.heap.size + 1) (.int .i64 N1) (.slice A1 n1 c1) (.bool dn1) (.int .i64 fu1) (.int .u64 mk1)
    have FF := F2.trans fy (fun i hi h => by unfold eqB at h; omega)
    have HRF := hid (hR3.frD b1 fy)
    have HP2 : Hid (pr = (⟨N1, l1, dn1, fu1, mk1⟩, be)) := by unfold Hid; rw [HPR.out, if_pos he]
    go_wp2_with fail
    have hr := HRES.out
    exact bodyPost_ret (v := .tuple #[.agg #[.int .i64 N1, .slice A1 n1 c1, .bool dn1, .int .i64 fu1, .int .u64 mk1], .int .i64 be]) (by simp [results, hr, go_sem, y0, y1, y2, y3, y4]) rfl ⟨_, by rw [HP2.out], by rw [HP2.out]; exact HRF.out, FF⟩
end Go.Proofs.Ytnkdlmmdaagonaa
/- interrexref21.Block, Get. -/
namespace Go.Proofs.Ytnkdlmmdaagonaa
open Go.RowKit
/-- A block of the reference's device. -/
def blkF (i : Nat) (o : List UInt8) (x : RWr) : List UInt8 := if x.i = i then pad x.b.data.toList else o
def blockR (r : RefD) (i : Nat) : List UInt8 := r.l.foldl (blkF i) (List.replicate 128 0)
theorem blk_snoc (i : Nat) {l : List RWr} {j : Nat} {x : RWr} (h : l[j]? = some x) : (l.take (j + 1)).foldl (blkF i) (List.replicate 128 0) = blkF i ((l.take j).foldl (blkF i) (List.replicate 128 0)) x := by
  rw [take_snoc' h, List.foldl_append]; rfl
theorem Try.mkN (W : World) (n : Nat) (hn : n ≤ 1000) : (Instr.makeSlice 22 (.int .i64 n) (.int .i64 n)).run Try.prog W = .ok (.slice (some ⟨W.heap.size, 0, none⟩) n n) (W.alloc (.cells (bcells (List.replicate n 0)).toArray 5)) := by
  obtain ⟨i5, hi5, hz5, hs5, hb5⟩ := info_parts (show (Try.prog.info? 5).map (fun i => (i.zero, i.size, i.bytes)) = some (some (.int .u8 0), 1, 1) by kernel_rfl)
  have := run_make (P := Try.prog) W 22 5 i5 _ Try.underlying22 hi5 hz5 .i64 .i64 n n (by omega) (by omega) (by rw [hb5]; omega) (by omega)
  rw [hs5, Nat.mul_one] at this
  simp only [Int.toNat_natCast] at this
  have e : madeCells #[Value.int .u8 0] n = (bcells (List.replicate n 0)).toArray := by
    apply Array.ext'
    rw [toList_madeCells_one]
    simp [bcells]
  rw [← e]
  exact this
def RowZ (n : Nat) : Stb (Fr noB) := ⟨fun v W => ∃ q, v = .slice (some ⟨q, 0, none⟩) n n ∧ RowAt W (some ⟨q, 0, none⟩) (bcells (List.replicate n 0)), fun _ _ _ ⟨q, h1, h2⟩ f => ⟨q, h1, h2.fr0 f⟩⟩
theorem zer_bcells : bcells (List.replicate 128 0) = zer128 := by unfold bcells zer128; rw [List.map_replicate]; rfl
set_option maxRecDepth 100000 in
set_option maxHeartbeats 6400000 in
theorem blockR_calls (w : World) (v : Value) (r : RefD) (i : Nat) (h : RefAt w v r) (hb : ∀ x ∈ r.l, x.b.size ≤ 128) (hl : r.l.length ≤ 1000000) :
    Calls Try.prog 74 #[v, .int .i64 i] w (fun e w' => e = .returned (.string (mkS (blockR r i))) ∧ Fr noB w w') := by
  obtain ⟨A, n, c, rfl, hA, hn, hnc, hc, hnil, hty⟩ := h
  obtain ⟨N, l, dn, fu, mk⟩ := r
  unfold refC blockR
  simp only [] at hA hn hl hb ⊢
  have HN := hid hn
  have hn' : n ≤ 1000000 := by rw [← hn]; exact hl
  clear hn hty hnil
  have f0 := (Fr.refl noB w).alloc (.cells #[.int .i64 N, .slice A n c, .bool dn, .int .i64 fu, .int .u64 mk] 43)
  have b0 := BlkAt.new w #[.int .i64 N, .slice A n c, .bool dn, .int .i64 fu, .int .u64 mk] 43
  have hA0 := hA.fr0 f0
  go_enter Try.func74, Try.ntmps74
  go_upto_region 1 with fail
  generalize (w.alloc (.cells #[.int .i64 N, .slice A n c, .bool dn, .int .i64 fu, .int .u64 mk] 43)) = wa at *
  have mk1 := Try.mk128 wa
  have hz : RowAt (wa.alloc (.cells zer128.toArray 5)) (some ⟨wa.heap.size, 0, none⟩) (bcells (List.replicate 128 0)) := by rw [zer_bcells]; exact new_row wa zer128.toArray _
  have hst := Try.toStr hz List.length_replicate 128
  have f1 := (Fr.refl noB wa).alloc (.cells zer128.toArray 5)
  have F1 := f0.then' f1
  replace b0 := b0.fr f1 id
  go_upto_region 2 with fail
  clear mk1 hz hst f0 f1 hA0
  generalize (wa.alloc (.cells zer128.toArray 5)) = wb at *
  obtain ⟨x0, x1, x2, x3, x4, xf⟩ := BlkAt.c5 b0
  go_wp2_with fail
  go_loopw [5, 13] (fun o ii wr => ∃ j : Nat, j ≤ n ∧ ii = .int .i64 j ∧ o = .string (mkS ((l.take j).foldl (blkF i) (List.replicate 128 0))) ∧ Fr noB w wr) (fun _ ii _ => n - (intOf ii).toNat)
  case atStart => exact ⟨0, Nat.zero_le _, rfl, rfl, F1⟩
  case round =>
    clear x0 x1 x2 x3 x4 xf b0 F1
    obtain ⟨j, hj, rfl, rfl, hf⟩ := hrel
    by_cases hjn : j < n
    · obtain ⟨x, hx⟩ : ∃ x, l[j]? = some x := ⟨_, List.getElem?_eq_getElem (by rw [HN.out]; exact hjn)⟩
      obtain ⟨ad, rfl⟩ := hA.some_flat (by simp [RWr.C]) hx
      have hseg := (hA.seg 3 (fun _ => rfl) hx).fr hf id
      have HS := hid (blk_snoc i hx)
      have hxb := hb x (List.mem_of_getElem? hx)
      generalize (l.take j).foldl (blkF i) (List.replicate 128 0) = o at *
      generalize hq2 : (l.take (j + 1)).foldl (blkF i) (List.replicate 128 0) = q2 at *
      have HQ2 := hid hq2
      clear hq2
      obtain ⟨xi, xb, xk⟩ := x
      obtain ⟨xl, rfl⟩ : ∃ l, xb = mkS l := ⟨_, (mkS_of xb).symm⟩
      unfold RWr.C at hseg
      unfold blkF pad at HS
      simp only [mkS_data] at hseg HS hxb
      rw [mkS_size] at hxb
      obtain ⟨y0, y1, y2⟩ := hseg.c3
      have hcb := BlkAt.new wr #[.int .i64 xi, .string (mkS xl), .bool xk] 105
      have fx := (Fr.refl noB wr).alloc (.cells #[.int .i64 xi, .string (mkS xl), .bool xk] 105)
      have Fc := hf.then' fx
      go_upto_region 5 with fail
      obtain ⟨xp, hxp⟩ : ∃ z, wr.heap.size = z := ⟨_, rfl⟩
      rw [hxp] at hcb ⊢
      generalize (wr.alloc (.cells #[.int .i64 xi, .string (mkS xl), .bool xk] 105)) = wc at *
      clear y0 y1 y2 hf fx hxp hx
      by_cases hxi : xi = i
      · subst hxi
        have HS2 : Hid (q2 = xl ++ List.replicate (128 - xl.length) 0) := by unfold Hid; rw [HS.out, if_pos rfl]
        have t1 : ((xi : Int) == xi) = true := by simp
        obtain ⟨z0, z1, z2, zf⟩ := BlkAt.c3 hcb
        obtain ⟨s, hs⟩ : ∃ s, xl.length = s := ⟨_, rfl⟩
        rw [hs] at hxb
        obtain ⟨z, hz⟩ : ∃ z, 128 - s = z := ⟨_, rfl⟩
        rw [hs, hz] at HS2
        have hsz : (mkS xl).size = s := by rw [mkS_size, hs]
        have hsub : (128 : Int) - s = (z : Nat) := by omega
        have hz128 : z ≤ 128 := by omega
        have hzl : (List.replicate z (0 : UInt8)).length = z := List.length_replicate
        have g1 : (mkS xl).size + (mkS (List.replicate z 0)).size ≤ 9223372036854775807 := by rw [mkS_size, mkS_size, hs, hzl]; omega
        have m1 := mkS_append xl (List.replicate z 0)
        rw [← HS2.out] at m1
        have HSZ := hid hsz
        clear HS HS2 hz hs
        have hnr := fun W : World => new_row W (bcells (List.replicate z 0)).toArray 5
        obtain ⟨zl, hzq⟩ : ∃ q, List.replicate z (0 : UInt8) = q := ⟨_, rfl⟩
        have hmk := fun W => Try.mkN W z (by omega)
        rw [hzq] at g1 m1 hzl
        have HZQ := hid hzq
        clear hzq
        go_wp2_with fail
        apply wp_region_calm (R := Fr noB) (C := fun _ W => Fr noB wc W) [false, false, false, false, false, false, false, false, false, false]
          [eqv _, eqv (.string (mkS xl)), eqv _, eqv (.string (mkS xl)), eqv (.int .i64 s), eqv (.int .i64 z), RowZ z, eqv (.string (mkS zl)), eqv (.string (mkS q2)), eqv (.string (mkS q2))]
          (by kernel_rfl) (by kernel_rfl) (fun _ _ _ h1 h2 => h1.then' h2) ((Fr.refl _ _).drew) ((Fr.refl _ _).drew) (by kernel_rfl)
        · refine ⟨?_, ?_, ?_, ?_, ?_, ?_, ?_, ?_, ?_, ?_, trivial⟩
          · rw [if_neg (by decide)]; intro kq
            intro a W K hC hd hK
            have d7 : a.tmps[7]?.getD undef = .pointer (some ⟨xp, 0, none⟩) := hd 7 (by decide)
            refine wpOp_plain rfl rfl ?_
            obtain ⟨z0, z1, z2, zf⟩ := BlkAt.c3 (hcb.fr hC id)
            go_wp2_with fail
            exact hK _ _ (Fr.refl _ _) hC rfl
          · rw [if_neg (by decide)]; intro kq
            intro a W K hC hd hK
            have d21 : _ = _ := hd 21 (by decide)
            refine wpOp_plain rfl rfl ?_
            obtain ⟨z0, z1, z2, zf⟩ := BlkAt.c3 (hcb.fr hC id)
            go_wp2_with fail
            exact hK _ _ (Fr.refl _ _) hC rfl
          · rw [if_neg (by decide)]; intro kq
            intro a W K hC hd hK
            have d7 : a.tmps[7]?.getD undef = .pointer (some ⟨xp, 0, none⟩) := hd 7 (by decide)
            refine wpOp_plain rfl rfl ?_
            obtain ⟨z0, z1, z2, zf⟩ := BlkAt.c3 (hcb.fr hC id)
            go_wp2_with fail
            exact hK _ _ (Fr.refl _ _) hC rfl
          · rw [if_neg (by decide)]; intro kq
            intro a W K hC hd hK
            have d23 : _ = _ := hd 23 (by decide)
            refine wpOp_plain rfl rfl ?_
            obtain ⟨z0, z1, z2, zf⟩ := BlkAt.c3 (hcb.fr hC id)
            go_wp2_with fail
            exact hK _ _ (Fr.refl _ _) hC rfl
          · rw [if_neg (by decide)]; intro kq
            intro a W K hC hd hK
            have d24 : a.tmps[24]?.getD undef = .string (mkS xl) := hd 24 (by decide)
            refine wpOp_plain rfl rfl ?_
            obtain ⟨z0, z1, z2, zf⟩ := BlkAt.c3 (hcb.fr hC id)
            go_wp2_with fail
            exact hK _ _ (Fr.refl _ _) hC rfl
          · rw [if_neg (by decide)]; intro kq
            intro a W K hC hd hK
            have d25 : a.tmps[25]?.getD undef = .int .i64 s := hd 25 (by decide)
            refine wpOp_plain rfl rfl ?_
            go_wp2_with fail
            exact hK _ _ (Fr.refl _ _) hC rfl
          · rw [if_neg (by decide)]; intro kq
            intro a W K hC hd hK
            have d26 : a.tmps[26]?.getD undef = .int .i64 z := hd 26 (by decide)
            refine wpOp_plain rfl rfl ?_
            have mk2 := hmk W
            have fa := (Fr.refl noB W).alloc (.cells (bcells (List.replicate z 0)).toArray 5)
            go_wp2_with fail
            exact hK _ _ fa (hC.then' fa) ⟨W.heap.size, rfl, by simpa using hnr W⟩
          · rw [if_neg (by decide)]; intro kq
            intro a W K hC hd hK
            have d27 : (RowZ z).V (a.tmps[27]?.getD undef) W := hd 27 (by decide)
            refine wpOp_plain rfl rfl ?_
            obtain ⟨q9, d27, hr9⟩ := d27
            have hst := Try.toStr hr9 List.length_replicate z
            rw [HZQ.out] at hst
            go_wp2_with fail
            exact hK _ _ (Fr.refl _ _) hC rfl
          · rw [if_neg (by decide)]; intro kq
            intro a W K hC hd hK
            have d22 : a.tmps[22]?.getD undef = .string (mkS xl) := hd 22 (by decide)
            have d28 : a.tmps[28]?.getD undef = .string (mkS zl) := hd 28 (by decide)
            refine wpOp_plain rfl rfl ?_
            go_wp2_with fail
            exact hK _ _ (Fr.refl _ _) hC rfl
          · rw [if_neg (by decide)]; intro kq
            exact calm_mv 29 rfl rfl (Or.inr rfl) (Fr.refl _) (by decide) fun v w hd => hd
        · intro vs w9 fw9 cw9 hV
          have v5 : vs 9 = .string (mkS q2) := hV 9 _ _ rfl rfl (by decide)
          clear hV
          simp only [putL, Act.put, Nat.reduceAdd, List.setIfInBounds_toArray, List.set_cons_zero, List.set_cons_succ, v5]
          have F9 := Fc.then' cw9
          go_wp2_with fail
          go_roundw
          case rel => exact ⟨j + 1, by omega, by go_num, by rw [HQ2.out], F9⟩
          case measure => simp [intOf]; omega
      · have HS2 : Hid (q2 = o) := by unfold Hid; rw [HS.out, if_neg hxi]
        have t1 : ((xi : Int) == i) = false := by rw [beq_eq_false_iff_ne]; omega
        obtain ⟨z0, z1, z2, zf⟩ := BlkAt.c3 hcb
        clear HS
        go_wp2_with fail
        go_roundw
        case rel => exact ⟨j + 1, by omega, by go_num, by rw [HQ2.out, HS2.out], Fc⟩
        case measure => simp [intOf]; omega
    · have hjn' : j = n := by omega
      subst hjn'
      rw [List.take_of_length_le (by rw [HN.out]; exact Nat.le_refl _)]
      go_wp2_with fail
      go_ret
      exact ⟨rfl, hf⟩
end Go.Proofs.Ytnkdlmmdaagonaa
