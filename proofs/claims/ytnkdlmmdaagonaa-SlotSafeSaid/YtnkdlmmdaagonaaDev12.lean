/- block.Device: Read, the walk. -/
import Derived.Test.YtnkdlmmdaagonaaDev11
import Derived.Test.YtnkdlmmdaagonaaCalm
import Derived.ControlIn
import Derived.RangeFuncNested
import Derived.RangeFuncBound
import Derived.RangeFuncCalls
import Derived.RangeFuncLeaves
import Derived.Shelf.Abstract
import Derived.Shelf.RegionOpen
import Derived.WalkKit
import Derived.OwnWalkIn
import Derived.TacticsInMore
import Derived.LoopNIn
import Derived.LoopIn
namespace Go.Proofs.Ytnkdlmmdaagonaa
open Go.RowKit Go.Shelf
attribute [local go_sem] Oper.semAt_some
theorem blk_own {β : Type} (B p : Nat) (T : TypeId) (C : Array Value) : OwnFrom B (fun (_ : β) W => BlkAt W p T C) := fun _ W W' row hs hg hr => by
  have hs : W.heap[p]? = some (.cells C T (0, 0)) := hs
  show W'.heap[p]? = some (.cells C T (0, 0))
  rw [hg.block p (BlkAt.lt hs) (fun e => by
    obtain ⟨_, o, ho, hc⟩ := hr p e.symm
    rw [hs] at ho; cases ho; cases hc)]
  exact hs
theorem blk_below {n0 : Nat} {W W' : World} {p : Nat} {T : TypeId} {C : Array Value} (h : BlkAt W p T C) (b : Below n0 W W') (hp : p < n0) : BlkAt W' p T C := by
  unfold BlkAt at *
  rw [b.block p hp]; exact h
theorem blk_row {w : World} {p : Nat} {T : TypeId} {l : List Value} (h : BlkAt w p T l.toArray) : RowAt w (some ⟨p, 0, none⟩) l := fun j u hu => by
  refine ⟨_, rfl, ?_⟩
  have : (⟨p, 0, none⟩ : Addr).add j = ⟨p, j, none⟩ := by simp [Addr.add, eq_comm]
  rw [this]
  exact h.cell (by simpa using hu)
theorem keeps_fr {B : Nat} {w w' : World} (f : Fr noB w w') : KeepsFrom B w w' := ⟨f.size, fun k o _ hk _ => (f.block k (Array.getElem?_eq_some_iff.1 hk).1 id).trans hk⟩
/-- A new block that reads as these bytes. -/
def DvRdV (B n1 n2 : Nat) (hn : n1 < B ∧ n2 < B) (bs : List UInt8) : Stb (Fr fun k => k = n1 ∨ k = n2) :=
  ⟨fun v W => ∃ g c cur, v = .slice (some ⟨g, 0, none⟩) 128 c ∧ BlkAt W g 5 cur ∧ cur.toList.take 128 = bcells bs ∧ B ≤ g ∧ 128 ≤ c ∧ c ≤ 9223372036854775807,
   fun _ _ _ ⟨g, c, cur, h1, h2, h3, h4, h5⟩ f => ⟨g, c, cur, h1, h2.fr f (by omega), h3, h4, h5⟩⟩
def missE {W0 : World} (j : Nat) (pre : List (Nat × WrE W0)) : Prop := pre.all (fun y => !(fiE y.2 == j)) = true
/-- The results' cells on a hit. -/
def ReadX (w : World) (bs : List UInt8) (W : World) : Prop := ∃ g c cur, BlkAt W (w.heap.size + 1) 22 #[.slice (some ⟨g, 0, none⟩) 128 c] ∧ BlkAt W g 5 cur ∧ cur.toList.take 128 = bcells bs ∧ w.heap.size + 4 ≤ g ∧ 128 ≤ c ∧ c ≤ 9223372036854775807
theorem read_row {W : World} {g : Nat} {T : TypeId} {cur : Array Value} {l : List Value} {n : Nat} (h : BlkAt W g T cur) (hl : cur.toList.take n = l) : RowAt W (some ⟨g, 0, none⟩) l := fun j u hu => by
  subst hl
  have h1 := blk_row (l := cur.toList) h
  rw [List.getElem?_take] at hu
  split at hu
  · exact h1 j u hu
  · cases hu
def ReadQ (w : World) (bs : List UInt8) : Nat → World → Prop
  | 0, W => BlkAt W (w.heap.size + 1) 22 #[.slice none 0 0] ∧ BlkAt W (w.heap.size + 1 + 1) 31 #[.int .i64 0]
  | _, W => ReadX w bs W ∧ BlkAt W (w.heap.size + 1 + 1) 31 #[.int .i64 0]
theorem ReadQ.fr0 {w : World} {bs : List UInt8} {q : Nat} {W W' : World} (h : ReadQ w bs q W) (f : Fr noB W W') : ReadQ w bs q W' := by
  cases q with
  | zero => exact ⟨h.1.fr f id, h.2.fr f id⟩
  | succ q =>
    obtain ⟨⟨g, c, cur, h1, h2, h3⟩, h4⟩ := h
    exact ⟨⟨g, c, cur, h1.fr f id, h2.fr f id, h3⟩, h4.fr f id⟩
set_option maxRecDepth 100000 in
set_option maxHeartbeats 4000000 in
theorem read_ok (w : World) (p : Nat) (d : DevV) (j : Nat) (h : DevAt w p d) (h0 : thereE d (j : Int) = 0) (hwl : d.wait.length ≤ 1000000) :
    Calls Try.prog 16 #[.pointer (some ⟨p, 0, none⟩), .int .i64 j] w (fun e w' => ∃ A c, e = .returned (.tuple #[.slice A 128 c, .int .i64 0]) ∧ RowAt w' A (bcells (blockD d j)) ∧ (blockD d j).length = 128 ∧ (∀ a, A = some a → w.heap.size ≤ a.block) ∧ 128 ≤ c ∧ c ≤ 9223372036854775807 ∧ Fr noB w w') := by
  have hr : Hid (Try.f16.results = #[.cell 4 22, .cell 5 31]) := by unfold Hid; kernel_rfl
  have ht := fun W f => there_calls W p d j (h.fr0 f)
  rw [h0] at ht
  have hj : j < d.kept.length := by have := (thereE_ok h0).2; simpa using this
  obtain ⟨KA, kn, kc, WA, wn, wc, ks, ws, hR⟩ := h
  refine (callsIn_wide (n := 6)).1 ?_
  refine callsIn_of_wp_marks Try.func16 rfl trivial ?_ rfl
  simp only [Try.ntmps16, List.size_toArray, List.length_cons, List.length_nil, Nat.reduceAdd, Nat.reduceSub, Array.replicate_succ, Array.replicate_zero, List.push_toArray, List.append_toArray, List.nil_append, List.cons_append]
  have f0 : Fr noB w (((w.alloc (.cells #[.int .i64 (j : Nat)] 3)).alloc (.cells #[.slice none 0 0] 22)).alloc (.cells #[.int .i64 0] 31)) := (((Fr.refl noB w).alloc _).alloc _).alloc _
  have b3 := ((BlkAt.new w #[.int .i64 (j : Nat)] 3).al (.cells #[.slice none 0 0] 22)).al (.cells #[.int .i64 0] 31)
  have b4 := (BlkAt.new (w.alloc (.cells #[.int .i64 (j : Nat)] 3)) #[.slice none 0 0] 22).al (.cells #[.int .i64 0] 31)
  have b5 := BlkAt.new ((w.alloc (.cells #[.int .i64 (j : Nat)] 3)).alloc (.cells #[.slice none 0 0] 22)) #[.int .i64 0] 31
  have hsz1 : (((w.alloc (.cells #[.int .i64 (j : Nat)] 3)).alloc (.cells #[.slice none 0 0] 22)).alloc (.cells #[.int .i64 0] 31)).heap.size = w.heap.size + 3 := by simp only [al_size]
  simp only [al_size] at b4 b5
  obtain ⟨x0, xf⟩ := BlkAt.c1 b3
  refine wpIn_wide.2 ?_
  go_wp2_with fail
  refine (ht _ f0).mono ?_
  rintro e w' ⟨rfl, rfl⟩
  have hR1 := hR.fr f0 (fun _ g => g.elim) (fun _ _ g => g.elim)
  generalize (((w.alloc (.cells #[.int .i64 (j : Nat)] 3)).alloc (.cells #[.slice none 0 0] 22)).alloc (.cells #[.int .i64 0] 31)) = W1 at *
  clear x0 xf ht
  obtain ⟨x0, x1, x2, x3, x4, xf⟩ := BlkAt.c5 hR1.blk
  go_wp2_with fail
  refine (backwardW_calls _ WA wn wc).mono ?_
  rintro e w' ⟨rfl, rfl⟩
  clear x0 x1 x2 x3 x4 xf
  have f1 := (Fr.refl noB W1).alloc (.cells #[.slice WA wn wc] 85)
  have hR2 := hR1.fr f1 (fun _ g => g.elim) (fun _ _ g => g.elim)
  have c3 := b3.fr f1 id
  have c4 := b4.fr f1 id
  have c5 := b5.fr f1 id
  have c6 := BlkAt.new W1 #[.slice WA wn wc] 85
  have hsz2 : (W1.alloc (.cells #[.slice WA wn wc] 85)).heap.size = w.heap.size + 4 := by rw [al_size, hsz1]
  rw [hsz1] at c6
  have f2 := f0.then' f1
  go_wp2_with fail
  obtain ⟨W0, hW0⟩ : ∃ W0, (W1.alloc (.cells #[.slice WA wn wc] 85)) = W0 := ⟨_, rfl⟩
  rw [hW0] at f1 f2 hR2 c3 c4 c5 c6 hsz2 ⊢
  clear hW0 f1 hR1 b3 b4 b5 hsz1 f0
  have hwsl : ws.length = d.wait.length := by
    have := hR2.hw.1
    rw [waitC_len] at this
    rw [hR2.wl]; omega
  obtain ⟨es, he1, he2⟩ := elemsE (W0 := W0) d.wait ws hwsl hR2.wb
  have hrow0 : RowAt W0 WA (es.flatMap (wC fiE fvE)) := by rw [← he1]; exact own_row hR2.hw
  have HN : Hid (es.length = wn) := by
    have := congrArg List.length he2
    rw [List.length_map] at this
    exact this.trans hR2.wl
  obtain ⟨bs0, hbs0⟩ : ∃ bs, d.kept[j]? = some bs := ⟨_, List.getElem?_eq_getElem hj⟩
  obtain ⟨v0, hv0, a0, rfl, ha0, hl0⟩ := hR2.kb j bs0 hbs0
  obtain ⟨z, hz⟩ : ∃ z : WrE W0, z = ⟨(j, a0, bs0), ha0, hl0⟩ := ⟨_, rfl⟩
  have hlow : ∀ ad, WA = some ad → ad.block < W0.heap.size := fun ad e => (hR2.hw.lt ad.block (by rw [e]; rfl)).2
  have hwn : wn ≤ 1000000 := by rw [← hR.wl]; exact hwl
  refine (wpIn_wide (n := 6)).1 ?_
  refine wpIn_rangeFunc_ownH rfl (by decide) (gf := 73) (lb := #[.pointer (some ⟨w.heap.size + 3, 0, none⟩)]) rfl trivial (enters_of Try.func73 (by kernel_rfl) rfl)
    (backW_stops fiE fvE z Fence.wide (6 - 1) trivial rfl (by decide) (w.heap.size + 3) W0.heap.size wn wc WA es HN hwn W0 (by omega) (Nat.le_refl _) hlow (c6.cell rfl) hrow0) belowK_t (belowK_b (by omega)) (Below.refl _ _) (fun _ => rfl)
    (fun pre W => (((BlkAt W w.heap.size 3 #[.int .i64 (j : Nat)] ∧ BlkAt W (w.heap.size + 1) 22 #[.slice none 0 0]) ∧ BlkAt W (w.heap.size + 1 + 1) 31 #[.int .i64 0]) ∧ missE j pre) ∧ Below W0.heap.size W0 W)
    (fun co pre W => ((ReadX w (lastE pre) W ∧ BlkAt W (w.heap.size + 1 + 1) 31 #[.int .i64 0]) ∧ (co = .ret ∧ hitE j pre)) ∧ Below w.heap.size w W)
    (OwnFrom.and (OwnFrom.and (OwnFrom.and (OwnFrom.and (blk_own _ _ _ _) (blk_own _ _ _ _)) (blk_own _ _ _ _)) (fun _ _ _ _ hs _ _ => hs)) (ownFrom_below (Nat.le_refl _) (by omega)))
    (fun co => OwnFrom.and (OwnFrom.and (OwnFrom.and (fun pre W W' row hs hg hr => by
        obtain ⟨g, c, cur, h1, h2, h3⟩ := hs
        exact ⟨g, c, cur, blk_own W0.heap.size _ _ _ () W W' row h1 hg hr, blk_own W0.heap.size _ _ _ () W W' row h2 hg hr, h3⟩) (blk_own _ _ _ _)) (fun _ _ _ _ hs _ _ => hs)) (ownFrom_below (Nat.le_refl _) (by omega)))
    ⟨⟨⟨⟨c3, c4⟩, c5⟩, rfl⟩, Below.refl _ _⟩
    (fun x a' W => ∃ Bx, (BlkAt W Bx 90 #[.int .i64 (fiE x.2 : Nat), fvE x.2] ∧ w.heap.size + 4 ≤ Bx) ∧ a' = { tmps := #[.pointer (some ⟨p, 0, none⟩), .int .i64 (j : Nat), undef, .pointer (some ⟨w.heap.size, 0, none⟩), .pointer (some ⟨w.heap.size + 1, 0, none⟩), .pointer (some ⟨w.heap.size + 1 + 1, 0, none⟩), .int .i64 0, undef, .pointer (some ⟨Bx, 0, none⟩), .pointer (some ⟨p, 0, none⟩), .int .i64 (j : Nat), .int .i64 0, .int .i64 0, .bool false, undef, .pointer (some ⟨p, 0, none⟩), .pointer (some ⟨p, 0, none⟩), .pointer (some ⟨p, 1, none⟩), .slice WA wn wc, .func (.func 73) #[] #[.pointer (some ⟨w.heap.size + 3, 0, none⟩)], .int .i64 (x.1 : Int), .agg #[.int .i64 (fiE x.2 : Nat), fvE x.2], undef, undef, undef, undef, undef, undef, undef, undef, undef, undef, undef, undef, undef, undef, undef], defers := [] })
    (fun x a' _ X Y row hs hg hr => by obtain ⟨Bx, ⟨h1, h2⟩, h3⟩ := hs; exact ⟨Bx, ⟨blk_own W0.heap.size Bx 90 _ () X Y row h1 hg hr, h2⟩, h3⟩)
    ?assign ?body ?done ?stop
  case assign =>
    rintro l pre ⟨i, e⟩ W K ⟨⟨⟨⟨b41, b51⟩, b61⟩, hall⟩, hB1⟩ hK
    have hsW := hB1.size
    have hbn := BlkAt.new W #[.int .i64 (fiE e : Nat), fvE e] 90
    have hfv : fvE e = .slice (some ⟨e.1.2.1, 0, none⟩) 128 128 := rfl
    have he1 : encW fiE fvE (i, e) = #[.int .i64 (i : Int), .agg #[.int .i64 (fiE e : Nat), fvE e]] := rfl
    rw [he1]
    dsimp only at hK
    generalize fvE e = fv at *
    subst hfv
    gi_wp2
    exact hK _ _ ((KeepsOthers.alloc _ _).from _) ((Below.refl _ W).alloc hsW _) ⟨⟨⟨⟨b41.al _, b51.al _⟩, b61.al _⟩, hall⟩, hB1.alloc hsW _⟩ ⟨W.heap.size, ⟨hbn, by omega⟩, rfl⟩
  case body =>
    rintro l pre ⟨i, e⟩ a' W hl ⟨r, hlr⟩ ⟨⟨⟨⟨b41, b51⟩, b61⟩, hall⟩, hB1⟩ ⟨Bx, ⟨hbx0, hge⟩, rfl⟩ hlt
    have hsW := hB1.size
    have heb : BlkAt W0 e.1.2.1 5 (bcells e.1.2.2).toArray := e.2.1
    have hel : e.1.2.2.length = 128 := e.2.2
    have hebW := blk_below heb hB1 heb.lt
    have hbx : BlkAt W Bx 90 #[.int .i64 (fiE e : Nat), .slice (some ⟨e.1.2.1, 0, none⟩) 128 128] := hbx0
    clear hbx0
    have HH : Hid (fiE e = j → hitE j (pre ++ [(i, e)])) := fun h => ⟨pre, (i, e), rfl, hall, by simp [h]⟩
    have HA : Hid (fiE e ≠ j → missE j (pre ++ [(i, e)])) := fun h => by unfold missE at *; rw [List.all_append, hall]; simp [h]
    have HL : Hid (lastE (pre ++ [(i, e)]) = e.1.2.2) := by unfold Hid lastE; simp
    have hcl := (callsIn_wide (n := 6 - 1 - 1 - 1)).2 (clone_calls W (some ⟨e.1.2.1, 0, none⟩) 128 128 e.1.2.2 (blk_row hebW) hel (by simp) (by decide))
    have hcl2 := hcl.inRound l
    clear hcl
    obtain ⟨c1, hc1⟩ : ∃ c, ((fiE e : Int) == (j : Int)) = c := ⟨_, rfl⟩
    have hfe : fiE e = j ↔ c1 = true := by rw [← hc1]; simp; omega
    rw [hfe] at HH
    have HA2 : c1 = false → Hid (missE j (pre ++ [(i, e)])) := fun h => HA.out (by rw [Ne, hfe, h]; simp)
    clear HA hfe hall
    have hB0W : Below w.heap.size w W := (f2.below0).trans (hB1.mono (by omega))
    obtain ⟨x0, x1, xf⟩ := BlkAt.c2 hbx
    obtain ⟨n0, nf⟩ := BlkAt.c1 b41
    have b4l := b41.lt
    have b6l := b61.lt
    generalize fvE e = fv at *
    generalize fiE e = fi at *
    cases c1
    · have HA3 := HA2 rfl
      clear HA2 HH
      gi_wp2
      exact ⟨KeepsFrom.refl _ _, Below.refl _ _, ⟨⟨⟨b41, b51⟩, b61⟩, HA3.out⟩, hB1⟩
    · have HH3 := hid (HH.out rfl)
      clear HA2 HH
      gi_wp2
      refine ⟨trivial, hcl2.mono ?_⟩
      rintro e2 W2 ⟨A, c, rfl, hown, fc, -⟩
      have b52 := b51.fr fc id
      have b62 := b61.fr fc id
      have b53 := b52.set 0 (.slice A 128 c)
      have g1 := fr_set1 W2 (w.heap.size + 1) 0 (.slice A 128 c)
      have b63 := (b62.fr g1 (by unfold eqB; omega)).set 0 (.int .i64 0)
      have g2 := fr_set1 (W2.setCell ⟨w.heap.size + 1, 0, none⟩ (.slice A 128 c)) (w.heap.size + 1 + 1) 0 (.int .i64 0)
      have b54 := b53.fr g2 (by unfold eqB; omega)
      have hB2 : Below w.heap.size w W2 := hB0W.trans (fc.below0.mono (by omega))
      have b6l2 := b62.lt
      obtain ⟨r0, rf⟩ := BlkAt.c1 b52
      obtain ⟨s0, sf⟩ := BlkAt.c1 b62
      rcases hown.2 with ⟨h0, _⟩ | ⟨g, cap, cur, hgs, hgw, hgc, hcap⟩
      · cases h0
      · obtain ⟨hc1, hc2, hc3, hc4⟩ := hcap
        cases hgs
        have hgb : BlkAt W2 g 5 cur := hgc
        have hgl := hgb.lt
        gi_wp2
        exact ⟨((keeps_fr fc).trans ((KeepsOthers.setCell _ _ _).from _)).trans ((KeepsOthers.setCell _ _ _).from _), ⟨⟨⟨g, c, cur, b54, (hgb.fr g1 (by unfold eqB; omega)).fr g2 (by unfold eqB; omega), by rw [HL.out, ← hc4], by omega, hc1, hc2⟩, b63⟩, rfl, HH3.out⟩, (hB2.setCell (p := ⟨w.heap.size + 1, 0, none⟩) (by simp) _).setCell (p := ⟨w.heap.size + 1 + 1, 0, none⟩) (by simp; omega) _⟩
  case done =>
    rename_i K0 hK0
    rintro D ys W8 hD rfl ⟨⟨⟨⟨b41, b51⟩, b61⟩, hall⟩, hB1⟩ hK
    have HV : Hid (blockD d j = bs0) := by
      unfold Hid
      rw [block_miss (z := z) (j := j) he2 (by rw [HN.out]; exact hall), List.getD_eq_getElem?_getD, hbs0]; rfl
    have fw := Fr.of_below hB1 noB
    have hR3 := hR2.fr fw (fun _ g => g.elim) (fun _ _ g => g.elim)
    have ha3 := ha0.fr fw id
    have hpw := hR.blk.lt
    obtain ⟨x0, x1, x2, x3, x4, xf⟩ := BlkAt.c5 hR3.blk
    obtain ⟨n0, nf⟩ := BlkAt.c1 b41
    rcases hR.hk.2 with ⟨h0, h0'⟩ | ⟨gk, cap, cur, hgs, hgw, hgc, hcap⟩
    · have := hR.kl; omega
    cases hgs
    have hgkw : gk < w.heap.size := (Array.getElem?_eq_some_iff.1 hgc).1
    have hjk : j < kn := by have := hR.kl; omega
    have g0 : W8.cell? ⟨gk, j, none⟩ = some (.slice (some ⟨a0, 0, none⟩) 128 128) := by rw [hR3.hk.cellAt j (by omega)]; exact hv0
    have ha1 : a0 ≠ w.heap.size + 1 := fun e => by subst e; unfold BlkAt at ha3 b51; rw [b51] at ha3; simp at ha3
    have ha2 : a0 ≠ w.heap.size + 1 + 1 := fun e => by subst e; unfold BlkAt at ha3 b61; rw [b61] at ha3; simp at ha3
    have hsW := hB1.size
    have hDl := (Array.getElem?_eq_some_iff.1 hK).1
    have hBW : Below w.heap.size w W8 := (f2.below0).trans (hB1.mono (by omega))
    have hcl := fun W9 (f : Fr (fun k => k = w.heap.size + 1 ∨ k = w.heap.size + 1 + 1) W8 W9) => clone_calls W9 (some ⟨a0, 0, none⟩) 128 128 bs0 (blk_row (ha3.fr f (by omega))) hl0 (by simp) (by decide)
    simp only [Exit.inBlock, Exit.then]
    refine hK0 _ _ ?_
    go_wp2_with fail
    apply wp_region_calm (R := Fr (fun k => k = w.heap.size + 1 ∨ k = w.heap.size + 1 + 1)) (C := fun q W9 => Fr (fun k => k = w.heap.size + 1 ∨ k = w.heap.size + 1 + 1) W8 W9 ∧ ReadQ w bs0 q W9) [false, false, false, false, false, false, false, false, true, true]
      [eqv _, eqv _, eqv _, eqv _, eqv _, eqv _, eqv _, DvRdV W8.heap.size (w.heap.size + 1) (w.heap.size + 1 + 1) (by omega) bs0, anyv, anyv]
      (by kernel_rfl) (by kernel_rfl) (fun _ _ _ h1 h2 => h1.then' h2) ((Fr.refl _ _).drew) ⟨(Fr.refl _ W8).drew, b51, b61⟩ (by kernel_rfl)
    · refine ⟨?_, ?_, ?_, ?_, ?_, ?_, ?_, ?_, ?_, ?_, trivial⟩
      · rw [if_neg (by decide)]; intro kq
        exact calm_mv 0 rfl rfl (Or.inl rfl) (Fr.refl _) (by decide) fun v w hd => hd
      · rw [if_neg (by decide)]; intro kq
        intro a W K hC hd hK
        have d29 : _ = _ := hd 29 (by decide)
        refine wpOp_plain rfl rfl ?_
        go_wp2_with fail
        exact hK _ _ (Fr.refl _ _) hC rfl
      · rw [if_neg (by decide)]; intro kq
        intro a W K hC hd hK
        have d30 : _ = _ := hd 30 (by decide)
        refine wpOp_plain rfl rfl ?_
        have z0 := hC.1.cell x0 (by simp; omega)
        have y0 := hC.1.cell n0 (by simp; omega)
        have u0 := hC.1.cell g0 (by simp; omega)
        go_wp2_with fail
        exact hK _ _ (Fr.refl _ _) hC rfl
      · rw [if_neg (by decide)]; intro kq
        intro a W K hC hd hK
        have d31 : _ = _ := hd 31 (by decide)
        refine wpOp_plain rfl rfl ?_
        have z0 := hC.1.cell x0 (by simp; omega)
        have y0 := hC.1.cell n0 (by simp; omega)
        have u0 := hC.1.cell g0 (by simp; omega)
        go_wp2_with fail
        exact hK _ _ (Fr.refl _ _) hC rfl
      · rw [if_neg (by decide)]; intro kq
        intro a W K hC hd hK
        have d3 : a.tmps[3]?.getD undef = .pointer (some ⟨w.heap.size, 0, none⟩) := hd 3 (by decide)
        refine wpOp_plain rfl rfl ?_
        have z0 := hC.1.cell x0 (by simp; omega)
        have y0 := hC.1.cell n0 (by simp; omega)
        have u0 := hC.1.cell g0 (by simp; omega)
        go_wp2_with fail
        exact hK _ _ (Fr.refl _ _) hC rfl
      · rw [if_neg (by decide)]; intro kq
        intro a W K hC hd hK
        have d32 : _ = _ := hd 32 (by decide)
        have d33 : _ = _ := hd 33 (by decide)
        refine wpOp_plain rfl rfl ?_
        have z0 := hC.1.cell x0 (by simp; omega)
        have y0 := hC.1.cell n0 (by simp; omega)
        have u0 := hC.1.cell g0 (by simp; omega)
        go_wp2_with fail
        exact hK _ _ (Fr.refl _ _) hC rfl
      · rw [if_neg (by decide)]; intro kq
        intro a W K hC hd hK
        have d34 : _ = _ := hd 34 (by decide)
        refine wpOp_plain rfl rfl ?_
        have z0 := hC.1.cell x0 (by simp; omega)
        have y0 := hC.1.cell n0 (by simp; omega)
        have u0 := hC.1.cell g0 (by simp; omega)
        go_wp2_with fail
        exact hK _ _ (Fr.refl _ _) hC rfl
      · rw [if_neg (by decide)]; intro kq
        intro a W K hC hd hK
        have d35 : _ = _ := hd 35 (by decide)
        refine wpOp_plain rfl rfl ?_
        have z0 := hC.1.cell x0 (by simp; omega)
        have y0 := hC.1.cell n0 (by simp; omega)
        have u0 := hC.1.cell g0 (by simp; omega)
        go_wp2_with fail
        refine (hcl W hC.1).mono ?_
        rintro e9 w9 ⟨A9, c9, rfl, h9, f9, -⟩
        obtain ⟨g, cap9, cur9, e9, q1, q2, q3, q4, q5, q6⟩ := h9.2.resolve_left (fun h => by cases h.2)
        cases e9
        exact hK _ _ (f9.mono fun _ _ h => h.elim) ⟨hC.1.then' (f9.mono fun _ _ h => h.elim), hC.2.fr0 f9⟩ ⟨g, c9, cur9, rfl, q2, by rw [← q6], by have := hC.1.size; omega, q3, q4⟩
      · rw [if_pos (by decide)]
        intro a W K hC hd hK
        replace hC : (fun q W9 => Fr (fun k => k = w.heap.size + 1 ∨ k = w.heap.size + 1 + 1) W8 W9 ∧ ReadQ w bs0 q W9) 0 W := hC
        have d4 : a.tmps[4]?.getD undef = .pointer (some ⟨w.heap.size + 1, 0, none⟩) := hd 4 (by decide)
        have d36 : (DvRdV W8.heap.size (w.heap.size + 1) (w.heap.size + 1 + 1) (by omega) bs0).V (a.tmps[36]?.getD undef) W := hd 36 (by decide)
        refine wpOp_plain rfl rfl ?_
        have z0 := hC.1.cell x0 (by simp; omega)
        have y0 := hC.1.cell n0 (by simp; omega)
        have u0 := hC.1.cell g0 (by simp; omega)
        obtain ⟨g, c, cur, d36, q1, q2, q3, q4, q5⟩ := d36
        obtain ⟨h8, h9⟩ := hC.2
        obtain ⟨y1, yf⟩ := BlkAt.c1 h8
        have g1 := fr_set1 W (w.heap.size + 1) 0 (.slice (some ⟨g, 0, none⟩) 128 c)
        go_wp2_with fail
        exact hK undef _ (g1.mono fun _ _ h => .inl h) ⟨hC.1.then' (g1.mono fun _ _ h => .inl h), ⟨g, c, cur, h8.set 0 _, q1.fr g1 (by unfold eqB; omega), q2, by omega, q4, q5⟩, h9.fr g1 (by unfold eqB; omega)⟩ trivial
      · rw [if_pos (by decide)]
        intro a W K hC hd hK
        replace hC : (fun q W9 => Fr (fun k => k = w.heap.size + 1 ∨ k = w.heap.size + 1 + 1) W8 W9 ∧ ReadQ w bs0 q W9) 1 W := hC
        have d5 : a.tmps[5]?.getD undef = .pointer (some ⟨w.heap.size + 1 + 1, 0, none⟩) := hd 5 (by decide)
        refine wpOp_plain rfl rfl ?_
        have z0 := hC.1.cell x0 (by simp; omega)
        have y0 := hC.1.cell n0 (by simp; omega)
        have u0 := hC.1.cell g0 (by simp; omega)
        obtain ⟨⟨g, c, cur, q1, q2, q3⟩, h9⟩ := hC.2
        obtain ⟨y1, yf⟩ := BlkAt.c1 h9
        have g1 := fr_set1 W (w.heap.size + 1 + 1) 0 (.int .i64 0)
        go_wp2_with fail
        exact hK undef _ (g1.mono fun _ _ h => .inr h) ⟨hC.1.then' (g1.mono fun _ _ h => .inr h), ⟨g, c, cur, q1.fr g1 (by unfold eqB; omega), q2.fr g1 (by unfold eqB; omega), q3⟩, h9.set 0 _⟩ trivial
    · intro vs w9 fw9 cw9 hV
      clear hV
      simp only [putL, Act.put, Nat.reduceAdd, List.setIfInBounds_toArray, List.set_cons_zero, List.set_cons_succ]
      obtain ⟨-, ⟨g, c, cur2, q1, q2, q3, q4, q5, q6⟩, h9⟩ := cw9
      have hK9 := (fw9.block D hDl (by omega)).trans hK
      go_wp2_with fail
      refine ⟨by simp, .inl ⟨_, _, rfl, run_takeDeferred hK9, ?_⟩⟩
      have hg7 := grownBy_putObj' w9 D (.deferred none)
      have hz6 := blk_own 0 _ _ _ () _ _ _ q1 hg7 (fun r e => by cases e; exact ⟨Nat.zero_le _, _, hK9, rfl⟩)
      have hz7 := blk_own 0 _ _ _ () _ _ _ h9 hg7 (fun r e => by cases e; exact ⟨Nat.zero_le _, _, hK9, rfl⟩)
      have hz8 := blk_own 0 _ _ _ () _ _ _ q2 hg7 (fun r e => by cases e; exact ⟨Nat.zero_le _, _, hK9, rfl⟩)
      have hBF : Fr noB w (w9.putObj D (.deferred none)) := Fr.of_below ((hBW.trans ((fw9.mono (T := fun k => w.heap.size ≤ k) (fun k _ h => by omega)).below (by omega))).trans (belowK_b (w := w) (o' := .deferred none) (Nat.le_refl _) _ D _ (by omega) hK9 rfl rfl)) noB
      generalize (w9.putObj D (.deferred none)) = Wf at *
      have k6 : Wf.cell? ⟨w.heap.size + 1, 0, none⟩ = some (.slice (some ⟨g, 0, none⟩) 128 c) := BlkAt.cell hz6 rfl
      have k7 : Wf.cell? ⟨w.heap.size + 1 + 1, 0, none⟩ = some (.int .i64 0) := BlkAt.cell hz7 rfl
      have hr := hr.out
      exact ⟨.tuple #[.slice (some ⟨g, 0, none⟩) 128 c, .int .i64 0], by simp [results, hr, go_sem, k6, k7], some ⟨g, 0, none⟩, c, rfl, by rw [HV.out]; exact read_row hz8 q3, by rw [HV.out]; exact hl0, fun a e => by cases e; (show w.heap.size ≤ g); omega, q5, q6, hBF⟩
  case stop =>
    rintro D co pre W8 hD ⟨k, hk, rfl⟩ ⟨⟨⟨⟨g, c, cur2, q1, q2, q3, q4, q5, q6⟩, h9⟩, rfl, hhit⟩, hBW⟩ hK9
    have HV := hid (block_hit (z := z) he2 (by rw [HN.out]; exact hk) hhit)
    gi_wp2
    refine ⟨by simp, .inl ⟨_, _, rfl, run_takeDeferred hK9, ?_⟩⟩
    have hg7 := grownBy_putObj' W8 D (.deferred none)
    have hz6 := blk_own 0 _ _ _ () _ _ _ q1 hg7 (fun r e => by cases e; exact ⟨Nat.zero_le _, _, hK9, rfl⟩)
    have hz7 := blk_own 0 _ _ _ () _ _ _ h9 hg7 (fun r e => by cases e; exact ⟨Nat.zero_le _, _, hK9, rfl⟩)
    have hz8 := blk_own 0 _ _ _ () _ _ _ q2 hg7 (fun r e => by cases e; exact ⟨Nat.zero_le _, _, hK9, rfl⟩)
    have hBF : Fr noB w (W8.putObj D (.deferred none)) := Fr.of_below (hBW.trans (belowK_b (w := w) (o' := .deferred none) (Nat.le_refl _) _ D _ (by omega) hK9 rfl rfl)) noB
    have hlen : (blockD d j).length = 128 := by
      obtain ⟨q, x, e1, -, -⟩ := hhit
      rw [HV.out, e1]; unfold lastE; simp; exact x.2.2.2
    generalize (W8.putObj D (.deferred none)) = Wf at *
    have k6 : Wf.cell? ⟨w.heap.size + 1, 0, none⟩ = some (.slice (some ⟨g, 0, none⟩) 128 c) := BlkAt.cell hz6 rfl
    have k7 : Wf.cell? ⟨w.heap.size + 1 + 1, 0, none⟩ = some (.int .i64 0) := BlkAt.cell hz7 rfl
    have hr := hr.out
    exact ⟨.tuple #[.slice (some ⟨g, 0, none⟩) 128 c, .int .i64 0], by simp [results, hr, go_sem, k6, k7], some ⟨g, 0, none⟩, c, rfl, by rw [HV.out]; exact read_row hz8 q3, hlen, fun a e => by cases e; (show w.heap.size ≤ g); omega, q5, q6, hBF⟩
end Go.Proofs.Ytnkdlmmdaagonaa
