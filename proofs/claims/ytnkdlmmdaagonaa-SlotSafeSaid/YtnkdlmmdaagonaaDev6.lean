/- block.Device: Write. -/
import Derived.Test.YtnkdlmmdaagonaaDev5
import Derived.Laws.CopyOwn
import Derived.Laws.MakeOwn
namespace Go.Proofs.Ytnkdlmmdaagonaa
open Go.RowKit
def pad (b : List UInt8) : List UInt8 := b ++ List.replicate (128 - b.length) 0
theorem pad_len {b : List UInt8} (h : b.length ≤ 128) : (pad b).length = 128 := by unfold pad; rw [List.length_append, List.length_replicate]; omega
def writeD (d : DevV) (i : Int) (b : List UInt8) : DevV × Nat :=
  if thereE d i ≠ 0 then (d, thereE d i) else if 128 < b.length then (d, 3) else if (burnD d).2 ≠ 0 then burnD d else ({ (burnD d).1 with wait := (burnD d).1.wait ++ [(i.toNat, pad b)] }, 0)
theorem Try.appWr : AppTy Try.prog 85 90 (.agg #[.int .i64 0, .slice none 0 0]) 2 32 := ⟨Try.underlying85, by kernel_rfl, rfl, by decide⟩
theorem splice_pad (b : List UInt8) (h : b.length ≤ 128) : Go.splice (List.replicate 128 (Value.int .u8 0)) 0 (bcells b) = bcells (pad b) := by
  unfold pad
  generalize 128 = N at *
  unfold Go.splice bcells
  simp only [List.take_zero, List.nil_append, Nat.zero_add, List.drop_replicate, List.map_append, List.map_replicate, List.length_map]
  rfl
theorem thereE_ok {d : DevV} {i : Int} (h : thereE d i = 0) : 0 ≤ i ∧ i.toNat < d.kept.length := by
  unfold thereE at h
  by_cases h1 : d.down = true
  · rw [if_pos h1] at h; cases h
  · rw [if_neg h1] at h
    by_cases h2 : i < 0 ∨ (d.kept.length : Int) ≤ i
    · rw [if_pos h2] at h; cases h
    · omega
theorem burnD_kept {d : DevV} (h : (burnD d).2 = 0) : (burnD d).1.kept = d.kept ∧ (burnD d).1.wait = d.wait := by
  unfold burnD at h ⊢
  split
  · exact ⟨rfl, rfl⟩
  · split
    · exact ⟨rfl, rfl⟩
    · rename_i h1 h2; rw [if_neg h1, if_neg h2] at h; cases h
def zer128 : List Value := List.replicate 128 (.int .u8 0)
theorem zer128_len : zer128.length = 128 := List.length_replicate
theorem made128 : madeCells #[Value.int .u8 0] 128 = zer128.toArray := by kernel_rfl
theorem splice_zer (b : List UInt8) (h : b.length ≤ 128) : Go.splice zer128 0 (bcells b) = bcells (pad b) := splice_pad b h
theorem Try.mk128 (W : World) : (Instr.makeSlice 22 (.int .i64 128) (.int .i64 128)).run Try.prog W = .ok (.slice (some ⟨W.heap.size, 0, none⟩) 128 128) (W.alloc (.cells zer128.toArray 5)) := by
  obtain ⟨i5, hi5, hz5, hs5, hb5⟩ := info_parts (show (Try.prog.info? 5).map (fun i => (i.zero, i.size, i.bytes)) = some (some (.int .u8 0), 1, 1) by kernel_rfl)
  have := run_make (P := Try.prog) W 22 5 i5 _ Try.underlying22 hi5 hz5 .i64 .i64 128 128 (by omega) (by omega) (by rw [hb5]; omega) (by omega)
  rw [hs5] at this
  rw [← made128]
  exact this
theorem row2D {w : World} {B : Nat} {T : TypeId} {x y : Value} (h : BlkAt w B T #[x, y]) : RowAt w (some ⟨B, 0, none⟩) [x, y] := fun j u hu => by
  refine ⟨_, rfl, ?_⟩
  match j, hu with
  | 0, hu => simp at hu; subst hu; exact h.cell rfl
  | 1, hu => simp at hu; subst hu; exact h.cell rfl
  | j + 2, hu => simp at hu
theorem waitC_len : ∀ ws : List (Nat × Value), (waitC ws).length = ws.length * 2
  | [] => rfl
  | x :: l => by
    have := waitC_len l
    unfold waitC at this ⊢
    rw [List.flatMap_cons, List.length_append, this, List.length_cons]
    simp; omega
/-- One more write waits. -/
theorem DevR.more {w4 w5 : World} {p : Nat} {b1 : DevV} {KA : Option Addr} {kn kc : Nat} {WA : Option Addr} {wn wc : Nat} {ks : List Value} {ws : List (Nat × Value)} {A' : Option Addr} {c' i : Nat} {bs : List UInt8} {v : Value} (h : DevR w4 p b1 KA kn kc WA wn wc ks ws)
    (hown : w5.ownsRow 0 90 2 (.slice A' (wn + 1) c') (wn + 1) (waitC ws ++ [.int .i64 i, v])) (hg : w4.grownBy w5 (Value.slice WA wn wc).ownBlock) (hat : (Value.slice A' (wn + 1) c').ownBlock = (Value.slice WA wn wc).ownBlock ∨ (Value.slice A' (wn + 1) c').ownBlock = some w4.heap.size)
    (hs : slotB w4 v bs) (hi : i < b1.kept.length) :
    DevAt (w5.setCell ⟨p, 1, none⟩ (.slice A' (wn + 1) c')) p { b1 with wait := b1.wait ++ [(i, bs)] } ∧ DStep p w4 (w5.setCell ⟨p, 1, none⟩ (.slice A' (wn + 1) c')) ∧ BlkAt w5 p 87 #[.slice KA kn kc, .slice WA wn wc, .bool b1.down, .int .i64 b1.fuse, .int .u64 (b1.mask : Nat)] := by
  have hWB : ∀ g, (Value.slice WA wn wc).ownBlock = some g → devB p w4 g := fun g hg => .inr ⟨_, h.blk, .inr ⟨_, rfl, hg⟩⟩
  have hWp : ∀ g, (Value.slice WA wn wc).ownBlock = some g → g ≠ p := fun g hg e => by
    obtain ⟨C, hC⟩ := own_typ h.hw hg
    have := h.blk; unfold BlkAt at this
    subst e; rw [this] at hC; simp at hC
  have f5 : Fr (fun k => (Value.slice WA wn wc).ownBlock = some k) w4 w5 := Fr.grown (Fr.refl _ _) hg (fun k hk => .inl hk)
  have hb5 := h.blk.fr f5 (fun e => hWp p e rfl)
  have f6 := fr_set1 w5 p 1 (.slice A' (wn + 1) c')
  have hb6 := hb5.set 1 (.slice A' (wn + 1) c')
  have hpl := h.blk.lt
  have hnT : ∀ {a : Nat} {C : Array Value}, BlkAt w4 a 5 C → ¬ (Value.slice WA wn wc).ownBlock = some a := fun hb e => h.not_b hb (hWB _ e)
  have hnP : ∀ {a : Nat} {C : Array Value}, BlkAt w4 a 5 C → ¬ eqB p a := fun hb e => h.not_b hb (.inl e)
  have hslot : ∀ {u : Value} {b : List UInt8}, slotB w4 u b → slotB (w5.setCell ⟨p, 1, none⟩ (.slice A' (wn + 1) c')) u b := fun ⟨a, h1, h2, h3⟩ => ⟨a, h1, (h2.fr f5 (hnT h2)).fr f6 (hnP h2), h3⟩
  have hKp : ∀ g, (Value.slice KA kn kc).ownBlock = some g → ¬ (Value.slice WA wn wc).ownBlock = some g := fun g hg e => by
    obtain ⟨C, hC⟩ := own_typ h.hk hg
    obtain ⟨D, hD⟩ := own_typ h.hw e
    rw [hC] at hD; simp at hD
  have hKP : ∀ g, (Value.slice KA kn kc).ownBlock = some g → ¬ eqB p g := fun g hg e => by
    obtain ⟨C, hC⟩ := own_typ h.hk hg
    have := h.blk; unfold BlkAt at this
    unfold eqB at e; subst e; rw [this] at hC; simp at hC
  have hAP : ∀ g, (Value.slice A' (wn + 1) c').ownBlock = some g → ¬ eqB p g := fun g hg e => by
    unfold eqB at e; subst e
    rcases hat with e1 | e1
    · rw [e1] at hg; exact hWp _ hg rfl
    · rw [e1] at hg; have : w4.heap.size = g := by simpa using hg
      omega
  have hwl : ws.length = wn := by
    have := h.hw.1
    rw [waitC_len] at this; omega
  refine ⟨⟨KA, kn, kc, A', wn + 1, c', ks, ws ++ [(i, v)], hb6, own_fr (own_fr h.hk f5 hKp) f6 hKP, ?_, h.kl, by simp; exact h.wl, fun j b hj => ?_, fun j x hj => ?_, fun x hx => ?_, h.fz, h.mb⟩, ⟨?_, fun k hk => ?_⟩, hb5⟩
  · have e : waitC (ws ++ [(i, v)]) = waitC ws ++ [.int .i64 i, v] := by unfold waitC; simp
    rw [e]; exact own_fr hown f6 hAP
  · obtain ⟨u, h1, h2⟩ := h.kb j b hj
    exact ⟨u, h1, hslot h2⟩
  · by_cases hjl : j < b1.wait.length
    · rw [List.getElem?_append_left hjl] at hj
      obtain ⟨u, h1, h2⟩ := h.wb j x hj
      exact ⟨u, by rw [List.getElem?_append_left (by rw [hwl, ← h.wl]; exact hjl)]; exact h1, hslot h2⟩
    · rw [List.getElem?_append_right (by omega)] at hj
      obtain ⟨hj1, hj2⟩ := List.getElem?_eq_some_iff.mp hj
      simp only [List.length_singleton] at hj1
      have e : j = b1.wait.length := by omega
      subst e
      simp at hj2
      subst hj2
      refine ⟨v, ?_, hslot hs⟩
      rw [h.wl, ← hwl]; simp
  · rw [List.mem_append, List.mem_singleton] at hx
    rcases hx with hx | rfl
    · exact h.wk x hx
    · exact hi
  · exact (f5.mono fun k _ hk => hWB k hk).trans f6 (fun k _ hk => .inl hk)
  · rcases hk with rfl | ⟨D, hD, hv⟩
    · exact .inl (.inl rfl)
    · unfold BlkAt at hb6
      rw [hb6] at hD
      have e : D = #[.slice KA kn kc, .slice A' (wn + 1) c', .bool b1.down, .int .i64 b1.fuse, .int .u64 (b1.mask : Nat)] := by
        simp only [Option.some.injEq, Obj.cells.injEq, true_and, and_true] at hD; exact hD.symm
      subst e
      rcases hv with ⟨u, e1, e2⟩ | ⟨u, e1, e2⟩
      · exact .inl (.inr ⟨_, h.blk, .inl ⟨u, e1, e2⟩⟩)
      · simp at e1; subst e1
        rcases hat with e3 | e3
        · rw [e3] at e2; exact .inl (hWB _ e2)
        · rw [e3] at e2; have : w4.heap.size = k := by simpa using e2
          exact .inr (by omega)
set_option maxRecDepth 100000 in
set_option maxHeartbeats 3200000 in
theorem write_calls (w : World) (p : Nat) (d : DevV) (i : Int) (B : Option Addr) (n c : Nat) (bs : List UInt8) (h : DevAt w p d) (hx : RowAt w B (bcells bs)) (hn : bs.length = n) (hB : B = none → n = 0 ∧ c = 0) (hbB : ∀ a, B = some a → 0 < n → ¬ devB p w a.block) (hwl : d.wait.length ≤ 1000000000) (hnc : n ≤ c) :
    Calls Try.prog 13 #[.pointer (some ⟨p, 0, none⟩), .int .i64 i, .slice B n c] w (DPost w p (writeD d i bs).1 (.int .i64 ((writeD d i bs).2 : Nat))) := by
  have HN := hid hn
  have ht := there_calls w p d i h
  have hbu := burn_calls w p d h
  have hok := fun g => thereE_ok (d := d) (i := i) g
  have hbk := fun g => burnD_kept (d := d) g
  have HW : Hid (writeD d i bs = if thereE d i ≠ 0 then (d, thereE d i) else if 128 < n then (d, 3) else if (burnD d).2 ≠ 0 then burnD d else ({ (burnD d).1 with wait := (burnD d).1.wait ++ [(i.toNat, pad bs)] }, 0)) := by unfold Hid writeD; rw [hn]
  generalize writeD d i bs = wd at *
  generalize thereE d i = te at *
  obtain ⟨bd, hbd⟩ : ∃ x, burnD d = x := ⟨_, rfl⟩
  rw [hbd] at hbu hbk HW
  obtain ⟨b1, be⟩ := bd
  simp only at hbu hbk HW
  clear hbd hn
  by_cases h0 : te = 0
  · subst h0
    obtain ⟨hi0, hi1⟩ := hok rfl
    obtain ⟨v1, hv1⟩ : ∃ v, decide ((128 : Int) < n) = v := ⟨_, rfl⟩
    cases v1
    · have hn128 : n ≤ 128 := by have := of_decide_eq_false hv1; omega
      by_cases he : be = 0
      · subst he
        obtain ⟨hk1, hw1⟩ := hbk rfl
        have hib : i.toNat < b1.kept.length := by rw [hk1]; exact hi1
        have hwl1 : b1.wait.length ≤ 1000000000 := by rw [hw1]; exact hwl
        clear hk1 hw1 hbk hok
        have HW2 : Hid (wd = ({ b1 with wait := b1.wait ++ [(i.toNat, pad bs)] }, 0)) := by
          unfold Hid; rw [HW.out]; simp; omega
        rw [HW2.out]
        clear HW HW2
        obtain ⟨j, rfl⟩ := Int.eq_ofNat_of_zero_le hi0
        simp only [Int.toNat_natCast] at hib ⊢
        go_enter Try.func13, Try.ntmps13
        go_wp2_with fail
        refine ht.mono ?_
        rintro e w' ⟨rfl, rfl⟩
        go_wp2_with fail
        refine hbu.mono ?_
        rintro e w1 ⟨rfl, h1, s1⟩
        have hx1 := hx.fr s1.fr (fun a e h0 _ => hbB a e (by rw [← HN.out]; simpa [bcells] using h0))
        have mk1 := Try.mk128 w1
        have hg1 : (w1.alloc (.cells zer128.toArray 5)).heap[w1.heap.size]? = some (.cells zer128.toArray 5 (0, 0)) := BlkAt.new _ _ _
        have f2 := (Fr.refl noB w1).alloc (.cells zer128.toArray 5)
        have hx2 := hx1.fr0 f2
        have hbw : Below w1.heap.size w1 (w1.alloc (.cells zer128.toArray 5)) := f2.below0
        have hcl : (bcells bs).length = n := by rw [bcells_length, HN.out]
        go_upto_region 10 with fail
        go_wp2_with (with_reducible refine wpList_copy_splice rfl (.tmp 25) (.tmp 26) 22 22 rfl 5 Try.underlying22 (by kernel_rfl) (some ⟨w1.heap.size, 0, none⟩) B 128 128 n c rfl rfl w1.heap.size 0 zer128 5 hg1 (bcells bs) (by rw [hcl]; exact (Nat.min_eq_left hn128).symm) (fun h0 => ?_) (by rw [hcl, zer128_len]; omega) (fun v hv => ?_) w1.heap.size w1 hbw (Nat.le_refl _) ?_)
        · cases B with
          | none => have := (hB rfl).1; rw [hcl] at h0; omega
          | some ad => first | exact ⟨rfl, ad, rfl, fun j v hv => hx2.cell hv⟩ | exact ⟨ad, rfl, fun j v hv => hx2.cell hv⟩
        · simp only [bcells, List.mem_map] at hv; obtain ⟨x, _, rfl⟩ := hv; rfl
        · intro w3 HG3 hb3
          have f3 := Fr.of_below hb3 noB
          have h3 := h1.fr0 f3
          have hpl : (pad bs).length = 128 := pad_len (by rw [HN.out]; exact hn128)
          have hs3 : slotB w3 (.slice (some ⟨w1.heap.size, 0, none⟩) 128 128) (pad bs) := ⟨w1.heap.size, rfl, by have := HG3.out; rw [splice_zer bs (by rw [HN.out]; exact hn128)] at this; exact this, hpl⟩
          obtain ⟨KA, kn, kc, WA, wn, wc, ks, ws, hR⟩ := h3
          obtain ⟨x0, x1, x2, x3, x4, xf⟩ := BlkAt.c5 hR.blk
          obtain ⟨g, hgq⟩ : ∃ x, w1.heap.size = x := ⟨_, rfl⟩
          rw [hgq] at hs3 ⊢
          have f4 := (Fr.refl noB w3).alloc (.cells #[.int .i64 (j : Nat), .slice (some ⟨g, 0, none⟩) 128 128] 90)
          have hR4 := hR.fr f4 (fun _ h => h.elim) (fun _ _ h => h.elim)
          have hs4 := hs3.fr f4 (fun _ _ h => h)
          have hrow := row2D (BlkAt.new w3 #[.int .i64 (j : Nat), .slice (some ⟨g, 0, none⟩) 128 128] 90)
          have hwn := hR.wl
          have hS4 : DStep p w (w3.alloc (.cells #[.int .i64 (j : Nat), .slice (some ⟨g, 0, none⟩) 128 128] 90)) := s1.trans (DStep.of0 h1 (f3.then' f4))
          clear hx1 hx2 mk1 hg1 f2 hbw hgq HG3 hb3 f3 hs3
          go_wp2_with (at_builtin; refine wpList_app Try.appWr rfl (.tmp 32) (.tmp 36) rfl _ wn (waitC ws) rfl hR4.hw (some ⟨w3.heap.size, 0, none⟩) 1 1 [.int .i64 (j : Nat), .slice (some ⟨g, 0, none⟩) 128 128] rfl rfl hrow (by intro u hu; simp at hu; rcases hu with rfl | rfl <;> rfl) (by simp) (by omega) (by omega) ?_)
          intro A' c' w5 hown hg hat
          obtain ⟨hD, hS, hb5⟩ := hR4.more hown hg (by rw [al_size]; exact hat) hs4 hib
          clear x0 x1 x2 x3 x4 xf
          obtain ⟨x0, x1, x2, x3, x4, xf⟩ := BlkAt.c5 hb5
          have xf1 := xf 1
          have HD := hid hD
          have HS := hid (hS4.trans hS)
          clear hD hS hS4 hR4 hR hown hg hat
          go_wp2_with fail
          go_ret
          exact ⟨rfl, HD.out, HS.out⟩
      · have HW2 : Hid (wd = (b1, be)) := by unfold Hid; rw [HW.out]; simp [he]; omega
        rw [HW2.out]
        have t1 : ((be : Int) != 0) = true := by rw [bne_iff_ne]; omega
        go_enter Try.func13, Try.ntmps13
        go_wp2_with fail
        refine ht.mono ?_
        rintro e w' ⟨rfl, rfl⟩
        go_wp2_with fail
        refine hbu.mono ?_
        rintro e w1 ⟨rfl, h1, s1⟩
        go_wp2_with fail
        go_ret
        exact ⟨rfl, h1, s1⟩
    · have HW2 : Hid (wd = (d, 3)) := by unfold Hid; rw [HW.out]; have := of_decide_eq_true hv1; simp; omega
      rw [HW2.out]
      go_enter Try.func13, Try.ntmps13
      go_wp2_with fail
      refine ht.mono ?_
      rintro e w' ⟨rfl, rfl⟩
      go_wp2_with fail
      go_ret
      exact ⟨rfl, h, DStep.refl _ _⟩
  · have HW2 : Hid (wd = (d, te)) := by unfold Hid; rw [HW.out]; simp [h0]
    rw [HW2.out]
    have t1 : ((te : Int) != 0) = true := by rw [bne_iff_ne]; omega
    go_enter Try.func13, Try.ntmps13
    go_wp2_with fail
    refine ht.mono ?_
    rintro e w' ⟨rfl, rfl⟩
    go_wp2_with fail
    go_ret
    exact ⟨rfl, h, DStep.refl _ _⟩
end Go.Proofs.Ytnkdlmmdaagonaa
