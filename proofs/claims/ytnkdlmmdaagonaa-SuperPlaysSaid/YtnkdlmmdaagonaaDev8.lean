/- Contracts, several texts in one. -/
import Derived.Test.YtnkdlmmdaagonaaDev6
import Derived.Test.YtnkdlmmdaagonaaCalmH
/- block.New. -/
namespace Go.Proofs.Ytnkdlmmdaagonaa
open Go.RowKit
/-- One more block. -/
theorem DevR.grow {w4 w5 : World} {p : Nat} {b1 : DevV} {KA : Option Addr} {kn kc : Nat} {WA : Option Addr} {wn wc : Nat} {ks : List Value} {ws : List (Nat × Value)} {A' : Option Addr} {c' : Nat} {bs : List UInt8} {v : Value} (h : DevR w4 p b1 KA kn kc WA wn wc ks ws)
    (hown : w5.ownsRow 0 22 1 (.slice A' (kn + 1) c') (kn + 1) (ks ++ [v])) (hg : w4.grownBy w5 (Value.slice KA kn kc).ownBlock) (hat : (Value.slice A' (kn + 1) c').ownBlock = (Value.slice KA kn kc).ownBlock ∨ (Value.slice A' (kn + 1) c').ownBlock = some w4.heap.size)
    (hs : slotB w4 v bs) :
    DevAt (w5.setCell ⟨p, 0, none⟩ (.slice A' (kn + 1) c')) p { b1 with kept := b1.kept ++ [bs] } ∧ DStep p w4 (w5.setCell ⟨p, 0, none⟩ (.slice A' (kn + 1) c')) ∧ BlkAt w5 p 87 #[.slice KA kn kc, .slice WA wn wc, .bool b1.down, .int .i64 b1.fuse, .int .u64 (b1.mask : Nat)] := by
  have hWB : ∀ g, (Value.slice KA kn kc).ownBlock = some g → devB p w4 g := fun g hg => .inr ⟨_, h.blk, .inl ⟨_, rfl, hg⟩⟩
  have hWp : ∀ g, (Value.slice KA kn kc).ownBlock = some g → g ≠ p := fun g hg e => by
    obtain ⟨C, hC⟩ := own_typ h.hk hg
    have := h.blk; unfold BlkAt at this
    subst e; rw [this] at hC; simp at hC
  have f5 : Fr (fun k => (Value.slice KA kn kc).ownBlock = some k) w4 w5 := Fr.grown (Fr.refl _ _) hg (fun k hk => .inl hk)
  have hb5 := h.blk.fr f5 (fun e => hWp p e rfl)
  have f6 := fr_set1 w5 p 0 (.slice A' (kn + 1) c')
  have hb6 := hb5.set 0 (.slice A' (kn + 1) c')
  have hpl := h.blk.lt
  have hnT : ∀ {a : Nat} {C : Array Value}, BlkAt w4 a 5 C → ¬ (Value.slice KA kn kc).ownBlock = some a := fun hb e => h.not_b hb (hWB _ e)
  have hnP : ∀ {a : Nat} {C : Array Value}, BlkAt w4 a 5 C → ¬ eqB p a := fun hb e => h.not_b hb (.inl e)
  have hslot : ∀ {u : Value} {b : List UInt8}, slotB w4 u b → slotB (w5.setCell ⟨p, 0, none⟩ (.slice A' (kn + 1) c')) u b := fun ⟨a, h1, h2, h3⟩ => ⟨a, h1, (h2.fr f5 (hnT h2)).fr f6 (hnP h2), h3⟩
  have hKp : ∀ g, (Value.slice WA wn wc).ownBlock = some g → ¬ (Value.slice KA kn kc).ownBlock = some g := fun g hg e => by
    obtain ⟨C, hC⟩ := own_typ h.hw hg
    obtain ⟨D, hD⟩ := own_typ h.hk e
    rw [hC] at hD; simp at hD
  have hKP : ∀ g, (Value.slice WA wn wc).ownBlock = some g → ¬ eqB p g := fun g hg e => by
    obtain ⟨C, hC⟩ := own_typ h.hw hg
    have := h.blk; unfold BlkAt at this
    unfold eqB at e; subst e; rw [this] at hC; simp at hC
  have hAP : ∀ g, (Value.slice A' (kn + 1) c').ownBlock = some g → ¬ eqB p g := fun g hg e => by
    unfold eqB at e; subst e
    rcases hat with e1 | e1
    · rw [e1] at hg; exact hWp _ hg rfl
    · rw [e1] at hg; have : w4.heap.size = g := by simpa using hg
      omega
  have hkl : ks.length = kn := by have := h.hk.1; omega
  refine ⟨⟨A', kn + 1, c', WA, wn, wc, ks ++ [v], ws, hb6, own_fr hown f6 hAP, own_fr (own_fr h.hw f5 hKp) f6 hKP, by simp; exact h.kl, h.wl, fun j b hj => ?_, fun j x hj => ?_, fun x hx => ?_, h.fz, h.mb⟩, ⟨?_, fun k hk => ?_⟩, hb5⟩
  · by_cases hjl : j < b1.kept.length
    · rw [List.getElem?_append_left hjl] at hj
      obtain ⟨u, h1, h2⟩ := h.kb j b hj
      exact ⟨u, by rw [List.getElem?_append_left (by rw [hkl, ← h.kl]; exact hjl)]; exact h1, hslot h2⟩
    · rw [List.getElem?_append_right (by omega)] at hj
      obtain ⟨hj1, hj2⟩ := List.getElem?_eq_some_iff.mp hj
      simp only [List.length_singleton] at hj1
      have e : j = b1.kept.length := by omega
      subst e
      simp at hj2
      subst hj2
      refine ⟨v, ?_, hslot hs⟩
      rw [h.kl, ← hkl]; simp
  · obtain ⟨u, h1, h2⟩ := h.wb j x hj
    exact ⟨u, h1, hslot h2⟩
  · have := h.wk x hx
    simp only [List.length_append, List.length_singleton]; omega
  · exact (f5.mono fun k _ hk => hWB k hk).trans f6 (fun k _ hk => .inl hk)
  · rcases hk with rfl | ⟨D, hD, hv⟩
    · exact .inl (.inl rfl)
    · unfold BlkAt at hb6
      rw [hb6] at hD
      have e : D = #[.slice A' (kn + 1) c', .slice WA wn wc, .bool b1.down, .int .i64 b1.fuse, .int .u64 (b1.mask : Nat)] := by
        simp only [Option.some.injEq, Obj.cells.injEq, true_and, and_true] at hD; exact hD.symm
      subst e
      rcases hv with ⟨u, e1, e2⟩ | ⟨u, e1, e2⟩
      · simp at e1; subst e1
        rcases hat with e3 | e3
        · rw [e3] at e2; exact .inl (hWB _ e2)
        · rw [e3] at e2; have : w4.heap.size = k := by simpa using e2
          exact .inr (by omega)
      · exact .inl (.inr ⟨_, h.blk, .inr ⟨u, e1, e2⟩⟩)
def newD (n : Nat) : DevV := ⟨List.replicate n (List.replicate 128 0), [], false, -1, 0⟩
theorem zer_slot {w : World} {g : Nat} (h : BlkAt w g 5 zer128.toArray) : slotB w (.slice (some ⟨g, 0, none⟩) 128 128) (List.replicate 128 0) := ⟨g, rfl, h, List.length_replicate⟩
theorem op_appD {P : Program} {o : Oper} {a : Act} {w : World} {K : Act → World → Prop} {Q : Exit → Act → World → Prop} {t e : TypeId} {z : Value} {size bytes : Nat} (A : AppTy P t e z size bytes)
    (s x : Operand) (ho : o.op = .call { callee := .builtin .append, args := #[s, x], argTypes := #[t, t] })
    (v : Value) (n : Nat) (xs : List Value) (hs : a.eval s = v) (hown : w.ownsRow 0 e size v n xs)
    (B : Option Addr) (m c : Nat) (news : List Value) (hx : a.eval x = .slice B m c) (hl : news.length = m * size) (hnews : RowAt w B news) (h1 : ∀ u ∈ news, u.oneCell' = true)
    (hB : B ≠ none) (hbytes : (n + m) * bytes ≤ 140737488355328) (h63 : n + m ≤ 140737488355328)
    (h : ∀ A' c' w', w'.ownsRow 0 e size (.slice A' (n + m) c') (n + m) (xs ++ news) → w.grownBy w' v.ownBlock → ((Value.slice A' (n + m) c').ownBlock = v.ownBlock ∨ (Value.slice A' (n + m) c').ownBlock = some w.heap.size) → K (a.put o.dst (.slice A' (n + m) c')) w') :
    o.wp P a w K Q := by
  obtain ⟨i, hi, hz, hsz, hby⟩ := info_parts A.info
  have hm : n + m ≤ maxLen := by unfold maxLen; omega
  cases B with
  | none => exact absurd rfl hB
  | some ad =>
    obtain ⟨v', w', hr, h2, h3, _, h5⟩ := run_append_own_at (P := P) w 0 t o.type e i z size bytes A.und hi hz hsz hby A.zs A.pos v n xs hown ad m c news hl (fun j u hu => hnews.cell hu) h1 hm hbytes (Nat.zero_le _)
    obtain ⟨A', c', rfl⟩ := own_slice h2
    unfold Oper.wp execOp
    simp only [ho, resolve, invoke, builtin, Sem.run_bind, Sem.run_pure, Result.andThen_ok, List.map_toArray, List.map_cons, List.map_nil, hs, hx, hr]
    exact h A' c' w' h2 h3 h5
theorem Try.appB : AppTy Try.prog 84 22 (.slice none 0 0) 1 24 := ⟨Try.underlying84, by kernel_rfl, rfl, by decide⟩
def NewC (wr : World) (p k : Nat) (KA : Option Addr) (kc : Nat) (ks : List Value) : Nat → Value → World → Prop
  | 0, _, W => Fr noB wr W
  | 1, _, W => Fr noB wr W
  | 2, v, W => ∃ A' c' g W2, Fr noB wr W2 ∧ v = .slice A' (k + 1) c' ∧ W.ownsRow 0 22 1 (.slice A' (k + 1) c') (k + 1) (ks ++ [.slice (some ⟨g, 0, none⟩) 128 128]) ∧ W2.grownBy W (Value.slice KA k kc).ownBlock ∧ ((Value.slice A' (k + 1) c').ownBlock = (Value.slice KA k kc).ownBlock ∨ (Value.slice A' (k + 1) c').ownBlock = some W2.heap.size) ∧ BlkAt W2 g 5 zer128.toArray
  | _, _, W => DevAt W p (newD (k + 1)) ∧ DStep p wr W
theorem NewC.size {wr : World} {p k : Nat} {KA : Option Addr} {kc : Nat} {ks : List Value} {q : Nat} {v : Value} {W : World} (h : NewC wr p k KA kc ks q v W) : wr.heap.size ≤ W.heap.size := by
  match q, h with
  | 0, h => exact Fr.size h
  | 1, h => exact Fr.size h
  | 2, ⟨_, _, _, _, f, _, _, g, _⟩ => exact Nat.le_trans f.size g.size
  | q + 3, h => exact h.2.fr.size
theorem NewC.step {wr : World} {p k : Nat} {KA : Option Addr} {kc : Nat} {ks : List Value} {q : Nat} {v : Value} {W W' : World} (h : NewC wr p k KA kc ks q v W) (f : Fr noB W W') : NewC wr p k KA kc ks q v W' := by
  match q, h with
  | 0, h => exact Fr.then' h f
  | 1, h => exact Fr.then' h f
  | 2, ⟨A', c', g, W2, f2, e, ho, hg, hat, hb⟩ => exact ⟨A', c', g, W2, f2, e, own_fr ho f (fun _ _ => id), ⟨f.os.trans hg.os, f.tape.trans hg.tape, f.output.trans hg.output, Nat.le_trans hg.size f.size, fun k hk hn => (f.block k (Nat.lt_of_lt_of_le hk hg.size) id).trans (hg.block k hk hn)⟩, hat, hb⟩
  | q + 3, ⟨h1, h2⟩ => exact ⟨h1.fr0 f, h2.trans (DStep.of0 h1 f)⟩
def ZSt (S : Nat → Prop) (n0 : Nat) (hS : ∀ k, S k → k < n0) : Stb (Fr S) := ⟨fun v W => ∃ g, v = .slice (some ⟨g, 0, none⟩) 128 128 ∧ n0 ≤ g ∧ BlkAt W g 5 zer128.toArray, fun _ _ _ h f => by
  obtain ⟨g, h1, h2, h3⟩ := h
  exact ⟨g, h1, h2, h3.fr f fun hs => by have := hS g hs; omega⟩⟩
def ZRow (S : Nat → Prop) (n0 : Nat) (hS : ∀ k, S k → k < n0) : Stb (Fr S) := ⟨fun v W => ∃ r g, v = .slice (some ⟨r, 0, none⟩) 1 1 ∧ n0 ≤ r ∧ n0 ≤ g ∧ BlkAt W g 5 zer128.toArray ∧ BlkAt W r 22 #[.slice (some ⟨g, 0, none⟩) 128 128], fun _ _ _ h f => by
  obtain ⟨r, g, h1, h2, h3, h4, h5⟩ := h
  exact ⟨r, g, h1, h2, h3, h4.fr f fun hs => by have := hS g hs; omega, h5.fr f fun hs => by have := hS r hs; omega⟩⟩
theorem devB_lt {w : World} {p : Nat} {d : DevV} (h : DevAt w p d) {k : Nat} (hk : devB p w k) : k < w.heap.size := by
  obtain ⟨KA, kn, kc, WA, wn, wc, ks, ws, h⟩ := h
  rcases hk with rfl | ⟨D, hD, hv⟩
  · exact h.blk.lt
  · have h1 := h.blk
    unfold BlkAt at h1
    rw [h1] at hD
    have e : D = #[.slice KA kn kc, .slice WA wn wc, .bool d.down, .int .i64 d.fuse, .int .u64 (d.mask : Nat)] := by
      simp only [Option.some.injEq, Obj.cells.injEq, true_and, and_true] at hD; exact hD.symm
    subst e
    rcases hv with ⟨v, e1, e2⟩ | ⟨v, e1, e2⟩
    · simp at e1; subst e1; exact (h.hk.lt k e2).2
    · simp at e1; subst e1; exact (h.hw.lt k e2).2
end Go.Proofs.Ytnkdlmmdaagonaa
/- block.New: the walk. -/
namespace Go.Proofs.Ytnkdlmmdaagonaa
open Go.RowKit
theorem devB_up {wr W : World} {p : Nat} {d : DevV} {KA : Option Addr} {kn kc : Nat} {WA : Option Addr} {wn wc : Nat} {ks : List Value} {ws : List (Nat × Value)} (h : DevR wr p d KA kn kc WA wn wc ks ws) (_ : Fr noB wr W) {x : Nat} (hx : (Value.slice KA kn kc).ownBlock = some x) : devB p wr x := .inr ⟨_, h.blk, .inl ⟨_, rfl, hx⟩⟩
theorem devB_new {w : World} {p : Nat} {b : Bool} {f m : Value} (h : BlkAt w p 87 #[.slice none 0 0, .slice none 0 0, .bool b, f, m]) {k : Nat} (hk : devB p w k) : k = p := by
  rcases hk with rfl | ⟨D, hD, hv⟩
  · rfl
  · unfold BlkAt at h
    rw [h] at hD
    have e : D = #[.slice none 0 0, .slice none 0 0, .bool b, f, m] := by
      simp only [Option.some.injEq, Obj.cells.injEq, true_and, and_true] at hD; exact hD.symm
    subst e
    rcases hv with ⟨v, e1, e2⟩ | ⟨v, e1, e2⟩ <;> (simp at e1; subst e1; cases e2)
theorem newD_step (k : Nat) : ({ newD k with kept := (newD k).kept ++ [List.replicate 128 0] } : DevV) = newD (k + 1) := by
  unfold newD
  simp only [List.replicate_succ']
set_option maxRecDepth 100000 in
set_option maxHeartbeats 3200000 in
theorem new_calls (w : World) (n : Nat) (hn : n ≤ 1000000) : Calls Try.prog 12 #[.int .i64 n] w (fun e w' => ∃ p, e = .returned (.pointer (some ⟨p, 0, none⟩)) ∧ w.heap.size ≤ p ∧ DevAt w' p (newD n) ∧ Fr noB w w' ∧ ∀ k, devB p w' k → w.heap.size ≤ k) := by
  have hb0 : BlkAt (w.alloc (.cells #[.slice none 0 0, .slice none 0 0, .bool false, .int .i64 (-1), .int .u64 0] 87)) w.heap.size 87 #[.slice none 0 0, .slice none 0 0, .bool false, .int .i64 (-1), .int .u64 0] := BlkAt.new _ _ _
  have f0 : Fr noB w (w.alloc (.cells #[.slice none 0 0, .slice none 0 0, .bool false, .int .i64 (-1), .int .u64 0] 87)) := (Fr.refl noB w).alloc _
  go_enter Try.func12, Try.ntmps12
  go_wp2_with fail
  generalize hwa : (w.alloc _) = wa at *
  obtain ⟨p, hp⟩ : ∃ p, w.heap.size = p := ⟨_, rfl⟩
  have HP := hid hp
  rw [hp] at hb0 ⊢
  clear hwa hp
  have hd0 : DevAt wa p (newD 0) := ⟨none, 0, 0, none, 0, 0, [], [], hb0, World.ownsRow_nil _ _ _ _, World.ownsRow_nil _ _ _ _, rfl, rfl, fun j b h => by simp [newD] at h, fun j x h => by simp [newD] at h, fun x h => by simp [newD] at h, by simp [newD], by simp [newD]⟩
  go_loopw [7] (fun i wr => ∃ k : Nat, k ≤ n ∧ i = .int .i64 k ∧ DevAt wr p (newD k) ∧ DStep p wa wr) (fun i _ => n - (intOf i).toNat)
  case atStart => exact ⟨0, Nat.zero_le _, rfl, hd0, DStep.refl _ _⟩
  case round =>
    obtain ⟨k, hk, rfl, hd, hs⟩ := hrel
    by_cases hkn : k < n
    · have hdl := hid (fun j h => devB_lt hd (k := j) h)
      have hdA := hid hd
      obtain ⟨KA, kn, kc, WA, wn, wc, ks, ws, hR⟩ := hd
      obtain rfl : k = kn := by have := hR.kl; simpa [newD] using this
      have hW0 : (newD k).down = false ∧ (newD k).fuse = -1 ∧ (newD k).mask = 0 := ⟨rfl, rfl, rfl⟩
      have mk1 := Try.mk128
      go_wp2_with fail
      apply H.wp_region_calmL (R := Fr (devB p wr)) (C := fun q ν W => NewC wr p k KA kc ks q (ν 16) W) [false, false, false, false, true, false, false, true, false, false, true] [0, 0, 0, 0, 0, 0, 0, 1, 2, 2, 2]
        [eqv (.pointer (some ⟨p, 0, none⟩)), eqv (.pointer (some ⟨p, 0, none⟩)), eqv (.pointer (some ⟨p, 0, none⟩)), eqv (.pointer (some ⟨p, 0, none⟩)), eqv (.slice KA k kc), ZSt (devB p wr) wr.heap.size hdl.out, ZRow (devB p wr) wr.heap.size hdl.out, anyv, eqv (.pointer (some ⟨p, 0, none⟩)), eqv (.pointer (some ⟨p, 0, none⟩)), anyv]
        (by kernel_rfl) (by kernel_rfl) (fun _ _ _ h1 h2 => h1.then' h2) ((Fr.refl _ _).drew) (by exact ((Fr.refl noB wr).drew)) (by kernel_rfl)
      · refine ⟨?_, ?_, ?_, ?_, ?_, ?_, ?_, ?_, ?_, ?_, ?_, trivial⟩
        · rw [if_neg (by decide)]; intro kq
          exact H.calm_mv 3 rfl rfl (Or.inl rfl) (fun _ _ _ h => h) (Fr.refl _) (by decide) fun v w hd => hd
        · rw [if_neg (by decide)]; intro kq
          exact H.calm_mv 3 rfl rfl (Or.inl rfl) (fun _ _ _ h => h) (Fr.refl _) (by decide) fun v w hd => hd
        · rw [if_neg (by decide)]; intro kq
          intro a W K hC hd hK
          have d10 : a.tmps[10]?.getD undef = .pointer (some ⟨p, 0, none⟩) := hd 10 (by decide)
          refine wpOp_plain rfl rfl ?_
          go_wp2_with fail
          exact hK _ _ (Fr.refl _ _) hC rfl
        · rw [if_neg (by decide)]; intro kq
          intro a W K hC hd hK
          have d11 : a.tmps[11]?.getD undef = .pointer (some ⟨p, 0, none⟩) := hd 11 (by decide)
          refine wpOp_plain rfl rfl ?_
          go_wp2_with fail
          exact hK _ _ (Fr.refl _ _) hC rfl
        · rw [if_pos (by decide)]
          intro a W K hC hd hK
          replace hC : (fun q ν W => NewC wr p k KA kc ks q (ν 16) W) 0 (fun t => a.eval (.tmp t)) W := hC
          have d12 : a.tmps[12]?.getD undef = .pointer (some ⟨p, 0, none⟩) := hd 12 (by decide)
          refine wpOp_plain rfl rfl ?_
          have hC0 : Fr noB wr W := hC
          obtain ⟨x0, x1, x2, x3, x4, xf⟩ := BlkAt.c5 (hR.blk.fr hC0 id)
          go_wp2_with fail
          exact hK _ _ (Fr.refl _ _) hC0 rfl
        · rw [if_neg (by decide)]; intro kq
          intro a W K hC hd hK
          refine wpOp_plain rfl rfl ?_
          have mk2 := mk1 W
          have hsz := NewC.size hC
          have fa := (Fr.refl noB W).alloc (.cells zer128.toArray 5)
          go_wp2_with fail
          exact hK _ _ (fa.mono fun _ _ h => h.elim) (NewC.step hC fa) ⟨W.heap.size, rfl, hsz, BlkAt.new _ _ _⟩
        · rw [if_neg (by decide)]; intro kq
          intro a W K hC hd hK
          have d14 : (ZSt (devB p wr) wr.heap.size hdl.out).V (a.tmps[14]?.getD undef) W := hd 14 (by decide)
          refine wpOp_plain rfl rfl ?_
          obtain ⟨g, hv14, hg0, hbg⟩ := d14
          have d14 : a.tmps[14]?.getD undef = .slice (some ⟨g, 0, none⟩) 128 128 := hv14
          have hsz := NewC.size hC
          have fa := (Fr.refl noB W).alloc (.cells #[.slice (some ⟨g, 0, none⟩) 128 128] 22)
          go_wp2_with fail
          exact hK _ _ (fa.mono fun _ _ h => h.elim) (NewC.step hC fa) ⟨W.heap.size, g, rfl, hsz, hg0, hbg.al _, BlkAt.new _ _ _⟩
        · rw [if_pos (by decide)]
          intro a W K hC hd hK
          replace hC : (fun q ν W => NewC wr p k KA kc ks q (ν 16) W) 1 (fun t => a.eval (.tmp t)) W := hC
          have d13 : a.tmps[13]?.getD undef = .slice KA k kc := hd 13 (by decide)
          have d15 : (ZRow (devB p wr) wr.heap.size hdl.out).V (a.tmps[15]?.getD undef) W := hd 15 (by decide)
          refine wpOp_plain rfl rfl ?_
          have hC0 : Fr noB wr W := hC
          obtain ⟨r, g, hv15, hr0, hg0, hbg, hbr⟩ := d15
          have d15 : a.tmps[15]?.getD undef = .slice (some ⟨r, 0, none⟩) 1 1 := hv15
          have hRW := hR.fr hC0 (fun _ g => g.elim) (fun _ _ g => g.elim)
          refine op_appD Try.appB (.tmp 13) (.tmp 15) rfl (.slice KA k kc) k ks (by rw [eval_get]; exact d13) hRW.hk (some ⟨r, 0, none⟩) 1 1 [.slice (some ⟨g, 0, none⟩) 128 128] (by rw [eval_get]; exact d15) rfl (fun j u hu => ⟨_, rfl, by (cases j with | zero => (simp at hu; subst hu; exact hbr.cell rfl) | succ j => simp at hu)⟩) (by intro u hu; simp at hu; subst hu; rfl) (by simp) (by omega) (by omega) ?_
          intro A9 c9 w9 ho9 hg9 hat9
          exact hK _ _ (Fr.grown (Fr.refl _ _) hg9 (fun x hx => .inl (devB_up hR hC0 hx))) ⟨A9, c9, g, W, hC0, rfl, ho9, hg9, hat9, hbg⟩ trivial
        · rw [if_neg (by decide)]; intro kq
          intro a W K hC hd hK
          have d9 : a.tmps[9]?.getD undef = .pointer (some ⟨p, 0, none⟩) := hd 9 (by decide)
          refine wpOp_plain rfl rfl ?_
          go_wp2_with fail
          exact hK _ _ (Fr.refl _ _) hC rfl
        · rw [if_neg (by decide)]; intro kq
          intro a W K hC hd hK
          have d17 : a.tmps[17]?.getD undef = .pointer (some ⟨p, 0, none⟩) := hd 17 (by decide)
          refine wpOp_plain rfl rfl ?_
          go_wp2_with fail
          exact hK _ _ (Fr.refl _ _) hC rfl
        · rw [if_pos (by decide)]
          intro a W K hC hd hK
          replace hC : (fun q ν W => NewC wr p k KA kc ks q (ν 16) W) 2 (fun t => a.eval (.tmp t)) W := hC
          have d18 : a.tmps[18]?.getD undef = .pointer (some ⟨p, 0, none⟩) := hd 18 (by decide)
          have d16 : (anyv).V (a.tmps[16]?.getD undef) W := hd 16 (by decide)
          refine wpOp_plain rfl rfl ?_
          obtain ⟨A9, c9, g, W2, hf2, hv16, ho9, hg9, hat9, hbg⟩ := hC
          have d16 : a.tmps[16]?.getD undef = .slice A9 (k + 1) c9 := by rw [← eval_get]; exact hv16
          obtain ⟨hD, hS, hb5⟩ := (hR.fr hf2 (fun _ g => g.elim) (fun _ _ g => g.elim)).grow ho9 hg9 hat9 (zer_slot hbg)
          rw [newD_step] at hD
          obtain ⟨x0, x1, x2, x3, x4, xf⟩ := BlkAt.c5 hb5
          have xf0 := xf 0
          have HD := hid hD
          have HS := hid hS
          have fs := fr_set1 W p 0 (.slice A9 (k + 1) c9)
          clear hD hS
          go_wp2_with fail
          exact hK undef _ (fs.mono fun x _ hx => .inl hx) ⟨HD.out, (DStep.of0 hdA.out hf2).trans HS.out⟩ trivial
      · intro vs w9 fw9 cw9 hV
        have v9 : vs 0 = .pointer (some ⟨p, 0, none⟩) := hV 0 _ _ rfl rfl (by decide)
        have v10 : vs 1 = .pointer (some ⟨p, 0, none⟩) := hV 1 _ _ rfl rfl (by decide)
        have v11 : vs 2 = .pointer (some ⟨p, 0, none⟩) := hV 2 _ _ rfl rfl (by decide)
        have v12 : vs 3 = .pointer (some ⟨p, 0, none⟩) := hV 3 _ _ rfl rfl (by decide)
        have v13 : vs 4 = .slice KA k kc := hV 4 _ _ rfl rfl (by decide)
        have v14 : (ZSt (devB p wr) wr.heap.size hdl.out).V (vs 5) w9 := hV 5 _ _ rfl rfl (by decide)
        have v15 : (ZRow (devB p wr) wr.heap.size hdl.out).V (vs 6) w9 := hV 6 _ _ rfl rfl (by decide)
        have v16 : (anyv).V (vs 7) w9 := hV 7 _ _ rfl rfl (by decide)
        have v17 : vs 8 = .pointer (some ⟨p, 0, none⟩) := hV 8 _ _ rfl rfl (by decide)
        have v18 : vs 9 = .pointer (some ⟨p, 0, none⟩) := hV 9 _ _ rfl rfl (by decide)
        clear hV
        simp only [putL, Act.put, Nat.reduceAdd, List.setIfInBounds_toArray, List.set_cons_zero, List.set_cons_succ, v9, v10, v11, v12, v13, v17, v18]
        have hfin : DevAt w9 p (newD (k + 1)) ∧ DStep p wr w9 := cw9
        go_wp2_with fail
        go_roundw
        case rel => exact ⟨k + 1, by omega, by go_num, hfin.1, hs.trans hfin.2⟩
        case measure => simp [intOf]; omega
    · obtain rfl : k = n := by omega
      go_wp2_with fail
      go_ret
      refine ⟨p, rfl, by have := HP.out; omega, hd, f0.trans hs.fr (fun i hi h => ?_), fun i h => ?_⟩
      · have hh := devB_new hb0 h
        have := HP.out; omega
      · rcases hs.foot i h with h | h
        · have hh := devB_new hb0 h
          have := HP.out; omega
        · have := f0.size; omega
end Go.Proofs.Ytnkdlmmdaagonaa
