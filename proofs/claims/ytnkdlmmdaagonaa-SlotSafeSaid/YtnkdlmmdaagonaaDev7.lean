/- block.New. -/
import Derived.Test.YtnkdlmmdaagonaaDev6
import Derived.Test.YtnkdlmmdaagonaaCalmH
namespace Go.Proofs.Ytnkdlmmdaagonaa
open Go.RowKit
/-- One more block. -/
theorem DevR.grow {w4 w5 : World} {p : Nat} {b1 : DevV} {KA : Option Addr} {kn kc : Nat} {WA : Option Addr} {wn wc : Nat} {ks : List Value} {ws : List (Nat × Value)} {A' : Option Addr} {c' : Nat} {bs : List UInt8} {v : Value} (h : DevR w4 p b1 KA kn kc WA wn wc ks ws)
    (hown : w5.ownsRow 0 22 1 (.slice A' (kn + 1) c') (kn + 1) (ks ++ [v])) (hg : w4.grownBy w5 (Value.slice KA kn kc).ownBlock) (hat : (Value.slice A' (kn + 1) c').ownBlock = (Value.slice KA kn kc).ownBlock ∨ (Value.slice A' (kn + 1) c').ownBlock = some w4.heap.size)
    (hs : slotB w4 v bs) :
    DevAt (w5.setCell ⟨p, 0, none⟩ (.slice A' (kn + 1) c')) p { b1 with kept := b1.kept ++ [bs] } ∧ DStep p w4 (w5.setCell ⟨p, 0, none⟩ (.slice A' (kn + 1) c')) ∧ BlkAt w5 p 87 #[.slice KA kn kc, .slice WA wn wc, .bool b1.down, .int .i64 b1.fuse, .int .u64 (b1.mask : Nat)] := by
  have hWB : ∀ g, (Value.slice KA kn kc).ownBlock = some g → devB p w4 g := fun g hg => .inr ⟨_, h.blk, .inl ⟨_, rfl, hg⟩⟩
  have hWp : ∀ g, (Value.slice KA kn kc).ownBlock = some g → g ≠ p := fun g hg e => by
    obtain ⟨C, hC⟩ := own_typ h.hk hg
    have := h.blk; unfold BlkAt at this
    subst e; rw [this] at hC; simp at hC
  have f5 : Fr (fun k => (Value.slice KA kn kc).ownBlock = some k) w4 w5 := Fr.grown (Fr.refl _ _) hg (fun k hk => .inl hk)
  have hb5 := h.blk.fr f5 (fun e => hWp p e rfl)
  have f6 := fr_set1 w5 p 0 (.slice A' (kn + 1) c')
  have hb6 := hb5.set 0 (.slice A' (kn + 1) c')
  have hpl := h.blk.lt
  have hnT : ∀ {a : Nat} {C : Array Value}, BlkAt w4 a 5 C → ¬ (Value.slice KA kn kc).ownBlock = some a := fun hb e => h.not_b hb (hWB _ e)
  have hnP : ∀ {a : Nat} {C : Array Value}, BlkAt w4 a 5 C → ¬ eqB p a := fun hb e => h.not_b hb (.inl e)
  have hslot : ∀ {u : Value} {b : List UInt8}, slotB w4 u b → slotB (w5.setCell ⟨p, 0, none⟩ (.slice A' (kn + 1) c')) u b := fun ⟨a, h1, h2, h3⟩ => ⟨a, h1, (h2.fr f5 (hnT h2)).fr f6 (hnP h2), h3⟩
  have hKp : ∀ g, (Value.slice WA wn wc).ownBlock = some g → ¬ (Value.slice KA kn kc).ownBlock = some g := fun g hg e => by
    obtain ⟨C, hC⟩ := own_typ h.hw hg
    obtain ⟨D, hD⟩ := own_typ h.hk e
    rw [hC] at hD; simp at hD
  have hKP : ∀ g, (Value.slice WA wn wc).ownBlock = some g → ¬ eqB p g := fun g hg e => by
    obtain ⟨C, hC⟩ := own_typ h.hw hg
    have := h.blk; unfold BlkAt at this
    unfold eqB at e; subst e; rw [this] at hC; simp at hC
  have hAP : ∀ g, (Value.slice A' (kn + 1) c').ownBlock = some g → ¬ eqB p g := fun g hg e => by
    unfold eqB at e; subst e
    rcases hat with e1 | e1
    · rw [e1] at hg; exact hWp _ hg rfl
    · rw [e1] at hg; have : w4.heap.size = g := by simpa using hg
      omega
  have hkl : ks.length = kn := by have := h.hk.1; omega
  refine ⟨⟨A', kn + 1, c', WA, wn, wc, ks ++ [v], ws, hb6, own_fr hown f6 hAP, own_fr (own_fr h.hw f5 hKp) f6 hKP, by simp; exact h.kl, h.wl, fun j b hj => ?_, fun j x hj => ?_, fun x hx => ?_, h.fz, h.mb⟩, ⟨?_, fun k hk => ?_⟩, hb5⟩
  · by_cases hjl : j < b1.kept.length
    · rw [List.getElem?_append_left hjl] at hj
      obtain ⟨u, h1, h2⟩ := h.kb j b hj
      exact ⟨u, by rw [List.getElem?_append_left (by rw [hkl, ← h.kl]; exact hjl)]; exact h1, hslot h2⟩
    · rw [List.getElem?_append_right (by omega)] at hj
      obtain ⟨hj1, hj2⟩ := List.getElem?_eq_some_iff.mp hj
      simp only [List.length_singleton] at hj1
      have e : j = b1.kept.length := by omega
      subst e
      simp at hj2
      subst hj2
      refine ⟨v, ?_, hslot hs⟩
      rw [h.kl, ← hkl]; simp
  · obtain ⟨u, h1, h2⟩ := h.wb j x hj
    exact ⟨u, h1, hslot h2⟩
  · have := h.wk x hx
    simp only [List.length_append, List.length_singleton]; omega
  · exact (f5.mono fun k _ hk => hWB k hk).trans f6 (fun k _ hk => .inl hk)
  · rcases hk with rfl | ⟨D, hD, hv⟩
    · exact .inl (.inl rfl)
    · unfold BlkAt at hb6
      rw [hb6] at hD
      have e : D = #[.slice A' (kn + 1) c', .slice WA wn wc, .bool b1.down, .int .i64 b1.fuse, .int .u64 (b1.mask : Nat)] := by
        simp only [Option.some.injEq, Obj.cells.injEq, true_and, and_true] at hD; exact hD.symm
      subst e
      rcases hv with ⟨u, e1, e2⟩ | ⟨u, e1, e2⟩
      · simp at e1; subst e1
        rcases hat with e3 | e3
        · rw [e3] at e2; exact .inl (hWB _ e2)
        · rw [e3] at e2; have : w4.heap.size = k := by simpa using e2
          exact .inr (by omega)
      · exact .inl (.inr ⟨_, h.blk, .inr ⟨u, e1, e2⟩⟩)
def newD (n : Nat) : DevV := ⟨List.replicate n (List.replicate 128 0), [], false, -1, 0⟩
theorem zer_slot {w : World} {g : Nat} (h : BlkAt w g 5 zer128.toArray) : slotB w (.slice (some ⟨g, 0, none⟩) 128 128) (List.replicate 128 0) := ⟨g, rfl, h, List.length_replicate⟩
theorem op_appD {P : Program} {o : Oper} {a : Act} {w : World} {K : Act → World → Prop} {Q : Exit → Act → World → Prop} {t e : TypeId} {z : Value} {size bytes : Nat} (A : AppTy P t e z size bytes)
    (s x : Operand) (ho : o.op = .call { callee := .builtin .append, args := #[s, x], argTypes := #[t, t] })
    (v : Value) (n : Nat) (xs : List Value) (hs : a.eval s = v) (hown : w.ownsRow 0 e size v n xs)
    (B : Option Addr) (m c : Nat) (news : List Value) (hx : a.eval x = .slice B m c) (hl : news.length = m * size) (hnews : RowAt w B news) (h1 : ∀ u ∈ news, u.oneCell' = true)
    (hB : B ≠ none) (hbytes : (n + m) * bytes ≤ 140737488355328) (h63 : n + m ≤ 140737488355328)
    (h : ∀ A' c' w', w'.ownsRow 0 e size (.slice A' (n + m) c') (n + m) (xs ++ news) → w.grownBy w' v.ownBlock → ((Value.slice A' (n + m) c').ownBlock = v.ownBlock ∨ (Value.slice A' (n + m) c').ownBlock = some w.heap.size) → K (a.put o.dst (.slice A' (n + m) c')) w') :
    o.wp P a w K Q := by
  obtain ⟨i, hi, hz, hsz, hby⟩ := info_parts A.info
  have hm : n + m ≤ maxLen := by unfold maxLen; omega
  cases B with
  | none => exact absurd rfl hB
  | some ad =>
    obtain ⟨v', w', hr, h2, h3, _, h5⟩ := run_append_own_at (P := P) w 0 t o.type e i z size bytes A.und hi hz hsz hby A.zs A.pos v n xs hown ad m c news hl (fun j u hu => hnews.cell hu) h1 hm hbytes (Nat.zero_le _)
    obtain ⟨A', c', rfl⟩ := own_slice h2
    unfold Oper.wp execOp
    simp only [ho, resolve, invoke, builtin, Sem.run_bind, Sem.run_pure, Result.andThen_ok, List.map_toArray, List.map_cons, List.map_nil, hs, hx, hr]
    exact h A' c' w' h2 h3 h5
theorem Try.appB : AppTy Try.prog 84 22 (.slice none 0 0) 1 24 := ⟨Try.underlying84, by kernel_rfl, rfl, by decide⟩
def NewC (wr : World) (p k : Nat) (KA : Option Addr) (kc : Nat) (ks : List Value) : Nat → Value → World → Prop
  | 0, _, W => Fr noB wr W
  | 1, _, W => Fr noB wr W
  | 2, v, W => ∃ A' c' g W2, Fr noB wr W2 ∧ v = .slice A' (k + 1) c' ∧ W.ownsRow 0 22 1 (.slice A' (k + 1) c') (k + 1) (ks ++ [.slice (some ⟨g, 0, none⟩) 128 128]) ∧ W2.grownBy W (Value.slice KA k kc).ownBlock ∧ ((Value.slice A' (k + 1) c').ownBlock = (Value.slice KA k kc).ownBlock ∨ (Value.slice A' (k + 1) c').ownBlock = some W2.heap.size) ∧ BlkAt W2 g 5 zer128.toArray
  | _, _, W => DevAt W p (newD (k + 1)) ∧ DStep p wr W
theorem NewC.size {wr : World} {p k : Nat} {KA : Option Addr} {kc : Nat} {ks : List Value} {q : Nat} {v : Value} {W : World} (h : NewC wr p k KA kc ks q v W) : wr.heap.size ≤ W.heap.size := by
  match q, h with
  | 0, h => exact Fr.size h
  | 1, h => exact Fr.size h
  | 2, ⟨_, _, _, _, f, _, _, g, _⟩ => exact Nat.le_trans f.size g.size
  | q + 3, h => exact h.2.fr.size
theorem NewC.step {wr : World} {p k : Nat} {KA : Option Addr} {kc : Nat} {ks : List Value} {q : Nat} {v : Value} {W W' : World} (h : NewC wr p k KA kc ks q v W) (f : Fr noB W W') : NewC wr p k KA kc ks q v W' := by
  match q, h with
  | 0, h => exact Fr.then' h f
  | 1, h => exact Fr.then' h f
  | 2, ⟨A', c', g, W2, f2, e, ho, hg, hat, hb⟩ => exact ⟨A', c', g, W2, f2, e, own_fr ho f (fun _ _ => id), ⟨f.os.trans hg.os, f.tape.trans hg.tape, f.output.trans hg.output, Nat.le_trans hg.size f.size, fun k hk hn => (f.block k (Nat.lt_of_lt_of_le hk hg.size) id).trans (hg.block k hk hn)⟩, hat, hb⟩
  | q + 3, ⟨h1, h2⟩ => exact ⟨h1.fr0 f, h2.trans (DStep.of0 h1 f)⟩
def ZSt (S : Nat → Prop) (n0 : Nat) (hS : ∀ k, S k → k < n0) : Stb (Fr S) := ⟨fun v W => ∃ g, v = .slice (some ⟨g, 0, none⟩) 128 128 ∧ n0 ≤ g ∧ BlkAt W g 5 zer128.toArray, fun _ _ _ h f => by
  obtain ⟨g, h1, h2, h3⟩ := h
  exact ⟨g, h1, h2, h3.fr f fun hs => by have := hS g hs; omega⟩⟩
def ZRow (S : Nat → Prop) (n0 : Nat) (hS : ∀ k, S k → k < n0) : Stb (Fr S) := ⟨fun v W => ∃ r g, v = .slice (some ⟨r, 0, none⟩) 1 1 ∧ n0 ≤ r ∧ n0 ≤ g ∧ BlkAt W g 5 zer128.toArray ∧ BlkAt W r 22 #[.slice (some ⟨g, 0, none⟩) 128 128], fun _ _ _ h f => by
  obtain ⟨r, g, h1, h2, h3, h4, h5⟩ := h
  exact ⟨r, g, h1, h2, h3, h4.fr f fun hs => by have := hS g hs; omega, h5.fr f fun hs => by have := hS r hs; omega⟩⟩
theorem devB_lt {w : World} {p : Nat} {d : DevV} (h : DevAt w p d) {k : Nat} (hk : devB p w k) : k < w.heap.size := by
  obtain ⟨KA, kn, kc, WA, wn, wc, ks, ws, h⟩ := h
  rcases hk with rfl | ⟨D, hD, hv⟩
  · exact h.blk.lt
  · have h1 := h.blk
    unfold BlkAt at h1
    rw [h1] at hD
    have e : D = #[.slice KA kn kc, .slice WA wn wc, .bool d.down, .int .i64 d.fuse, .int .u64 (d.mask : Nat)] := by
      simp only [Option.some.injEq, Obj.cells.injEq, true_and, and_true] at hD; exact hD.symm
    subst e
    rcases hv with ⟨v, e1, e2⟩ | ⟨v, e1, e2⟩
    · simp at e1; subst e1; exact (h.hk.lt k e2).2
    · simp at e1; subst e1; exact (h.hw.lt k e2).2
end Go.Proofs.Ytnkdlmmdaagonaa
