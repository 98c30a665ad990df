/- Contracts, several texts in one. -/
import Derived.Test.YtnkdlmmdaagonaaRes
import Derived.Test.YtnkdlmmdaagonaaWr
import Derived.Deep.Cut
import Derived.Test.YtnkdlmmdaagonaaCalm
/- block.Device as a value. -/
namespace Go.Proofs.Ytnkdlmmdaagonaa
open Go.RowKit
structure DevV where
  kept : List (List UInt8)
  wait : List (Nat × List UInt8)
  down : Bool
  fuse : Int
  mask : Nat
/-- A block's slice: 128 bytes in a block of their own. -/
def slotB (w : World) (v : Value) (bs : List UInt8) : Prop := ∃ a, v = .slice (some ⟨a, 0, none⟩) 128 128 ∧ BlkAt w a 5 (bcells bs).toArray ∧ bs.length = 128
def waitC (ws : List (Nat × Value)) : List Value := ws.flatMap fun x => [.int .i64 (x.1 : Nat), x.2]
structure DevR (w : World) (p : Nat) (d : DevV) (KA : Option Addr) (kn kc : Nat) (WA : Option Addr) (wn wc : Nat) (ks : List Value) (ws : List (Nat × Value)) : Prop where
  blk : BlkAt w p 87 #[.slice KA kn kc, .slice WA wn wc, .bool d.down, .int .i64 d.fuse, .int .u64 (d.mask : Nat)]
  hk : w.ownsRow 0 22 1 (.slice KA kn kc) kn ks
  hw : w.ownsRow 0 90 2 (.slice WA wn wc) wn (waitC ws)
  kl : d.kept.length = kn
  wl : d.wait.length = wn
  kb : ∀ (j : Nat) (bs : List UInt8), d.kept[j]? = some bs → ∃ v, ks[j]? = some v ∧ slotB w v bs
  wb : ∀ (j : Nat) (x : Nat × List UInt8), d.wait[j]? = some x → ∃ v, ws[j]? = some (x.1, v) ∧ slotB w v x.2
  wk : ∀ x ∈ d.wait, x.1 < d.kept.length
  fz : -1 ≤ d.fuse ∧ d.fuse ≤ 9223372036854775807
  mb : d.mask ≤ 18446744073709551615
def DevAt (w : World) (p : Nat) (d : DevV) : Prop := ∃ KA kn kc WA wn wc ks ws, DevR w p d KA kn kc WA wn wc ks ws
/-- The device's blocks: its own, and its two rows. -/
def devB (p : Nat) (w : World) (k : Nat) : Prop := k = p ∨ ∃ C, w.heap[p]? = some (.cells C 87 (0, 0)) ∧ ((∃ v, C[0]? = some v ∧ v.ownBlock = some k) ∨ (∃ v, C[1]? = some v ∧ v.ownBlock = some k))
theorem own_typ {w : World} {base n : Nat} {e : TypeId} {size : Nat} {v : Value} {xs : List Value} (h : w.ownsRow base e size v n xs) {k : Nat} (hk : v.ownBlock = some k) : ∃ C, w.heap[k]? = some (.cells C e (0, 0)) := by
  rcases h.2 with ⟨rfl, _⟩ | ⟨g, cap, cur, rfl, _, hg, _⟩
  · cases hk
  · have : g = k := by simpa [Value.ownBlock] using hk
    subst this; exact ⟨cur, hg⟩
theorem DevR.not_b {w : World} {p : Nat} {d : DevV} {KA : Option Addr} {kn kc : Nat} {WA : Option Addr} {wn wc : Nat} {ks : List Value} {ws : List (Nat × Value)} (h : DevR w p d KA kn kc WA wn wc ks ws) {a : Nat} {C : Array Value} (hb : BlkAt w a 5 C) : ¬ devB p w a := by
  rintro (rfl | ⟨D, hD, hv⟩)
  · have := h.blk; unfold BlkAt at this hb; rw [this] at hb; simp at hb
  · have h1 := h.blk
    unfold BlkAt at h1 hb
    rw [h1] at hD
    have e : D = #[.slice KA kn kc, .slice WA wn wc, .bool d.down, .int .i64 d.fuse, .int .u64 (d.mask : Nat)] := by
      simp only [Option.some.injEq, Obj.cells.injEq, true_and, and_true] at hD; exact hD.symm
    subst e
    rcases hv with ⟨v, e1, e2⟩ | ⟨v, e1, e2⟩
    · simp at e1; subst e1
      obtain ⟨C', hC'⟩ := own_typ h.hk e2
      rw [hb] at hC'; simp at hC'
    · simp at e1; subst e1
      obtain ⟨C', hC'⟩ := own_typ h.hw e2
      rw [hb] at hC'; simp at hC'
theorem slotB.fr {S : Nat → Prop} {w w' : World} {v : Value} {bs : List UInt8} (h : slotB w v bs) (f : Fr S w w') (hS : ∀ a, BlkAt w a 5 (bcells bs).toArray → ¬ S a) : slotB w' v bs := by
  obtain ⟨a, h1, h2, h3⟩ := h
  exact ⟨a, h1, h2.fr f (hS a h2), h3⟩
theorem DevR.fr {S : Nat → Prop} {w w' : World} {p : Nat} {d : DevV} {KA : Option Addr} {kn kc : Nat} {WA : Option Addr} {wn wc : Nat} {ks : List Value} {ws : List (Nat × Value)} (h : DevR w p d KA kn kc WA wn wc ks ws) (f : Fr S w w') (hS : ∀ k, S k → ¬ devB p w k) (hT : ∀ k C, S k → ¬ BlkAt w k 5 C) : DevR w' p d KA kn kc WA wn wc ks ws := by
  have hb := h.blk
  have hp : ∀ k, S k → k ≠ p := fun k hk e => hS k hk (.inl e)
  refine ⟨h.blk.fr f (fun g => hp p g rfl), own_fr h.hk f (fun g hg hs => hS g hs (.inr ⟨_, hb, .inl ⟨_, rfl, hg⟩⟩)), own_fr h.hw f (fun g hg hs => hS g hs (.inr ⟨_, hb, .inr ⟨_, rfl, hg⟩⟩)), h.kl, h.wl, fun j bs hj => ?_, fun j x hj => ?_, h.wk, h.fz, h.mb⟩
  · obtain ⟨v, h1, h2⟩ := h.kb j bs hj
    exact ⟨v, h1, h2.fr f fun a ha hs => hT a _ hs ha⟩
  · obtain ⟨v, h1, h2⟩ := h.wb j x hj
    exact ⟨v, h1, h2.fr f fun a ha hs => hT a _ hs ha⟩
theorem DevAt.fr0 {w w' : World} {p : Nat} {d : DevV} (h : DevAt w p d) (f : Fr noB w w') : DevAt w' p d := by
  obtain ⟨KA, kn, kc, WA, wn, wc, ks, ws, h⟩ := h
  exact ⟨KA, kn, kc, WA, wn, wc, ks, ws, h.fr f (fun _ g => g.elim) (fun _ _ g => g.elim)⟩
/-- A step of the device: its own blocks are turned, and new ones. -/
structure DStep (p : Nat) (w w' : World) : Prop where
  fr : Fr (devB p w) w w'
  foot : ∀ k, devB p w' k → devB p w k ∨ w.heap.size ≤ k
theorem DStep.refl (p : Nat) (w : World) : DStep p w w := ⟨Fr.refl _ _, fun _ h => .inl h⟩
theorem DStep.trans {p : Nat} {a b c : World} (h : DStep p a b) (k : DStep p b c) : DStep p a c :=
  ⟨h.fr.trans k.fr fun i hi hf => (h.foot i hf).elim id fun h => by omega,
   fun i hi => (k.foot i hi).elim (fun h' => h.foot i h') fun h' => .inr (Nat.le_trans h.fr.size h')⟩
def thereE (d : DevV) (i : Int) : Nat := if d.down then 15 else if i < 0 ∨ (d.kept.length : Int) ≤ i then 1 else 0
set_option maxRecDepth 100000 in
set_option maxHeartbeats 800000 in
theorem there_calls (w : World) (p : Nat) (d : DevV) (i : Int) (h : DevAt w p d) : Calls Try.prog 41 #[.pointer (some ⟨p, 0, none⟩), .int .i64 i] w (fun e w' => e = .returned (.int .i64 (thereE d i : Nat)) ∧ w = w') := by
  obtain ⟨KA, kn, kc, WA, wn, wc, ks, ws, h⟩ := h
  obtain ⟨x0, x1, x2, x3, x4, xf⟩ := BlkAt.c5 h.blk
  have HV : Hid (thereE d i = if d.down then 15 else if i < 0 ∨ (kn : Int) ≤ i then 1 else 0) := by unfold Hid thereE; rw [h.kl]
  generalize d.down = dn at *
  obtain ⟨v1, h1⟩ : ∃ v, decide (i < 0) = v := ⟨_, rfl⟩
  obtain ⟨v2, h2⟩ : ∃ v, decide ((kn : Int) ≤ i) = v := ⟨_, rfl⟩
  have HV2 : Hid (thereE d i = if dn then 15 else if v1 || v2 then 1 else 0) := by
    unfold Hid; rw [HV.out, ← h1, ← h2]; simp
  clear HV h
  cases dn <;> cases v1 <;> cases v2
  all_goals
    go_enter Try.func41, Try.ntmps41
    go_wp2_with fail
    go_ret
    exact ⟨by rw [HV2.out]; rfl, rfl⟩
theorem devB_cells {p : Nat} {w w' : World} {C C' : Array Value} (h : BlkAt w p 87 C) (h' : BlkAt w' p 87 C') (h0 : C[0]? = C'[0]?) (h1 : C[1]? = C'[1]?) (k : Nat) : devB p w' k → devB p w k := by
  rintro (rfl | ⟨D, hD, hv⟩)
  · exact .inl rfl
  · unfold BlkAt at h'
    rw [h'] at hD
    have e : D = C' := by simp only [Option.some.injEq, Obj.cells.injEq, true_and, and_true] at hD; exact hD.symm
    subst e
    exact .inr ⟨C, h, by rw [h0, h1]; exact hv⟩
theorem DevR.turn {w w' : World} {p : Nat} {d d' : DevV} {KA : Option Addr} {kn kc : Nat} {WA : Option Addr} {wn wc : Nat} {ks : List Value} {ws : List (Nat × Value)} (h : DevR w p d KA kn kc WA wn wc ks ws) (f : Fr (eqB p) w w') (hb : BlkAt w' p 87 #[.slice KA kn kc, .slice WA wn wc, .bool d'.down, .int .i64 d'.fuse, .int .u64 (d'.mask : Nat)]) (e1 : d'.kept = d.kept) (e2 : d'.wait = d.wait) (hf : -1 ≤ d'.fuse ∧ d'.fuse ≤ 9223372036854775807) (hm : d'.mask ≤ 18446744073709551615) : DevAt w' p d' ∧ DStep p w w' := by
  have hpt : ∀ {k : Nat} {C : Array Value}, BlkAt w k 5 C → k ≠ p := fun hk e => h.not_b hk (.inl e)
  have ho : ∀ {v : Value} {e : TypeId} {s n : Nat} {xs : List Value}, w.ownsRow 0 e s v n xs → e ≠ 87 → ∀ g, v.ownBlock = some g → g ≠ p := fun hv hne g hg e' => by
    obtain ⟨C, hC⟩ := own_typ hv hg
    have := h.blk; unfold BlkAt at this
    subst e'
    rw [this] at hC
    simp only [Option.some.injEq, Obj.cells.injEq, and_true] at hC
    exact hne hC.2.symm
  refine ⟨⟨KA, kn, kc, WA, wn, wc, ks, ws, hb, own_fr h.hk f (fun g hg hs => ho h.hk (by decide) g hg hs), own_fr h.hw f (fun g hg hs => ho h.hw (by decide) g hg hs), by rw [e1]; exact h.kl, by rw [e2]; exact h.wl, fun j bs hj => ?_, fun j x hj => ?_, by rw [e1, e2]; exact h.wk, hf, hm⟩, ⟨f.mono fun k _ g => .inl g, fun k hk => .inl (devB_cells h.blk hb rfl rfl k hk)⟩⟩
  · rw [e1] at hj
    obtain ⟨v, h1, h2⟩ := h.kb j bs hj
    exact ⟨v, h1, h2.fr f fun a ha hs => hpt ha hs⟩
  · rw [e2] at hj
    obtain ⟨v, h1, h2⟩ := h.wb j x hj
    exact ⟨v, h1, h2.fr f fun a ha hs => hpt ha hs⟩
def DPost (w : World) (p : Nat) (d : DevV) (v : Value) (e : Ending) (w' : World) : Prop := e = .returned v ∧ DevAt w' p d ∧ DStep p w w'
set_option maxRecDepth 100000 in
set_option maxHeartbeats 800000 in
theorem start_calls (w : World) (p : Nat) (d : DevV) (h : DevAt w p d) : Calls Try.prog 24 #[.pointer (some ⟨p, 0, none⟩)] w (DPost w p { d with down := false } (.tuple #[])) := by
  obtain ⟨KA, kn, kc, WA, wn, wc, ks, ws, h⟩ := h
  obtain ⟨x0, x1, x2, x3, x4, xf⟩ := BlkAt.c5 h.blk
  have xf2 := xf 2
  have hb := h.blk.set 2 (.bool false)
  have f := fr_set1 w p 2 (.bool false)
  go_enter Try.func24, Try.ntmps24
  go_wp2_with fail
  go_end0
  exact ⟨rfl, h.turn f hb rfl rfl h.fz h.mb⟩
def armD (d : DevV) (n : Int) (m : Nat) : DevV := if d.down then d else { d with fuse := max 0 n, mask := m }
end Go.Proofs.Ytnkdlmmdaagonaa
/- block.Device: Arm; a write that is kept. -/
namespace Go.Proofs.Ytnkdlmmdaagonaa
open Go.RowKit
set_option maxRecDepth 100000 in
set_option maxHeartbeats 800000 in
theorem arm_calls (w : World) (p : Nat) (d : DevV) (n : Int) (m : Nat) (h : DevAt w p d) (hn : n ≤ 9223372036854775807) (hm : m ≤ 18446744073709551615) : Calls Try.prog 23 #[.pointer (some ⟨p, 0, none⟩), .int .i64 n, .int .u64 m] w (DPost w p (armD d n m) (.tuple #[])) := by
  obtain ⟨KA, kn, kc, WA, wn, wc, ks, ws, h⟩ := h
  obtain ⟨x0, x1, x2, x3, x4, xf⟩ := BlkAt.c5 h.blk
  have xf3 := xf 3
  have xf4 := xf 4
  obtain ⟨dn, hdn⟩ : ∃ v, d.down = v := ⟨_, rfl⟩
  cases dn
  · have hT : Hid (∀ q : Int, max 0 n = q → DevAt ((w.setCell ⟨p, 3, none⟩ (.int .i64 q)).setCell ⟨p, 4, none⟩ (.int .u64 m)) p (armD d n m) ∧ DStep p w ((w.setCell ⟨p, 3, none⟩ (.int .i64 q)).setCell ⟨p, 4, none⟩ (.int .u64 m))) := fun q hq => by
      have HA : armD d n m = { d with fuse := q, mask := m } := by unfold armD; rw [hdn, ← hq]; rfl
      rw [HA]
      exact h.turn (d' := { d with fuse := q, mask := m }) ((fr_set1 w p 3 (.int .i64 q)).then' (fr_set1 _ p 4 (.int .u64 m))) ((h.blk.set 3 (.int .i64 q)).set 4 (.int .u64 m)) rfl rfl (by simp only; omega) hm
    rw [hdn] at x2
    clear h hdn
    go_enter Try.func23, Try.ntmps23
    go_wp2_with fail
    all_goals
      go_end0
      exact ⟨rfl, hT.out _ (by omega)⟩
  · have HA : Hid (armD d n m = d) := by unfold Hid armD; rw [hdn]; rfl
    rw [hdn] at x2
    clear hdn
    go_enter Try.func23, Try.ntmps23
    go_wp2_with fail
    go_end0
    exact ⟨rfl, by rw [HA.out]; exact ⟨_, _, _, _, _, _, _, _, h⟩, DStep.refl _ _⟩
/-- A write that waited is kept. -/
theorem DevR.keep1 {w : World} {p : Nat} {d : DevV} {g kn kc : Nat} {WA : Option Addr} {wn wc : Nat} {ks : List Value} {ws : List (Nat × Value)} (h : DevR w p d (some ⟨g, 0, none⟩) kn kc WA wn wc ks ws) (i : Nat) (v : Value) (bs : List UInt8) (hv : slotB w v bs) (hi : i < kn) :
    DevR (w.setCell ⟨g, i, none⟩ v) p { d with kept := d.kept.set i bs } (some ⟨g, 0, none⟩) kn kc WA wn wc (ks.set i v) ws ∧ Fr (eqB g) w (w.setCell ⟨g, i, none⟩ v) := by
  have f := fr_set1 w g i v
  have hgB : devB p w g := .inr ⟨_, h.blk, .inl ⟨_, rfl, rfl⟩⟩
  have hgp : g ≠ p := fun e => by
    obtain ⟨C, hC⟩ := own_typ h.hk (k := g) rfl
    have := h.blk; unfold BlkAt at this
    subst e; rw [this] at hC; simp at hC
  have hgT : ∀ {a : Nat} {C : Array Value}, BlkAt w a 5 C → ¬ eqB g a := fun hb e => h.not_b hb (by unfold eqB at e; rw [e]; exact hgB)
  have hgW : ∀ k, (Value.slice WA wn wc).ownBlock = some k → ¬ eqB g k := fun k hk e => by
    obtain ⟨C, hC⟩ := own_typ h.hw hk
    obtain ⟨D, hD⟩ := own_typ h.hk (k := g) rfl
    unfold eqB at e; subst e
    rw [hC] at hD; simp at hD
  refine ⟨⟨h.blk.fr f (fun e => hgp e.symm), (h.hk.stored i v).1, own_fr h.hw f hgW, by simpa using h.kl, h.wl, fun j b hj => ?_, fun j x hj => ?_, fun x hx => by simpa using h.wk x hx, h.fz, h.mb⟩, f⟩
  · simp only [List.getElem?_set] at hj ⊢
    have hks : ks.length = kn := by have := h.hk.1; omega
    have hkl := h.kl
    by_cases e : i = j
    · subst e
      rw [if_pos rfl, if_pos (by omega)] at hj
      simp only [Option.some.injEq] at hj
      subst hj
      exact ⟨v, by simp; omega, hv.fr f fun a ha => hgT ha⟩
    · rw [if_neg e] at hj
      obtain ⟨u, h1, h2⟩ := h.kb j b hj
      exact ⟨u, by rw [if_neg e]; exact h1, h2.fr f fun a ha => hgT ha⟩
  · obtain ⟨u, h1, h2⟩ := h.wb j x hj
    exact ⟨u, h1, h2.fr f fun a ha => hgT ha⟩
/-- Writes that wait, from the j-th on: those of which it is said so are kept. -/
def keepL (is : Nat → Bool) : Nat → List (Nat × List UInt8) → List (List UInt8) → List (List UInt8)
  | _, [], K => K
  | j, x :: l, K => keepL is (j + 1) l (if is j then K.set x.1 x.2 else K)
theorem keepL_len (is : Nat → Bool) : ∀ (j : Nat) (l : List (Nat × List UInt8)) (K : List (List UInt8)), (keepL is j l K).length = K.length
  | _, [], _ => rfl
  | j, x :: l, K => by
    unfold keepL; rw [keepL_len is (j + 1) l]; split <;> simp
def keepD (is : Nat → Bool) (d : DevV) : DevV := { d with kept := keepL is 0 d.wait d.kept, wait := [] }
/-- What is left of a device's waiting row when it is emptied. -/
theorem DevR.empty {w : World} {p : Nat} {d : DevV} {KA : Option Addr} {kn kc : Nat} {WA : Option Addr} {wn wc : Nat} {ks : List Value} {ws : List (Nat × Value)} (h : DevR w p d KA kn kc WA wn wc ks ws) : DevAt (w.setCell ⟨p, 1, none⟩ (.slice none 0 0)) p { d with wait := [] } ∧ DStep p w (w.setCell ⟨p, 1, none⟩ (.slice none 0 0)) := by
  have f := fr_set1 w p 1 (.slice none 0 0)
  have hb := h.blk.set 1 (.slice none 0 0)
  have hpt : ∀ {k : Nat} {C : Array Value}, BlkAt w k 5 C → ¬ eqB p k := fun hk e => h.not_b hk (.inl e)
  have hok : ∀ g, (Value.slice KA kn kc).ownBlock = some g → ¬ eqB p g := fun g hg e => by
    obtain ⟨C, hC⟩ := own_typ h.hk hg
    have := h.blk; unfold BlkAt at this
    unfold eqB at e; subst e
    rw [this] at hC; simp at hC
  refine ⟨⟨KA, kn, kc, none, 0, 0, ks, [], ⟨hb, own_fr h.hk f hok, World.ownsRow_nil _ _ _ _, h.kl, rfl, fun j bs hj => ?_, fun j x hj => by simp at hj, fun x hx => by simp at hx, h.fz, h.mb⟩⟩, ⟨f.mono fun k _ g => .inl g, fun k hk => ?_⟩⟩
  · obtain ⟨v, h1, h2⟩ := h.kb j bs hj
    exact ⟨v, h1, h2.fr f fun a ha => hpt ha⟩
  · rcases hk with rfl | ⟨D, hD, hv⟩
    · exact .inl (.inl rfl)
    · unfold BlkAt at hb
      rw [hb] at hD
      have e : D = #[.slice KA kn kc, .slice none 0 0, .bool d.down, .int .i64 d.fuse, .int .u64 (d.mask : Nat)] := by
        simp only [Option.some.injEq, Obj.cells.injEq, true_and, and_true] at hD; exact hD.symm
      subst e
      rcases hv with ⟨v, e1, e2⟩ | ⟨v, e1, e2⟩
      · exact .inl (.inr ⟨_, h.blk, .inl ⟨v, e1, e2⟩⟩)
      · simp at e1; subst e1; cases e2
end Go.Proofs.Ytnkdlmmdaagonaa
/- block.Device: keep. -/
namespace Go.Proofs.Ytnkdlmmdaagonaa
open Go.RowKit
theorem ownsRow_succD {W : World} {base : Nat} {e : TypeId} {size n : Nat} {v : Value} {xs : List Value} (h : W.ownsRow base e size v n xs) (hn : 0 < n) : ∃ g cap, v = .slice (some ⟨g, 0, none⟩) n cap := by
  rcases h.2 with ⟨_, h0⟩ | ⟨g, cap, cur, e, _⟩
  · omega
  · exact ⟨g, cap, e⟩
theorem own_maxD {w : World} {base n : Nat} {e : TypeId} {size : Nat} {v : Value} {xs : List Value} (h : w.ownsRow base e size v n xs) : n ≤ 9223372036854775807 := by
  rcases h.2 with ⟨_, h0⟩ | ⟨g, cap, cur, e, _, _, hc, hm, _⟩
  · omega
  · exact Nat.le_trans hc (Nat.le_trans hm (by decide))
theorem waitC_get {ws : List (Nat × Value)} {k i : Nat} {v : Value} (h : ws[k]? = some (i, v)) : (waitC ws)[k * 2]? = some (.int .i64 i) ∧ (waitC ws)[k * 2 + 1]? = some v := by
  induction ws generalizing k with
  | nil => simp at h
  | cons x l ih =>
    cases k with
    | zero => simp at h; subst h; simp [waitC]
    | succ k =>
      have := ih (k := k) (by simpa using h)
      unfold waitC at this ⊢
      rw [List.flatMap_cons, show (k + 1) * 2 = k * 2 + 2 by omega]
      simpa using this
theorem keepL_step {is : Nat → Bool} {l : List (Nat × List UInt8)} {k i : Nat} {bs : List UInt8} (K : List (List UInt8)) (h : l[k]? = some (i, bs)) : keepL is k (l.drop k) K = keepL is (k + 1) (l.drop (k + 1)) (if is k then K.set i bs else K) := by
  obtain ⟨hk, e⟩ := List.getElem?_eq_some_iff.mp h
  rw [List.drop_eq_getElem_cons hk, e]
  rfl
theorem flush1_calls (w : World) (k : Nat) : Calls Try.prog 52 #[.int .i64 k] w (fun e w' => e = .returned (.bool true) ∧ w = w') := by
  go_enter Try.func52, Try.ntmps52
  go_wp2_with fail
  go_ret
  exact ⟨rfl, rfl⟩
def KeepC (w4 : World) (gk i : Nat) (v : Value) : Nat → World → Prop
  | 0, W => Fr noB w4 W
  | _, W => ∃ W0, Fr noB w4 W0 ∧ W = W0.setCell ⟨gk, i, none⟩ v
theorem KeepC.blk {w4 W : World} {gk i : Nat} {v : Value} {q x : Nat} {T : TypeId} {C : Array Value} (h : KeepC w4 gk i v q W) (hb : BlkAt w4 x T C) (hx : x ≠ gk) : BlkAt W x T C := by
  cases q with
  | zero => exact hb.fr (h : Fr noB w4 W) id
  | succ q =>
    obtain ⟨W0, f, rfl⟩ := (h : ∃ W0, Fr noB w4 W0 ∧ W = W0.setCell ⟨gk, i, none⟩ v)
    exact (hb.fr f id).fr (fr_set1 W0 gk i v) hx
set_option maxRecDepth 100000 in
set_option maxHeartbeats 3200000 in
theorem keepAll_calls (w : World) (p : Nat) (d : DevV) (h : DevAt w p d) : Calls Try.prog 51 #[.pointer (some ⟨p, 0, none⟩), .func (.func 52) #[] #[]] w (DPost w p (keepD (fun _ => true) d) (.tuple #[])) := by
  obtain ⟨KA, kn, kc, WA, wn, wc, ks, ws, h⟩ := h
  obtain ⟨x0, x1, x2, x3, x4, xf⟩ := BlkAt.c5 h.blk
  have hwm := own_maxD h.hw
  go_enter Try.func51, Try.ntmps51
  go_wp2_with fail
  go_loopw [11] (fun i wr => ∃ (k : Nat) (ks' : List Value) (K' : List (List UInt8)), k ≤ wn ∧ i = .int .i64 k ∧ DevR wr p { d with kept := K' } KA kn kc WA wn wc ks' ws ∧ Hid (keepL (fun _ => true) k (d.wait.drop k) K' = keepL (fun _ => true) 0 d.wait d.kept) ∧ Fr (devB p w) w wr ∧ Hid (∀ x, devB p wr x → devB p w x)) (fun i _ => wn - (intOf i).toNat)
  case atStart => exact ⟨0, ks, d.kept, Nat.zero_le _, rfl, h, rfl, Fr.refl _ _, fun _ hx => hx⟩
  case round =>
    obtain ⟨k, ks', K', hk, rfl, hR, HK, hf, HB⟩ := hrel
    by_cases hkn : k < wn
    · obtain ⟨⟨i, bs⟩, hx⟩ : ∃ x, d.wait[k]? = some x := ⟨_, List.getElem?_eq_getElem (by rw [h.wl]; exact hkn)⟩
      obtain ⟨v, hv, hs⟩ := hR.wb k (i, bs) hx
      simp only at hv hs
      obtain ⟨gw, cap, hgw⟩ := ownsRow_succD hR.hw (by omega)
      obtain ⟨rfl, rfl⟩ := (by simpa using hgw : WA = some ⟨gw, 0, none⟩ ∧ wc = cap)
      obtain ⟨c0, c1⟩ := waitC_get hv
      have ca : wr.cell? ⟨gw, k * 2, none⟩ = some (.int .i64 i) := by rw [hR.hw.cellAt _ (by omega)]; exact c0
      have cb : wr.cell? ⟨gw, k * 2 + 1, none⟩ = some v := by rw [hR.hw.cellAt _ (by omega)]; exact c1
      obtain ⟨av, hvv, hba, hbl⟩ := hs
      subst hvv
      have hs : slotB wr (.slice (some ⟨av, 0, none⟩) 128 128) bs := ⟨av, rfl, hba, hbl⟩
      go_upto_region 3 with fail
      have h5 : BlkAt (wr.alloc (.cells #[.int .i64 i, .slice (some ⟨av, 0, none⟩) 128 128] 90)) wr.heap.size 90 #[.int .i64 i, .slice (some ⟨av, 0, none⟩) 128 128] := BlkAt.new _ _ _
      have fa := (Fr.refl noB wr).alloc (.cells #[.int .i64 i, .slice (some ⟨av, 0, none⟩) 128 128] 90)
      have hR4 := hR.fr fa (fun _ g => g.elim) (fun _ _ g => g.elim)
      have hs4 : slotB (wr.alloc (.cells #[.int .i64 i, .slice (some ⟨av, 0, none⟩) 128 128] 90)) (.slice (some ⟨av, 0, none⟩) 128 128) bs := ⟨av, rfl, hba.fr fa id, hbl⟩
      obtain ⟨b5, hb5⟩ : ∃ x, wr.heap.size = x := ⟨_, rfl⟩
      have hi : i < kn := by have h1 := hR.wk _ (List.mem_of_getElem? hx); have h2 := hR.kl; simp only at h1 h2; omega
      obtain ⟨gk, capk, hgk⟩ := ownsRow_succD hR.hk (by omega)
      obtain ⟨rfl, rfl⟩ := (by simpa using hgk : KA = some ⟨gk, 0, none⟩ ∧ kc = capk)
      have hgl : gk < wr.heap.size := (hR.hk.lt gk rfl).2
      have hpl := hR.blk.lt
      have hgp : gk ≠ p := fun e => by
        obtain ⟨C, hC⟩ := own_typ hR.hk (k := gk) rfl
        have := hR.blk; unfold BlkAt at this
        subst e; rw [this] at hC; simp at hC
      have hgB : devB p wr gk := .inr ⟨_, hR.blk, .inl ⟨_, rfl, rfl⟩⟩
      rw [hb5] at h5 hgl hpl ⊢
      have HX := hid (keepL_step (is := fun _ => true) K' hx)
      generalize hw4 : (wr.alloc _) = w4 at *
      clear hw4 ca cb hb5 hs hba hR
      go_wp2_with fail
      refine (flush1_calls w4 k).mono ?_
      rintro e w' ⟨rfl, rfl⟩
      go_wp2_with fail
      apply wp_region_calm (R := Fr (eqB gk)) (C := fun q W => KeepC w4 gk i (.slice (some ⟨av, 0, none⟩) 128 128) q W) [false, false, false, false, false, false, false, false, false, true]
        [eqv _, eqv _, eqv _, eqv _, eqv _, eqv _, eqv _, eqv _, eqv _, anyv]
        (by kernel_rfl) (by kernel_rfl) (fun _ _ _ h1 h2 => h1.then' h2) ((Fr.refl _ _).drew) ((Fr.refl noB w4).drew) (by kernel_rfl)
      · refine ⟨?_, ?_, ?_, ?_, ?_, ?_, ?_, ?_, ?_, ?_, trivial⟩
        · rw [if_neg (by decide)]; intro kq
          exact calm_mv 0 rfl rfl (Or.inl rfl) (Fr.refl _) (by decide) fun v w hd => hd
        · rw [if_neg (by decide)]; intro kq
          intro a W K hC hd hK
          have d19 : _ = _ := hd 19 (by decide)
          refine wpOp_plain rfl rfl ?_
          go_wp2_with fail
          exact hK _ _ (Fr.refl _ _) hC rfl
        · rw [if_neg (by decide)]; intro kq
          intro a W K hC hd hK
          have d20 : _ = _ := hd 20 (by decide)
          refine wpOp_plain rfl rfl ?_
          obtain ⟨y0, y1, y2, y3, y4, yf⟩ := BlkAt.c5 (KeepC.blk hC hR4.blk (Ne.symm hgp))
          obtain ⟨z0, z1, zf⟩ := BlkAt.c2 (KeepC.blk hC h5 (by omega))
          go_wp2_with fail
          exact hK _ _ (Fr.refl _ _) hC rfl
        · rw [if_neg (by decide)]; intro kq
          intro a W K hC hd hK
          have d21 : _ = _ := hd 21 (by decide)
          refine wpOp_plain rfl rfl ?_
          obtain ⟨y0, y1, y2, y3, y4, yf⟩ := BlkAt.c5 (KeepC.blk hC hR4.blk (Ne.symm hgp))
          obtain ⟨z0, z1, zf⟩ := BlkAt.c2 (KeepC.blk hC h5 (by omega))
          go_wp2_with fail
          exact hK _ _ (Fr.refl _ _) hC rfl
        · rw [if_neg (by decide)]; intro kq
          intro a W K hC hd hK
          have d5 : a.tmps[5]?.getD undef = .pointer (some ⟨b5, 0, none⟩) := hd 5 (by decide)
          refine wpOp_plain rfl rfl ?_
          obtain ⟨y0, y1, y2, y3, y4, yf⟩ := BlkAt.c5 (KeepC.blk hC hR4.blk (Ne.symm hgp))
          obtain ⟨z0, z1, zf⟩ := BlkAt.c2 (KeepC.blk hC h5 (by omega))
          go_wp2_with fail
          exact hK _ _ (Fr.refl _ _) hC rfl
        · rw [if_neg (by decide)]; intro kq
          intro a W K hC hd hK
          have d23 : _ = _ := hd 23 (by decide)
          refine wpOp_plain rfl rfl ?_
          obtain ⟨y0, y1, y2, y3, y4, yf⟩ := BlkAt.c5 (KeepC.blk hC hR4.blk (Ne.symm hgp))
          obtain ⟨z0, z1, zf⟩ := BlkAt.c2 (KeepC.blk hC h5 (by omega))
          go_wp2_with fail
          exact hK _ _ (Fr.refl _ _) hC rfl
        · rw [if_neg (by decide)]; intro kq
          intro a W K hC hd hK
          have d5 : a.tmps[5]?.getD undef = .pointer (some ⟨b5, 0, none⟩) := hd 5 (by decide)
          refine wpOp_plain rfl rfl ?_
          obtain ⟨y0, y1, y2, y3, y4, yf⟩ := BlkAt.c5 (KeepC.blk hC hR4.blk (Ne.symm hgp))
          obtain ⟨z0, z1, zf⟩ := BlkAt.c2 (KeepC.blk hC h5 (by omega))
          go_wp2_with fail
          exact hK _ _ (Fr.refl _ _) hC rfl
        · rw [if_neg (by decide)]; intro kq
          intro a W K hC hd hK
          have d25 : _ = _ := hd 25 (by decide)
          refine wpOp_plain rfl rfl ?_
          obtain ⟨y0, y1, y2, y3, y4, yf⟩ := BlkAt.c5 (KeepC.blk hC hR4.blk (Ne.symm hgp))
          obtain ⟨z0, z1, zf⟩ := BlkAt.c2 (KeepC.blk hC h5 (by omega))
          go_wp2_with fail
          exact hK _ _ (Fr.refl _ _) hC rfl
        · rw [if_neg (by decide)]; intro kq
          intro a W K hC hd hK
          have d22 : _ = _ := hd 22 (by decide)
          have d24 : _ = _ := hd 24 (by decide)
          refine wpOp_plain rfl rfl ?_
          obtain ⟨y0, y1, y2, y3, y4, yf⟩ := BlkAt.c5 (KeepC.blk hC hR4.blk (Ne.symm hgp))
          obtain ⟨z0, z1, zf⟩ := BlkAt.c2 (KeepC.blk hC h5 (by omega))
          go_wp2_with fail
          exact hK _ _ (Fr.refl _ _) hC rfl
        · rw [if_pos (by decide)]
          intro a W K hC hd hK
          replace hC : (fun q W => KeepC w4 gk i (.slice (some ⟨av, 0, none⟩) 128 128) q W) 0 W := hC
          have d27 : _ = _ := hd 27 (by decide)
          have d26 : _ = _ := hd 26 (by decide)
          refine wpOp_plain rfl rfl ?_
          obtain ⟨y0, y1, y2, y3, y4, yf⟩ := BlkAt.c5 (KeepC.blk hC hR4.blk (Ne.symm hgp))
          obtain ⟨z0, z1, zf⟩ := BlkAt.c2 (KeepC.blk hC h5 (by omega))
          have hC0 : Fr noB w4 W := hC
          have hRW := hR4.fr hC0 (fun _ g => g.elim) (fun _ _ g => g.elim)
          have hkl : ks'.length = kn := by have := hRW.hk.1; omega
          have ck : W.cell? ⟨gk, i, none⟩ = some ks'[i] := by rw [hRW.hk.cellAt i (by omega)]; exact List.getElem?_eq_getElem (by omega)
          have cf : W.frozen? ⟨gk, i, none⟩ = false := hRW.hk.frozenAt i
          have fs := fr_set1 W gk i (.slice (some ⟨av, 0, none⟩) 128 128)
          go_wp2_with fail
          exact hK undef _ fs ⟨W, hC0, rfl⟩ trivial
      · intro vs w9 fw9 cw9 hV
        have v19 : vs 0 = _ := hV 0 _ _ rfl rfl (by decide)
        have v20 : vs 1 = _ := hV 1 _ _ rfl rfl (by decide)
        have v21 : vs 2 = _ := hV 2 _ _ rfl rfl (by decide)
        have v22 : vs 3 = _ := hV 3 _ _ rfl rfl (by decide)
        have v23 : vs 4 = _ := hV 4 _ _ rfl rfl (by decide)
        have v24 : vs 5 = _ := hV 5 _ _ rfl rfl (by decide)
        have v25 : vs 6 = _ := hV 6 _ _ rfl rfl (by decide)
        have v26 : vs 7 = _ := hV 7 _ _ rfl rfl (by decide)
        have v27 : vs 8 = _ := hV 8 _ _ rfl rfl (by decide)
        clear hV
        simp only [putL, Act.put, Nat.reduceAdd, List.setIfInBounds_toArray, List.set_cons_zero, List.set_cons_succ, v19, v20, v21, v22, v23, v24, v25, v26, v27]
        obtain ⟨W0, f0, rfl⟩ := cw9
        have hR0 := hR4.fr f0 (fun _ g => g.elim) (fun _ _ g => g.elim)
        have hs0 : slotB W0 (.slice (some ⟨av, 0, none⟩) 128 128) bs := hs4.fr f0 (fun _ _ => id)
        obtain ⟨hR1, f1⟩ := hR0.keep1 i _ bs hs0 hi
        have fw : Fr (devB p w) w (W0.setCell ⟨gk, i, none⟩ (.slice (some ⟨av, 0, none⟩) 128 128)) := ((hf.then' (fa.mono fun _ _ h => h.elim)).then' (f0.mono fun _ _ h => h.elim)).trans f1 (fun x hx h => by unfold eqB at h; subst h; exact HB.out _ hgB)
        have HB1 : Hid (∀ x, devB p (W0.setCell ⟨gk, i, none⟩ (.slice (some ⟨av, 0, none⟩) 128 128)) x → devB p w x) := fun x hx => devB_cells h.blk hR1.blk rfl rfl x hx
        have HK1 : Hid (keepL (fun _ => true) (k + 1) (d.wait.drop (k + 1)) (K'.set i bs) = keepL (fun _ => true) 0 d.wait d.kept) := by
          unfold Hid; rw [← HK.out, HX.out]; simp
        have hR2 := hid hR1
        have FW := hid fw
        clear hR1 fw f1 hR0 hs0 hR4 hs4 f0
        go_wp2_with fail
        go_roundw
        case rel => exact ⟨k + 1, _, K'.set i bs, by omega, by go_num, hR2.out, HK1, FW.out, HB1⟩
        case measure => simp [intOf]; omega
    · obtain rfl : k = wn := by omega
      obtain ⟨y0, y1, y2, y3, y4, yf⟩ := BlkAt.c5 hR.blk
      have yf1 := yf 1
      obtain ⟨e1, e2⟩ := hR.empty
      have hKL := HK.out
      rw [List.drop_eq_nil_of_le (by rw [h.wl]; exact Nat.le_refl _)] at hKL
      have HD : Hid (({ d with kept := K', wait := [] } : DevV) = keepD (fun _ => true) d) := by
        unfold Hid keepD
        rw [← hKL]; rfl
      have HE := hid e1
      have HS : Hid (DStep p w (wr.setCell ⟨p, 1, none⟩ (.slice none 0 0))) := DStep.trans ⟨hf, fun x hx => .inl (HB.out x hx)⟩ e2
      clear e1 e2 hKL
      go_wp2_with fail
      go_end0
      exact ⟨rfl, by rw [← HD.out]; exact HE.out, HS.out⟩
end Go.Proofs.Ytnkdlmmdaagonaa
