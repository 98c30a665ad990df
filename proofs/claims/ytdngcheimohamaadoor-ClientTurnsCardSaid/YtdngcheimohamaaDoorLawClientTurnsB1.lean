/- What the row leans on, part 1: contracts and plain laws. -/
import Derived.Test.YtdngcheimohamaaDoorProg
import Derived.WalkKit
import Derived.Maps.AppendAt
import Derived.Lib.AppendStr
import Derived.Laws.AppendOwnNone
import Derived.Deep.Draws
import Derived.WalkSpells
import Derived.Laws.IdiomStrings
import Derived.Lib.ConvBytes
import Derived.Lib.LaidTab
import Derived.LaidSub
import Derived.Deep.QuietTactic
import Derived.BigQuiet
import Derived.Lib.OthersKept
import Derived.Laws.RangeAny
import Derived.LaidEqlPtr
import Derived.Laws.StructEq
import Derived.Deep.MidRow
import Derived.Deep.Cut
import Derived.Maps.OwnOps
import Derived.Maps.Views
import Derived.WalkLawsBesides
import Derived.SliceStrings
import Derived.Deep.Slices
import Derived.Deep.Light
import Derived.Laws.Bits64b
import Derived.Laws.ResultCell
import Derived.Deep.RegionHeld3
import Derived.ProofKit
/- Memory words of this seat's proofs: frames over a set of blocks, owned rows, rows that are read. -/
namespace Go.Proofs.YtdngcheimohamaaDoor
open Go.RowKit

/-- A fact behind a name. -/
theorem hid {p : Prop} (h : p) : Hid p := h

/-- Outside of S nothing that was there has turned. -/
structure Fr (S : Nat → Prop) (w w' : World) : Prop where
  os : w'.os = w.os
  tape : w'.tape = w.tape
  output : w'.output = w.output
  size : w.heap.size ≤ w'.heap.size
  block : ∀ k, k < w.heap.size → ¬ S k → w'.heap[k]? = w.heap[k]?

def noB : Nat → Prop := fun _ => False
def andNew (S : Nat → Prop) (w : World) : Nat → Prop := fun k => S k ∨ w.heap.size ≤ k

theorem Fr.refl (S : Nat → Prop) (w : World) : Fr S w w := ⟨rfl, rfl, rfl, Nat.le_refl _, fun _ _ _ => rfl⟩
theorem Fr.trans {S T : Nat → Prop} {a b c : World} (h : Fr S a b) (k : Fr T b c) (hT : ∀ i, i < a.heap.size → T i → S i) : Fr S a c :=
  ⟨k.os.trans h.os, k.tape.trans h.tape, k.output.trans h.output, Nat.le_trans h.size k.size,
   fun i hi hn => (k.block i (Nat.lt_of_lt_of_le hi h.size) (fun t => hn (hT i hi t))).trans (h.block i hi hn)⟩
theorem Fr.mono {S T : Nat → Prop} {a b : World} (h : Fr S a b) (hT : ∀ i, i < a.heap.size → S i → T i) : Fr T a b :=
  ⟨h.os, h.tape, h.output, h.size, fun i hi hn => h.block i hi (fun s => hn (hT i hi s))⟩
/-- Two steps over the same set and what is new. -/
theorem Fr.then {S : Nat → Prop} {a b c : World} (h : Fr S a b) (k : Fr (andNew S a) b c) : Fr S a c :=
  h.trans k fun i hi t => t.elim id fun t => absurd t (by omega)
theorem Fr.then' {S : Nat → Prop} {a b c : World} (h : Fr S a b) (k : Fr S b c) : Fr S a c := h.trans k fun _ _ t => t
theorem Fr.drew {S : Nat → Prop} {a b : World} (h : Fr S a b) : Fr S a b.drew := ⟨h.os, h.tape, h.output, h.size, h.block⟩
theorem Fr.drewN {S : Nat → Prop} {a b : World} (h : Fr S a b) (n : Nat) : Fr S a (b.drewN n) := ⟨h.os, h.tape, h.output, h.size, h.block⟩
theorem Fr.alloc {S : Nat → Prop} {a b : World} (h : Fr S a b) (o : Obj) : Fr S a (b.alloc o) :=
  h.then' ⟨rfl, rfl, rfl, by simp, fun k hk _ => Below.heap_alloc _ _ _ (by omega)⟩
theorem Fr.setCell {S : Nat → Prop} {a b : World} (h : Fr S a b) {p : Addr} (hp : S p.block ∨ a.heap.size ≤ p.block) (u : Value) : Fr S a (b.setCell p u) :=
  ⟨h.os, h.tape, h.output, by have := h.size; simpa [World.setCell] using this, fun k hk hn => by
    rw [Below.heap_setCell _ _ _ _ (fun e => by subst e; rcases hp with hp | hp; exact hn hp; omega)]
    exact h.block k hk hn⟩
theorem Fr.grown {S : Nat → Prop} {a b c : World} {row : Option Nat} (h : Fr S a b) (hg : b.grownBy c row) (hr : ∀ k, row = some k → S k ∨ a.heap.size ≤ k) : Fr S a c :=
  ⟨hg.os.trans h.os, hg.tape.trans h.tape, hg.output.trans h.output, Nat.le_trans h.size hg.size, fun k hk hn =>
    (hg.block k (Nat.lt_of_lt_of_le hk h.size) (fun e => by rcases hr k e.symm with q | q; exact hn q; omega)).trans (h.block k hk hn)⟩
theorem Fr.below {B : Nat} {w w' : World} (h : Fr (fun k => B ≤ k) w w') (hB : B ≤ w.heap.size) : Below B w w' :=
  ⟨h.os, h.tape, h.output, h.size, fun k hk => h.block k (by omega) (by omega)⟩
theorem Fr.of_below {w w' : World} (h : Below w.heap.size w w') (S : Nat → Prop) : Fr S w w' :=
  ⟨h.os, h.tape, h.output, h.size, fun k hk _ => h.block k hk⟩
theorem Fr.below0 {w w' : World} (h : Fr noB w w') : Below w.heap.size w w' :=
  ⟨h.os, h.tape, h.output, h.size, fun k hk => h.block k hk id⟩
theorem Fr.cell {S : Nat → Prop} {w w' : World} (h : Fr S w w') {p : Addr} {v : Value} (hc : w.cell? p = some v) (hS : ¬ S p.block) : w'.cell? p = some v :=
  (World.cell?_of_block (h.block p.block (World.block_lt_of_cell? w p hc) hS)).trans hc
theorem cell_al {w : World} {a : Addr} {v : Value} (h : w.cell? a = some v) (o : Obj) : (w.alloc o).cell? a = some v := ((Fr.refl noB w).alloc o).cell h id
theorem Fr.frozen {S : Nat → Prop} {w w' : World} (h : Fr S w w') {p : Addr} (hp : p.block < w.heap.size) (hS : ¬ S p.block) : w'.frozen? p = w.frozen? p :=
  World.frozen?_of_block (h.block p.block hp hS)
theorem Fr.heap {S : Nat → Prop} {w w' : World} (h : Fr S w w') {k : Nat} {o : Obj} (hc : w.heap[k]? = some o) (hS : ¬ S k) : w'.heap[k]? = some o :=
  (h.block k (Array.getElem?_eq_some_iff.1 hc).1 hS).trans hc

/-! ### Rows that are read -/
/-- The slice value at A, of n elements of size cells each, reads xs. -/
def RowAt (w : World) (A : Option Addr) (xs : List Value) : Prop :=
  ∀ j u, xs[j]? = some u → ∃ ad, A = some ad ∧ w.cell? (ad.add j) = some u
theorem RowAt.nil (w : World) (A : Option Addr) : RowAt w A [] := fun j u h => by simp at h
theorem RowAt.cell {w : World} {ad : Addr} {xs : List Value} (h : RowAt w (some ad) xs) {j : Nat} {u : Value} (hu : xs[j]? = some u) : w.cell? (ad.add j) = some u := by
  obtain ⟨ad', e, hc⟩ := h j u hu
  cases e; exact hc
theorem add_block (a : Addr) (j : Nat) : (a.add j).block = a.block := by unfold Addr.add; split <;> rfl
theorem RowAt.fr {S : Nat → Prop} {w w' : World} {A : Option Addr} {xs : List Value} (h : RowAt w A xs) (f : Fr S w w') (hS : ∀ ad, A = some ad → 0 < xs.length → ad.block < w.heap.size → ¬ S ad.block) : RowAt w' A xs := fun j u hu => by
  obtain ⟨ad, e, hc⟩ := h j u hu
  exact ⟨ad, e, f.cell hc (by rw [add_block]; exact hS ad e (by have := (List.getElem?_eq_some_iff.1 hu).1; omega) (by have := World.block_lt_of_cell? w _ hc; rwa [add_block] at this))⟩
theorem RowAt.fr0 {w w' : World} {A : Option Addr} {xs : List Value} (h : RowAt w A xs) (f : Fr noB w w') : RowAt w' A xs := h.fr f (fun _ _ _ _ => id)
def eqB (n : Nat) : Nat → Prop := fun k => k = n
/-- The blocks from n on. -/
def upB (n : Nat) : Nat → Prop := fun k => n ≤ k
theorem RowAt.up {w w' : World} {A : Option Addr} {xs : List Value} (h : RowAt w A xs) (f : Fr (upB w.heap.size) w w') : RowAt w' A xs := h.fr f (fun _ _ _ h1 h2 => by unfold upB at h2; omega)
theorem Fr.up0 {w w' : World} (h : Fr noB w w') (n : Nat) : Fr (upB n) w w' := h.mono fun _ _ h => h.elim
/-- All that is turned are blocks that were not there: nothing of what was there. -/
theorem Fr.none {w w' : World} (h : Fr (upB w.heap.size) w w') : Fr noB w w' := h.mono fun _ h1 h2 => by unfold upB at h2; omega
theorem RowAt.some_of {w : World} {A : Option Addr} {xs : List Value} (h : RowAt w A xs) (hn : 0 < xs.length) : ∃ ad, A = some ad := by
  obtain ⟨ad, e, _⟩ := h 0 xs[0] (by simp [hn])
  exact ⟨ad, e⟩
theorem RowAt.lt {w : World} {ad : Addr} {xs : List Value} (h : RowAt w (some ad) xs) (hn : 0 < xs.length) : ad.block < w.heap.size := by
  have := World.block_lt_of_cell? w _ (h.cell (j := 0) (u := xs[0]) (by simp [hn]))
  rwa [add_block] at this

/-! ### Rows that are owned -/
theorem own_slice {w : World} {base n : Nat} {e : TypeId} {size : Nat} {v : Value} {xs : List Value} (h : w.ownsRow base e size v n xs) : ∃ A c, v = .slice A n c := by
  rcases h.2 with ⟨rfl, rfl⟩ | ⟨g, cap, cur, rfl, _⟩
  · exact ⟨none, 0, rfl⟩
  · exact ⟨_, cap, rfl⟩
theorem own_row {w : World} {base n : Nat} {e : TypeId} {size : Nat} {A : Option Addr} {m c : Nat} {xs : List Value} (h : w.ownsRow base e size (.slice A m c) n xs) : RowAt w A xs := fun j u hu => by
  rcases h.2 with ⟨e1, rfl⟩ | ⟨g, cap, cur, e1, _⟩
  · have := h.1
    have hx : xs = [] := List.eq_nil_of_length_eq_zero (by simpa using this)
    subst hx; simp at hu
  · cases e1
    exact ⟨_, rfl, h.cells (g := g) rfl j u hu⟩
theorem own_mono {w : World} {b b' n : Nat} {e : TypeId} {size : Nat} {v : Value} {xs : List Value} (h : w.ownsRow b e size v n xs) (hb : ∀ g, v.ownBlock = some g → b' ≤ g) : w.ownsRow b' e size v n xs := by
  refine ⟨h.1, ?_⟩
  rcases h.2 with hn | ⟨g, cap, cur, rfl, _, rest⟩
  · exact .inl hn
  · exact .inr ⟨g, cap, cur, rfl, hb g rfl, rest⟩
theorem own_fr {S : Nat → Prop} {w w' : World} {b n : Nat} {e : TypeId} {size : Nat} {v : Value} {xs : List Value} (h : w.ownsRow b e size v n xs) (f : Fr S w w') (hS : ∀ g, v.ownBlock = some g → ¬ S g) : w'.ownsRow b e size v n xs := by
  refine ⟨h.1, ?_⟩
  rcases h.2 with hn | ⟨g, cap, cur, rfl, hb, hg, rest⟩
  · exact .inl hn
  · exact .inr ⟨g, cap, cur, rfl, hb, f.heap hg (hS g rfl), rest⟩
theorem own_lt {w : World} {b n : Nat} {e : TypeId} {size : Nat} {v : Value} {xs : List Value} (h : w.ownsRow b e size v n xs) {g : Nat} (hg : v.ownBlock = some g) : g < w.heap.size := (h.lt g hg).2
theorem own_ne {w : World} {b n : Nat} {e e' : TypeId} {size : Nat} {v : Value} {xs : List Value} (h : w.ownsRow b e size v n xs) {g k : Nat} (hg : v.ownBlock = some g) {c : Array Value} {fz : Nat × Nat} (hk : w.heap[k]? = some (.cells c e' fz)) (hne : e ≠ e') : g ≠ k := by
  rcases h.2 with ⟨rfl, _⟩ | ⟨g', cap, cur, rfl, _, hh, _⟩
  · simp [Value.ownBlock] at hg
  · simp [Value.ownBlock] at hg
    subst hg
    intro e2; subst e2
    rw [hh] at hk; injection hk with hk; injection hk with _ h2; exact hne h2

/-- What append asks of a slice type: its element type's row of the table. -/
structure AppTy (P : Program) (t e : TypeId) (z : Value) (size bytes : Nat) : Prop where
  und : P.underlying t = some (.slice e)
  info : (P.info? e).map (fun i => (i.zero, i.size, i.bytes)) = some (some z, size, bytes)
  zs : z.cells.size = size
  pos : 0 < size

theorem wpList_app {P : Program} {ops : Array Oper} {rest : List Oper} {o : Oper} {a : Act} {w : World} {Q : Exit → Act → World → Prop} {t e : TypeId} {z : Value} {size bytes : Nat} (A : AppTy P t e z size bytes)
    (hgd : o.guard = none) (s x : Operand) (ho : o.op = .call { callee := .builtin .append, args := #[s, x], argTypes := #[t, t] })
    (v : Value) (n : Nat) (xs : List Value) (hs : a.eval s = v) (hown : w.ownsRow 0 e size v n xs)
    (B : Option Addr) (m c : Nat) (news : List Value) (hx : a.eval x = .slice B m c) (hl : news.length = m * size) (hnews : RowAt w B news) (h1 : ∀ u ∈ news, u.oneCell' = true)
    (hB : B = none → m = 0 ∧ c = 0)
    (hbytes : (n + m) * bytes ≤ 140737488355328) (h63 : n + m ≤ 140737488355328)
    (h : ∀ A' c' w', w'.ownsRow 0 e size (.slice A' (n + m) c') (n + m) (xs ++ news) → w.grownBy w' v.ownBlock → ((Value.slice A' (n + m) c').ownBlock = v.ownBlock ∨ (Value.slice A' (n + m) c').ownBlock = some w.heap.size) → wpList P ops Q rest (a.put o.dst (.slice A' (n + m) c')) w') :
    wpList P ops Q (o :: rest) a w := by
  obtain ⟨i, hi, hz, hsz, hby⟩ := info_parts A.info
  have hm : n + m ≤ maxLen := by unfold maxLen; omega
  cases B with
  | some ad =>
    refine wpList_append_own_at w hgd s x t ho 0 e i z size bytes A.und hi hz hsz hby A.zs A.pos v n xs hs hown ad m c news hx hl (fun j u hu => hnews.cell hu) h1 hm hbytes (Nat.zero_le _) ?_
    intro v' w' h1 h2 _ h4
    obtain ⟨A', c', rfl⟩ := own_slice h1
    exact h A' c' w' h1 h2 h4
  | none =>
    obtain ⟨rfl, rfl⟩ := hB rfl
    have hn : news = [] := List.eq_nil_of_length_eq_zero (by simpa using hl)
    subst hn
    obtain ⟨A', c', rfl⟩ := own_slice hown
    exact wpList_append_own_none hgd s x t ho 0 e i size A.und hi _ n xs hs hown hx (h A' c' w (by simpa using hown) ⟨rfl, rfl, rfl, Nat.le_refl _, fun _ _ _ => rfl⟩ (Or.inl rfl))

open Go.Lib in
/-- A string's bytes put behind an owned row, and where the row lies then. -/
theorem run_app_str {P : Program} (w : World) (t u ty e : TypeId) (i : TypeInfo) (ht : P.underlying t = some (.slice e)) (hu : P.underlying u = some .string) (hi : P.info? e = some i) (hz : i.zero = some (.int .u8 0))
    (hsize : i.size = 1) (hby : i.bytes = 1) (v : Value) (n : Nat) (xs : List Value) (hown : w.ownsRow 0 e 1 v n xs) (s : ByteArray)
    (h63 : n + s.size ≤ 140737488355328) :
    ∃ v' w', (Builtin.append_ #[t, u] ty #[v, .string s]).run P w = .ok v' w' ∧ w'.ownsRow 0 e 1 v' (n + s.size) (xs ++ strCells s) ∧ w.grownBy w' v.ownBlock ∧ (v'.ownBlock = v.ownBlock ∨ v'.ownBlock = some w.heap.size) := by
  have h63' : n + s.size ≤ maxLen := by simp only [maxLen]; omega
  have hxl : xs.length = n := by simpa using hown.1
  have hlen : (xs ++ strCells s).length = (n + s.size) * 1 := by rw [List.length_append, hxl, strCells_length, Nat.mul_one]
  have grown : ∀ (old : Nat), old < n + s.size → ∀ (row : Option Nat),
      (w.drew.alloc (.cells (xs.toArray ++ (strCells s).toArray ++ Builtin.zeroCells (Value.int .u8 0).cells (grownCap w (n + s.size) old e - (n + s.size))) e)).ownsRow 0 e 1
        (.slice (some ⟨w.heap.size, 0, none⟩) (n + s.size) (grownCap w (n + s.size) old e)) (n + s.size) (xs ++ strCells s) ∧
      w.grownBy (w.drew.alloc (.cells (xs.toArray ++ (strCells s).toArray ++ Builtin.zeroCells (Value.int .u8 0).cells (grownCap w (n + s.size) old e - (n + s.size))) e)) row := by
    intro old ho row
    have hge := grownCap_ge w (n + s.size) old e
    have hcm : grownCap w (n + s.size) old e ≤ maxLen := grownCap_le_maxLen w (n + s.size) old e h63'
    refine ⟨⟨hlen, .inr ⟨w.heap.size, _, _, rfl, Nat.zero_le _, heap_alloc_new w.drew _, hge, hcm, ?_, ?_⟩⟩, ⟨rfl, rfl, rfl, by simp, fun k hk _ => Below.heap_alloc w.drew _ k hk⟩⟩
    · have hz1 : (Value.int IntKind.u8 0).cells.size = 1 := rfl
      simp only [Array.size_append, List.size_toArray, size_zeroCells, hz1, hxl, strCells_length]
      omega
    · simp only [Array.toList_append, List.append_assoc]
      rw [← List.append_assoc, ← hlen]
      exact List.take_left
  rcases hown.2 with ⟨rfl, rfl⟩ | ⟨g, cap, cur, rfl, hbg, hg, hnc, hcm, hcs, htake⟩
  · obtain rfl : xs = [] := List.eq_nil_of_length_eq_zero hxl
    by_cases hm : s.size = 0
    · obtain ⟨v', w', hr, h1, h2, h3⟩ := run_append_own_string (P := P) w w.heap.size t u ty e i ht hu hi hz hsize hby _ 0 [] (World.ownsRow_nil w w.heap.size e 1) s h63' h63 (Nat.le_refl _)
      have hv : v' = .slice none 0 0 := h3.2 ⟨rfl, hm⟩
      refine ⟨v', w', hr, own_mono h1 (fun _ _ => Nat.zero_le _), h2, Or.inl (by rw [hv])⟩
    · have hr := run_append_nil_string (P := P) w t u ty e i (.int .u8 0) ht hu hi hz s (by omega) (by omega) (by rw [hby]; omega)
      have hgr := grown 0 (by omega) (Value.ownBlock (.slice none 0 0))
      simp only [Nat.zero_add, List.nil_append, Array.empty_append] at hgr ⊢
      have e1 : (s.data.map fun b => Value.int .u8 b.toNat) = (strCells s).toArray := by
        apply Array.ext'
        simp [strCells]
      rw [e1] at hr
      exact ⟨_, _, hr, hgr.1, hgr.2, Or.inr rfl⟩
  · by_cases hroom : n + s.size ≤ cap
    · have hcs' : cur.size = cap := by simpa using hcs
      have hr := run_append_room_string (P := P) w t u ty e i ht hu hi hsize g n cap cur hg s hroom (by omega)
      refine ⟨_, _, hr, ⟨hlen, .inr ⟨g, cap, _, rfl, hbg, setRow_heap w g cur _ e _ hg, hroom, hcm, ?_, ?_⟩⟩, ⟨rfl, rfl, rfl, by simp, fun k _ hk => setRow_other w g k _ (fun e => hk (by simp [Value.ownBlock, e]))⟩, Or.inl rfl⟩
      · simp only [List.size_toArray, List.length_append, List.length_take, List.length_drop, Array.length_toList, strCells_length]
        omega
      · have ht' : cur.toList.take n = xs := by simpa using htake
        rw [ht', ← hlen]
        exact List.take_left
    · have holds : ∀ j u, xs[j]? = some u → w.cell? ((⟨g, 0, none⟩ : Addr).add j) = some u := hown.cells (g := g) rfl
      have hr := run_append_grow_string (P := P) w t u ty e i (.int .u8 0) ht hu hi hz ⟨g, 0, none⟩ n cap xs (by rw [hsize]; simpa using hxl) holds s (by omega) (by omega) (by rw [hby]; exact growslice_fits (by omega) (by omega))
      have hgr := grown cap (by omega) (Value.ownBlock (.slice (some ⟨g, 0, none⟩) n cap))
      exact ⟨_, _, hr, hgr.1, hgr.2, Or.inr rfl⟩

theorem wpList_app_str {P : Program} {ops : Array Oper} {rest : List Oper} {o : Oper} {a : Act} {w : World} {Q : Exit → Act → World → Prop} {t u e : TypeId} (A : AppTy P t e (.int .u8 0) 1 1) (hu : P.underlying u = some .string)
    (hgd : o.guard = none) (sl x : Operand) (ho : o.op = .call { callee := .builtin .append, args := #[sl, x], argTypes := #[t, u] })
    (v : Value) (n : Nat) (xs : List Value) (hs : a.eval sl = v) (hown : w.ownsRow 0 e 1 v n xs) (s : ByteArray) (hx : a.eval x = .string s)
    (h63 : n + s.size ≤ 140737488355328)
    (h : ∀ A' c' w', w'.ownsRow 0 e 1 (.slice A' (n + s.size) c') (n + s.size) (xs ++ Lib.strCells s) → w.grownBy w' v.ownBlock → ((Value.slice A' (n + s.size) c').ownBlock = v.ownBlock ∨ (Value.slice A' (n + s.size) c').ownBlock = some w.heap.size) → wpList P ops Q rest (a.put o.dst (.slice A' (n + s.size) c')) w') :
    wpList P ops Q (o :: rest) a w := by
  obtain ⟨i, hi, hz, hsz, hby⟩ := info_parts A.info
  refine wpList_plain hgd fun K hK => ?_
  obtain ⟨v', w', hr, h2, h3, h4⟩ := run_app_str (P := P) w t u o.type e i A.und hu hi hz hsz hby v n xs hown s h63
  obtain ⟨A', c', rfl⟩ := own_slice h2
  unfold Oper.wp execOp
  simp only [ho, resolve, invoke, builtin, Sem.run_bind, Sem.run_pure, Result.andThen_ok, List.map_toArray, List.map_cons, List.map_nil, hs, hx, hr]
  exact hK _ _ (h A' c' w' h2 h3 h4)
end Go.Proofs.YtdngcheimohamaaDoor
/- Contracts of octet.Writer. -/
namespace Go.Proofs.YtdngcheimohamaaDoor
open Go.RowKit

def bcells (bs : List UInt8) : List Value := bs.map fun b => Value.int .u8 b.toNat
theorem bcells_append (a b : List UInt8) : bcells (a ++ b) = bcells a ++ bcells b := by simp [bcells]
theorem bcells_length (a : List UInt8) : (bcells a).length = a.length := by simp [bcells]
theorem bcells_str (s : ByteArray) : Lib.strCells s = bcells s.data.toList := rfl
theorem bcells_one (a : List UInt8) : ∀ u ∈ bcells a, u.oneCell' = true := by
  intro u hu; simp only [bcells, List.mem_map] at hu; obtain ⟨b, _, rfl⟩ := hu; rfl

theorem Tryd.app8 : AppTy Tryd.prog 33 5 (.int .u8 0) 1 1 := ⟨Tryd.underlying33, by kernel_rfl, rfl, by decide⟩

/-- At p a Writer with the bytes bs, in blocks of S. -/
structure WrAt (w : World) (S : Nat → Prop) (p : Nat) (bs : List UInt8) : Prop where
  ex : ∃ A c T, T ≠ 5 ∧ w.heap[p]? = some (.cells #[.slice A bs.length c] T (0, 0)) ∧ w.ownsRow 0 5 1 (.slice A bs.length c) bs.length (bcells bs) ∧ S p ∧ ∀ k, (Value.slice A bs.length c).ownBlock = some k → S k

theorem WrAt.fr {w w' : World} {S T : Nat → Prop} {p : Nat} {bs : List UInt8} (h : WrAt w S p bs) (f : Fr T w w') (hd : ∀ k, k < w.heap.size → S k → ¬ T k) : WrAt w' S p bs := by
  obtain ⟨A, c, ty, h1, h2, h3, h4, h5⟩ := h.ex
  exact ⟨A, c, ty, h1, f.heap h2 (hd p (Array.getElem?_eq_some_iff.1 h2).1 h4), own_fr h3 f (fun g hg => hd g (own_lt h3 hg) (h5 g hg)), h4, h5⟩
theorem WrAt.mono {w : World} {S T : Nat → Prop} {p : Nat} {bs : List UInt8} (h : WrAt w S p bs) (hd : ∀ k, k < w.heap.size → S k → T k) : WrAt w T p bs := by
  obtain ⟨A, c, ty, h1, h2, h3, h4, h5⟩ := h.ex
  exact ⟨A, c, ty, h1, h2, h3, hd p (Array.getElem?_eq_some_iff.1 h2).1 h4, fun g hg => hd g (own_lt h3 hg) (h5 g hg)⟩

/-- What is left behind the append and the store. -/
theorem WrAt.stored {w wr wa w1 : World} {S : Nat → Prop} {p m d : Nat} {bs xs : List UInt8} {A A' : Option Addr} {c c' T : Nat} (hT : T ≠ 5) (hm : bs.length = m) (hd : xs.length = d)
    (hf : Fr S w wr) (hp : wr.heap[p]? = some (.cells #[.slice A m c] T (0, 0))) (hown : wr.ownsRow 0 5 1 (.slice A m c) m (bcells bs))
    (hSp : andNew S w p) (hS : ∀ k, (Value.slice A m c).ownBlock = some k → andNew S w k) (ha : Fr noB wr wa)
    (hown' : w1.ownsRow 0 5 1 (.slice A' (m + d) c') (m + d) (bcells bs ++ bcells xs)) (hg : wa.grownBy w1 (Value.slice A m c).ownBlock)
    (hat : (Value.slice A' (m + d) c').ownBlock = (Value.slice A m c).ownBlock ∨ (Value.slice A' (m + d) c').ownBlock = some wa.heap.size) :
    WrAt (w1.setCell ⟨p, 0, none⟩ (.slice A' (m + d) c')) (andNew S w) p (bs ++ xs) ∧ Fr S w (w1.setCell ⟨p, 0, none⟩ (.slice A' (m + d) c')) ∧
    w1.cell? ⟨p, 0, none⟩ = some (.slice A m c) ∧ w1.frozen? ⟨p, 0, none⟩ = false := by
  have hpa := ha.heap hp id
  have hne : (Value.slice A m c).ownBlock ≠ some p := fun e => own_ne (own_fr hown ha (fun _ _ => id)) e hpa hT.symm rfl
  have hp1 : w1.heap[p]? = some (.cells #[.slice A m c] T (0, 0)) := by
    rw [hg.block p (Array.getElem?_eq_some_iff.1 hpa).1 (fun e => hne e.symm)]; exact hpa
  have hS' : ∀ k, (Value.slice A' (m + d) c').ownBlock = some k → andNew S w k := by
    intro k hk
    rcases hat with e | e
    · exact hS k (e ▸ hk)
    · rw [hk] at e; cases e
      have := hf.size; have := ha.size; exact Or.inr (by omega)
  subst hm hd
  refine ⟨⟨A', c', T, hT, ?_, ?_, hSp, ?_⟩, ?_, cell_of_one hp1, free_of_one hp1⟩
  · rw [List.length_append]; exact one_setCell hp1
  · rw [List.length_append, bcells_append]
    exact ownsRow_setCell_other hown' (fun e => own_ne hown' e hp1 hT.symm rfl) _
  · rw [List.length_append]; exact hS'
  · refine Fr.setCell (Fr.grown (hf.trans (T := noB) ha (fun _ _ h => h.elim)) hg (fun k hk => hS k hk)) (p := ⟨p, 0, none⟩) hSp _
theorem WrAt.open' {w : World} {S : Nat → Prop} {p : Nat} {bs : List UInt8} (h : WrAt w S p bs) : ∃ A m c T, Hid (bs.length = m) ∧ T ≠ 5 ∧ w.heap[p]? = some (.cells #[.slice A m c] T (0, 0)) ∧ w.ownsRow 0 5 1 (.slice A m c) m (bcells bs) ∧ S p ∧ (∀ k, (Value.slice A m c).ownBlock = some k → S k) ∧ w.cell? ⟨p, 0, none⟩ = some (.slice A m c) := by
  obtain ⟨A, c, T, h1, h2, h3, h4, h5⟩ := h.ex
  exact ⟨A, _, c, T, rfl, h1, h2, h3, h4, h5, cell_of_one h2⟩

/-- The bytes of a number, lowest first. -/
def leB : Nat → Nat → List UInt8
  | 0, _ => []
  | n + 1, x => UInt8.ofNat x :: leB n (x / 256)
theorem leB_length (n x : Nat) : (leB n x).length = n := by induction n generalizing x <;> simp [leB, *]
theorem leB_snoc (n x : Nat) : leB (n + 1) x = leB n x ++ [UInt8.ofNat (x / 256 ^ n)] := by
  induction n generalizing x with
  | zero => simp [leB]
  | succ n ih =>
    rw [leB, ih (x / 256), leB, Nat.div_div_eq_div_mul, Nat.pow_succ, Nat.mul_comm (256 ^ n) 256]
    rfl

theorem cell_one_row (w : World) (x : Value) (t : TypeId) : RowAt (w.alloc (.cells #[x] t)) (some ⟨w.heap.size, 0, none⟩) [x] := fun j u hu => ⟨_, rfl, cell_one_new w x t j u hu⟩

theorem u8_one (n : Nat) : [Value.int .u8 ((n : Int) % 256)] = bcells [UInt8.ofNat n] := by
  simp [bcells]

set_option maxHeartbeats 800000 in
theorem num_calls (w : World) (S : Nat → Prop) (p : Nat) (bs : List UInt8) (x n : Nat) (h : WrAt w S p bs) (hn : n ≤ 8) (hl : bs.length + n ≤ 1000000000000) :
    Calls Tryd.prog 60 #[.pointer (some ⟨p, 0, none⟩), .int .u64 x, .int .i64 n] w fun e w' =>
      e = .returned (.pointer (some ⟨p, 0, none⟩)) ∧ WrAt w' (andNew S w) p (bs ++ leB n x) ∧ Fr S w w' := by
  go_enter Tryd.func60, Tryd.ntmps60
  go_wp2_with fail
  go_loopw [1, 8] (fun y i wr => ∃ k : Nat, k ≤ n ∧ i = .int .i64 k ∧ y = .int .u64 (x / 256 ^ k : Nat) ∧ WrAt wr (andNew S w) p (bs ++ leB k x) ∧ Fr S w wr) (fun _ i _ => n - (intOf i).toNat)
  case atStart => exact ⟨0, Nat.zero_le _, rfl, by simp, by rw [leB, List.append_nil]; exact h.mono (fun k _ hk => Or.inl hk), Fr.refl _ _⟩
  case round =>
    obtain ⟨k, hk, rfl, rfl, hw, hf⟩ := hrel
    by_cases hkn : k < n
    · have hxs : bs ++ leB (k + 1) x = (bs ++ leB k x) ++ [UInt8.ofNat (x / 256 ^ k)] := by rw [leB_snoc, List.append_assoc]
      have hll : (bs ++ leB k x).length ≤ 1000000000000 := by rw [List.length_append, leB_length]; omega
      generalize bs ++ leB k x = xs at *
      obtain ⟨y, hy⟩ : ∃ y, y = x / 256 ^ k := ⟨_, rfl⟩
      have HX := hid hxs; clear hxs
      have HY : Hid (y / 256 = x / 256 ^ (k + 1)) := by unfold Hid; rw [hy, Nat.div_div_eq_div_mul, Nat.pow_succ]
      rw [← hy] at *
      have HE := hid hy; clear hy
      obtain ⟨A, m, c, T, HM, hT, hp, hown, hSp, hS, hc⟩ := hw.open'
      have hm : m ≤ 1000000000000 := by rw [← HM.out]; exact hll
      go_wp2_with (at_builtin; refine wpList_app Tryd.app8 rfl (.tmp 14) (.tmp 17) rfl _ m (bcells xs) rfl (hown.alloc _) _ 1 1 [.int .u8 (y % 256 : Int)] rfl rfl (cell_one_row _ _ _) (fun u hu => by simp at hu; subst hu; rfl) (by simp) (by omega) (by omega) ?_)
      intro A' c' w1 hown' hg hat
      rw [u8_one] at hown'
      obtain ⟨r1, r2, r3, r4⟩ := WrAt.stored hT HM.out (xs := [UInt8.ofNat y]) rfl hf hp hown hSp hS ((Fr.refl noB wr).alloc _) hown' hg (by simpa using hat)
      clear hown' hg hat hp hown hS hSp hc hf hw
      go_wp2
      go_roundw
      case rel => exact ⟨k + 1, by omega, by go_num, by rw [← HY.out]; go_num, by rw [HX.out]; exact r1, r2⟩
      case measure => simp [intOf]; omega
    · have : k = n := by omega
      subst this
      go_wp2_with fail
      go_ret
      exact ⟨rfl, hw, hf⟩
end Go.Proofs.YtdngcheimohamaaDoor
/- bytes.Clone. -/
namespace Go.Proofs.YtdngcheimohamaaDoor
open Go.RowKit

/-- A slice of bytes of one's own, in new blocks. -/
structure NewBytes (w w' : World) (v : Value) (xs : List UInt8) : Prop where
  own : w'.ownsRow w.heap.size 5 1 v xs.length (bcells xs)
  fr : Fr noB w w'

def CloneP (w : World) (B : Option Addr) (n : Nat) (xs : List UInt8) (e : Ending) (w' : World) : Prop :=
  ∃ A c, e = .returned (.slice A n c) ∧ w'.ownsRow w.heap.size 5 1 (.slice A n c) n (bcells xs) ∧ Fr noB w w' ∧ (A = none ↔ B = none)

set_option maxRecDepth 100000 in
theorem clone_calls (w : World) (B : Option Addr) (n cap : Nat) (xs : List UInt8) (hx : RowAt w B (bcells xs)) (hn : xs.length = n) (hB : B = none → n = 0 ∧ cap = 0) (hl : n ≤ 1000000000000) :
    Calls Tryd.prog 56 #[.slice B n cap] w (CloneP w B n xs) := by
  have HN := hid hn; clear hn
  have heq := fun (w : World) (a : Option Addr) (n c : Nat) => Lib.run_eql_slice_nil (P := Tryd.prog) w 33 5 a n c 0 0 Tryd.underlying33
  cases B with
  | none =>
    obtain ⟨rfl, rfl⟩ := hB rfl
    go_enter Tryd.func56, Tryd.ntmps56
    go_wp2
    go_ret
    have hxs : xs = [] := List.eq_nil_of_length_eq_zero HN.out
    subst hxs
    exact ⟨none, 0, rfl, World.ownsRow_nil _ _ _ _, Fr.refl _ _, by simp⟩
  | some ad =>
    have hown : (w.alloc (.cells #[] 5)).ownsRow 0 5 1 (.slice (some ⟨w.heap.size, 0, none⟩) 0 0) 0 [] := World.ownsRow_made w #[] 0 (Nat.zero_le _) (by unfold maxLen; omega) rfl
    have hx1 : 0 < n → ad.block < w.heap.size := fun h0 => hx.lt (by rw [bcells_length, HN.out]; exact h0)
    have hx2 : RowAt (w.alloc (.cells #[] 5)) (some ad) (bcells xs) := hx.fr0 ((Fr.refl noB w).alloc _)
    have hl' : Hid (n ≤ 1000000000000) := hl
    clear hl
    go_enter Tryd.func56, Tryd.ntmps56
    go_wp2_with (at_builtin; refine wpList_app Tryd.app8 rfl (.tmp 5) (.tmp 6) rfl _ 0 [] rfl hown (some ad) n cap (bcells xs) rfl (by rw [bcells_length, HN.out, Nat.mul_one]) hx2 (bcells_one _) (by simp) (by have := hl'.out; omega) (by have := hl'.out; omega) ?_)
    intro A' c' w1 hown' hg hat
    go_wp2
    go_ret
    have hat' : ∃ k, (Value.slice A' n c').ownBlock = some k ∧ w.heap.size ≤ k := by
      rcases hat with e | e
      · exact ⟨_, e, Nat.le_refl _⟩
      · exact ⟨_, e, by simp⟩
    refine ⟨A', c', rfl, own_mono hown' ?_, ?_, ?_⟩
    · obtain ⟨k, e, hk⟩ := hat'
      intro g hg; rw [e] at hg; cases hg; exact hk
    · refine Fr.grown ((Fr.refl noB w).alloc _) hg (fun k hk => Or.inr ?_)
      simp [Value.ownBlock] at hk; omega
    · obtain ⟨k, e, hk⟩ := hat'
      constructor
      · rintro rfl; simp [Value.ownBlock] at e
      · intro h; cases h
end Go.Proofs.YtdngcheimohamaaDoor
/- []byte as a string, and a string as []byte. -/
namespace Go.Proofs.YtdngcheimohamaaDoor
open Go.RowKit

def mkS (l : List UInt8) : ByteArray := ⟨l.toArray⟩
theorem mkS_data (l : List UInt8) : (mkS l).data.toList = l := rfl
theorem mkS_toList (l : List UInt8) : (mkS l).toList = l := by rw [ByteArray.toList_eq]; rfl
theorem mkS_size (l : List UInt8) : (mkS l).size = l.length := by simp [mkS, ByteArray.size]
theorem mkS_inj {a b : List UInt8} : mkS a = mkS b ↔ a = b := ⟨fun h => by rw [← mkS_data a, h, mkS_data], fun h => by rw [h]⟩
theorem mkS_of (s : ByteArray) : mkS s.data.toList = s := ByteArray.ext (Array.ext' rfl)

theorem Tryd.toStr {w : World} {A : Option Addr} {l : List UInt8} (h : RowAt w A (bcells l)) {n : Nat} (hn : l.length = n) (c : Nat) :
    (convert 33 9 (.slice A n c)).run Tryd.prog w = .ok (.string (mkS l)) w := by
  subst hn
  cases A with
  | some a =>
    refine run_convert_bytes_back w _ _ 5 a c l Tryd.underlying33 Tryd.underlying5 Tryd.underlying9 (fun j hj => h.cell ?_)
    simp [bcells, hj]
  | none =>
    have : l = [] := by
      rcases l with _ | ⟨b, l⟩
      · rfl
      · obtain ⟨ad, e⟩ := h.some_of (by simp [bcells]); cases e
    subst this
    rw [run_convert_bytes_string w _ _ 5 none _ c Tryd.underlying33 Tryd.underlying5 Tryd.underlying9]
    simp [Conv.bytesToString]
    rfl

theorem new_row (w : World) (C : Array Value) (t : TypeId) : RowAt (w.alloc (.cells C t)) (some ⟨w.heap.size, 0, none⟩) C.toList := fun j u hu => by
  refine ⟨_, rfl, ?_⟩
  have e : (⟨w.heap.size, 0, none⟩ : Addr).add j = ⟨w.heap.size, j, none⟩ := by unfold Addr.add; split <;> simp_all
  rw [e, cell_of_row _ _ _ _ _ _ (heap_alloc_new w _)]
  simpa using hu
theorem Tryd.oneStr (w : World) (y : Nat) : (convert 33 9 (.slice (some ⟨w.heap.size, 0, none⟩) 1 1)).run Tryd.prog (w.alloc (.cells #[.int .u8 (y % 256 : Int)] 5)) =
    .ok (.string (mkS [UInt8.ofNat y])) (w.alloc (.cells #[.int .u8 (y % 256 : Int)] 5)) := by
  refine Tryd.toStr (l := [UInt8.ofNat y]) ?_ rfl 1
  have := new_row w #[.int .u8 (y % 256 : Int)] 5
  rw [show bcells [UInt8.ofNat y] = (#[Value.int .u8 (y % 256 : Int)] : Array Value).toList from (u8_one y).symm]
  exact this

theorem Tryd.fromStr (w : World) (s : ByteArray) : (convert 9 33 (.string s)).run Tryd.prog w = .ok (.slice (some ⟨w.heap.size, 0, none⟩) s.size (grownCap w s.size 0 5)) (Lib.bytesWorld w 5 s) :=
  Lib.run_convert_string_bytes w _ _ _ s Tryd.underlying9 Tryd.underlying33 Tryd.underlying5
theorem bytesW_fr (w : World) (s : ByteArray) : Fr noB w (Lib.bytesWorld w 5 s) := by
  refine ⟨?_, ?_, ?_, by rw [Lib.bytesWorld_size]; omega, fun k hk _ => Lib.bytesWorld_at_old w _ s k hk⟩
  all_goals
    unfold Lib.bytesWorld World.freeze
    split <;> rfl
theorem bytesW_row (w : World) (s : ByteArray) : RowAt (Lib.bytesWorld w 5 s) (some ⟨w.heap.size, 0, none⟩) (bcells s.data.toList) := fun j u hu => by
  refine ⟨_, rfl, ?_⟩
  have e : (⟨w.heap.size, 0, none⟩ : Addr).add j = ⟨w.heap.size, j, none⟩ := by unfold Addr.add; split <;> simp_all
  have hj : j < s.size := by have := (List.getElem?_eq_some_iff.1 hu).1; simpa [bcells] using this
  rw [e, Lib.bytesWorld_cell w _ s j hj]
  simp only [bcells, List.getElem?_map] at hu
  rw [List.getD_eq_getElem?_getD]
  cases h : s.data.toList[j]? with
  | none => rw [h] at hu; simp at hu
  | some b => rw [h] at hu; simpa using hu
end Go.Proofs.YtdngcheimohamaaDoor
/- Package-level tables of texts: what a row's list gives, and how it goes on. -/
namespace Go.Proofs.YtdngcheimohamaaDoor
open Go.RowKit

/-- An array of texts that reads as these bytes holds these texts, cell for cell. -/
theorem cells_of_strs {H : Type} {enc : TypeId × Value → H} {P : Program} {w : World} {base : Nat} {sp : Nat → Bool} {held : Bool} {fuel : Nat} {t e : TypeId} {n : Nat} {cs : List Value} {zs : List (List UInt8)} {p : List MemPlace}
    (ht : P.underlying t = some (.array n e)) (he : P.underlying e = some .string) (hce : P.cellsOf e = 1) (hct : P.cellsOf t = n)
    (h : DataW.trod enc P w base sp held fuel t cs = some (.agg (zs.map fun z => .lit (.string z)), p)) : cs = zs.map fun z => Value.string (mkS z) := by
  cases fuel with
  | zero => simp [DataW.trod] at h
  | succ fuel =>
    simp only [DataW.trod, ht, hce, hct, Nat.mul_one] at h
    split at h
    · rename_i hl
      obtain ⟨xs, hm, hx⟩ := Option.map_eq_some_iff.1 h
      have hxs : xs.map (·.1) = zs.map fun z => (DataW.lit (.string z) : DataW H) := by
        have := congrArg Prod.fst hx
        simpa using this
      have hxl : xs.length = n := by simpa using Lib.mapM_length hm
      have hzl : zs.length = n := by
        have := congrArg List.length hxs
        simp at this
        omega
      apply List.ext_getElem?
      intro i
      by_cases hi : i < n
      · obtain ⟨b, hb, hf⟩ := Lib.mapM_at hm i i (by simp [hi])
        obtain ⟨s, hc, rfl, _⟩ := DataW.trod_string he hf
        have h1 : cs[i]? = some (.string s) := by
          have := congrArg (·[0]?) hc
          simpa [List.getElem?_take, List.getElem?_drop] using this
        have h2 : (xs.map (·.1))[i]? = some (DataW.lit (.string s.data.toList) : DataW H) := by simp [hb]
        rw [hxs] at h2
        simp only [List.getElem?_map, Option.map_eq_some_iff, DataW.lit.injEq, Lit.string.injEq] at h2
        obtain ⟨z', hz', rfl⟩ := h2
        simp [h1, hz', mkS_of]
      · rw [List.getElem?_eq_none (by omega), List.getElem?_eq_none (by simp; omega)]
    · cases h
/-- The variable's cells are these texts. -/
def TabS (P : Program) (w : World) (g : Nat) (zs : List (List UInt8)) : Prop := ∀ (i : Nat) (z : List UInt8), zs[i]? = some z → w.cell? ⟨g, i, none⟩ = some (.string (mkS z))
theorem tabS_of {P : Program} {w : World} {name : String} {g : Nat} {t e : TypeId} {n : Nat} {zs : List (List UInt8)} {g' : Nat} {t' : TypeId} {cs : Array Value} {fuel : Nat} {p : List MemPlace}
    (hg : P.globalNamed name = some g) (hty : (P.globals[g]?).map (·.type) = some t) (ht : P.underlying t = some (.array n e)) (he : P.underlying e = some .string) (hce : P.cellsOf e = 1) (hct : P.cellsOf t = n)
    (hg' : P.globalNamed name = some g') (ht' : (P.globals[g']?).map (·.type) = some t') (hvar : w.var? P name = some cs) (hd : DataW.trod (fun _ => ()) P w 0 (fun _ => true) false fuel t' cs.toList = some (.agg (zs.map fun z => .lit (.string z)), p)) : TabS P w g zs := by
  obtain rfl := Option.some.inj (hg.symm.trans hg')
  obtain rfl := Option.some.inj (hty.symm.trans ht')
  have hcs := cells_of_strs ht he hce hct hd
  intro i z hz
  have := World.var?_cell hg hvar i
  rw [this, ← Array.getElem?_toList, hcs, List.getElem?_map, hz]
  rfl
/-- The two lists' heads. -/
theorem tabS_one {P : Program} {w : World} {name : String} {g : Nat} {t e : TypeId} {n : Nat} {zs : List (List UInt8)} {rest : List (String × DataW Unit)}
    (hg : P.globalNamed name = some g) (hty : (P.globals[g]?).map (·.type) = some t) (ht : P.underlying t = some (.array n e)) (he : P.underlying e = some .string) (hce : P.cellsOf e = 1) (hct : P.cellsOf t = n)
    (h : laidMet P ((name, .agg (zs.map fun z => .lit (.string z))) :: rest) w) : TabS P w g zs := by
  obtain ⟨ps, ⟨g', t', cs, fuel, p, q, hg', ht', hvar, hd, _, _⟩, _⟩ := h
  exact tabS_of hg hty ht he hce hct hg' ht' hvar hd
theorem tabS_two {P : Program} {w : World} {name name0 : String} {d0 : DataW Unit} {g : Nat} {t e : TypeId} {n : Nat} {zs : List (List UInt8)} {rest : List (String × DataW Unit)}
    (hg : P.globalNamed name = some g) (hty : (P.globals[g]?).map (·.type) = some t) (ht : P.underlying t = some (.array n e)) (he : P.underlying e = some .string) (hce : P.cellsOf e = 1) (hct : P.cellsOf t = n)
    (h : laidMet P ((name0, d0) :: (name, .agg (zs.map fun z => .lit (.string z))) :: rest) w) : TabS P w g zs := by
  obtain ⟨ps, ⟨_, _, _, _, _, _, _, _, _, _, ⟨g', t', cs, fuel, p, q, hg', ht', hvar, hd, _, _⟩, _⟩, _⟩ := h
  exact tabS_of hg hty ht he hce hct hg' ht' hvar hd
theorem TabS.fr {P : Program} {S : Nat → Prop} {w w' : World} {g : Nat} {zs : List (List UInt8)} (h : TabS P w g zs) (f : Fr S w w') (hS : ¬ S g) : TabS P w' g zs := fun i z hz => f.cell (h i z hz) hS
theorem TabS.fr0 {P : Program} {w w' : World} {g : Nat} {zs : List (List UInt8)} (h : TabS P w g zs) (f : Fr noB w w') : TabS P w' g zs := h.fr f id
theorem cell_lt {w : World} {a : Addr} {v : Value} (h : w.cell? a = some v) : a.block < w.heap.size := by
  unfold World.cell? at h
  split at h <;> simp_all
  rename_i h1
  exact (Array.getElem?_eq_some_iff.1 h1).1
theorem TabS.lt {P : Program} {w : World} {g : Nat} {z : List UInt8} {zs : List (List UInt8)} (h : TabS P w g (z :: zs)) : g < w.heap.size := cell_lt (h 0 z rfl)
def namesL : List (List UInt8) := [[99, 114, 101, 97, 116, 101], [100, 101, 108, 101, 116, 101], [115, 101, 116, 104, 97, 115, 104], [108, 111, 111, 107, 117, 112], [108, 105, 115, 116], [115, 101, 116, 109, 97, 105, 108], [100, 105, 115, 97, 98, 108, 101], [101, 110, 97, 98, 108, 101], [114, 101, 110, 97, 109, 101], [109, 97, 107, 101], [100, 114, 111, 112], [106, 111, 105, 110], [108, 101, 97, 118, 101], [102, 105, 110, 100], [109, 101, 109, 98, 101, 114, 115], [117, 112, 103, 114, 97, 100, 101], [97, 100, 118, 101, 114, 116, 105, 115, 101]]
def signsL : List (List UInt8) := [[97, 98], [97], [97, 98], [97], [97], [97, 98], [97], [97], [97, 98], [97], [97], [97, 98], [97, 98], [97], [97], [], [110, 114]]
abbrev SignsAt (w : World) : Prop := TabS Tryd.prog w 0 signsL
end Go.Proofs.YtdngcheimohamaaDoor
/- Contracts of octet.Writer's methods. -/
namespace Go.Proofs.YtdngcheimohamaaDoor
open Go.RowKit

def WrPost (w : World) (S : Nat → Prop) (p : Nat) (bs xs : List UInt8) (e : Ending) (w' : World) : Prop :=
  e = .returned (.pointer (some ⟨p, 0, none⟩)) ∧ WrAt w' (andNew S w) p (bs ++ xs) ∧ Fr S w w'

theorem byte_calls (w : World) (S : Nat → Prop) (p : Nat) (bs : List UInt8) (x : Nat) (h : WrAt w S p bs) (hx : x < 256) (hl : bs.length + 1 ≤ 1000000000000) :
    Calls Tryd.prog 30 #[.pointer (some ⟨p, 0, none⟩), .int .u8 x] w (WrPost w S p bs (leB 1 x)) := by
  go_enter Tryd.func30, Tryd.ntmps30
  go_wp2_with fail
  refine (num_calls w S p bs x 1 h (by omega) hl).mono ?_
  rintro e w' ⟨rfl, h1, h2⟩
  go_wp2
  go_ret
  exact ⟨rfl, h1, h2⟩
theorem two_calls (w : World) (S : Nat → Prop) (p : Nat) (bs : List UInt8) (x : Nat) (h : WrAt w S p bs) (hx : x < 65536) (hl : bs.length + 2 ≤ 1000000000000) :
    Calls Tryd.prog 61 #[.pointer (some ⟨p, 0, none⟩), .int .u16 x] w (WrPost w S p bs (leB 2 x)) := by
  go_enter Tryd.func61, Tryd.ntmps61
  go_wp2_with fail
  refine (num_calls w S p bs x 2 h (by omega) hl).mono ?_
  rintro e w' ⟨rfl, h1, h2⟩
  go_wp2
  go_ret
  exact ⟨rfl, h1, h2⟩
theorem eight_calls (w : World) (S : Nat → Prop) (p : Nat) (bs : List UInt8) (x : Nat) (h : WrAt w S p bs) (hl : bs.length + 8 ≤ 1000000000000) :
    Calls Tryd.prog 43 #[.pointer (some ⟨p, 0, none⟩), .int .u64 x] w (WrPost w S p bs (leB 8 x)) := by
  go_enter Tryd.func43, Tryd.ntmps43
  go_wp2_with fail
  refine (num_calls w S p bs x 8 h (by omega) hl).mono ?_
  rintro e w' ⟨rfl, h1, h2⟩
  go_wp2
  go_ret
  exact ⟨rfl, h1, h2⟩
theorem raw_calls (w : World) (S : Nat → Prop) (p : Nat) (bs : List UInt8) (B : Option Addr) (n cap : Nat) (xs : List UInt8) (h : WrAt w S p bs) (hx : RowAt w B (bcells xs)) (hn : xs.length = n) (hB : B = none → n = 0 ∧ cap = 0) (hl : bs.length + n ≤ 1000000000000) :
    Calls Tryd.prog 62 #[.pointer (some ⟨p, 0, none⟩), .slice B n cap] w (WrPost w S p bs xs) := by
  obtain ⟨A, m, c, T, HM, hT, hp, hown, hSp, hS, hc⟩ := h.open'
  rw [HM.out] at hl
  have HN := hid hn; clear hn
  go_enter Tryd.func62, Tryd.ntmps62
  go_wp2_with (at_builtin; refine wpList_app Tryd.app8 rfl (.tmp 9) (.tmp 10) rfl _ m (bcells bs) rfl hown B n cap (bcells xs) rfl (by rw [bcells_length, HN.out, Nat.mul_one]) hx (bcells_one _) hB (by omega) (by omega) ?_)
  intro A' c' w1 hown' hg hat
  obtain ⟨r1, r2, r3, r4⟩ := WrAt.stored hT HM.out HN.out (Fr.refl S w) hp hown (Or.inl hSp) (fun k hk => Or.inl (hS k hk)) (Fr.refl noB w) hown' hg (by simpa using hat)
  clear hown' hg hat hp hown hS hSp hc h hx hB
  go_wp2
  go_ret
  exact ⟨rfl, r1, r2⟩

/-- The first 65535 of a list. -/
def cut16 {α : Type} (l : List α) : List α := l.take 65535
theorem extract_take (s : ByteArray) (n : Nat) : (s.extract 0 n).data.toList = s.data.toList.take n := by
  simp
def textB (s : ByteArray) : List UInt8 := leB 2 (min s.size 65535) ++ s.data.toList.take 65535

theorem text_calls (w : World) (S : Nat → Prop) (p : Nat) (bs : List UInt8) (s : ByteArray) (h : WrAt w S p bs) (hs : s.size ≤ maxLen) (hl : bs.length + 2 + s.size ≤ 1000000000000) :
    Calls Tryd.prog 44 #[.pointer (some ⟨p, 0, none⟩), .string s] w (WrPost w S p bs (textB s)) := by
  by_cases hz : s.size ≤ 65535
  · have HT : Hid (bs ++ textB s = bs ++ leB 2 s.size ++ s.data.toList) := by
      unfold Hid textB
      rw [Nat.min_eq_left hz, List.take_of_length_le (by simpa using hz), List.append_assoc]
    go_enter Tryd.func44, Tryd.ntmps44
    go_wp2_with fail
    refine (two_calls w S p bs s.size h (by omega) (by omega)).mono ?_
    rintro e w' ⟨rfl, h1, h2⟩
    obtain ⟨A, m, c, T, HM, hT, hp, hown, hSp, hS, hc⟩ := h1.open'
    have hm : m ≤ 1000000000000 - s.size := by have := HM.out; rw [List.length_append, leB_length] at this; omega
    go_wp2_with (at_builtin; refine wpList_app_str Tryd.app8 Tryd.underlying9 rfl (.tmp 19) (.tmp 20) rfl _ m _ rfl hown s rfl (by omega) ?_)
    intro A' c' w1 hown' hg hat
    obtain ⟨r1, r2, r3, r4⟩ := WrAt.stored hT HM.out (xs := s.data.toList) (d := (s).size) rfl h2 hp hown hSp hS (Fr.refl noB w') hown' hg (by simpa using hat)
    clear hown' hg hat hp hown hS hSp hc h1 h2 h
    go_wp2
    go_ret
    exact ⟨rfl, by rw [HT.out]; exact r1, r2⟩
  · have hz' : 65535 < s.size := by omega
    have HT : Hid (bs ++ textB s = bs ++ leB 2 (min 65535 s.size) ++ (s.extract 0 65535).data.toList) := by
      unfold Hid textB
      rw [Nat.min_comm, extract_take, List.append_assoc]
    have hes : (s.extract 0 65535).size ≤ s.size := by rw [ByteArray.size_extract]; omega
    go_enter Tryd.func44, Tryd.ntmps44
    go_wp2_with fail
    refine (two_calls w S p bs (min 65535 s.size) h (by omega) (by omega)).mono ?_
    rintro e w' ⟨rfl, h1, h2⟩
    dsimp only
    generalize s.extract 0 65535 = s' at *
    generalize min 65535 s.size = k at *
    obtain ⟨A, m, c, T, HM, hT, hp, hown, hSp, hS, hc⟩ := h1.open'
    have hm : m ≤ 1000000000000 - s.size := by have := HM.out; rw [List.length_append, leB_length] at this; omega
    go_wp2_with (at_builtin; refine wpList_app_str Tryd.app8 Tryd.underlying9 rfl (.tmp 19) (.tmp 20) rfl _ m _ rfl hown s' rfl (by omega) ?_)
    intro A' c' w1 hown' hg hat
    obtain ⟨r1, r2, r3, r4⟩ := WrAt.stored hT HM.out (xs := s'.data.toList) (d := s'.size) rfl h2 hp hown hSp hS (Fr.refl noB w') hown' hg (by simpa using hat)
    clear hown' hg hat hp hown hS hSp hc h1 h2 h
    go_wp2
    go_ret
    exact ⟨rfl, by rw [HT.out]; exact r1, r2⟩
end Go.Proofs.YtdngcheimohamaaDoor
/- octet.Writer's Row and Bytes. -/
namespace Go.Proofs.YtdngcheimohamaaDoor
open Go.RowKit

def strs (ss : List ByteArray) : List Value := ss.map Value.string
theorem strs_get {l : List ByteArray} {k : Nat} {s : ByteArray} (h : l[k]? = some s) : (strs l)[k]? = some (.string s) := by
  unfold strs; rw [List.getElem?_map, h]; rfl
theorem strs_pos {w : World} {A : Option Addr} {l : List ByteArray} {k : Nat} {s : ByteArray} (ha : RowAt w A (strs l)) (h : l[k]? = some s) : ∃ a, A = some a := by
  refine ha.some_of ?_
  have := (List.getElem?_eq_some_iff.1 h).1
  simp only [strs, List.length_map]; omega

def rowB (ss : List ByteArray) : List UInt8 := leB 2 (min ss.length 65535) ++ (ss.take 65535).flatMap textB
def sumSz (ss : List ByteArray) : Nat := (ss.map fun s => s.size + 2).sum
theorem take_snoc' {α : Type} {l : List α} {k : Nat} {x : α} (h : l[k]? = some x) : l.take (k + 1) = l.take k ++ [x] := by
  obtain ⟨hk, rfl⟩ := List.getElem?_eq_some_iff.1 h
  exact List.take_succ_eq_append_getElem hk
theorem sumSz_append (a b : List ByteArray) : sumSz (a ++ b) = sumSz a + sumSz b := by simp only [sumSz, List.map_append, List.sum_append]
theorem sumSz_take_succ {ss : List ByteArray} {k : Nat} {s : ByteArray} (h : ss[k]? = some s) : sumSz (ss.take (k + 1)) = sumSz (ss.take k) + (s.size + 2) := by
  rw [take_snoc' h, sumSz_append]; simp [sumSz]
theorem sumSz_take_le (ss : List ByteArray) (k : Nat) : sumSz (ss.take k) ≤ sumSz ss := by
  conv => rhs; rw [← List.take_append_drop k ss]
  simp only [sumSz, List.map_append, List.sum_append]; omega
theorem textB_length (s : ByteArray) : (textB s).length ≤ s.size + 2 := by
  have : s.data.toList.length = s.size := by simp
  simp only [textB, List.length_append, leB_length, List.length_take]; omega
theorem rows_length (ss : List ByteArray) : (ss.flatMap textB).length ≤ sumSz ss := by
  induction ss with
  | nil => simp [sumSz]
  | cons s ss ih =>
    have := textB_length s
    simp only [List.flatMap_cons, List.length_append, sumSz, List.map_cons, List.sum_cons] at *
    omega
theorem rows_snoc {ss : List ByteArray} {k : Nat} {s : ByteArray} (h : ss[k]? = some s) : (ss.take (k + 1)).flatMap textB = (ss.take k).flatMap textB ++ textB s := by
  rw [take_snoc' h, List.flatMap_append]; simp only [List.flatMap_cons, List.flatMap_nil, List.append_nil]
theorem mem_sumSz {ss : List ByteArray} {s : ByteArray} (h : s ∈ ss) : s.size ≤ sumSz ss := by
  induction ss with
  | nil => simp at h
  | cons a ss ih =>
    simp only [sumSz, List.map_cons, List.sum_cons] at *
    rcases List.mem_cons.1 h with rfl | h
    · omega
    · have := ih h; omega

end Go.Proofs.YtdngcheimohamaaDoor
/- Contracts of interrexref01: numbers, truths, texts, rows. -/
namespace Go.Proofs.YtdngcheimohamaaDoor
open Go.RowKit

def StrPost (w : World) (bs : List UInt8) (e : Ending) (w' : World) : Prop := e = .returned (.string (mkS bs)) ∧ Fr noB w w'
theorem mkS_append (a b : List UInt8) : mkS a ++ mkS b = mkS (a ++ b) := by
  apply ByteArray.ext; apply Array.ext'; simp [mkS]
theorem mkS_nil : mkS [] = ⟨#[]⟩ := rfl

set_option maxRecDepth 100000 in
set_option maxHeartbeats 800000 in
theorem numR_calls (w : World) (x n : Nat) (hx : x ≤ 18446744073709551615) (hn : n ≤ 8) :
    Calls Tryd.prog 50 #[.int .u64 x, .int .i64 n] w (StrPost w (leB n x)) := by
  have HX := hid hx; clear hx
  go_enter Tryd.func50, Tryd.ntmps50
  go_wp2_with fail
  go_loopw [0, 5, 7] (fun y s i wr => ∃ k : Nat, k ≤ n ∧ i = .int .i64 k ∧ y = .int .u64 (x / 256 ^ k : Nat) ∧ s = .string (mkS (leB k x)) ∧ Fr noB w wr) (fun _ _ i _ => n - (intOf i).toNat)
  case atStart => exact ⟨0, Nat.zero_le _, rfl, by simp, rfl, Fr.refl _ _⟩
  case round =>
    obtain ⟨k, hk, rfl, rfl, rfl, hf⟩ := hrel
    by_cases hkn : k < n
    · obtain ⟨y, hy⟩ : ∃ y, y = x / 256 ^ k := ⟨_, rfl⟩
      have hy1 : y ≤ 18446744073709551615 := by rw [hy]; exact Nat.le_trans (Nat.div_le_self _ _) HX.out
      have HY : Hid (y / 256 = x / 256 ^ (k + 1)) := by unfold Hid; rw [hy, Nat.div_div_eq_div_mul, Nat.pow_succ]
      have HL : Hid (leB (k + 1) x = leB k x ++ [UInt8.ofNat y]) := by unfold Hid; rw [leB_snoc, hy]
      have hs : (mkS (leB k x)).size = k := by rw [mkS_size, leB_length]
      generalize hg : mkS (leB k x) = s at *
      have HG := hid hg; clear hg
      have HS := hid hs; clear hs
      rw [← hy] at *
      clear hy
      have hcv := Tryd.oneStr
      have hcat : s.size + (mkS [UInt8.ofNat y]).size ≤ 9223372036854775807 := by rw [HS.out, mkS_size]; simp; omega
      go_wp2_with fail
      go_roundw
      case rel => exact ⟨k + 1, by omega, by go_num, by rw [← HY.out]; go_num, by rw [HL.out, ← mkS_append, HG.out], hf.alloc _⟩
      case measure => simp [intOf]; omega
    · have : k = n := by omega
      subst this
      go_wp2_with fail
      go_ret
      exact ⟨rfl, hf⟩
/-- A text's bytes in the reference: without a cut. -/
def textR (s : ByteArray) : List UInt8 := leB 2 s.size ++ s.data.toList
theorem textR_eq {s : ByteArray} (h : s.size ≤ 65535) : textR s = textB s := by
  unfold textR textB; rw [Nat.min_eq_left h, List.take_of_length_le (by simpa using h)]
theorem textR_calls (w : World) (s : ByteArray) (hs : s.size ≤ 1000000000000) : Calls Tryd.prog 51 #[.string s] w (StrPost w (textR s)) := by
  have h1 : s.size ≤ 9223372036854775807 := by omega
  have hk : (mkS (leB 2 s.size)).size + s.size ≤ 9223372036854775807 := by rw [mkS_size, leB_length]; omega
  have HE : Hid (mkS (textR s) = mkS (leB 2 s.size) ++ s) := by unfold Hid textR; rw [← mkS_append, mkS_of]
  have HS := hid hs; clear hs
  go_enter Tryd.func51, Tryd.ntmps51
  go_wp2_with fail
  refine (numR_calls w s.size 2 (by have := HS.out; omega) (by omega)).mono ?_
  rintro e w1 ⟨rfl, f1⟩
  go_wp2_with fail
  go_ret
  exact ⟨by rw [HE.out]; rfl, f1⟩
theorem textR_length (s : ByteArray) : (textR s).length = s.size + 2 := by
  have : s.data.toList.length = s.size := by simp
  simp only [textR, List.length_append, leB_length]; omega
def rowR (ss : List ByteArray) : List UInt8 := leB 2 ss.length ++ ss.flatMap textR
theorem rowR_eq {ss : List ByteArray} (h : ss.length ≤ 65535) (hs : ∀ s ∈ ss, s.size ≤ 65535) : rowR ss = rowB ss := by
  unfold rowR rowB; rw [Nat.min_eq_left h, List.take_of_length_le h]
  congr 1
  induction ss with
  | nil => rfl
  | cons s ss ih => rw [List.flatMap_cons, List.flatMap_cons, textR_eq (hs s (List.mem_cons_self ..)), ih (by simp at h; omega) (fun t ht => hs t (List.mem_cons_of_mem _ ht))]
theorem rowsR_snoc {ss : List ByteArray} {k : Nat} {s : ByteArray} (h : ss[k]? = some s) : (ss.take (k + 1)).flatMap textR = (ss.take k).flatMap textR ++ textR s := by
  rw [take_snoc' h, List.flatMap_append]; simp only [List.flatMap_cons, List.flatMap_nil, List.append_nil]
theorem rowsR_length (ss : List ByteArray) : (ss.flatMap textR).length = sumSz ss := by
  induction ss with
  | nil => simp [sumSz]
  | cons s ss ih => simp only [List.flatMap_cons, List.length_append, sumSz, List.map_cons, List.sum_cons, textR_length] at *; omega

end Go.Proofs.YtdngcheimohamaaDoor
/- octet.Writer's Bytes, a fresh Writer, and a []byte as a string. -/
namespace Go.Proofs.YtdngcheimohamaaDoor
open Go.RowKit

theorem bytes_calls (w : World) (S : Nat → Prop) (p : Nat) (bs : List UInt8) (h : WrAt w S p bs) (hl : bs.length ≤ 1000000000000) :
    Calls Tryd.prog 32 #[.pointer (some ⟨p, 0, none⟩)] w fun e w' => ∃ A c, e = .returned (.slice A bs.length c) ∧ w'.ownsRow w.heap.size 5 1 (.slice A bs.length c) bs.length (bcells bs) ∧ Fr noB w w' := by
  obtain ⟨A, m, c, T, HM, hT, hp, hown, hSp, hS, hc⟩ := h.open'
  rw [HM.out] at hl ⊢
  have hl' := hid hl; clear hl
  go_enter Tryd.func32, Tryd.ntmps32
  go_wp2_with fail
  refine (clone_calls w A m c bs (own_row hown) HM.out ?_ hl'.out).mono ?_
  · rintro rfl
    rcases hown.2 with ⟨e, _⟩ | ⟨g, cap, cur, e, _⟩ <;> cases e
    exact ⟨rfl, rfl⟩
  rintro e w' ⟨A', c', rfl, h1, h2, _⟩
  go_wp2
  go_ret
  exact ⟨A', c', rfl, h1, h2⟩
end Go.Proofs.YtdngcheimohamaaDoor
/- The cells of a struct of so many cells, one by one. Written by a small program. -/
namespace Go.Proofs.YtdngcheimohamaaDoor
open Go.RowKit
def SegAt (w : World) (a : Addr) (xs : List Value) : Prop := ∀ j u, xs[j]? = some u → w.cell? (a.add j) = some u
theorem add_add' (a : Addr) (i j : Nat) : (a.add i).add j = a.add (i + j) := by
  unfold Addr.add
  by_cases hi : i = 0 <;> by_cases hj : j = 0 <;> simp [hi, hj, Nat.add_assoc]
theorem flat_get {α β : Type} (f : α → List β) (m : Nat) (hf : ∀ a, (f a).length = m) : ∀ (l : List α) (k j : Nat) (a : α) (b : β), l[k]? = some a → (f a)[j]? = some b → (l.flatMap f)[k * m + j]? = some b
  | [], k, j, a, b, h, _ => by simp at h
  | c :: l, 0, j, a, b, h, hb => by
    simp at h; subst h
    have : j < (f c).length := (List.getElem?_eq_some_iff.1 hb).1
    rw [List.flatMap_cons, Nat.zero_mul, Nat.zero_add, List.getElem?_append_left this]; exact hb
  | c :: l, k + 1, j, a, b, h, hb => by
    rw [List.flatMap_cons, List.getElem?_append_right (by rw [hf]; rw [Nat.succ_mul]; omega), hf, show (k + 1) * m + j - m = k * m + j from by rw [Nat.succ_mul]; omega]
    exact flat_get f m hf l k j a b (by simpa using h) hb
theorem RowAt.seg {α : Type} {w : World} {ad : Addr} {l : List α} {f : α → List Value} (h : RowAt w (some ad) (l.flatMap f)) (m : Nat) (hf : ∀ a, (f a).length = m) {k : Nat} {a : α} (hk : l[k]? = some a) : SegAt w (ad.add (k * m)) (f a) := fun j u hu => by
  rw [add_add']
  exact h.cell (flat_get f m hf l k j a u hk hu)
theorem RowAt.some_flat {α : Type} {w : World} {A : Option Addr} {l : List α} {f : α → List Value} (h : RowAt w A (l.flatMap f)) (hf : ∀ a, f a ≠ []) {k : Nat} {a : α} (hk : l[k]? = some a) : ∃ ad, A = some ad := by
  have hm := List.mem_of_getElem? hk
  refine h.some_of ?_
  rcases l with _ | ⟨b, l⟩
  · simp at hm
  · have := hf b
    rw [List.flatMap_cons, List.length_append]
    have : 0 < (f b).length := List.length_pos_iff.2 this
    omega
theorem SegAt.fr {S : Nat → Prop} {w w' : World} {a : Addr} {xs : List Value} (h : SegAt w a xs) (f : Fr S w w') (hS : ¬ S a.block) : SegAt w' a xs := fun j u hu => f.cell (h j u hu) (by rw [add_block]; exact hS)
theorem SegAt.c1 {w : World} {a : Addr} {v0 : Value} (R : SegAt w a [v0]) : w.cell? a = some v0 :=
  R 0 _ rfl
theorem SegAt.c2 {w : World} {a : Addr} {v0 v1 : Value} (R : SegAt w a [v0, v1]) : w.cell? a = some v0 ∧ w.cell? ⟨a.block, a.off + 1, none⟩ = some v1 :=
  ⟨R 0 _ rfl, R 1 _ rfl⟩
theorem SegAt.c3 {w : World} {a : Addr} {v0 v1 v2 : Value} (R : SegAt w a [v0, v1, v2]) : w.cell? a = some v0 ∧ w.cell? ⟨a.block, a.off + 1, none⟩ = some v1 ∧ w.cell? ⟨a.block, a.off + 2, none⟩ = some v2 :=
  ⟨R 0 _ rfl, R 1 _ rfl, R 2 _ rfl⟩
theorem SegAt.c4 {w : World} {a : Addr} {v0 v1 v2 v3 : Value} (R : SegAt w a [v0, v1, v2, v3]) : w.cell? a = some v0 ∧ w.cell? ⟨a.block, a.off + 1, none⟩ = some v1 ∧ w.cell? ⟨a.block, a.off + 2, none⟩ = some v2 ∧ w.cell? ⟨a.block, a.off + 3, none⟩ = some v3 :=
  ⟨R 0 _ rfl, R 1 _ rfl, R 2 _ rfl, R 3 _ rfl⟩
theorem SegAt.c5 {w : World} {a : Addr} {v0 v1 v2 v3 v4 : Value} (R : SegAt w a [v0, v1, v2, v3, v4]) : w.cell? a = some v0 ∧ w.cell? ⟨a.block, a.off + 1, none⟩ = some v1 ∧ w.cell? ⟨a.block, a.off + 2, none⟩ = some v2 ∧ w.cell? ⟨a.block, a.off + 3, none⟩ = some v3 ∧ w.cell? ⟨a.block, a.off + 4, none⟩ = some v4 :=
  ⟨R 0 _ rfl, R 1 _ rfl, R 2 _ rfl, R 3 _ rfl, R 4 _ rfl⟩
theorem SegAt.c6 {w : World} {a : Addr} {v0 v1 v2 v3 v4 v5 : Value} (R : SegAt w a [v0, v1, v2, v3, v4, v5]) : w.cell? a = some v0 ∧ w.cell? ⟨a.block, a.off + 1, none⟩ = some v1 ∧ w.cell? ⟨a.block, a.off + 2, none⟩ = some v2 ∧ w.cell? ⟨a.block, a.off + 3, none⟩ = some v3 ∧ w.cell? ⟨a.block, a.off + 4, none⟩ = some v4 ∧ w.cell? ⟨a.block, a.off + 5, none⟩ = some v5 :=
  ⟨R 0 _ rfl, R 1 _ rfl, R 2 _ rfl, R 3 _ rfl, R 4 _ rfl, R 5 _ rfl⟩
theorem SegAt.c7 {w : World} {a : Addr} {v0 v1 v2 v3 v4 v5 v6 : Value} (R : SegAt w a [v0, v1, v2, v3, v4, v5, v6]) : w.cell? a = some v0 ∧ w.cell? ⟨a.block, a.off + 1, none⟩ = some v1 ∧ w.cell? ⟨a.block, a.off + 2, none⟩ = some v2 ∧ w.cell? ⟨a.block, a.off + 3, none⟩ = some v3 ∧ w.cell? ⟨a.block, a.off + 4, none⟩ = some v4 ∧ w.cell? ⟨a.block, a.off + 5, none⟩ = some v5 ∧ w.cell? ⟨a.block, a.off + 6, none⟩ = some v6 :=
  ⟨R 0 _ rfl, R 1 _ rfl, R 2 _ rfl, R 3 _ rfl, R 4 _ rfl, R 5 _ rfl, R 6 _ rfl⟩
theorem SegAt.c8 {w : World} {a : Addr} {v0 v1 v2 v3 v4 v5 v6 v7 : Value} (R : SegAt w a [v0, v1, v2, v3, v4, v5, v6, v7]) : w.cell? a = some v0 ∧ w.cell? ⟨a.block, a.off + 1, none⟩ = some v1 ∧ w.cell? ⟨a.block, a.off + 2, none⟩ = some v2 ∧ w.cell? ⟨a.block, a.off + 3, none⟩ = some v3 ∧ w.cell? ⟨a.block, a.off + 4, none⟩ = some v4 ∧ w.cell? ⟨a.block, a.off + 5, none⟩ = some v5 ∧ w.cell? ⟨a.block, a.off + 6, none⟩ = some v6 ∧ w.cell? ⟨a.block, a.off + 7, none⟩ = some v7 :=
  ⟨R 0 _ rfl, R 1 _ rfl, R 2 _ rfl, R 3 _ rfl, R 4 _ rfl, R 5 _ rfl, R 6 _ rfl, R 7 _ rfl⟩
theorem SegAt.c9 {w : World} {a : Addr} {v0 v1 v2 v3 v4 v5 v6 v7 v8 : Value} (R : SegAt w a [v0, v1, v2, v3, v4, v5, v6, v7, v8]) : w.cell? a = some v0 ∧ w.cell? ⟨a.block, a.off + 1, none⟩ = some v1 ∧ w.cell? ⟨a.block, a.off + 2, none⟩ = some v2 ∧ w.cell? ⟨a.block, a.off + 3, none⟩ = some v3 ∧ w.cell? ⟨a.block, a.off + 4, none⟩ = some v4 ∧ w.cell? ⟨a.block, a.off + 5, none⟩ = some v5 ∧ w.cell? ⟨a.block, a.off + 6, none⟩ = some v6 ∧ w.cell? ⟨a.block, a.off + 7, none⟩ = some v7 ∧ w.cell? ⟨a.block, a.off + 8, none⟩ = some v8 :=
  ⟨R 0 _ rfl, R 1 _ rfl, R 2 _ rfl, R 3 _ rfl, R 4 _ rfl, R 5 _ rfl, R 6 _ rfl, R 7 _ rfl, R 8 _ rfl⟩
theorem SegAt.c10 {w : World} {a : Addr} {v0 v1 v2 v3 v4 v5 v6 v7 v8 v9 : Value} (R : SegAt w a [v0, v1, v2, v3, v4, v5, v6, v7, v8, v9]) : w.cell? a = some v0 ∧ w.cell? ⟨a.block, a.off + 1, none⟩ = some v1 ∧ w.cell? ⟨a.block, a.off + 2, none⟩ = some v2 ∧ w.cell? ⟨a.block, a.off + 3, none⟩ = some v3 ∧ w.cell? ⟨a.block, a.off + 4, none⟩ = some v4 ∧ w.cell? ⟨a.block, a.off + 5, none⟩ = some v5 ∧ w.cell? ⟨a.block, a.off + 6, none⟩ = some v6 ∧ w.cell? ⟨a.block, a.off + 7, none⟩ = some v7 ∧ w.cell? ⟨a.block, a.off + 8, none⟩ = some v8 ∧ w.cell? ⟨a.block, a.off + 9, none⟩ = some v9 :=
  ⟨R 0 _ rfl, R 1 _ rfl, R 2 _ rfl, R 3 _ rfl, R 4 _ rfl, R 5 _ rfl, R 6 _ rfl, R 7 _ rfl, R 8 _ rfl, R 9 _ rfl⟩
theorem SegAt.c11 {w : World} {a : Addr} {v0 v1 v2 v3 v4 v5 v6 v7 v8 v9 v10 : Value} (R : SegAt w a [v0, v1, v2, v3, v4, v5, v6, v7, v8, v9, v10]) : w.cell? a = some v0 ∧ w.cell? ⟨a.block, a.off + 1, none⟩ = some v1 ∧ w.cell? ⟨a.block, a.off + 2, none⟩ = some v2 ∧ w.cell? ⟨a.block, a.off + 3, none⟩ = some v3 ∧ w.cell? ⟨a.block, a.off + 4, none⟩ = some v4 ∧ w.cell? ⟨a.block, a.off + 5, none⟩ = some v5 ∧ w.cell? ⟨a.block, a.off + 6, none⟩ = some v6 ∧ w.cell? ⟨a.block, a.off + 7, none⟩ = some v7 ∧ w.cell? ⟨a.block, a.off + 8, none⟩ = some v8 ∧ w.cell? ⟨a.block, a.off + 9, none⟩ = some v9 ∧ w.cell? ⟨a.block, a.off + 10, none⟩ = some v10 :=
  ⟨R 0 _ rfl, R 1 _ rfl, R 2 _ rfl, R 3 _ rfl, R 4 _ rfl, R 5 _ rfl, R 6 _ rfl, R 7 _ rfl, R 8 _ rfl, R 9 _ rfl, R 10 _ rfl⟩
theorem SegAt.c12 {w : World} {a : Addr} {v0 v1 v2 v3 v4 v5 v6 v7 v8 v9 v10 v11 : Value} (R : SegAt w a [v0, v1, v2, v3, v4, v5, v6, v7, v8, v9, v10, v11]) : w.cell? a = some v0 ∧ w.cell? ⟨a.block, a.off + 1, none⟩ = some v1 ∧ w.cell? ⟨a.block, a.off + 2, none⟩ = some v2 ∧ w.cell? ⟨a.block, a.off + 3, none⟩ = some v3 ∧ w.cell? ⟨a.block, a.off + 4, none⟩ = some v4 ∧ w.cell? ⟨a.block, a.off + 5, none⟩ = some v5 ∧ w.cell? ⟨a.block, a.off + 6, none⟩ = some v6 ∧ w.cell? ⟨a.block, a.off + 7, none⟩ = some v7 ∧ w.cell? ⟨a.block, a.off + 8, none⟩ = some v8 ∧ w.cell? ⟨a.block, a.off + 9, none⟩ = some v9 ∧ w.cell? ⟨a.block, a.off + 10, none⟩ = some v10 ∧ w.cell? ⟨a.block, a.off + 11, none⟩ = some v11 :=
  ⟨R 0 _ rfl, R 1 _ rfl, R 2 _ rfl, R 3 _ rfl, R 4 _ rfl, R 5 _ rfl, R 6 _ rfl, R 7 _ rfl, R 8 _ rfl, R 9 _ rfl, R 10 _ rfl, R 11 _ rfl⟩
theorem SegAt.c13 {w : World} {a : Addr} {v0 v1 v2 v3 v4 v5 v6 v7 v8 v9 v10 v11 v12 : Value} (R : SegAt w a [v0, v1, v2, v3, v4, v5, v6, v7, v8, v9, v10, v11, v12]) : w.cell? a = some v0 ∧ w.cell? ⟨a.block, a.off + 1, none⟩ = some v1 ∧ w.cell? ⟨a.block, a.off + 2, none⟩ = some v2 ∧ w.cell? ⟨a.block, a.off + 3, none⟩ = some v3 ∧ w.cell? ⟨a.block, a.off + 4, none⟩ = some v4 ∧ w.cell? ⟨a.block, a.off + 5, none⟩ = some v5 ∧ w.cell? ⟨a.block, a.off + 6, none⟩ = some v6 ∧ w.cell? ⟨a.block, a.off + 7, none⟩ = some v7 ∧ w.cell? ⟨a.block, a.off + 8, none⟩ = some v8 ∧ w.cell? ⟨a.block, a.off + 9, none⟩ = some v9 ∧ w.cell? ⟨a.block, a.off + 10, none⟩ = some v10 ∧ w.cell? ⟨a.block, a.off + 11, none⟩ = some v11 ∧ w.cell? ⟨a.block, a.off + 12, none⟩ = some v12 :=
  ⟨R 0 _ rfl, R 1 _ rfl, R 2 _ rfl, R 3 _ rfl, R 4 _ rfl, R 5 _ rfl, R 6 _ rfl, R 7 _ rfl, R 8 _ rfl, R 9 _ rfl, R 10 _ rfl, R 11 _ rfl, R 12 _ rfl⟩
theorem SegAt.c14 {w : World} {a : Addr} {v0 v1 v2 v3 v4 v5 v6 v7 v8 v9 v10 v11 v12 v13 : Value} (R : SegAt w a [v0, v1, v2, v3, v4, v5, v6, v7, v8, v9, v10, v11, v12, v13]) : w.cell? a = some v0 ∧ w.cell? ⟨a.block, a.off + 1, none⟩ = some v1 ∧ w.cell? ⟨a.block, a.off + 2, none⟩ = some v2 ∧ w.cell? ⟨a.block, a.off + 3, none⟩ = some v3 ∧ w.cell? ⟨a.block, a.off + 4, none⟩ = some v4 ∧ w.cell? ⟨a.block, a.off + 5, none⟩ = some v5 ∧ w.cell? ⟨a.block, a.off + 6, none⟩ = some v6 ∧ w.cell? ⟨a.block, a.off + 7, none⟩ = some v7 ∧ w.cell? ⟨a.block, a.off + 8, none⟩ = some v8 ∧ w.cell? ⟨a.block, a.off + 9, none⟩ = some v9 ∧ w.cell? ⟨a.block, a.off + 10, none⟩ = some v10 ∧ w.cell? ⟨a.block, a.off + 11, none⟩ = some v11 ∧ w.cell? ⟨a.block, a.off + 12, none⟩ = some v12 ∧ w.cell? ⟨a.block, a.off + 13, none⟩ = some v13 :=
  ⟨R 0 _ rfl, R 1 _ rfl, R 2 _ rfl, R 3 _ rfl, R 4 _ rfl, R 5 _ rfl, R 6 _ rfl, R 7 _ rfl, R 8 _ rfl, R 9 _ rfl, R 10 _ rfl, R 11 _ rfl, R 12 _ rfl, R 13 _ rfl⟩
theorem SegAt.c15 {w : World} {a : Addr} {v0 v1 v2 v3 v4 v5 v6 v7 v8 v9 v10 v11 v12 v13 v14 : Value} (R : SegAt w a [v0, v1, v2, v3, v4, v5, v6, v7, v8, v9, v10, v11, v12, v13, v14]) : w.cell? a = some v0 ∧ w.cell? ⟨a.block, a.off + 1, none⟩ = some v1 ∧ w.cell? ⟨a.block, a.off + 2, none⟩ = some v2 ∧ w.cell? ⟨a.block, a.off + 3, none⟩ = some v3 ∧ w.cell? ⟨a.block, a.off + 4, none⟩ = some v4 ∧ w.cell? ⟨a.block, a.off + 5, none⟩ = some v5 ∧ w.cell? ⟨a.block, a.off + 6, none⟩ = some v6 ∧ w.cell? ⟨a.block, a.off + 7, none⟩ = some v7 ∧ w.cell? ⟨a.block, a.off + 8, none⟩ = some v8 ∧ w.cell? ⟨a.block, a.off + 9, none⟩ = some v9 ∧ w.cell? ⟨a.block, a.off + 10, none⟩ = some v10 ∧ w.cell? ⟨a.block, a.off + 11, none⟩ = some v11 ∧ w.cell? ⟨a.block, a.off + 12, none⟩ = some v12 ∧ w.cell? ⟨a.block, a.off + 13, none⟩ = some v13 ∧ w.cell? ⟨a.block, a.off + 14, none⟩ = some v14 :=
  ⟨R 0 _ rfl, R 1 _ rfl, R 2 _ rfl, R 3 _ rfl, R 4 _ rfl, R 5 _ rfl, R 6 _ rfl, R 7 _ rfl, R 8 _ rfl, R 9 _ rfl, R 10 _ rfl, R 11 _ rfl, R 12 _ rfl, R 13 _ rfl, R 14 _ rfl⟩
theorem SegAt.c16 {w : World} {a : Addr} {v0 v1 v2 v3 v4 v5 v6 v7 v8 v9 v10 v11 v12 v13 v14 v15 : Value} (R : SegAt w a [v0, v1, v2, v3, v4, v5, v6, v7, v8, v9, v10, v11, v12, v13, v14, v15]) : w.cell? a = some v0 ∧ w.cell? ⟨a.block, a.off + 1, none⟩ = some v1 ∧ w.cell? ⟨a.block, a.off + 2, none⟩ = some v2 ∧ w.cell? ⟨a.block, a.off + 3, none⟩ = some v3 ∧ w.cell? ⟨a.block, a.off + 4, none⟩ = some v4 ∧ w.cell? ⟨a.block, a.off + 5, none⟩ = some v5 ∧ w.cell? ⟨a.block, a.off + 6, none⟩ = some v6 ∧ w.cell? ⟨a.block, a.off + 7, none⟩ = some v7 ∧ w.cell? ⟨a.block, a.off + 8, none⟩ = some v8 ∧ w.cell? ⟨a.block, a.off + 9, none⟩ = some v9 ∧ w.cell? ⟨a.block, a.off + 10, none⟩ = some v10 ∧ w.cell? ⟨a.block, a.off + 11, none⟩ = some v11 ∧ w.cell? ⟨a.block, a.off + 12, none⟩ = some v12 ∧ w.cell? ⟨a.block, a.off + 13, none⟩ = some v13 ∧ w.cell? ⟨a.block, a.off + 14, none⟩ = some v14 ∧ w.cell? ⟨a.block, a.off + 15, none⟩ = some v15 :=
  ⟨R 0 _ rfl, R 1 _ rfl, R 2 _ rfl, R 3 _ rfl, R 4 _ rfl, R 5 _ rfl, R 6 _ rfl, R 7 _ rfl, R 8 _ rfl, R 9 _ rfl, R 10 _ rfl, R 11 _ rfl, R 12 _ rfl, R 13 _ rfl, R 14 _ rfl, R 15 _ rfl⟩
theorem SegAt.c1z {w : World} {b : Nat} {v0 : Value} (R : SegAt w ⟨b, 0, none⟩ [v0]) : w.cell? ⟨b, 0, none⟩ = some v0 :=
  R 0 _ rfl
theorem SegAt.c2z {w : World} {b : Nat} {v0 v1 : Value} (R : SegAt w ⟨b, 0, none⟩ [v0, v1]) : w.cell? ⟨b, 0, none⟩ = some v0 ∧ w.cell? ⟨b, 1, none⟩ = some v1 :=
  ⟨R 0 _ rfl, R 1 _ rfl⟩
theorem SegAt.c3z {w : World} {b : Nat} {v0 v1 v2 : Value} (R : SegAt w ⟨b, 0, none⟩ [v0, v1, v2]) : w.cell? ⟨b, 0, none⟩ = some v0 ∧ w.cell? ⟨b, 1, none⟩ = some v1 ∧ w.cell? ⟨b, 2, none⟩ = some v2 :=
  ⟨R 0 _ rfl, R 1 _ rfl, R 2 _ rfl⟩
theorem SegAt.c4z {w : World} {b : Nat} {v0 v1 v2 v3 : Value} (R : SegAt w ⟨b, 0, none⟩ [v0, v1, v2, v3]) : w.cell? ⟨b, 0, none⟩ = some v0 ∧ w.cell? ⟨b, 1, none⟩ = some v1 ∧ w.cell? ⟨b, 2, none⟩ = some v2 ∧ w.cell? ⟨b, 3, none⟩ = some v3 :=
  ⟨R 0 _ rfl, R 1 _ rfl, R 2 _ rfl, R 3 _ rfl⟩
theorem SegAt.c5z {w : World} {b : Nat} {v0 v1 v2 v3 v4 : Value} (R : SegAt w ⟨b, 0, none⟩ [v0, v1, v2, v3, v4]) : w.cell? ⟨b, 0, none⟩ = some v0 ∧ w.cell? ⟨b, 1, none⟩ = some v1 ∧ w.cell? ⟨b, 2, none⟩ = some v2 ∧ w.cell? ⟨b, 3, none⟩ = some v3 ∧ w.cell? ⟨b, 4, none⟩ = some v4 :=
  ⟨R 0 _ rfl, R 1 _ rfl, R 2 _ rfl, R 3 _ rfl, R 4 _ rfl⟩
theorem SegAt.c6z {w : World} {b : Nat} {v0 v1 v2 v3 v4 v5 : Value} (R : SegAt w ⟨b, 0, none⟩ [v0, v1, v2, v3, v4, v5]) : w.cell? ⟨b, 0, none⟩ = some v0 ∧ w.cell? ⟨b, 1, none⟩ = some v1 ∧ w.cell? ⟨b, 2, none⟩ = some v2 ∧ w.cell? ⟨b, 3, none⟩ = some v3 ∧ w.cell? ⟨b, 4, none⟩ = some v4 ∧ w.cell? ⟨b, 5, none⟩ = some v5 :=
  ⟨R 0 _ rfl, R 1 _ rfl, R 2 _ rfl, R 3 _ rfl, R 4 _ rfl, R 5 _ rfl⟩
theorem SegAt.c7z {w : World} {b : Nat} {v0 v1 v2 v3 v4 v5 v6 : Value} (R : SegAt w ⟨b, 0, none⟩ [v0, v1, v2, v3, v4, v5, v6]) : w.cell? ⟨b, 0, none⟩ = some v0 ∧ w.cell? ⟨b, 1, none⟩ = some v1 ∧ w.cell? ⟨b, 2, none⟩ = some v2 ∧ w.cell? ⟨b, 3, none⟩ = some v3 ∧ w.cell? ⟨b, 4, none⟩ = some v4 ∧ w.cell? ⟨b, 5, none⟩ = some v5 ∧ w.cell? ⟨b, 6, none⟩ = some v6 :=
  ⟨R 0 _ rfl, R 1 _ rfl, R 2 _ rfl, R 3 _ rfl, R 4 _ rfl, R 5 _ rfl, R 6 _ rfl⟩
theorem SegAt.c8z {w : World} {b : Nat} {v0 v1 v2 v3 v4 v5 v6 v7 : Value} (R : SegAt w ⟨b, 0, none⟩ [v0, v1, v2, v3, v4, v5, v6, v7]) : w.cell? ⟨b, 0, none⟩ = some v0 ∧ w.cell? ⟨b, 1, none⟩ = some v1 ∧ w.cell? ⟨b, 2, none⟩ = some v2 ∧ w.cell? ⟨b, 3, none⟩ = some v3 ∧ w.cell? ⟨b, 4, none⟩ = some v4 ∧ w.cell? ⟨b, 5, none⟩ = some v5 ∧ w.cell? ⟨b, 6, none⟩ = some v6 ∧ w.cell? ⟨b, 7, none⟩ = some v7 :=
  ⟨R 0 _ rfl, R 1 _ rfl, R 2 _ rfl, R 3 _ rfl, R 4 _ rfl, R 5 _ rfl, R 6 _ rfl, R 7 _ rfl⟩
theorem SegAt.c9z {w : World} {b : Nat} {v0 v1 v2 v3 v4 v5 v6 v7 v8 : Value} (R : SegAt w ⟨b, 0, none⟩ [v0, v1, v2, v3, v4, v5, v6, v7, v8]) : w.cell? ⟨b, 0, none⟩ = some v0 ∧ w.cell? ⟨b, 1, none⟩ = some v1 ∧ w.cell? ⟨b, 2, none⟩ = some v2 ∧ w.cell? ⟨b, 3, none⟩ = some v3 ∧ w.cell? ⟨b, 4, none⟩ = some v4 ∧ w.cell? ⟨b, 5, none⟩ = some v5 ∧ w.cell? ⟨b, 6, none⟩ = some v6 ∧ w.cell? ⟨b, 7, none⟩ = some v7 ∧ w.cell? ⟨b, 8, none⟩ = some v8 :=
  ⟨R 0 _ rfl, R 1 _ rfl, R 2 _ rfl, R 3 _ rfl, R 4 _ rfl, R 5 _ rfl, R 6 _ rfl, R 7 _ rfl, R 8 _ rfl⟩
theorem SegAt.c10z {w : World} {b : Nat} {v0 v1 v2 v3 v4 v5 v6 v7 v8 v9 : Value} (R : SegAt w ⟨b, 0, none⟩ [v0, v1, v2, v3, v4, v5, v6, v7, v8, v9]) : w.cell? ⟨b, 0, none⟩ = some v0 ∧ w.cell? ⟨b, 1, none⟩ = some v1 ∧ w.cell? ⟨b, 2, none⟩ = some v2 ∧ w.cell? ⟨b, 3, none⟩ = some v3 ∧ w.cell? ⟨b, 4, none⟩ = some v4 ∧ w.cell? ⟨b, 5, none⟩ = some v5 ∧ w.cell? ⟨b, 6, none⟩ = some v6 ∧ w.cell? ⟨b, 7, none⟩ = some v7 ∧ w.cell? ⟨b, 8, none⟩ = some v8 ∧ w.cell? ⟨b, 9, none⟩ = some v9 :=
  ⟨R 0 _ rfl, R 1 _ rfl, R 2 _ rfl, R 3 _ rfl, R 4 _ rfl, R 5 _ rfl, R 6 _ rfl, R 7 _ rfl, R 8 _ rfl, R 9 _ rfl⟩
theorem SegAt.c11z {w : World} {b : Nat} {v0 v1 v2 v3 v4 v5 v6 v7 v8 v9 v10 : Value} (R : SegAt w ⟨b, 0, none⟩ [v0, v1, v2, v3, v4, v5, v6, v7, v8, v9, v10]) : w.cell? ⟨b, 0, none⟩ = some v0 ∧ w.cell? ⟨b, 1, none⟩ = some v1 ∧ w.cell? ⟨b, 2, none⟩ = some v2 ∧ w.cell? ⟨b, 3, none⟩ = some v3 ∧ w.cell? ⟨b, 4, none⟩ = some v4 ∧ w.cell? ⟨b, 5, none⟩ = some v5 ∧ w.cell? ⟨b, 6, none⟩ = some v6 ∧ w.cell? ⟨b, 7, none⟩ = some v7 ∧ w.cell? ⟨b, 8, none⟩ = some v8 ∧ w.cell? ⟨b, 9, none⟩ = some v9 ∧ w.cell? ⟨b, 10, none⟩ = some v10 :=
  ⟨R 0 _ rfl, R 1 _ rfl, R 2 _ rfl, R 3 _ rfl, R 4 _ rfl, R 5 _ rfl, R 6 _ rfl, R 7 _ rfl, R 8 _ rfl, R 9 _ rfl, R 10 _ rfl⟩
theorem SegAt.c12z {w : World} {b : Nat} {v0 v1 v2 v3 v4 v5 v6 v7 v8 v9 v10 v11 : Value} (R : SegAt w ⟨b, 0, none⟩ [v0, v1, v2, v3, v4, v5, v6, v7, v8, v9, v10, v11]) : w.cell? ⟨b, 0, none⟩ = some v0 ∧ w.cell? ⟨b, 1, none⟩ = some v1 ∧ w.cell? ⟨b, 2, none⟩ = some v2 ∧ w.cell? ⟨b, 3, none⟩ = some v3 ∧ w.cell? ⟨b, 4, none⟩ = some v4 ∧ w.cell? ⟨b, 5, none⟩ = some v5 ∧ w.cell? ⟨b, 6, none⟩ = some v6 ∧ w.cell? ⟨b, 7, none⟩ = some v7 ∧ w.cell? ⟨b, 8, none⟩ = some v8 ∧ w.cell? ⟨b, 9, none⟩ = some v9 ∧ w.cell? ⟨b, 10, none⟩ = some v10 ∧ w.cell? ⟨b, 11, none⟩ = some v11 :=
  ⟨R 0 _ rfl, R 1 _ rfl, R 2 _ rfl, R 3 _ rfl, R 4 _ rfl, R 5 _ rfl, R 6 _ rfl, R 7 _ rfl, R 8 _ rfl, R 9 _ rfl, R 10 _ rfl, R 11 _ rfl⟩
theorem SegAt.c13z {w : World} {b : Nat} {v0 v1 v2 v3 v4 v5 v6 v7 v8 v9 v10 v11 v12 : Value} (R : SegAt w ⟨b, 0, none⟩ [v0, v1, v2, v3, v4, v5, v6, v7, v8, v9, v10, v11, v12]) : w.cell? ⟨b, 0, none⟩ = some v0 ∧ w.cell? ⟨b, 1, none⟩ = some v1 ∧ w.cell? ⟨b, 2, none⟩ = some v2 ∧ w.cell? ⟨b, 3, none⟩ = some v3 ∧ w.cell? ⟨b, 4, none⟩ = some v4 ∧ w.cell? ⟨b, 5, none⟩ = some v5 ∧ w.cell? ⟨b, 6, none⟩ = some v6 ∧ w.cell? ⟨b, 7, none⟩ = some v7 ∧ w.cell? ⟨b, 8, none⟩ = some v8 ∧ w.cell? ⟨b, 9, none⟩ = some v9 ∧ w.cell? ⟨b, 10, none⟩ = some v10 ∧ w.cell? ⟨b, 11, none⟩ = some v11 ∧ w.cell? ⟨b, 12, none⟩ = some v12 :=
  ⟨R 0 _ rfl, R 1 _ rfl, R 2 _ rfl, R 3 _ rfl, R 4 _ rfl, R 5 _ rfl, R 6 _ rfl, R 7 _ rfl, R 8 _ rfl, R 9 _ rfl, R 10 _ rfl, R 11 _ rfl, R 12 _ rfl⟩
theorem SegAt.c14z {w : World} {b : Nat} {v0 v1 v2 v3 v4 v5 v6 v7 v8 v9 v10 v11 v12 v13 : Value} (R : SegAt w ⟨b, 0, none⟩ [v0, v1, v2, v3, v4, v5, v6, v7, v8, v9, v10, v11, v12, v13]) : w.cell? ⟨b, 0, none⟩ = some v0 ∧ w.cell? ⟨b, 1, none⟩ = some v1 ∧ w.cell? ⟨b, 2, none⟩ = some v2 ∧ w.cell? ⟨b, 3, none⟩ = some v3 ∧ w.cell? ⟨b, 4, none⟩ = some v4 ∧ w.cell? ⟨b, 5, none⟩ = some v5 ∧ w.cell? ⟨b, 6, none⟩ = some v6 ∧ w.cell? ⟨b, 7, none⟩ = some v7 ∧ w.cell? ⟨b, 8, none⟩ = some v8 ∧ w.cell? ⟨b, 9, none⟩ = some v9 ∧ w.cell? ⟨b, 10, none⟩ = some v10 ∧ w.cell? ⟨b, 11, none⟩ = some v11 ∧ w.cell? ⟨b, 12, none⟩ = some v12 ∧ w.cell? ⟨b, 13, none⟩ = some v13 :=
  ⟨R 0 _ rfl, R 1 _ rfl, R 2 _ rfl, R 3 _ rfl, R 4 _ rfl, R 5 _ rfl, R 6 _ rfl, R 7 _ rfl, R 8 _ rfl, R 9 _ rfl, R 10 _ rfl, R 11 _ rfl, R 12 _ rfl, R 13 _ rfl⟩
theorem SegAt.c15z {w : World} {b : Nat} {v0 v1 v2 v3 v4 v5 v6 v7 v8 v9 v10 v11 v12 v13 v14 : Value} (R : SegAt w ⟨b, 0, none⟩ [v0, v1, v2, v3, v4, v5, v6, v7, v8, v9, v10, v11, v12, v13, v14]) : w.cell? ⟨b, 0, none⟩ = some v0 ∧ w.cell? ⟨b, 1, none⟩ = some v1 ∧ w.cell? ⟨b, 2, none⟩ = some v2 ∧ w.cell? ⟨b, 3, none⟩ = some v3 ∧ w.cell? ⟨b, 4, none⟩ = some v4 ∧ w.cell? ⟨b, 5, none⟩ = some v5 ∧ w.cell? ⟨b, 6, none⟩ = some v6 ∧ w.cell? ⟨b, 7, none⟩ = some v7 ∧ w.cell? ⟨b, 8, none⟩ = some v8 ∧ w.cell? ⟨b, 9, none⟩ = some v9 ∧ w.cell? ⟨b, 10, none⟩ = some v10 ∧ w.cell? ⟨b, 11, none⟩ = some v11 ∧ w.cell? ⟨b, 12, none⟩ = some v12 ∧ w.cell? ⟨b, 13, none⟩ = some v13 ∧ w.cell? ⟨b, 14, none⟩ = some v14 :=
  ⟨R 0 _ rfl, R 1 _ rfl, R 2 _ rfl, R 3 _ rfl, R 4 _ rfl, R 5 _ rfl, R 6 _ rfl, R 7 _ rfl, R 8 _ rfl, R 9 _ rfl, R 10 _ rfl, R 11 _ rfl, R 12 _ rfl, R 13 _ rfl, R 14 _ rfl⟩
theorem SegAt.c16z {w : World} {b : Nat} {v0 v1 v2 v3 v4 v5 v6 v7 v8 v9 v10 v11 v12 v13 v14 v15 : Value} (R : SegAt w ⟨b, 0, none⟩ [v0, v1, v2, v3, v4, v5, v6, v7, v8, v9, v10, v11, v12, v13, v14, v15]) : w.cell? ⟨b, 0, none⟩ = some v0 ∧ w.cell? ⟨b, 1, none⟩ = some v1 ∧ w.cell? ⟨b, 2, none⟩ = some v2 ∧ w.cell? ⟨b, 3, none⟩ = some v3 ∧ w.cell? ⟨b, 4, none⟩ = some v4 ∧ w.cell? ⟨b, 5, none⟩ = some v5 ∧ w.cell? ⟨b, 6, none⟩ = some v6 ∧ w.cell? ⟨b, 7, none⟩ = some v7 ∧ w.cell? ⟨b, 8, none⟩ = some v8 ∧ w.cell? ⟨b, 9, none⟩ = some v9 ∧ w.cell? ⟨b, 10, none⟩ = some v10 ∧ w.cell? ⟨b, 11, none⟩ = some v11 ∧ w.cell? ⟨b, 12, none⟩ = some v12 ∧ w.cell? ⟨b, 13, none⟩ = some v13 ∧ w.cell? ⟨b, 14, none⟩ = some v14 ∧ w.cell? ⟨b, 15, none⟩ = some v15 :=
  ⟨R 0 _ rfl, R 1 _ rfl, R 2 _ rfl, R 3 _ rfl, R 4 _ rfl, R 5 _ rfl, R 6 _ rfl, R 7 _ rfl, R 8 _ rfl, R 9 _ rfl, R 10 _ rfl, R 11 _ rfl, R 12 _ rfl, R 13 _ rfl, R 14 _ rfl, R 15 _ rfl⟩
end Go.Proofs.YtdngcheimohamaaDoor
/- interrexlaw01.few, same. -/
namespace Go.Proofs.YtdngcheimohamaaDoor
open Go.RowKit

/-- An Item as it lies in memory. -/
structure Item where
  k : Nat
  x : Nat
  is : Bool
  s : ByteArray
  LA : Option Addr
  Lc : Nat
  L : List ByteArray
  most : Int
  long : Int
  e : Int
def Item.cells (i : Item) : List Value := [Value.int .u8 i.k, .int .u64 i.x, .bool i.is, .string i.s, .slice i.LA i.L.length i.Lc, .int .i64 i.most, .int .i64 i.long, .int .i64 i.e]
/-- The integers of an item are integers of their types. -/
structure Item.wf (i : Item) : Prop where
  m1 : -9223372036854775808 ≤ i.most
  m2 : i.most ≤ 9223372036854775807
  l1 : -9223372036854775808 ≤ i.long
  l2 : i.long ≤ 9223372036854775807
  e1 : -9223372036854775808 ≤ i.e
  e2 : i.e ≤ 9223372036854775807
structure ItemsAt (w : World) (A : Option Addr) (l : List Item) : Prop where
  row : RowAt w A (l.flatMap Item.cells)
  sub : ∀ i ∈ l, RowAt w i.LA (strs i.L)
theorem Item.cells_length (i : Item) : i.cells.length = 8 := rfl
def Item.ok (i : Item) : Bool := decide (i.s.size ≤ 100) && decide (i.L.length ≤ 10) && i.L.all fun s => decide (s.size ≤ 50)
def fewB (l : List Item) : Bool := l.all Item.ok && decide (l.length ≤ 30)

/-- A call that answers b, and turns nothing that was there. -/
def BoolPost (w : World) (b : Bool) (e : Ending) (w' : World) : Prop := e = .returned (.bool b) ∧ Fr noB w w'
theorem BoolPost.mk' {w w' : World} {b b' : Bool} (h : b = b') (hf : Fr noB w w') : BoolPost w b' (.returned (.bool b)) w' := ⟨by rw [h], hf⟩

end Go.Proofs.YtdngcheimohamaaDoor
/- interrexlaw01.same. -/
namespace Go.Proofs.YtdngcheimohamaaDoor
open Go.RowKit

theorem str_eq (s t : ByteArray) : (s.toList == t.toList) = decide (s = t) := by
  rw [ByteArray.toList_eq, ByteArray.toList_eq, Bool.eq_iff_iff, beq_iff_eq, decide_eq_true_iff]
  exact ⟨fun h => ByteArray.ext (Array.ext' h), fun h => by rw [h]⟩
end Go.Proofs.YtdngcheimohamaaDoor
/- op.From, op.Name, op.Same, interrexref14.From, interrexlaw07.SameTexts. -/
namespace Go.Proofs.YtdngcheimohamaaDoor
open Go.RowKit

def fromV (i : Int) : Int := if i < 0 ∨ 17 ≤ i then 0 else if 5 ≤ i ∧ i ≤ 14 then 2 else 1
def IntPost (w : World) (i : Int) (e : Ending) (w' : World) : Prop := e = .returned (.int .i64 i) ∧ Fr noB w w'

/-- The name of a kind; out of the kinds the empty text. -/
def nameV (i : Int) : List UInt8 := if i < 0 then [] else namesL.getD i.toNat []
theorem nameV_out {i : Int} (h : i < 0 ∨ 17 ≤ i) : nameV i = [] := by
  unfold nameV
  split
  · rfl
  · rw [List.getD_eq_getElem?_getD, List.getElem?_eq_none (by simp only [namesL, List.length_cons, List.length_nil]; omega)]; rfl
theorem nameV_in {k : Nat} (h : k < 17) : namesL[k]? = some (nameV k) := by
  unfold nameV
  rw [if_neg (by omega), List.getD_eq_getElem?_getD, Int.toNat_natCast, List.getElem?_eq_getElem (by simpa [namesL] using h)]
  rfl
end Go.Proofs.YtdngcheimohamaaDoor
/- op.Same; op.Op's values; op.right, op.bare. -/
namespace Go.Proofs.YtdngcheimohamaaDoor
open Go.RowKit

/-- An operation. -/
structure OpV where
  k : Nat
  a : ByteArray
  b : ByteArray
  n : Nat
  r : Nat
def OpV.v (o : OpV) : Value := .agg #[.int .u8 o.k, .string o.a, .string o.b, .int .u8 o.n, .int .u8 o.r]
def rightV (o : OpV) (c : UInt8) : Bool := if c = 110 then decide (o.n < 7) else if c = 114 then decide (1 ≤ o.r) && decide (o.r ≤ 3) else true
theorem right_calls (w : World) (o : OpV) (c : UInt8) : Calls Tryd.prog 40 #[o.v, .int .u8 c.toNat] w (BoolPost w (rightV o c)) := by
  obtain ⟨k, a, b, n, r⟩ := o
  unfold OpV.v
  by_cases h1 : c = 110
  · subst h1
    have HR : Hid (rightV ⟨k, a, b, n, r⟩ 110 = decide (n < 7)) := rfl
    go_enter Tryd.func40, Tryd.ntmps40
    go_wp2_with fail
    go_ret
    exact BoolPost.mk' (by rw [HR.out]; exact decide_eq_decide.2 (by omega)) ((Fr.refl noB w).alloc _)
  · by_cases h2 : c = 114
    · subst h2
      have HR : Hid (rightV ⟨k, a, b, n, r⟩ 114 = (decide (1 ≤ r) && decide (r ≤ 3))) := rfl
      by_cases h3 : 1 ≤ r
      · have t3 : decide (1 ≤ (r : Int)) = true := decide_eq_true (by omega)
        go_enter Tryd.func40, Tryd.ntmps40
        go_wp2_with fail
        go_ret
        refine BoolPost.mk' ?_ ((Fr.refl noB w).alloc _)
        rw [HR.out, decide_eq_true h3]; simp; omega
      · have t3 : decide (1 ≤ (r : Int)) = false := decide_eq_false (by omega)
        go_enter Tryd.func40, Tryd.ntmps40
        go_wp2_with fail
        go_ret
        refine BoolPost.mk' ?_ ((Fr.refl noB w).alloc _)
        rw [HR.out, decide_eq_false h3]; simp
    · have HR : Hid (rightV ⟨k, a, b, n, r⟩ c = true) := by unfold Hid rightV; rw [if_neg h1, if_neg h2]
      have t1 : ((c.toNat : Int) == 110) = false := by
        rw [beq_eq_false_iff_ne]; intro h; exact h1 (UInt8.toNat_inj.1 (by simpa using (by omega : c.toNat = 110)))
      have t2 : ((c.toNat : Int) == 114) = false := by
        rw [beq_eq_false_iff_ne]; intro h; exact h2 (UInt8.toNat_inj.1 (by simpa using (by omega : c.toNat = 114)))
      clear h1 h2
      go_enter Tryd.func40, Tryd.ntmps40
      go_wp2_with fail
      go_ret
      exact BoolPost.mk' HR.out.symm ((Fr.refl noB w).alloc _)
end Go.Proofs.YtdngcheimohamaaDoor
/- A block of cells, whole. -/
namespace Go.Proofs.YtdngcheimohamaaDoor
open Go.RowKit
/-! ### A block of cells, whole -/
def BlkAt (w : World) (p : Nat) (T : TypeId) (C : Array Value) : Prop := w.heap[p]? = some (.cells C T (0, 0))
theorem BlkAt.fr {S : Nat → Prop} {w w' : World} {p : Nat} {T : TypeId} {C : Array Value} (h : BlkAt w p T C) (f : Fr S w w') (hp : ¬ S p) : BlkAt w' p T C := f.heap h hp
theorem BlkAt.cell {w : World} {p : Nat} {T : TypeId} {C : Array Value} (h : BlkAt w p T C) {k : Nat} {v : Value} (hk : C[k]? = some v) : w.cell? ⟨p, k, none⟩ = some v := by
  rw [cell_of_row _ _ _ _ _ _ h]; exact hk
theorem BlkAt.free {w : World} {p : Nat} {T : TypeId} {C : Array Value} (h : BlkAt w p T C) (k : Nat) : w.frozen? ⟨p, k, none⟩ = false := by
  unfold BlkAt at h
  simp [World.frozen?, h]
theorem BlkAt.set {w : World} {p : Nat} {T : TypeId} {C : Array Value} (h : BlkAt w p T C) (k : Nat) (v : Value) : BlkAt (w.setCell ⟨p, k, none⟩ v) p T (C.setIfInBounds k v) := by
  unfold BlkAt at *
  simp only [World.setCell, Array.getElem?_modify, h]
  simp
theorem BlkAt.new (w : World) (C : Array Value) (T : TypeId) : BlkAt (w.alloc (.cells C T)) w.heap.size T C := by
  show (w.heap.push _)[w.heap.size]? = _
  simp
theorem BlkAt.al {w : World} {p : Nat} {T : TypeId} {C : Array Value} (h : BlkAt w p T C) (o : Obj) : BlkAt (w.alloc o) p T C := ((Fr.refl noB w).alloc o).heap h id
theorem al_size (w : World) (o : Obj) : (w.alloc o).heap.size = w.heap.size + 1 := Array.size_push _
theorem BlkAt.drew {w : World} {p : Nat} {T : TypeId} {C : Array Value} (h : BlkAt w p T C) : BlkAt w.drew p T C := h
theorem BlkAt.lt {w : World} {p : Nat} {T : TypeId} {C : Array Value} (h : BlkAt w p T C) : p < w.heap.size := (Array.getElem?_eq_some_iff.1 h).1
theorem fr_set1 (w : World) (p k : Nat) (v : Value) : Fr (eqB p) w (w.setCell ⟨p, k, none⟩ v) := (Fr.refl (eqB p) w).setCell (p := ⟨p, k, none⟩) (Or.inl rfl) v
theorem sib_ne {C : Array Value} {i j : Nat} {v : Value} (h : i ≠ j) : (C.setIfInBounds i v)[j]? = C[j]? := by simp [Array.getElem?_setIfInBounds, h]
theorem sib_eq {C : Array Value} {i : Nat} {v : Value} (h : i < C.size) : (C.setIfInBounds i v)[i]? = some v := by simp [Array.getElem?_setIfInBounds, h]
theorem BlkAt.c1 {w : World} {p : Nat} {T : TypeId} {v0 : Value} (h : BlkAt w p T #[v0]) :
    w.cell? ⟨p, 0, none⟩ = some v0 ∧ ∀ j, w.frozen? ⟨p, j, none⟩ = false :=
  ⟨h.cell rfl, h.free⟩
theorem BlkAt.c2 {w : World} {p : Nat} {T : TypeId} {v0 v1 : Value} (h : BlkAt w p T #[v0, v1]) :
    w.cell? ⟨p, 0, none⟩ = some v0 ∧ w.cell? ⟨p, 1, none⟩ = some v1 ∧ ∀ j, w.frozen? ⟨p, j, none⟩ = false :=
  ⟨h.cell rfl, h.cell rfl, h.free⟩
theorem BlkAt.c3 {w : World} {p : Nat} {T : TypeId} {v0 v1 v2 : Value} (h : BlkAt w p T #[v0, v1, v2]) :
    w.cell? ⟨p, 0, none⟩ = some v0 ∧ w.cell? ⟨p, 1, none⟩ = some v1 ∧ w.cell? ⟨p, 2, none⟩ = some v2 ∧ ∀ j, w.frozen? ⟨p, j, none⟩ = false :=
  ⟨h.cell rfl, h.cell rfl, h.cell rfl, h.free⟩
theorem BlkAt.c4 {w : World} {p : Nat} {T : TypeId} {v0 v1 v2 v3 : Value} (h : BlkAt w p T #[v0, v1, v2, v3]) :
    w.cell? ⟨p, 0, none⟩ = some v0 ∧ w.cell? ⟨p, 1, none⟩ = some v1 ∧ w.cell? ⟨p, 2, none⟩ = some v2 ∧ w.cell? ⟨p, 3, none⟩ = some v3 ∧ ∀ j, w.frozen? ⟨p, j, none⟩ = false :=
  ⟨h.cell rfl, h.cell rfl, h.cell rfl, h.cell rfl, h.free⟩
theorem BlkAt.c5 {w : World} {p : Nat} {T : TypeId} {v0 v1 v2 v3 v4 : Value} (h : BlkAt w p T #[v0, v1, v2, v3, v4]) :
    w.cell? ⟨p, 0, none⟩ = some v0 ∧ w.cell? ⟨p, 1, none⟩ = some v1 ∧ w.cell? ⟨p, 2, none⟩ = some v2 ∧ w.cell? ⟨p, 3, none⟩ = some v3 ∧ w.cell? ⟨p, 4, none⟩ = some v4 ∧ ∀ j, w.frozen? ⟨p, j, none⟩ = false :=
  ⟨h.cell rfl, h.cell rfl, h.cell rfl, h.cell rfl, h.cell rfl, h.free⟩
theorem BlkAt.c6 {w : World} {p : Nat} {T : TypeId} {v0 v1 v2 v3 v4 v5 : Value} (h : BlkAt w p T #[v0, v1, v2, v3, v4, v5]) :
    w.cell? ⟨p, 0, none⟩ = some v0 ∧ w.cell? ⟨p, 1, none⟩ = some v1 ∧ w.cell? ⟨p, 2, none⟩ = some v2 ∧ w.cell? ⟨p, 3, none⟩ = some v3 ∧ w.cell? ⟨p, 4, none⟩ = some v4 ∧ w.cell? ⟨p, 5, none⟩ = some v5 ∧ ∀ j, w.frozen? ⟨p, j, none⟩ = false :=
  ⟨h.cell rfl, h.cell rfl, h.cell rfl, h.cell rfl, h.cell rfl, h.cell rfl, h.free⟩
theorem BlkAt.c7 {w : World} {p : Nat} {T : TypeId} {v0 v1 v2 v3 v4 v5 v6 : Value} (h : BlkAt w p T #[v0, v1, v2, v3, v4, v5, v6]) :
    w.cell? ⟨p, 0, none⟩ = some v0 ∧ w.cell? ⟨p, 1, none⟩ = some v1 ∧ w.cell? ⟨p, 2, none⟩ = some v2 ∧ w.cell? ⟨p, 3, none⟩ = some v3 ∧ w.cell? ⟨p, 4, none⟩ = some v4 ∧ w.cell? ⟨p, 5, none⟩ = some v5 ∧ w.cell? ⟨p, 6, none⟩ = some v6 ∧ ∀ j, w.frozen? ⟨p, j, none⟩ = false :=
  ⟨h.cell rfl, h.cell rfl, h.cell rfl, h.cell rfl, h.cell rfl, h.cell rfl, h.cell rfl, h.free⟩
theorem BlkAt.c8 {w : World} {p : Nat} {T : TypeId} {v0 v1 v2 v3 v4 v5 v6 v7 : Value} (h : BlkAt w p T #[v0, v1, v2, v3, v4, v5, v6, v7]) :
    w.cell? ⟨p, 0, none⟩ = some v0 ∧ w.cell? ⟨p, 1, none⟩ = some v1 ∧ w.cell? ⟨p, 2, none⟩ = some v2 ∧ w.cell? ⟨p, 3, none⟩ = some v3 ∧ w.cell? ⟨p, 4, none⟩ = some v4 ∧ w.cell? ⟨p, 5, none⟩ = some v5 ∧ w.cell? ⟨p, 6, none⟩ = some v6 ∧ w.cell? ⟨p, 7, none⟩ = some v7 ∧ ∀ j, w.frozen? ⟨p, j, none⟩ = false :=
  ⟨h.cell rfl, h.cell rfl, h.cell rfl, h.cell rfl, h.cell rfl, h.cell rfl, h.cell rfl, h.cell rfl, h.free⟩
theorem BlkAt.c9 {w : World} {p : Nat} {T : TypeId} {v0 v1 v2 v3 v4 v5 v6 v7 v8 : Value} (h : BlkAt w p T #[v0, v1, v2, v3, v4, v5, v6, v7, v8]) :
    w.cell? ⟨p, 0, none⟩ = some v0 ∧ w.cell? ⟨p, 1, none⟩ = some v1 ∧ w.cell? ⟨p, 2, none⟩ = some v2 ∧ w.cell? ⟨p, 3, none⟩ = some v3 ∧ w.cell? ⟨p, 4, none⟩ = some v4 ∧ w.cell? ⟨p, 5, none⟩ = some v5 ∧ w.cell? ⟨p, 6, none⟩ = some v6 ∧ w.cell? ⟨p, 7, none⟩ = some v7 ∧ w.cell? ⟨p, 8, none⟩ = some v8 ∧ ∀ j, w.frozen? ⟨p, j, none⟩ = false :=
  ⟨h.cell rfl, h.cell rfl, h.cell rfl, h.cell rfl, h.cell rfl, h.cell rfl, h.cell rfl, h.cell rfl, h.cell rfl, h.free⟩
theorem BlkAt.c10 {w : World} {p : Nat} {T : TypeId} {v0 v1 v2 v3 v4 v5 v6 v7 v8 v9 : Value} (h : BlkAt w p T #[v0, v1, v2, v3, v4, v5, v6, v7, v8, v9]) :
    w.cell? ⟨p, 0, none⟩ = some v0 ∧ w.cell? ⟨p, 1, none⟩ = some v1 ∧ w.cell? ⟨p, 2, none⟩ = some v2 ∧ w.cell? ⟨p, 3, none⟩ = some v3 ∧ w.cell? ⟨p, 4, none⟩ = some v4 ∧ w.cell? ⟨p, 5, none⟩ = some v5 ∧ w.cell? ⟨p, 6, none⟩ = some v6 ∧ w.cell? ⟨p, 7, none⟩ = some v7 ∧ w.cell? ⟨p, 8, none⟩ = some v8 ∧ w.cell? ⟨p, 9, none⟩ = some v9 ∧ ∀ j, w.frozen? ⟨p, j, none⟩ = false :=
  ⟨h.cell rfl, h.cell rfl, h.cell rfl, h.cell rfl, h.cell rfl, h.cell rfl, h.cell rfl, h.cell rfl, h.cell rfl, h.cell rfl, h.free⟩
theorem BlkAt.c11 {w : World} {p : Nat} {T : TypeId} {v0 v1 v2 v3 v4 v5 v6 v7 v8 v9 v10 : Value} (h : BlkAt w p T #[v0, v1, v2, v3, v4, v5, v6, v7, v8, v9, v10]) :
    w.cell? ⟨p, 0, none⟩ = some v0 ∧ w.cell? ⟨p, 1, none⟩ = some v1 ∧ w.cell? ⟨p, 2, none⟩ = some v2 ∧ w.cell? ⟨p, 3, none⟩ = some v3 ∧ w.cell? ⟨p, 4, none⟩ = some v4 ∧ w.cell? ⟨p, 5, none⟩ = some v5 ∧ w.cell? ⟨p, 6, none⟩ = some v6 ∧ w.cell? ⟨p, 7, none⟩ = some v7 ∧ w.cell? ⟨p, 8, none⟩ = some v8 ∧ w.cell? ⟨p, 9, none⟩ = some v9 ∧ w.cell? ⟨p, 10, none⟩ = some v10 ∧ ∀ j, w.frozen? ⟨p, j, none⟩ = false :=
  ⟨h.cell rfl, h.cell rfl, h.cell rfl, h.cell rfl, h.cell rfl, h.cell rfl, h.cell rfl, h.cell rfl, h.cell rfl, h.cell rfl, h.cell rfl, h.free⟩
theorem BlkAt.c12 {w : World} {p : Nat} {T : TypeId} {v0 v1 v2 v3 v4 v5 v6 v7 v8 v9 v10 v11 : Value} (h : BlkAt w p T #[v0, v1, v2, v3, v4, v5, v6, v7, v8, v9, v10, v11]) :
    w.cell? ⟨p, 0, none⟩ = some v0 ∧ w.cell? ⟨p, 1, none⟩ = some v1 ∧ w.cell? ⟨p, 2, none⟩ = some v2 ∧ w.cell? ⟨p, 3, none⟩ = some v3 ∧ w.cell? ⟨p, 4, none⟩ = some v4 ∧ w.cell? ⟨p, 5, none⟩ = some v5 ∧ w.cell? ⟨p, 6, none⟩ = some v6 ∧ w.cell? ⟨p, 7, none⟩ = some v7 ∧ w.cell? ⟨p, 8, none⟩ = some v8 ∧ w.cell? ⟨p, 9, none⟩ = some v9 ∧ w.cell? ⟨p, 10, none⟩ = some v10 ∧ w.cell? ⟨p, 11, none⟩ = some v11 ∧ ∀ j, w.frozen? ⟨p, j, none⟩ = false :=
  ⟨h.cell rfl, h.cell rfl, h.cell rfl, h.cell rfl, h.cell rfl, h.cell rfl, h.cell rfl, h.cell rfl, h.cell rfl, h.cell rfl, h.cell rfl, h.cell rfl, h.free⟩
end Go.Proofs.YtdngcheimohamaaDoor
/- Ranges over a text of ASCII letters, the iterator in whatever block. -/
namespace Go.Proofs.YtdngcheimohamaaDoor
open Go.RowKit

/-- The iterator in block p stands at k in the text of these bytes. -/
def IterAt (w : World) (p : Nat) (z : List UInt8) (k : Nat) : Prop := w.heap[p]? = some (.stringIter (mkS z) k)
theorem IterAt.fr {S : Nat → Prop} {w w' : World} {p k : Nat} {z : List UInt8} (h : IterAt w p z k) (f : Fr S w w') (hp : ¬ S p) : IterAt w' p z k := f.heap h hp
theorem IterAt.lt {w : World} {p k : Nat} {z : List UInt8} (h : IterAt w p z k) : p < w.heap.size := (Array.getElem?_eq_some_iff.1 h).1
theorem IterAt.new (w : World) (z : List UInt8) : IterAt (w.iter (mkS z) 0) w.heap.size z 0 := World.iter_heap _ _ _
theorem IterAt.pos {w : World} {p k : Nat} {z : List UInt8} (h : IterAt w p z k) : w.iterPos p = k := by unfold World.iterPos; rw [show w.heap[p]? = _ from h]
theorem fr_iter (w : World) (s : ByteArray) (k : Nat) : Fr noB w (w.iter s k) := (Fr.refl noB w).alloc _
theorem fr_iterAt (w : World) (p : Nat) (s : ByteArray) (k : Nat) : Fr (eqB p) w (w.iterAt p s k) := ⟨rfl, rfl, rfl, by simp [World.iterAt], fun i hi hn => by
  simp only [World.iterAt, Array.getElem?_setIfInBounds]
  rw [if_neg (fun h => hn h.symm)]⟩
theorem IterAt.step {w : World} {p k : Nat} {z : List UInt8} {c : UInt8} {P : Program} (h : IterAt w p z k) (hc : z[k]? = some c) (ha : c.toNat < 128) :
    ∃ w2, Hid (w2 = w.iterAt p (mkS z) (k + 1)) ∧ (∀ ty, (Instr.next (.pointer (some ⟨p, 0, none⟩)) true ty).run P w = .ok (.tuple #[.bool true, .int .i64 k, .int .i32 c.toNat]) w2) ∧ IterAt w2 p z (k + 1) ∧ Fr (eqB p) w w2 := by
  obtain ⟨hk, hcc⟩ := List.getElem?_eq_some_iff.1 hc
  have hk' : k < (mkS z).size := by rw [mkS_size]; exact hk
  have e : (mkS z)[k]'hk' = c := by
    rw [← hcc]
    show (mkS z).data[k] = _
    simp [mkS]
  refine ⟨_, rfl, fun ty => ?_, Lib.iterAt_heap w p (mkS z) k (k + 1) h, fr_iterAt _ _ _ _⟩
  rw [Lib.run_next_ascii_at w p (mkS z) k ty h hk' (by rw [e]; exact ha), e]
theorem IterAt.stop {w : World} {p k : Nat} {z : List UInt8} {P : Program} (h : IterAt w p z k) (hk : z.length ≤ k) :
    ∀ ty, (Instr.next (.pointer (some ⟨p, 0, none⟩)) true ty).run P w = .ok (.tuple #[.bool false]) w := fun ty =>
  Lib.run_next_end_at w p (mkS z) k ty h (by rw [mkS_size]; omega)
end Go.Proofs.YtdngcheimohamaaDoor
/- op.bare. -/
namespace Go.Proofs.YtdngcheimohamaaDoor
open Go.RowKit

def OpV.C (o : OpV) : Array Value := #[.int .u8 o.k, .string o.a, .string o.b, .int .u8 o.n, .int .u8 o.r]
def setS (o out : OpV) (c : UInt8) : OpV := if c = 97 then {out with a := o.a} else if c = 98 then {out with b := o.b} else if c = 110 then {out with n := o.n} else if c = 114 then {out with r := o.r} else out
def bareFrom (o : OpV) (z : List UInt8) : OpV := z.foldl (setS o) ⟨o.k, ⟨#[]⟩, ⟨#[]⟩, 0, 0⟩
theorem bareFrom_snoc (o : OpV) {z : List UInt8} {k : Nat} {c : UInt8} (hc : z[k]? = some c) : bareFrom o (z.take (k + 1)) = setS o (bareFrom o (z.take k)) c := by
  unfold bareFrom; rw [take_snoc' hc, List.foldl_append]; rfl
theorem signs_ok : ∀ z ∈ signsL, ∀ c ∈ z, c = 97 ∨ c = 98 ∨ c = 110 ∨ c = 114 := by decide
def OpPost (w : World) (o : OpV) (e : Ending) (w' : World) : Prop := e = .returned o.v ∧ Fr noB w w'

set_option maxHeartbeats 1600000 in
theorem bare_calls (w : World) (o : OpV) (z : List UInt8) (ht : SignsAt w) (hz : signsL[o.k]? = some z) : Calls Tryd.prog 39 #[o.v] w (OpPost w (bareFrom o z)) := by
  obtain ⟨k, a, b, n, r⟩ := o
  have hk : k < 17 := (List.getElem?_eq_some_iff.1 hz).1
  have hc := ht k _ hz
  have hlt := ht.lt
  have hok := signs_ok z (List.mem_of_getElem? hz)
  have hb : 0 ≤ (k : Int) ∧ (k : Int) < 17 := ⟨by omega, by omega⟩
  have hcc : ∀ X Y Z, (((w.alloc X).alloc Y).alloc Z).cell? ⟨0, k, none⟩ = some (.string (mkS z)) := fun X Y Z => cell_al (cell_al (cell_al hc _) _) _
  clear hc
  generalize ho : (⟨k, a, b, n, r⟩ : OpV) = o
  have HO := hid ho
  clear hz ht
  have hv : o.v = .agg #[.int .u8 k, .string a, .string b, .int .u8 n, .int .u8 r] := by rw [← ho]; rfl
  rw [hv]; clear hv ho
  go_enter Tryd.func39, Tryd.ntmps39
  go_wp2_with fail
  go_loopw [] (fun wr => ∃ (j : Nat) (out : OpV), j ≤ z.length ∧ IterAt wr (w.heap.size + 3) z j ∧ BlkAt wr w.heap.size 24 o.C ∧ BlkAt wr (w.heap.size + 1) 24 (⟨0, ⟨#[]⟩, ⟨#[]⟩, 0, 0⟩ : OpV).C ∧ BlkAt wr (w.heap.size + 2) 24 out.C ∧ out = bareFrom o (z.take j) ∧ Fr noB w wr) (fun wr => z.length - wr.iterPos (w.heap.size + 3))
  case atStart =>
    refine ⟨0, ⟨k, ⟨#[]⟩, ⟨#[]⟩, 0, 0⟩, Nat.zero_le _, ?_, ?_, ?_, ?_, ?_, ?_⟩
    · have := IterAt.new (((w.alloc (.cells #[.int .u8 k, .string a, .string b, .int .u8 n, .int .u8 r] 24)).alloc (.cells #[.int .u8 0, .string ⟨#[]⟩, .string ⟨#[]⟩, .int .u8 0, .int .u8 0] 24)).alloc (.cells #[.int .u8 k, .string ⟨#[]⟩, .string ⟨#[]⟩, .int .u8 0, .int .u8 0] 24)) z
      simp only [al_size] at this
      exact this
    · rw [← HO.out]
      exact (((BlkAt.new w _ _).al _).al _).al _
    · have := ((BlkAt.new (w.alloc (.cells #[.int .u8 k, .string a, .string b, .int .u8 n, .int .u8 r] 24)) (⟨0, ⟨#[]⟩, ⟨#[]⟩, 0, 0⟩ : OpV).C 24).al (.cells #[.int .u8 k, .string ⟨#[]⟩, .string ⟨#[]⟩, .int .u8 0, .int .u8 0] 24)).al (.stringIter (mkS z) 0)
      simp only [al_size] at this
      exact this
    · have := (BlkAt.new ((w.alloc (.cells #[.int .u8 k, .string a, .string b, .int .u8 n, .int .u8 r] 24)).alloc (.cells #[.int .u8 0, .string ⟨#[]⟩, .string ⟨#[]⟩, .int .u8 0, .int .u8 0] 24)) (⟨k, ⟨#[]⟩, ⟨#[]⟩, 0, 0⟩ : OpV).C 24).al (.stringIter (mkS z) 0)
      simp only [al_size] at this
      exact this
    · rw [← HO.out]; rfl
    · exact ((((Fr.refl noB w).alloc _).alloc _).alloc _).alloc _
  case round =>
    obtain ⟨j, out, hj, hi, b0, b1, b2, hout, hf⟩ := hrel
    have hlt' := hf.size
    by_cases hjl : j < z.length
    · obtain ⟨c, hc⟩ : ∃ c, z[j]? = some c := ⟨_, List.getElem?_eq_getElem hjl⟩
      have hc4 := hok c (List.mem_of_getElem? hc)
      have HS : Hid (bareFrom o (z.take (j + 1)) = setS o out c) := by unfold Hid; rw [bareFrom_snoc o hc, hout]
      obtain ⟨w2, HW2, hnx, i2, f2⟩ := hi.step (P := Tryd.prog) hc (by rcases hc4 with rfl | rfl | rfl | rfl <;> decide)
      have d0 := b0.fr f2 (by unfold eqB; omega)
      have d1 := b1.fr f2 (by unfold eqB; omega)
      have d2 := b2.fr f2 (by unfold eqB; omega)
      have hf2 : Fr noB w w2 := ⟨f2.os.trans hf.os, f2.tape.trans hf.tape, f2.output.trans hf.output, Nat.le_trans hf.size f2.size, fun i hi hn => (f2.block i (by omega) (by unfold eqB; omega)).trans (hf.block i hi hn)⟩
      have x1 := d0.cell (k := 1) (v := .string o.a) rfl
      have x2 := d0.cell (k := 2) (v := .string o.b) rfl
      have x3 := d0.cell (k := 3) (v := .int .u8 o.n) rfl
      have x4 := d0.cell (k := 4) (v := .int .u8 o.r) rfl
      have y1 := d2.cell (k := 1) (v := .string out.a) rfl
      have y2 := d2.cell (k := 2) (v := .string out.b) rfl
      have y3 := d2.cell (k := 3) (v := .int .u8 out.n) rfl
      have y4 := d2.cell (k := 4) (v := .int .u8 out.r) rfl
      have z1 := d2.free 1
      have z2 := d2.free 2
      have z3 := d2.free 3
      have z4 := d2.free 4
      clear hc hok hout
      rcases hc4 with rfl | rfl | rfl | rfl
      · simp only [show (97 : UInt8).toNat = 97 from rfl] at hnx
        go_wp2_with fail
        go_roundw
        case rel => exact ⟨j + 1, setS o out 97, by omega, i2.fr (fr_set1 _ _ _ _) (by unfold eqB; omega), d0.fr (fr_set1 _ _ _ _) (by unfold eqB; omega), d1.fr (fr_set1 _ _ _ _) (by unfold eqB; omega), d2.set _ _, HS.out.symm, hf2.setCell (Or.inr (by show _ ≤ w.heap.size + 2; omega)) _⟩
        case measure => rw [hi.pos, (i2.fr (fr_set1 _ _ _ _) (by unfold eqB; omega)).pos]; omega
      · simp only [show (98 : UInt8).toNat = 98 from rfl] at hnx
        go_wp2_with fail
        go_roundw
        case rel => exact ⟨j + 1, setS o out 98, by omega, i2.fr (fr_set1 _ _ _ _) (by unfold eqB; omega), d0.fr (fr_set1 _ _ _ _) (by unfold eqB; omega), d1.fr (fr_set1 _ _ _ _) (by unfold eqB; omega), d2.set _ _, HS.out.symm, hf2.setCell (Or.inr (by show _ ≤ w.heap.size + 2; omega)) _⟩
        case measure => rw [hi.pos, (i2.fr (fr_set1 _ _ _ _) (by unfold eqB; omega)).pos]; omega
      · simp only [show (110 : UInt8).toNat = 110 from rfl] at hnx
        go_wp2_with fail
        go_roundw
        case rel => exact ⟨j + 1, setS o out 110, by omega, i2.fr (fr_set1 _ _ _ _) (by unfold eqB; omega), d0.fr (fr_set1 _ _ _ _) (by unfold eqB; omega), d1.fr (fr_set1 _ _ _ _) (by unfold eqB; omega), d2.set _ _, HS.out.symm, hf2.setCell (Or.inr (by show _ ≤ w.heap.size + 2; omega)) _⟩
        case measure => rw [hi.pos, (i2.fr (fr_set1 _ _ _ _) (by unfold eqB; omega)).pos]; omega
      · simp only [show (114 : UInt8).toNat = 114 from rfl] at hnx
        go_wp2_with fail
        go_roundw
        case rel => exact ⟨j + 1, setS o out 114, by omega, i2.fr (fr_set1 _ _ _ _) (by unfold eqB; omega), d0.fr (fr_set1 _ _ _ _) (by unfold eqB; omega), d1.fr (fr_set1 _ _ _ _) (by unfold eqB; omega), d2.set _ _, HS.out.symm, hf2.setCell (Or.inr (by show _ ≤ w.heap.size + 2; omega)) _⟩
        case measure => rw [hi.pos, (i2.fr (fr_set1 _ _ _ _) (by unfold eqB; omega)).pos]; omega
    · have : j = z.length := by omega
      subst this
      have HS : Hid (bareFrom o z = out) := by unfold Hid; rw [hout, List.take_of_length_le (Nat.le_refl _)]
      have hnx := hi.stop (P := Tryd.prog) (Nat.le_refl _)
      have y0 := b2.cell (k := 0) (v := .int .u8 out.k) rfl
      have y1 := b2.cell (k := 1) (v := .string out.a) rfl
      have y2 := b2.cell (k := 2) (v := .string out.b) rfl
      have y3 := b2.cell (k := 3) (v := .int .u8 out.n) rfl
      have y4 := b2.cell (k := 4) (v := .int .u8 out.r) rfl
      have q0 := b1.cell (k := 0) (v := .int .u8 0) rfl
      have q1 := b1.cell (k := 1) (v := .string ⟨#[]⟩) rfl
      have q2 := b1.cell (k := 2) (v := .string ⟨#[]⟩) rfl
      have q3 := b1.cell (k := 3) (v := .int .u8 0) rfl
      have q4 := b1.cell (k := 4) (v := .int .u8 0) rfl
      have z0 := b1.free 0
      have z1 := b1.free 1
      have z2 := b1.free 2
      have z3 := b1.free 3
      have z4 := b1.free 4
      clear hok hout
      go_wp2_with fail
      have e := ((((b1.set 0 (.int .u8 out.k)).set 1 (.string out.a)).set 2 (.string out.b)).set 3 (.int .u8 out.n)).set 4 (.int .u8 out.r)
      have HF := ((((hf.setCell (p := ⟨w.heap.size + 1, 0, none⟩) (Or.inr (by show _ ≤ w.heap.size + 1; omega)) (.int .u8 out.k)).setCell (p := ⟨w.heap.size + 1, 1, none⟩) (Or.inr (by show _ ≤ w.heap.size + 1; omega)) (.string out.a)).setCell (p := ⟨w.heap.size + 1, 2, none⟩) (Or.inr (by show _ ≤ w.heap.size + 1; omega)) (.string out.b)).setCell (p := ⟨w.heap.size + 1, 3, none⟩) (Or.inr (by show _ ≤ w.heap.size + 1; omega)) (.int .u8 out.n)).setCell (p := ⟨w.heap.size + 1, 4, none⟩) (Or.inr (by show _ ≤ w.heap.size + 1; omega)) (.int .u8 out.r)
      clear b0 b1 b2 y0 y1 y2 y3 y4 q0 q1 q2 q3 q4 z0 z1 z2 z3 z4 hnx hi
      revert e HF
      generalize World.setCell _ _ _ = wf
      intro e HF
      have e0 := e.cell (k := 0) (v := .int .u8 out.k) rfl
      have e1 := e.cell (k := 1) (v := .string out.a) rfl
      have e2 := e.cell (k := 2) (v := .string out.b) rfl
      have e3 := e.cell (k := 3) (v := .int .u8 out.n) rfl
      have e4 := e.cell (k := 4) (v := .int .u8 out.r) rfl
      clear e
      have hq : OpPost w (bareFrom o z) (.returned out.v) wf := ⟨by rw [HS.out], HF⟩
      exact bodyPost_ret (v := out.v) (by simp [OpV.v, results, Tryd.results39, go_sem, e0, e1, e2, e3, e4]) rfl hq
end Go.Proofs.YtdngcheimohamaaDoor
/- interrexlaw01.lives. -/
namespace Go.Proofs.YtdngcheimohamaaDoor
open Go.RowKit

theorem WrAt.new (w : World) : WrAt (w.alloc (.cells #[.slice none 0 0] 80)) (upB w.heap.size) w.heap.size [] :=
  ⟨none, 0, _, by decide, heap_alloc_new w _, World.ownsRow_nil _ _ _ _, Nat.le_refl _, fun k h => by simp [Value.ownBlock] at h⟩
theorem WrAt.up {w : World} {n : Nat} {p : Nat} {bs : List UInt8} (h : WrAt w (andNew (upB n) w) p bs) (hn : n ≤ w.heap.size) : WrAt w (upB n) p bs :=
  h.mono fun k _ hk => hk.elim id fun q => Nat.le_trans hn q
theorem WrAt.up' {w0 w : World} {n : Nat} {p : Nat} {bs : List UInt8} (h : WrAt w (andNew (upB n) w0) p bs) (hn : n ≤ w0.heap.size) : WrAt w (upB n) p bs :=
  h.mono fun k _ hk => hk.elim id fun q => Nat.le_trans hn q

theorem Tryd.eqlW (w : World) (a : Addr) : (binOp .eql 78 (.pointer (some a)) (.pointer (some a))).run Tryd.prog w = .ok (.bool true) w :=
  run_eql_ptr_same w (te := 80) a Tryd.underlying78 (show Tryd.prog.info? 80 = some Tryd.t80 by kernel_rfl)

end Go.Proofs.YtdngcheimohamaaDoor
/- op.write. -/
namespace Go.Proofs.YtdngcheimohamaaDoor
open Go.RowKit

def signB (o : OpV) (c : UInt8) : List UInt8 := if c = 97 then textB o.a else if c = 98 then textB o.b else if c = 110 then leB 1 o.n else if c = 114 then leB 1 o.r else []
def writeB (o : OpV) (z : List UInt8) : List UInt8 := leB 1 o.k ++ z.flatMap (signB o)
structure OpV.wf (o : OpV) : Prop where
  k : o.k < 256
  n : o.n < 256
  r : o.r < 256
theorem signB_length (o : OpV) (c : UInt8) (ha : o.a.size ≤ 1000) (hb : o.b.size ≤ 1000) : (signB o c).length ≤ 1002 := by
  have h1 := textB_length o.a
  have h2 := textB_length o.b
  unfold signB
  split
  · omega
  · split
    · omega
    · split
      · simp [leB_length]
      · split <;> simp [leB_length]
theorem flat_length (o : OpV) (z : List UInt8) (ha : o.a.size ≤ 1000) (hb : o.b.size ≤ 1000) : (z.flatMap (signB o)).length ≤ 1002 * z.length := by
  induction z with
  | nil => simp
  | cons c z ih =>
    have := signB_length o c ha hb
    rw [List.flatMap_cons, List.length_append, List.length_cons]
    omega
theorem signs_two : ∀ z ∈ signsL, z.length ≤ 2 := by decide
def BytesPost (w : World) (bs : List UInt8) (e : Ending) (w' : World) : Prop :=
  ∃ A c, e = .returned (.slice A bs.length c) ∧ w'.ownsRow w.heap.size 5 1 (.slice A bs.length c) bs.length (bcells bs) ∧ Fr noB w w'
/-- The blocks of the writer: all new ones but the iterator's. -/
def butB (n it : Nat) : Nat → Prop := fun k => n ≤ k ∧ k ≠ it
theorem WrAt.but {w0 w : World} {n it p : Nat} {bs : List UInt8} (h : WrAt w (andNew (butB n it) w0) p bs) (hn : n ≤ w0.heap.size) (hi : it < w0.heap.size) : WrAt w (butB n it) p bs :=
  h.mono fun k _ hk => hk.elim id fun q => ⟨by omega, by omega⟩

set_option maxRecDepth 100000 in
set_option maxHeartbeats 3200000 in
theorem write_calls (w : World) (o : OpV) (z : List UInt8) (ht : SignsAt w) (hz : signsL[o.k]? = some z) (hw : o.wf) (ha : o.a.size ≤ 1000) (hb : o.b.size ≤ 1000) :
    Calls Tryd.prog 41 #[o.v] w (BytesPost w (writeB o z)) := by
  have hk : o.k < 17 := (List.getElem?_eq_some_iff.1 hz).1
  have hc0 := ht o.k _ hz
  have hlt := ht.lt
  have hok := signs_ok z (List.mem_of_getElem? hz)
  have hz2 := signs_two z (List.mem_of_getElem? hz)
  have hkb : 0 ≤ (o.k : Int) ∧ (o.k : Int) < 17 := ⟨by omega, by omega⟩
  have hn := hw.n
  have hr := hw.r
  clear hz ht hw
  have HL : Hid (∀ j, (leB 1 o.k ++ (z.take j).flatMap (signB o)).length ≤ 2100) := fun j => by
    have := flat_length o (z.take j) ha hb
    have h2 : (z.take j).length ≤ 2 := by rw [List.length_take]; omega
    simp only [List.length_append, leB_length]
    omega
  have HA := hid ha
  have HB := hid hb
  clear ha hb
  have hb0 : BlkAt (w.alloc (.cells #[.int .u8 o.k, .string o.a, .string o.b, .int .u8 o.n, .int .u8 o.r] 24)) w.heap.size 24 o.C := BlkAt.new _ _ _
  have hwr := WrAt.new (w.alloc (.cells #[.int .u8 o.k, .string o.a, .string o.b, .int .u8 o.n, .int .u8 o.r] 24))
  rw [al_size] at hwr
  have f0 : Fr noB w (w.alloc (.cells #[.int .u8 o.k, .string o.a, .string o.b, .int .u8 o.n, .int .u8 o.r] 24)) := (Fr.refl noB w).alloc _
  have hk0 := (hb0.al (.cells #[.slice none 0 0] 80)).cell (k := 0) (v := .int .u8 o.k) rfl
  have hv : o.v = .agg #[.int .u8 o.k, .string o.a, .string o.b, .int .u8 o.n, .int .u8 o.r] := rfl
  rw [hv]
  clear hv
  go_enter Tryd.func41, Tryd.ntmps41
  go_wp2_with fail
  refine (byte_calls _ _ _ [] o.k hwr (by omega) (by simp)).mono ?_
  rintro e w1 ⟨rfl, h1, f1⟩
  have F1 : Fr noB w w1 := (f0.alloc _).trans (T := upB (w.heap.size + 1)) f1 (fun i hi h => absurd h (by unfold upB; omega))
  have hb1 := (hb0.al (.cells #[.slice none 0 0] 80)).fr f1 (by unfold upB; omega)
  have hs1 := f1.size
  simp only [al_size] at hs1
  have H1 := hid h1
  have c1 := hb1.cell (k := 0) (v := .int .u8 o.k) rfl
  have cz : w1.cell? ⟨0, o.k, none⟩ = some (.string (mkS z)) := F1.cell hc0 id
  clear h1 f1 hb0 hwr hk0 hc0
  go_wp2_with fail
  go_loopw [] (fun wr => ∃ (j : Nat), j ≤ z.length ∧ IterAt wr w1.heap.size z j ∧ BlkAt wr w.heap.size 24 o.C ∧ WrAt wr (butB (w.heap.size + 1) w1.heap.size) (w.heap.size + 1) (leB 1 o.k ++ (z.take j).flatMap (signB o)) ∧ Fr noB w wr ∧ w1.heap.size < wr.heap.size) (fun wr => z.length - wr.iterPos w1.heap.size)
  case atStart =>
    refine ⟨0, Nat.zero_le _, IterAt.new _ _, (hb1.al _), ?_, F1.alloc _, by rw [World.iter, al_size]; omega⟩
    refine (H1.out.mono (T := butB (w.heap.size + 1) w1.heap.size) fun k hk h => ?_).fr (fr_iter w1 (mkS z) 0) (fun _ _ _ => id)
    rcases h with h | h
    · exact ⟨h, by omega⟩
    · simp only [al_size] at h; exact ⟨by omega, by omega⟩
  case round =>
    clear hb1 H1 cz c1
    obtain ⟨j, hj, hi, hb0, hw0, hf, hgt⟩ := hrel
    by_cases hjl : j < z.length
    · obtain ⟨c, hc⟩ : ∃ c, z[j]? = some c := ⟨_, List.getElem?_eq_getElem hjl⟩
      have hc4 := hok c (List.mem_of_getElem? hc)
      have HS : Hid ((z.take (j + 1)).flatMap (signB o) = (z.take j).flatMap (signB o) ++ signB o c) := by unfold Hid; rw [take_snoc' hc]; simp
      obtain ⟨w2, HW2, hnx, i2, f2⟩ := hi.step (P := Tryd.prog) hc (by rcases hc4 with rfl | rfl | rfl | rfl <;> decide)
      have d0 := hb0.fr f2 (by unfold eqB; omega)
      have hw2 := hw0.fr f2 (fun k _ h1 h2 => h1.2 h2)
      have hs2 := f2.size
      have hf2 : Fr noB w w2 := hf.trans f2 (fun i hi h => absurd h (by unfold eqB; omega))
      have x1 := d0.cell (k := 1) (v := .string o.a) rfl
      have x2 := d0.cell (k := 2) (v := .string o.b) rfl
      have x3 := d0.cell (k := 3) (v := .int .u8 o.n) rfl
      have x4 := d0.cell (k := 4) (v := .int .u8 o.r) rfl
      have hl2 := HL.out j
      have HI := hid hi.pos
      clear hc hok hi hb0 hw0 f2
      rcases hc4 with rfl | rfl | rfl | rfl
      · simp only [show (97 : UInt8).toNat = 97 from rfl] at hnx
        go_wp2_with fail
        refine (text_calls w2 _ _ _ o.a hw2 (Nat.le_trans HA.out (by decide)) (by have := HA.out; omega)).mono ?_
        rintro e w3 ⟨rfl, h3, f3⟩
        have hs3 := f3.size
        have i3 := i2.fr f3 (fun h => h.2 rfl)
        have d3 := d0.fr f3 (fun h => by have := h.1; omega)
        have H3 := hid (h3.but (by omega) (by omega))
        have F3 : Fr noB w w3 := hf2.trans f3 (fun i hi h => absurd h.1 (by omega))
        clear h3 f3
        go_wp2_with fail
        go_roundw
        case rel => exact ⟨j + 1, by omega, i3, d3, by rw [HS.out, ← List.append_assoc]; exact H3.out, F3, by omega⟩
        case measure => rw [show wr.iterPos w1.heap.size = j from HI.out, i3.pos]; omega
      · simp only [show (98 : UInt8).toNat = 98 from rfl] at hnx
        go_wp2_with fail
        refine (text_calls w2 _ _ _ o.b hw2 (Nat.le_trans HB.out (by decide)) (by have := HB.out; omega)).mono ?_
        rintro e w3 ⟨rfl, h3, f3⟩
        have hs3 := f3.size
        have i3 := i2.fr f3 (fun h => h.2 rfl)
        have d3 := d0.fr f3 (fun h => by have := h.1; omega)
        have H3 := hid (h3.but (by omega) (by omega))
        have F3 : Fr noB w w3 := hf2.trans f3 (fun i hi h => absurd h.1 (by omega))
        clear h3 f3
        go_wp2_with fail
        go_roundw
        case rel => exact ⟨j + 1, by omega, i3, d3, by rw [HS.out, ← List.append_assoc]; exact H3.out, F3, by omega⟩
        case measure => rw [show wr.iterPos w1.heap.size = j from HI.out, i3.pos]; omega
      · simp only [show (110 : UInt8).toNat = 110 from rfl] at hnx
        go_wp2_with fail
        refine (byte_calls w2 _ _ _ o.n hw2 (by omega) (by omega)).mono ?_
        rintro e w3 ⟨rfl, h3, f3⟩
        have hs3 := f3.size
        have i3 := i2.fr f3 (fun h => h.2 rfl)
        have d3 := d0.fr f3 (fun h => by have := h.1; omega)
        have H3 := hid (h3.but (by omega) (by omega))
        have F3 : Fr noB w w3 := hf2.trans f3 (fun i hi h => absurd h.1 (by omega))
        clear h3 f3
        go_wp2_with fail
        go_roundw
        case rel => exact ⟨j + 1, by omega, i3, d3, by rw [HS.out, ← List.append_assoc]; exact H3.out, F3, by omega⟩
        case measure => rw [show wr.iterPos w1.heap.size = j from HI.out, i3.pos]; omega
      · simp only [show (114 : UInt8).toNat = 114 from rfl] at hnx
        go_wp2_with fail
        refine (byte_calls w2 _ _ _ o.r hw2 (by omega) (by omega)).mono ?_
        rintro e w3 ⟨rfl, h3, f3⟩
        have hs3 := f3.size
        have i3 := i2.fr f3 (fun h => h.2 rfl)
        have d3 := d0.fr f3 (fun h => by have := h.1; omega)
        have H3 := hid (h3.but (by omega) (by omega))
        have F3 : Fr noB w w3 := hf2.trans f3 (fun i hi h => absurd h.1 (by omega))
        clear h3 f3
        go_wp2_with fail
        go_roundw
        case rel => exact ⟨j + 1, by omega, i3, d3, by rw [HS.out, ← List.append_assoc]; exact H3.out, F3, by omega⟩
        case measure => rw [show wr.iterPos w1.heap.size = j from HI.out, i3.pos]; omega
    · have : j = z.length := by omega
      subst this
      have HS : Hid (leB 1 o.k ++ (z.take z.length).flatMap (signB o) = writeB o z) := by unfold Hid writeB; rw [List.take_of_length_le (Nat.le_refl _)]
      have hnx := hi.stop (P := Tryd.prog) (Nat.le_refl _)
      have hl2 := HL.out z.length
      rw [HS.out] at hw0 hl2
      clear hok hi hb0
      go_wp2_with fail
      refine (bytes_calls wr _ _ _ hw0 (by omega)).mono ?_
      rintro e w3 ⟨A, c, rfl, h3, f3⟩
      have h4 := own_mono h3 (b' := w.heap.size) (fun g hg => ?_)
      · have F3 := hf.then' f3
        clear hw0 h3
        go_wp2_with fail
        go_ret
        exact ⟨A, c, rfl, h4, F3⟩
      · have := hf.size
        rcases h3.lt g hg with ⟨h, _⟩
        omega
end Go.Proofs.YtdngcheimohamaaDoor
/- A region that draws its order, op by op: what each operation leaves holds whatever else has come up before it. -/
namespace Go.Proofs.YtdngcheimohamaaDoor
open Go.RowKit

/-- What a slot may hold, kept by every step of R. -/
structure Stb (R : World → World → Prop) where
  V : Value → World → Prop
  st : ∀ v w w', V v w → R w w' → V v w'
def eqv {R : World → World → Prop} (x : Value) : Stb R := ⟨fun v _ => v = x, fun _ _ _ h _ => h⟩
def anyv {R : World → World → Prop} : Stb R := ⟨fun _ _ => True, fun _ _ _ _ _ => trivial⟩

section
variable {P : Program} {ops : Array Oper} {Q : Exit → Act → World → Prop} {R : World → World → Prop}

/-- What slot t may hold while the region runs: what its operation leaves, or what it held. -/
def slotD (l : List Oper) (Vs : List (Stb R)) (a0 : Act) (t : Tmp) (v : Value) (w : World) : Prop :=
  match l, Vs with
  | o :: l, V :: Vs => if o.dst = some t then V.V v w else slotD l Vs a0 t v w
  | _, _ => v = a0.tmps[t]?.getD undef

/-- One operation's part. -/
def CalmOp (P : Program) (ops : Array Oper) (Q : Exit → Act → World → Prop) (C : Nat → World → Prop) (Vs : List (Stb R)) (a0 : Act) (i : Nat) (V : Stb R) (o : Oper) (k k' : Nat) : Prop :=
  ∀ (a : Act) (w : World) (K : Act → World → Prop), C k w → (∀ t, t ∈ o.looksAt ops → slotD ops.toList Vs a0 t (a.tmps[t]?.getD undef) w) →
    (∀ v w', R w w' → C k' w' → V.V v w' → K (a.put o.dst v) w') → wpOp P ops Q i K a w

/-- The state's number behind an operation. -/
def stepR : Bool → Nat → Nat
  | true, r => r + 1
  | false, r => r
/-- All operations' parts; st: which of them turn the state C. -/
def CalmAll (P : Program) (ops : Array Oper) (Q : Exit → Act → World → Prop) (C : Nat → World → Prop) (Vs : List (Stb R)) (a0 : Act) : Nat → Nat → List Oper → List (Stb R) → List Bool → Prop
  | i, r, o :: l, V :: Ws, s :: st => (if s = true then CalmOp P ops Q C Vs a0 i V o r (r + 1) else ∀ k, CalmOp P ops Q C Vs a0 i V o k k) ∧ CalmAll P ops Q C Vs a0 (i + 1) (stepR s r) l Ws st
  | _, _, [], [], [] => True
  | _, _, _, _, _ => False

def rank (st : List Bool) (i : Nat) : Nat := (st.take i).count true

theorem calmAll_get {C : Nat → World → Prop} {Vs : List (Stb R)} {a0 : Act} : ∀ (l : List Oper) (Ws : List (Stb R)) (st : List Bool) (i r : Nat), CalmAll P ops Q C Vs a0 i r l Ws st →
    l.length = Ws.length ∧ l.length = st.length ∧ ∀ j o, l[j]? = some o → ∃ V s, Ws[j]? = some V ∧ st[j]? = some s ∧
      (if s = true then CalmOp P ops Q C Vs a0 (i + j) V o (r + rank st j) (r + rank st j + 1) else ∀ k, CalmOp P ops Q C Vs a0 (i + j) V o k k)
  | [], [], [], i, r, _ => ⟨rfl, rfl, fun j o h => by simp at h⟩
  | o :: l, V :: Ws, s :: st, i, r, h => by
    obtain ⟨h1, h2⟩ := h
    obtain ⟨e1, e2, e3⟩ := calmAll_get l Ws st (i + 1) _ h2
    refine ⟨by simp [e1], by simp [e2], fun j o' hj => ?_⟩
    cases j with
    | zero =>
      simp at hj; subst hj
      exact ⟨V, s, rfl, rfl, by simpa [rank] using h1⟩
    | succ j =>
      obtain ⟨V', s', g1, g2, g3⟩ := e3 j o' (by simpa using hj)
      refine ⟨V', s', by simpa using g1, by simpa using g2, ?_⟩
      have er : rank (s :: st) (j + 1) = (if s = true then 1 else 0) + rank st j := by
        unfold rank; rw [List.take_succ_cons, List.count_cons]; cases s <;> simp <;> omega
      rw [er, show i + (j + 1) = i + 1 + j from by omega]
      cases s
      · simpa [stepR] using g3
      · rw [if_pos rfl, ← Nat.add_assoc]; exact g3
  | [], _ :: _, _, _, _, h => h.elim
  | [], [], _ :: _, _, _, h => h.elim
  | _ :: _, [], _, _, _, h => h.elim
  | _ :: _, _ :: _, [], _, _, h => h.elim

theorem rank_succ (st : List Bool) (i : Nat) : rank st (i + 1) = rank st i + if st[i]? = some true then 1 else 0 := by
  unfold rank
  rw [List.take_add_one, List.count_append]
  cases h : st[i]? with
  | none => simp
  | some b => cases b <;> simp
theorem rank_mono (st : List Bool) {i j : Nat} (h : i ≤ j) : rank st i ≤ rank st j := by
  induction j with
  | zero => rw [Nat.le_zero.1 h]; exact Nat.le_refl _
  | succ j ih =>
    rcases Nat.lt_or_ge j i with hlt | hge
    · rw [show i = j + 1 from by omega]; exact Nat.le_refl _
    · have := ih hge; rw [rank_succ]; omega
theorem rank_lt (st : List Bool) {i j : Nat} (h : i < j) (hi : st[i]? = some true) : rank st i < rank st j := by
  have := rank_mono st (show i + 1 ≤ j by omega)
  rw [rank_succ, if_pos hi] at this; omega
theorem rank_hit (st : List Bool) : ∀ i k, k < rank st i → ∃ j, j < i ∧ st[j]? = some true ∧ rank st j = k
  | 0, k, h => by simp [rank] at h
  | i + 1, k, h => by
    rw [rank_succ] at h
    by_cases hk : k < rank st i
    · obtain ⟨j, h1, h2, h3⟩ := rank_hit st i k hk
      exact ⟨j, by omega, h2, h3⟩
    · by_cases hi : st[i]? = some true
      · rw [if_pos hi] at h; exact ⟨i, by omega, hi, by omega⟩
      · rw [if_neg hi] at h; omega

/-- Each operation waits for those that it looks at; the state's operations wait for one another; no two write one slot. -/
def calmB (ops : Array Oper) (st : List Bool) : Bool :=
  (List.range ops.size).all (fun i => ((ops[i]?).map fun o =>
    o.after.all (fun e => !Region.binds .any e || decide (e.on < i)) &&
    (List.range ops.size).all (fun j => (((ops[j]?).bind (·.dst)).map fun d => !(o.looksAt ops).contains d || o.after.any fun e => Region.binds .any e && e.on == j).getD true) &&
    (!(st[i]? == some true) || (List.range i).all fun j => !(st[j]? == some true) || o.after.any fun e => Region.binds .any e && (e.on == j || ((ops[e.on]?).map fun p => p.after.any fun e' => Region.binds .any e' && e'.on == j).getD false))).getD true) &&
  decide ((ops.toList.filterMap (·.dst)).Nodup)

theorem calmB_spec {st : List Bool} (h : calmB ops st = true) :
    (∀ (i : Nat) o, ops[i]? = some o → ∀ e ∈ o.after, Region.binds .any e = true → e.on < i) ∧
    (∀ (i j : Nat) o p d, ops[i]? = some o → ops[j]? = some p → p.dst = some d → d ∈ o.looksAt ops → ∃ e ∈ o.after, Region.binds .any e = true ∧ e.on = j) ∧
    (∀ (i j : Nat) o, ops[i]? = some o → st[i]? = some true → st[j]? = some true → j < i → ∃ e ∈ o.after, Region.binds .any e = true ∧ (e.on = j ∨ ∃ p, ops[e.on]? = some p ∧ ∃ e' ∈ p.after, Region.binds .any e' = true ∧ e'.on = j)) ∧
    (ops.toList.filterMap (·.dst)).Nodup := by
  simp only [calmB, Bool.and_eq_true, List.all_eq_true, List.mem_range, decide_eq_true_eq] at h
  obtain ⟨h1, h2⟩ := h
  have hs : ∀ {i : Nat} {o : Oper}, ops[i]? = some o → i < ops.size := fun hi => (Array.getElem?_eq_some_iff.1 hi).1
  refine ⟨fun i o hi e he hb => ?_, fun i j o p d hi hj hd hm => ?_, fun i j o hi si sj hji => ?_, h2⟩
  · have := h1 i (hs hi)
    rw [hi] at this
    simp only [Option.map_some, Option.getD_some, Bool.and_eq_true, Array.all_eq_true'] at this
    have := this.1.1 e (by simpa using he)
    simpa [hb] using this
  · have := h1 i (hs hi)
    rw [hi] at this
    simp only [Option.map_some, Option.getD_some, Bool.and_eq_true, List.all_eq_true, List.mem_range] at this
    have := this.1.2 j (hs hj)
    rw [hj] at this
    simp only [Option.bind_some, hd, Option.map_some, Option.getD_some, Bool.or_eq_true, Bool.not_eq_true'] at this
    rcases this with h | h
    · rw [List.contains_eq_mem, decide_eq_false_iff_not] at h; exact absurd hm h
    · obtain ⟨e, he, hb⟩ := Array.any_eq_true'.1 h
      simp only [Bool.and_eq_true, beq_iff_eq] at hb
      exact ⟨e, he, hb⟩
  · have := h1 i (hs hi)
    rw [hi] at this
    simp only [Option.map_some, Option.getD_some, Bool.and_eq_true, Bool.or_eq_true, List.all_eq_true, List.mem_range] at this
    rcases this.2 with h | h
    · simp [si] at h
    · rcases h j hji with h | h
      · simp [sj] at h
      · obtain ⟨e, he, hb⟩ := Array.any_eq_true'.1 h
        simp only [Bool.and_eq_true, Bool.or_eq_true, beq_iff_eq] at hb
        refine ⟨e, he, hb.1, ?_⟩
        rcases hb.2 with h2 | h2
        · exact .inl h2
        · cases hp : ops[e.on]? with
          | none => rw [hp] at h2; cases h2
          | some p =>
            rw [hp] at h2
            simp only [Option.map_some, Option.getD_some] at h2
            obtain ⟨e', he', hb'⟩ := Array.any_eq_true'.1 h2
            simp only [Bool.and_eq_true, beq_iff_eq] at hb'
            exact .inr ⟨p, rfl, e', he', hb'⟩

theorem nodup_dst : ∀ (l : List Oper), (l.filterMap (·.dst)).Nodup → ∀ (i j : Nat) (o p : Oper) (d : Tmp), l[i]? = some o → l[j]? = some p → o.dst = some d → p.dst = some d → i ≠ j → False
  | [], _, i, j, o, p, d, hi, _, _, _, _ => by simp at hi
  | q :: l, hn, i, j, o, p, d, hi, hj, ho, hp, hne => by
    have hn' : (l.filterMap (·.dst)).Nodup := by
      cases h : q.dst <;> simp [List.filterMap_cons, h] at hn
      · exact hn
      · exact hn.2
    cases i with
    | zero =>
      cases j with
      | zero => exact hne rfl
      | succ j =>
        simp at hi; subst hi
        simp only [List.filterMap_cons, ho, List.nodup_cons, List.mem_filterMap] at hn
        exact hn.1 ⟨p, List.mem_of_getElem? (by simpa using hj), hp⟩
    | succ i =>
      cases j with
      | zero =>
        simp at hj; subst hj
        simp only [List.filterMap_cons, hp, List.nodup_cons, List.mem_filterMap] at hn
        exact hn.1 ⟨o, List.mem_of_getElem? (by simpa using hi), ho⟩
      | succ j => exact nodup_dst l hn' i j o p d (by simpa using hi) (by simpa using hj) ho hp (by omega)

structure CalmInv (ops : Array Oper) (C : Nat → World → Prop) (Vs : List (Stb R)) (a0 : Act) (st : List Bool) (w0 : World) (listed : Array Bool) (a : Act) (w : World) (k : Nat) : Prop where
  size : listed.size = ops.size
  closed : ∀ i o, ops[i]? = some o → listed.getD i false = true → ∀ e ∈ o.after, Region.binds .any e = true → listed.getD e.on false = true
  defers : a.defers = a0.defers
  tsize : a.tmps.size = a0.tmps.size
  old : ∀ t, (∀ i o, ops[i]? = some o → listed.getD i false = true → o.dst ≠ some t) → a.eval (.tmp t) = a0.eval (.tmp t)
  new : ∀ i o V d, ops[i]? = some o → Vs[i]? = some V → listed.getD i false = true → o.dst = some d → V.V (a.eval (.tmp d)) w
  state : C k w
  upto : ∀ j, st[j]? = some true → (listed.getD j false = true ↔ rank st j < k)
  base : R w0 w
  kle : k ≤ rank st ops.size

/-- What the rule asks of a region's operations and of the choice of those that turn the state. -/
structure CalmOK (ops : Array Oper) (st : List Bool) : Prop where
  bl : ∀ (i : Nat) o, ops[i]? = some o → ∀ e ∈ o.after, Region.binds .any e = true → e.on < i
  bd : ∀ (i j : Nat) o p d, ops[i]? = some o → ops[j]? = some p → p.dst = some d → d ∈ o.looksAt ops → ∃ e ∈ o.after, Region.binds .any e = true ∧ e.on = j
  bs : ∀ (listed : Array Bool) (k i : Nat) o, ops[i]? = some o → st[i]? = some true →
    (∀ i o, ops[i]? = some o → listed.getD i false = true → ∀ e ∈ o.after, Region.binds .any e = true → listed.getD e.on false = true) →
    (∀ e ∈ o.after, Region.binds .any e = true → listed.getD e.on false = true) → (∀ j, st[j]? = some true → (listed.getD j false = true ↔ rank st j < k)) → rank st i ≤ k
  bn : (ops.toList.filterMap (·.dst)).Nodup
theorem calmB_ok {st : List Bool} (h : calmB ops st = true) : CalmOK ops st := by
  obtain ⟨h1, h2, h3, h4⟩ := calmB_spec h
  refine ⟨h1, h2, fun listed k i o ho hs hcl haft hup => ?_, h4⟩
  rcases Nat.lt_or_ge k (rank st i) with h | h
  · obtain ⟨j, hj1, hj2, hj3⟩ := rank_hit st i k h
    obtain ⟨e, he, hb, hej⟩ := h3 i j o ho hs hj2 hj1
    have := haft e he hb
    rcases hej with hej | ⟨p, hp, e', he', hb', hej'⟩
    · rw [hej, hup j hj2] at this; omega
    · have h3 := hcl e.on p hp this e' he' hb'
      rw [hej', hup j hj2] at h3; omega
  · exact h
/-- The same with levels: an operation's level is that of one that it waits for (one more than the rank of one that turns the state), and no operation that turns the state has a level below its rank. -/
def calmL (ops : Array Oper) (st : List Bool) (lv : List Nat) : Bool :=
  (List.range ops.size).all (fun i => ((ops[i]?).map fun o =>
    o.after.all (fun e => !Region.binds .any e || decide (e.on < i)) &&
    (List.range ops.size).all (fun j => (((ops[j]?).bind (·.dst)).map fun d => !(o.looksAt ops).contains d || o.after.any fun e => Region.binds .any e && e.on == j).getD true) &&
    ((lv.getD i 0 == 0 || o.after.any fun e => Region.binds .any e && (if st[e.on]? == some true then decide (lv.getD i 0 ≤ rank st e.on + 1) else ((ops[e.on]?).isSome && decide (lv.getD i 0 ≤ lv.getD e.on 0)))) &&
     (!(st[i]? == some true) || decide (rank st i ≤ lv.getD i 0)))).getD true) &&
  decide ((ops.toList.filterMap (·.dst)).Nodup)
theorem calmL_ok {st : List Bool} {lv : List Nat} (h : calmL ops st lv = true) : CalmOK ops st := by
  simp only [calmL, Bool.and_eq_true, List.all_eq_true, List.mem_range, decide_eq_true_eq] at h
  obtain ⟨h1, h2⟩ := h
  have hs : ∀ {i : Nat} {o : Oper}, ops[i]? = some o → i < ops.size := fun hi => (Array.getElem?_eq_some_iff.1 hi).1
  have hbl : ∀ (i : Nat) o, ops[i]? = some o → ∀ e ∈ o.after, Region.binds .any e = true → e.on < i := fun i o hi e he hb => by
    have := h1 i (hs hi)
    rw [hi] at this
    simp only [Option.map_some, Option.getD_some, Bool.and_eq_true, Array.all_eq_true'] at this
    have := this.1.1 e (by simpa using he)
    simpa [hb] using this
  have hlv : ∀ (i : Nat) o, ops[i]? = some o → (lv.getD i 0 = 0 ∨ ∃ e ∈ o.after, Region.binds .any e = true ∧ ((st[e.on]? = some true ∧ lv.getD i 0 ≤ rank st e.on + 1) ∨ ((∃ p, ops[e.on]? = some p) ∧ lv.getD i 0 ≤ lv.getD e.on 0))) ∧ (st[i]? = some true → rank st i ≤ lv.getD i 0) := fun i o hi => by
    have := h1 i (hs hi)
    rw [hi] at this
    simp only [Option.map_some, Option.getD_some, Bool.and_eq_true, Bool.or_eq_true] at this
    obtain ⟨ha, hb⟩ := this.2
    refine ⟨?_, fun hst => ?_⟩
    · rcases ha with h | h
      · exact .inl (by simpa using h)
      · obtain ⟨e, he, hb⟩ := Array.any_eq_true'.1 h
        simp only [Bool.and_eq_true] at hb
        refine .inr ⟨e, he, hb.1, ?_⟩
        have h3 := hb.2
        split at h3
        · rename_i hst; exact .inl ⟨by simpa using hst, by simpa using h3⟩
        · simp only [Bool.and_eq_true, decide_eq_true_eq] at h3
          exact .inr ⟨Option.isSome_iff_exists.1 h3.1, h3.2⟩
    · rcases hb with h | h
      · simp [hst] at h
      · simpa using h
  refine ⟨hbl, fun i j o p d hi hj hd hm => ?_, fun listed k i o ho hst hcl haft hup => ?_, h2⟩
  · have := h1 i (hs hi)
    rw [hi] at this
    simp only [Option.map_some, Option.getD_some, Bool.and_eq_true, List.all_eq_true, List.mem_range] at this
    have := this.1.2 j (hs hj)
    rw [hj] at this
    simp only [Option.bind_some, hd, Option.map_some, Option.getD_some, Bool.or_eq_true, Bool.not_eq_true'] at this
    rcases this with h | h
    · rw [List.contains_eq_mem, decide_eq_false_iff_not] at h; exact absurd hm h
    · obtain ⟨e, he, hb⟩ := Array.any_eq_true'.1 h
      simp only [Bool.and_eq_true, beq_iff_eq] at hb
      exact ⟨e, he, hb⟩
  · have key : ∀ (n i : Nat) o, i ≤ n → ops[i]? = some o → (∀ e ∈ o.after, Region.binds .any e = true → listed.getD e.on false = true) → lv.getD i 0 ≤ k := by
      intro n
      induction n with
      | zero =>
        intro i o hin hi ha
        rcases (hlv i o hi).1 with h | ⟨e, he, hb, _⟩
        · omega
        · have := hbl i o hi e he hb; omega
      | succ n ih =>
        intro i o hin hi ha
        rcases (hlv i o hi).1 with h | ⟨e, he, hb, ⟨h3, h4⟩ | ⟨⟨p, hp⟩, h4⟩⟩
        · omega
        · have := (hup e.on h3).1 (ha e he hb); omega
        · have h5 := hbl i o hi e he hb
          have h6 := ih e.on p (by omega) hp (hcl e.on p hp (ha e he hb))
          omega
    have h7 := (hlv i o ho).2 hst
    have h8 := key i i o (Nat.le_refl _) ho haft
    omega

theorem slotD_of {a0 : Act} {t : Tmp} {v : Value} {w : World} : ∀ (l : List Oper) (Vs : List (Stb R)), l.length = Vs.length →
    (∀ (j : Nat) o V, l[j]? = some o → Vs[j]? = some V → o.dst = some t → V.V v w) → ((∀ (j : Nat) o, l[j]? = some o → o.dst ≠ some t) → v = a0.tmps[t]?.getD undef) → slotD l Vs a0 t v w
  | [], [], _, _, h2 => h2 fun j o h => by simp at h
  | o :: l, V :: Vs, hl, h1, h2 => by
    unfold slotD
    split
    · rename_i ho; exact h1 0 o V rfl rfl ho
    · rename_i ho
      refine slotD_of l Vs (by simpa using hl) (fun j o' V' hj hV hd => h1 (j + 1) o' V' (by simpa using hj) (by simpa using hV) hd) (fun hn => h2 fun j o' hj => ?_)
      cases j with
      | zero => simp at hj; subst hj; exact ho
      | succ j => exact hn j o' (by simpa using hj)
  | [], _ :: _, hl, _, _ => by simp at hl
  | _ :: _, [], hl, _, _ => by simp at hl

theorem eval_get (a : Act) (t : Tmp) : a.eval (.tmp t) = a.tmps[t]?.getD undef := by simp [Act.eval]
theorem getD_set (listed : Array Bool) (i j : Nat) (hi : i < listed.size) : (listed.setIfInBounds i true).getD j false = (decide (i = j) || listed.getD j false) := by
  by_cases h : i = j
  · subst h; simp [hi]
  · rw [Go.getD_set_ne false h]; simp [h]

theorem eval_put_same (a : Act) (d : Tmp) (v : Value) (h : d < a.tmps.size) : (a.put (some d) v).eval (.tmp d) = v := by
  simp [Act.eval, Act.put, h]
theorem eval_put_ne (a : Act) (o : Option Tmp) (t : Tmp) (v : Value) (h : o ≠ some t) : (a.put o v).eval (.tmp t) = a.eval (.tmp t) :=
  Act.eval_put fun d hd e => h (by cases e; exact hd)

theorem calm_step {C : Nat → World → Prop} {Vs : List (Stb R)} {a0 : Act} {st : List Bool} {w0 : World} (hB : CalmOK ops st) (hall : CalmAll P ops Q C Vs a0 0 0 ops.toList Vs st)
    (htr : ∀ a b c, R a b → R b c → R a c) (hds : ∀ (i : Nat) o d, ops[i]? = some o → o.dst = some d → d < a0.tmps.size)
    {listed : Array Bool} {a : Act} {w : World} {k : Nat} (hI : CalmInv ops C Vs a0 st w0 listed a w k) {i : Nat} (hi : i ∈ Region.ready .any ops listed)
    {K : Act → World → Prop} (hK : ∀ a' w' k', CalmInv ops C Vs a0 st w0 (listed.setIfInBounds i true) a' w' k' → K a' w') : wpOp P ops Q i K a w := by
  obtain ⟨_, hBd, hBs, hBn⟩ := hB
  obtain ⟨hl1, hl2, hget⟩ := calmAll_get ops.toList Vs st 0 0 hall
  obtain ⟨hun, o, ho, haft⟩ := mem_ready.1 hi
  have hlt : i < ops.size := (Array.getElem?_eq_some_iff.1 ho).1
  have hun' : listed.getD i false = false := by
    have : i < listed.size := by rw [hI.size]; exact hlt
    simp [this] at hun ⊢; exact hun
  obtain ⟨V, s, hV, hs, hop⟩ := hget i o (by simpa using ho)
  have deps : ∀ t, t ∈ o.looksAt ops → slotD ops.toList Vs a0 t (a.tmps[t]?.getD undef) w := fun t ht => by
    rw [← eval_get]
    refine slotD_of _ _ hl1 (fun j p V' hj hV' hd => ?_) (fun hn => ?_)
    · obtain ⟨e, he, hb, hej⟩ := hBd i j o p t ho (by simpa using hj) hd ht
      exact hI.new j p V' t (by simpa using hj) hV' (by rw [← hej]; exact haft e he hb) hd
    · rw [← eval_get]; exact hI.old t fun j p hj _ => hn j p (by simpa using hj)
  have key : ∀ k', (s = true → k' = k + 1) → (s = false → k' = k) → (s = true → rank st i = k) → ∀ v w', R w w' → C k' w' → V.V v w' → K (a.put o.dst v) w' := by
    intro k' hk1 hk0 hrk v w' hR hC hv
    refine hK _ _ k' ⟨by simp [hI.size], fun j p hj hlj e he hb => ?_, ?_, ?_, fun t hn => ?_, fun j p V' d hj hV' hlj hd => ?_, hC, fun j hj => ?_, htr _ _ _ hI.base hR, ?_⟩
    · rw [getD_set _ _ _ (by rw [hI.size]; exact hlt)] at hlj ⊢
      simp only [Bool.or_eq_true, decide_eq_true_eq] at hlj ⊢
      rcases hlj with rfl | hlj
      · rw [ho] at hj; cases hj; exact .inr (haft e he hb)
      · exact .inr (hI.closed j p hj hlj e he hb)
    · rw [← hI.defers]; cases o.dst <;> rfl
    · rw [← hI.tsize]; cases o.dst <;> simp [Act.put]
    · have hne : o.dst ≠ some t := hn i o ho (by rw [getD_set _ _ _ (by rw [hI.size]; exact hlt)]; simp)
      rw [eval_put_ne _ _ _ _ hne]
      exact hI.old t fun j p hj hlj => hn j p hj (by rw [getD_set _ _ _ (by rw [hI.size]; exact hlt), hlj]; simp)
    · rw [getD_set _ _ _ (by rw [hI.size]; exact hlt)] at hlj
      by_cases hij : i = j
      · subst hij
        rw [ho] at hj; cases hj
        rw [hV] at hV'; cases hV'
        rw [hd, eval_put_same _ _ _ (by rw [hI.tsize]; exact hds i o d ho hd)]
        exact hv
      · simp only [hij, decide_false, Bool.false_or] at hlj
        have hne : o.dst ≠ some d := by
          intro e
          -- two operations that write one slot
          have h1 : (ops.toList.filterMap (·.dst)).Nodup := hBn
          obtain ⟨hi1, hi2⟩ := Array.getElem?_eq_some_iff.1 ho
          obtain ⟨hj1, hj2⟩ := Array.getElem?_eq_some_iff.1 hj
          exact nodup_dst _ h1 i j o p d (by simpa using ho) (by simpa using hj) e hd hij
        rw [eval_put_ne _ _ _ _ hne]
        exact V'.st _ _ _ (hI.new j p V' d hj hV' hlj hd) hR
    · rw [getD_set _ _ _ (by rw [hI.size]; exact hlt)]
      simp only [Bool.or_eq_true, decide_eq_true_eq]
      have hu := hI.upto j hj
      cases s with
      | true =>
        rw [hk1 rfl]
        by_cases hij : i = j
        · subst hij; have := hrk rfl; simp; omega
        · have : rank st j ≠ k := by
            rw [← hrk rfl]
            rcases Nat.lt_or_gt_of_ne hij with h | h
            · have := rank_lt st h hs; omega
            · have := rank_lt st h hj; omega
          simp only [hij, false_or, hu]; omega
      | false =>
        rw [hk0 rfl]
        have hij : i ≠ j := by rintro rfl; rw [hs] at hj; cases hj
        simp only [hij, false_or, hu]
    · cases s with
      | true =>
        rw [hk1 rfl, ← hrk rfl]
        have := rank_mono st (show i + 1 ≤ ops.size by omega)
        rw [rank_succ, if_pos hs] at this; exact this
      | false => rw [hk0 rfl]; exact hI.kle
  cases s with
  | true =>
    have hrk : rank st i = k := by
      have h1 := hI.upto i hs
      rw [hun'] at h1
      have h2 : ¬ rank st i < k := fun h => by simpa using h1.2 h
      have := hBs listed k i o ho hs hI.closed haft hI.upto
      omega
    rw [if_pos rfl, Nat.zero_add, Nat.zero_add, hrk] at hop
    exact hop a w K hI.state deps (key (k + 1) (fun _ => rfl) (fun h => by cases h) (fun _ => hrk))
  | false =>
    simp only [Bool.false_eq_true, if_false] at hop
    rw [Nat.zero_add] at hop
    exact hop k a w K hI.state deps (key k (fun h => by cases h) (fun _ => rfl) (fun h => by cases h))

theorem calm_any {C : Nat → World → Prop} {Vs : List (Stb R)} {a0 : Act} {st : List Bool} {w0 : World} (hB : CalmOK ops st) (hall : CalmAll P ops Q C Vs a0 0 0 ops.toList Vs st)
    (htr : ∀ a b c, R a b → R b c → R a c) (hds : ∀ (i : Nat) o d, ops[i]? = some o → o.dst = some d → d < a0.tmps.size)
    (hQ : ∀ listed a w k, CalmInv ops C Vs a0 st w0 listed a w k → (∀ i, i < ops.size → listed.getD i false = true) → Q .normal a w) :
    ∀ (fuel : Nat) (listed : Array Bool) (a : Act) (w : World) (k : Nat), CalmInv ops C Vs a0 st w0 listed a w k →
      ((List.range ops.size).filter fun i => !listed.getD i false).length ≤ fuel → wpAny P .any ops Q fuel listed a w := by
  have hfull : ∀ listed : Array Bool, listed.size = ops.size → Region.ready .any ops listed = [] → ∀ i, i < ops.size → listed.getD i false = true := by
    intro listed hsz hr i
    induction i using Nat.strongRecOn with
    | _ i ih =>
      intro hi
      rcases hl : listed.getD i false with _ | _
      · exfalso
        have : i ∈ Region.ready .any ops listed := mem_ready.2 ⟨by
            have h2 : i < listed.size := by rw [hsz]; exact hi
            simp [h2] at hl ⊢; exact hl, ops[i], by simp [hi], fun e he hb => by
            have h3 := hB.bl i ops[i] (by simp [hi]) e he hb
            exact ih e.on h3 (by omega)⟩
        rw [hr] at this; cases this
      · rfl
  intro fuel
  induction fuel with
  | zero =>
    intro listed a w k hI hlen
    have hnone : ∀ i, i < ops.size → listed.getD i false = true := fun i hi => by
      have h0 := List.eq_nil_of_length_eq_zero (Nat.le_zero.1 hlen)
      have := List.filter_eq_nil_iff.1 h0 i (List.mem_range.2 hi)
      simpa using this
    refine ⟨?_, hQ listed a w k hI hnone⟩
    rw [List.eq_nil_iff_forall_not_mem]
    intro i hi
    obtain ⟨h1, o, ho, _⟩ := mem_ready.1 hi
    have hlt : i < ops.size := (Array.getElem?_eq_some_iff.1 ho).1
    have h2 := hnone i hlt
    have h3 : i < listed.size := by rw [hI.size]; exact hlt
    simp [h3] at h1 h2; rw [h1] at h2; cases h2
  | succ fuel ih =>
    intro listed a w k hI hlen
    refine ⟨fun hr => hQ listed a w k hI (hfull listed hI.size hr), fun i hi => ?_⟩
    refine calm_step hB hall htr hds hI hi fun a' w' k' hI' => ih _ a' w' k' hI' ?_
    obtain ⟨h1, o, ho, _⟩ := mem_ready.1 hi
    have hlt : i < ops.size := (Array.getElem?_eq_some_iff.1 ho).1
    have hsz : i < listed.size := by rw [hI.size]; exact hlt
    have hne : listed.getD i false = false := by simp [hsz] at h1 ⊢; exact h1
    have : ((List.range ops.size).filter fun j => !(listed.setIfInBounds i true).getD j false).length < ((List.range ops.size).filter fun j => !listed.getD j false).length := by
      have e : ((List.range ops.size).filter fun j => !(listed.setIfInBounds i true).getD j false) = ((List.range ops.size).filter fun j => !listed.getD j false).filter fun j => !decide (i = j) := by
        rw [List.filter_filter]
        congr 1; funext j
        rw [getD_set _ _ _ hsz, Bool.not_or]
      rw [e]
      refine List.length_filter_lt_length_iff_exists.2 ⟨i, List.mem_filter.2 ⟨List.mem_range.2 hlt, by rw [hne]; rfl⟩, by simp⟩
    omega

def putL : List Oper → (Nat → Value) → Nat → Act → Act
  | [], _, _, a => a
  | o :: l, vs, i, a => putL l vs (i + 1) (a.put o.dst (vs i))

theorem putL_spec : ∀ (l : List Oper) (vs : Nat → Value) (i : Nat) (a : Act), (l.filterMap (·.dst)).Nodup → (∀ (j : Nat) o d, l[j]? = some o → o.dst = some d → d < a.tmps.size) →
    (putL l vs i a).defers = a.defers ∧ (putL l vs i a).tmps.size = a.tmps.size ∧ (∀ (j : Nat) o d, l[j]? = some o → o.dst = some d → (putL l vs i a).eval (.tmp d) = vs (i + j)) ∧
    (∀ t, (∀ (j : Nat) o, l[j]? = some o → o.dst ≠ some t) → (putL l vs i a).eval (.tmp t) = a.eval (.tmp t))
  | [], vs, i, a, _, _ => ⟨rfl, rfl, fun j o d h => by simp at h, fun _ _ => rfl⟩
  | o :: l, vs, i, a, hn, hd => by
    have hsz : (a.put o.dst (vs i)).tmps.size = a.tmps.size := by cases o.dst <;> simp [Act.put]
    have hn' : (l.filterMap (·.dst)).Nodup := by
      cases h : o.dst <;> simp [List.filterMap_cons, h] at hn
      · exact hn
      · exact hn.2
    obtain ⟨h1, h2, h3, h4⟩ := putL_spec l vs (i + 1) (a.put o.dst (vs i)) hn' (fun j o' d hj hd' => by rw [hsz]; exact hd (j + 1) o' d (by simpa using hj) hd')
    refine ⟨by unfold putL; rw [h1]; cases o.dst <;> rfl, by unfold putL; rw [h2, hsz], fun j o' d hj hdd => ?_, fun t ht => ?_⟩
    · cases j with
      | zero =>
        simp at hj; subst hj
        unfold putL
        rw [h4 d, hdd, eval_put_same _ _ _ (hd 0 o d rfl hdd)]
        · rfl
        · intro j p hp e
          simp only [List.filterMap_cons, hdd, List.nodup_cons, List.mem_filterMap] at hn
          exact hn.1 ⟨p, List.mem_of_getElem? hp, e⟩
      | succ j =>
        unfold putL
        rw [h3 j o' d (by simpa using hj) hdd]
        congr 1; omega
    · unfold putL
      rw [h4 t (fun j p hp => ht (j + 1) p (by simpa using hp)), eval_put_ne _ _ _ _ (ht 0 o rfl)]

theorem act_ext {a b : Act} (h1 : a.defers = b.defers) (h2 : a.tmps.size = b.tmps.size) (h3 : ∀ t, a.eval (.tmp t) = b.eval (.tmp t)) : a = b := by
  obtain ⟨ta, da⟩ := a; obtain ⟨tb, db⟩ := b
  cases h1
  congr
  refine Array.ext h2 fun i hi hj => ?_
  have := h3 i
  simpa [Act.eval, hi, hj] using this

/-- THE RULE: a region that draws its order. -/
theorem wp_region_calm' {id : Nat} {l : List Oper} {C : Nat → World → Prop} {a : Act} {w : World} (st : List Bool) (Vs : List (Stb R)) (hm : P.follows .mixedOrders = true) (hB : CalmOK l.toArray st)
    (htr : ∀ a b c, R a b → R b c → R a c) (h0 : R w w.drew) (hC : C 0 w.drew) (hds : l.all (fun o => (o.dst.map fun d => decide (d < a.tmps.size)).getD true) = true)
    (hall : CalmAll P l.toArray Q C Vs a 0 0 l Vs st)
    (hfin : ∀ (vs : Nat → Value) (w' : World), R w w' → C (rank st l.length) w' → (∀ (i : Nat) o V, l[i]? = some o → Vs[i]? = some V → o.dst ≠ none → V.V (vs i) w') → Q .normal (putL l vs 0 a) w') :
    (Code.region id l.toArray true).wp P Q a w := by
  have hds' : ∀ (i : Nat) o d, l.toArray[i]? = some o → o.dst = some d → d < a.tmps.size := fun i o d hi hd => by
    have := List.all_eq_true.1 hds o (List.mem_of_getElem? (by simpa using hi))
    rw [hd] at this; simpa using this
  have hall' : CalmAll P l.toArray Q C Vs a 0 0 l.toArray.toList Vs st := hall
  have hrep : ∀ i, (Array.replicate l.toArray.size false).getD i false = false := fun i => by
    rw [Array.getD_eq_getD_getElem?, Array.getElem?_replicate]; split <;> rfl
  refine wp_region_any hm (calm_any (w0 := w) (k := 0) hB hall' htr hds' ?_ _ _ _ _ ⟨by simp, ?_, rfl, rfl, fun _ _ => rfl, ?_, hC, ?_, h0, Nat.zero_le _⟩ ?_)
  · intro listed a' w' k hI hfull
    obtain ⟨hl1, hl2, hget⟩ := calmAll_get l Vs st 0 0 hall
    have hBn : (l.filterMap (·.dst)).Nodup := hB.bn
    have hk : k = rank st l.length := by
      have h1 := hI.kle
      simp only [List.size_toArray] at h1
      rcases Nat.lt_or_ge k (rank st l.length) with h | h
      · obtain ⟨j, hj1, hj2, hj3⟩ := rank_hit st l.length k h
        have := (hI.upto j hj2).1 (hfull j (by simpa using hj1)); omega
      · omega
    obtain ⟨p1, p2, p3, p4⟩ := putL_spec l (fun i => ((l[i]?).bind (·.dst)).elim undef fun d => a'.eval (.tmp d)) 0 a hBn (fun j o d hj hd => hds' j o d (by simpa using hj) hd)
    have hlist : ∀ {j : Nat} {o : Oper}, l[j]? = some o → listed.getD j false = true := fun hj => hfull _ (by simpa using (List.getElem?_eq_some_iff.1 hj).1)
    have e : a' = putL l (fun i => ((l[i]?).bind (·.dst)).elim undef fun d => a'.eval (.tmp d)) 0 a := by
      refine act_ext (hI.defers.trans p1.symm) (hI.tsize.trans p2.symm) fun t => ?_
      by_cases ht : ∃ (j : Nat) (o : Oper), l[j]? = some o ∧ o.dst = some t
      · obtain ⟨j, o, hj, hd⟩ := ht
        rw [p3 j o t hj hd, Nat.zero_add, hj]
        simp [hd]
      · have hn : ∀ (j : Nat) (o : Oper), l[j]? = some o → o.dst ≠ some t := fun j o hj hd => ht ⟨j, o, hj, hd⟩
        rw [p4 t hn]
        exact hI.old t fun j o hj _ => hn j o (by simpa using hj)
    rw [e]
    refine hfin _ w' hI.base (hk ▸ hI.state) fun i o V hi hV hne => ?_
    cases hd : o.dst with
    | none => exact absurd hd hne
    | some d =>
      have := hI.new i o V d (by simpa using hi) hV (hlist hi) hd
      simpa [hi, hd] using this
  · intro i o _ h; rw [hrep] at h; cases h
  · intro i o V d _ _ h; rw [hrep] at h; cases h
  · intro j _; rw [hrep]; simp
  · simpa using List.length_filter_le _ (List.range l.length)

theorem wp_region_calm {id : Nat} {l : List Oper} {C : Nat → World → Prop} {a : Act} {w : World} (st : List Bool) (Vs : List (Stb R)) (hm : P.follows .mixedOrders = true) (hB : calmB l.toArray st = true)
    (htr : ∀ a b c, R a b → R b c → R a c) (h0 : R w w.drew) (hC : C 0 w.drew) (hds : l.all (fun o => (o.dst.map fun d => decide (d < a.tmps.size)).getD true) = true)
    (hall : CalmAll P l.toArray Q C Vs a 0 0 l Vs st)
    (hfin : ∀ (vs : Nat → Value) (w' : World), R w w' → C (rank st l.length) w' → (∀ (i : Nat) o V, l[i]? = some o → Vs[i]? = some V → o.dst ≠ none → V.V (vs i) w') → Q .normal (putL l vs 0 a) w') :
    (Code.region id l.toArray true).wp P Q a w :=
  wp_region_calm' st Vs hm (calmB_ok hB) htr h0 hC hds hall hfin
/-- The rule with levels. -/
theorem wp_region_calmL {id : Nat} {l : List Oper} {C : Nat → World → Prop} {a : Act} {w : World} (st : List Bool) (lv : List Nat) (Vs : List (Stb R)) (hm : P.follows .mixedOrders = true) (hB : calmL l.toArray st lv = true)
    (htr : ∀ a b c, R a b → R b c → R a c) (h0 : R w w.drew) (hC : C 0 w.drew) (hds : l.all (fun o => (o.dst.map fun d => decide (d < a.tmps.size)).getD true) = true)
    (hall : CalmAll P l.toArray Q C Vs a 0 0 l Vs st)
    (hfin : ∀ (vs : Nat → Value) (w' : World), R w w' → C (rank st l.length) w' → (∀ (i : Nat) o V, l[i]? = some o → Vs[i]? = some V → o.dst ≠ none → V.V (vs i) w') → Q .normal (putL l vs 0 a) w') :
    (Code.region id l.toArray true).wp P Q a w :=
  wp_region_calm' st Vs hm (calmL_ok hB) htr h0 hC hds hall hfin

theorem wpOp_want {i : Nat} {o : Oper} {a : Act} {w : World} {K : Act → World → Prop} (hi : ops[i]? = some o) (hw : Region.wanted o (yielded ops a.tmps) = true) (h : o.wp P a w K Q) : wpOp P ops Q i K a w := by
  unfold wpOp; rw [hi]; simp only [hw, if_true]; exact .inl h
theorem wpOp_plain {i : Nat} {o : Oper} {a : Act} {w : World} {K : Act → World → Prop} (hi : ops[i]? = some o) (hw : o.guard = none) (h : o.wp P a w K Q) : wpOp P ops Q i K a w :=
  wpOp_want hi (by simp [Region.wanted, hw]) h
theorem wpOp_skip {i : Nat} {o : Oper} {a : Act} {w : World} {K : Act → World → Prop} (hi : ops[i]? = some o) (hw : Region.wanted o (yielded ops a.tmps) = false) (h : K (a.put o.dst undef) w) : wpOp P ops Q i K a w := by
  unfold wpOp; rw [hi]; simp only [hw]; exact h
theorem wanted_of {o : Oper} {a : Act} {g t : Nat} {want b : Bool} (hg : o.guard = some (g, want)) (ht : (ops[g]?).bind (·.dst) = some t) (hv : a.eval (.tmp t) = .bool b) : Region.wanted o (yielded ops a.tmps) = (b == want) := by
  have : a.tmps[t]? = some (.bool b) := by
    simp only [Act.eval, Array.getD_eq_getD_getElem?] at hv
    cases h : a.tmps[t]? with
    | none => rw [h] at hv; simp [undef] at hv
    | some v => rw [h] at hv; simp at hv; rw [hv]
  unfold Region.wanted
  rw [hg]
  simp only [yielded, ht, Option.bind_some, this]
  cases b <;> cases want <;> rfl
theorem calm_run {i : Nat} {o : Oper} {a : Act} {w w' : World} {K : Act → World → Prop} (hi : ops[i]? = some o) (hg : o.guard = none) (v : Value) (hr : (execOp a.eval o).run P w = .ok (.value v) w') (h : K (a.put o.dst v) w') : wpOp P ops Q i K a w :=
  wpOp_plain hi hg (by unfold Oper.wp; rw [hr]; exact h)
theorem calm_mv {C : Nat → World → Prop} {Vs : List (Stb R)} {a0 : Act} {i k : Nat} {V : Stb R} {o : Oper} (t : Tmp) (hi : ops[i]? = some o) (hg : o.guard = none) (ho : o.op = .move (.tmp t) ∨ o.op = .assign (.tmp t)) (hR : ∀ w, R w w) (ht : t ∈ o.looksAt ops)
    (hV : ∀ (v : Value) (w : World), slotD ops.toList Vs a0 t v w → V.V v w) : CalmOp P ops Q C Vs a0 i V o k k := by
  intro a w K hC hd hK
  refine calm_run hi hg (a.eval (.tmp t)) (w' := w) ?_ (hK _ _ (hR w) hC (hV _ w (by rw [eval_get]; exact hd t ht)))
  rcases ho with ho | ho <;> simp [execOp, ho]
theorem calm_move {C : Nat → World → Prop} {Vs : List (Stb R)} {a0 : Act} {i k : Nat} {V : Stb R} {o : Oper} (x : Operand) (hi : ops[i]? = some o) (hg : o.guard = none) (ho : o.op = .move x ∨ o.op = .assign x) (hR : ∀ w, R w w)
    (hV : ∀ (a : Act) (w : World), (∀ t, t ∈ o.looksAt ops → slotD ops.toList Vs a0 t (a.tmps[t]?.getD undef) w) → V.V (a.eval x) w) : CalmOp P ops Q C Vs a0 i V o k k := by
  intro a w K hC hd hK
  refine calm_run hi hg (a.eval x) (w' := w) ?_ (hK _ _ (hR w) hC (hV a w hd))
  rcases ho with ho | ho <;> simp [execOp, ho]
end
end Go.Proofs.YtdngcheimohamaaDoor
/- op.Check. -/
namespace Go.Proofs.YtdngcheimohamaaDoor
open Go.RowKit

def zOf (o : OpV) : List UInt8 := signsL.getD o.k []
theorem zOf_get {o : OpV} (h : o.k < 17) : signsL[o.k]? = some (zOf o) := by
  unfold zOf
  rw [List.getD_eq_getElem?_getD, List.getElem?_eq_getElem (by simpa [signsL] using h)]
  rfl
open Classical in
noncomputable def bareB (o : OpV) : Bool := decide (o = bareFrom o (zOf o))
noncomputable def checkV (o : OpV) : Nat :=
  if 17 ≤ o.k then 4 else if bareB o = false then 4 else if (zOf o).all (rightV o) = false then 4
  else if 64 < o.a.size + o.b.size then 3 else if 64 < (writeB o (zOf o)).length then 3 else 0
theorem OpV.eq_iff (o p : OpV) : o = p ↔ o.k = p.k ∧ o.a = p.a ∧ o.b = p.b ∧ o.n = p.n ∧ o.r = p.r := by
  obtain ⟨⟩ := o; obtain ⟨⟩ := p; simp
open Classical in
theorem opNeq (w : World) (o p : OpV) : (binOp .neq 24 (.agg #[.int .u8 o.k, .string o.a, .string o.b, .int .u8 o.n, .int .u8 o.r]) (.agg #[.int .u8 p.k, .string p.a, .string p.b, .int .u8 p.n, .int .u8 p.r])).run Tryd.prog w = .ok (.bool (!decide (o = p))) w := by
  have h1 : Tryd.prog.stoodInHeld 24 = false := by kernel_rfl
  have h2 : Tryd.prog.underlying 24 = some (.struct (Tryd.prog.fieldsOf 24)) := by kernel_rfl
  rw [run_neq_struct, run_equalIn_struct w 9999 _ _ _ h2 h1]
  have ta : ∀ s t : ByteArray, s.toList = t.toList ↔ s = t := fun s t => by
    have := str_eq s t
    constructor
    · intro h; rw [h] at this; simpa using this.symm
    · intro h; rw [h]
  have hi : ∀ a b : Nat, ((a : Int) = b) ↔ a = b := fun a b => by omega
  simp only [Program.fieldsOf, Tryd.underlying24]
  simp [go_sem]
  have he := OpV.eq_iff o p
  by_cases h : o = p
  · subst h; simp
  · have hn := mt he.2 h
    simp only [ta, h, decide_false, Bool.not_false]
    by_cases a1 : o.k = p.k
    · by_cases a2 : o.a = p.a
      · by_cases a3 : o.b = p.b
        · by_cases a4 : o.n = p.n
          · by_cases a5 : o.r = p.r
            · exact absurd ⟨a1, a2, a3, a4, a5⟩ hn
            · rw [if_pos (by rw [a1]), if_pos a2, if_pos a3, if_pos (by rw [a4]), if_neg (by omega)]
          · rw [if_pos (by rw [a1]), if_pos a2, if_pos a3, if_neg (by omega)]
        · rw [if_pos (by rw [a1]), if_pos a2, if_neg a3]
      · rw [if_pos (by rw [a1]), if_neg a2]
    · rw [if_neg (by omega)]
end Go.Proofs.YtdngcheimohamaaDoor
