/- What the row leans on, part 1: contracts and plain laws. -/
import Derived.Test.YtdngcheimohamaaProg
import Derived.WalkKit
import Derived.Maps.AppendAt
import Derived.Lib.AppendStr
import Derived.Laws.AppendOwnNone
import Derived.Deep.Draws
import Derived.SliceStrings
import Derived.Deep.Slices
import Derived.WalkSpells
import Derived.Laws.IdiomStrings
import Derived.Lib.ConvBytes
import Derived.Laws.Bits64b
import Derived.Deep.Cut
import Derived.Lib.LaidTab
import Derived.LaidSub
import Derived.Deep.QuietTactic
import Derived.BigQuiet
import Derived.Lib.OthersKept
import Derived.Laws.RangeAny
import Derived.LaidEqlPtr
import Derived.Laws.StructEq
import Derived.Deep.RegionHeld3
import Derived.Laws.MakeOwn
import Derived.Deep.MidRow
import Derived.Laws.ResultCell
import Derived.Deep.Light
import Derived.Maps.OwnOps
import Derived.Maps.Views
import Derived.WideKeyPair
import Derived.WideKeyEntry
/- Memory words of this seat's proofs: frames over a set of blocks, owned rows, rows that are read. -/
namespace Go.Proofs.Ytdngcheimohamaa
open Go.RowKit

/-- A fact behind a name. -/
theorem hid {p : Prop} (h : p) : Hid p := h

/-- Outside of S nothing that was there has turned. -/
structure Fr (S : Nat → Prop) (w w' : World) : Prop where
  os : w'.os = w.os
  tape : w'.tape = w.tape
  output : w'.output = w.output
  size : w.heap.size ≤ w'.heap.size
  block : ∀ k, k < w.heap.size → ¬ S k → w'.heap[k]? = w.heap[k]?

def noB : Nat → Prop := fun _ => False
def andNew (S : Nat → Prop) (w : World) : Nat → Prop := fun k => S k ∨ w.heap.size ≤ k

theorem Fr.refl (S : Nat → Prop) (w : World) : Fr S w w := ⟨rfl, rfl, rfl, Nat.le_refl _, fun _ _ _ => rfl⟩
theorem Fr.trans {S T : Nat → Prop} {a b c : World} (h : Fr S a b) (k : Fr T b c) (hT : ∀ i, i < a.heap.size → T i → S i) : Fr S a c :=
  ⟨k.os.trans h.os, k.tape.trans h.tape, k.output.trans h.output, Nat.le_trans h.size k.size,
   fun i hi hn => (k.block i (Nat.lt_of_lt_of_le hi h.size) (fun t => hn (hT i hi t))).trans (h.block i hi hn)⟩
theorem Fr.mono {S T : Nat → Prop} {a b : World} (h : Fr S a b) (hT : ∀ i, i < a.heap.size → S i → T i) : Fr T a b :=
  ⟨h.os, h.tape, h.output, h.size, fun i hi hn => h.block i hi (fun s => hn (hT i hi s))⟩
/-- Two steps over the same set and what is new. -/
theorem Fr.then {S : Nat → Prop} {a b c : World} (h : Fr S a b) (k : Fr (andNew S a) b c) : Fr S a c :=
  h.trans k fun i hi t => t.elim id fun t => absurd t (by omega)
theorem Fr.then' {S : Nat → Prop} {a b c : World} (h : Fr S a b) (k : Fr S b c) : Fr S a c := h.trans k fun _ _ t => t
theorem Fr.drew {S : Nat → Prop} {a b : World} (h : Fr S a b) : Fr S a b.drew := ⟨h.os, h.tape, h.output, h.size, h.block⟩
theorem Fr.drewN {S : Nat → Prop} {a b : World} (h : Fr S a b) (n : Nat) : Fr S a (b.drewN n) := ⟨h.os, h.tape, h.output, h.size, h.block⟩
theorem Fr.alloc {S : Nat → Prop} {a b : World} (h : Fr S a b) (o : Obj) : Fr S a (b.alloc o) :=
  h.then' ⟨rfl, rfl, rfl, by simp, fun k hk _ => Below.heap_alloc _ _ _ (by omega)⟩
theorem Fr.setCell {S : Nat → Prop} {a b : World} (h : Fr S a b) {p : Addr} (hp : S p.block ∨ a.heap.size ≤ p.block) (u : Value) : Fr S a (b.setCell p u) :=
  ⟨h.os, h.tape, h.output, by have := h.size; simpa [World.setCell] using this, fun k hk hn => by
    rw [Below.heap_setCell _ _ _ _ (fun e => by subst e; rcases hp with hp | hp; exact hn hp; omega)]
    exact h.block k hk hn⟩
theorem Fr.grown {S : Nat → Prop} {a b c : World} {row : Option Nat} (h : Fr S a b) (hg : b.grownBy c row) (hr : ∀ k, row = some k → S k ∨ a.heap.size ≤ k) : Fr S a c :=
  ⟨hg.os.trans h.os, hg.tape.trans h.tape, hg.output.trans h.output, Nat.le_trans h.size hg.size, fun k hk hn =>
    (hg.block k (Nat.lt_of_lt_of_le hk h.size) (fun e => by rcases hr k e.symm with q | q; exact hn q; omega)).trans (h.block k hk hn)⟩
theorem Fr.below {B : Nat} {w w' : World} (h : Fr (fun k => B ≤ k) w w') (hB : B ≤ w.heap.size) : Below B w w' :=
  ⟨h.os, h.tape, h.output, h.size, fun k hk => h.block k (by omega) (by omega)⟩
theorem Fr.of_below {w w' : World} (h : Below w.heap.size w w') (S : Nat → Prop) : Fr S w w' :=
  ⟨h.os, h.tape, h.output, h.size, fun k hk _ => h.block k hk⟩
theorem Fr.below0 {w w' : World} (h : Fr noB w w') : Below w.heap.size w w' :=
  ⟨h.os, h.tape, h.output, h.size, fun k hk => h.block k hk id⟩
theorem Fr.cell {S : Nat → Prop} {w w' : World} (h : Fr S w w') {p : Addr} {v : Value} (hc : w.cell? p = some v) (hS : ¬ S p.block) : w'.cell? p = some v :=
  (World.cell?_of_block (h.block p.block (World.block_lt_of_cell? w p hc) hS)).trans hc
theorem cell_al {w : World} {a : Addr} {v : Value} (h : w.cell? a = some v) (o : Obj) : (w.alloc o).cell? a = some v := ((Fr.refl noB w).alloc o).cell h id
theorem Fr.frozen {S : Nat → Prop} {w w' : World} (h : Fr S w w') {p : Addr} (hp : p.block < w.heap.size) (hS : ¬ S p.block) : w'.frozen? p = w.frozen? p :=
  World.frozen?_of_block (h.block p.block hp hS)
theorem Fr.heap {S : Nat → Prop} {w w' : World} (h : Fr S w w') {k : Nat} {o : Obj} (hc : w.heap[k]? = some o) (hS : ¬ S k) : w'.heap[k]? = some o :=
  (h.block k (Array.getElem?_eq_some_iff.1 hc).1 hS).trans hc

/-! ### Rows that are read -/
/-- The slice value at A, of n elements of size cells each, reads xs. -/
def RowAt (w : World) (A : Option Addr) (xs : List Value) : Prop :=
  ∀ j u, xs[j]? = some u → ∃ ad, A = some ad ∧ w.cell? (ad.add j) = some u
theorem RowAt.nil (w : World) (A : Option Addr) : RowAt w A [] := fun j u h => by simp at h
theorem RowAt.cell {w : World} {ad : Addr} {xs : List Value} (h : RowAt w (some ad) xs) {j : Nat} {u : Value} (hu : xs[j]? = some u) : w.cell? (ad.add j) = some u := by
  obtain ⟨ad', e, hc⟩ := h j u hu
  cases e; exact hc
theorem add_block (a : Addr) (j : Nat) : (a.add j).block = a.block := by unfold Addr.add; split <;> rfl
theorem RowAt.fr {S : Nat → Prop} {w w' : World} {A : Option Addr} {xs : List Value} (h : RowAt w A xs) (f : Fr S w w') (hS : ∀ ad, A = some ad → 0 < xs.length → ad.block < w.heap.size → ¬ S ad.block) : RowAt w' A xs := fun j u hu => by
  obtain ⟨ad, e, hc⟩ := h j u hu
  exact ⟨ad, e, f.cell hc (by rw [add_block]; exact hS ad e (by have := (List.getElem?_eq_some_iff.1 hu).1; omega) (by have := World.block_lt_of_cell? w _ hc; rwa [add_block] at this))⟩
theorem RowAt.fr0 {w w' : World} {A : Option Addr} {xs : List Value} (h : RowAt w A xs) (f : Fr noB w w') : RowAt w' A xs := h.fr f (fun _ _ _ _ => id)
def eqB (n : Nat) : Nat → Prop := fun k => k = n
/-- The blocks from n on. -/
def upB (n : Nat) : Nat → Prop := fun k => n ≤ k
theorem RowAt.up {w w' : World} {A : Option Addr} {xs : List Value} (h : RowAt w A xs) (f : Fr (upB w.heap.size) w w') : RowAt w' A xs := h.fr f (fun _ _ _ h1 h2 => by unfold upB at h2; omega)
theorem Fr.up0 {w w' : World} (h : Fr noB w w') (n : Nat) : Fr (upB n) w w' := h.mono fun _ _ h => h.elim
/-- All that is turned are blocks that were not there: nothing of what was there. -/
theorem Fr.none {w w' : World} (h : Fr (upB w.heap.size) w w') : Fr noB w w' := h.mono fun _ h1 h2 => by unfold upB at h2; omega
theorem RowAt.some_of {w : World} {A : Option Addr} {xs : List Value} (h : RowAt w A xs) (hn : 0 < xs.length) : ∃ ad, A = some ad := by
  obtain ⟨ad, e, _⟩ := h 0 xs[0] (by simp [hn])
  exact ⟨ad, e⟩
theorem RowAt.lt {w : World} {ad : Addr} {xs : List Value} (h : RowAt w (some ad) xs) (hn : 0 < xs.length) : ad.block < w.heap.size := by
  have := World.block_lt_of_cell? w _ (h.cell (j := 0) (u := xs[0]) (by simp [hn]))
  rwa [add_block] at this

/-! ### Rows that are owned -/
theorem own_slice {w : World} {base n : Nat} {e : TypeId} {size : Nat} {v : Value} {xs : List Value} (h : w.ownsRow base e size v n xs) : ∃ A c, v = .slice A n c := by
  rcases h.2 with ⟨rfl, rfl⟩ | ⟨g, cap, cur, rfl, _⟩
  · exact ⟨none, 0, rfl⟩
  · exact ⟨_, cap, rfl⟩
theorem own_row {w : World} {base n : Nat} {e : TypeId} {size : Nat} {A : Option Addr} {m c : Nat} {xs : List Value} (h : w.ownsRow base e size (.slice A m c) n xs) : RowAt w A xs := fun j u hu => by
  rcases h.2 with ⟨e1, rfl⟩ | ⟨g, cap, cur, e1, _⟩
  · have := h.1
    have hx : xs = [] := List.eq_nil_of_length_eq_zero (by simpa using this)
    subst hx; simp at hu
  · cases e1
    exact ⟨_, rfl, h.cells (g := g) rfl j u hu⟩
theorem own_mono {w : World} {b b' n : Nat} {e : TypeId} {size : Nat} {v : Value} {xs : List Value} (h : w.ownsRow b e size v n xs) (hb : ∀ g, v.ownBlock = some g → b' ≤ g) : w.ownsRow b' e size v n xs := by
  refine ⟨h.1, ?_⟩
  rcases h.2 with hn | ⟨g, cap, cur, rfl, _, rest⟩
  · exact .inl hn
  · exact .inr ⟨g, cap, cur, rfl, hb g rfl, rest⟩
theorem own_fr {S : Nat → Prop} {w w' : World} {b n : Nat} {e : TypeId} {size : Nat} {v : Value} {xs : List Value} (h : w.ownsRow b e size v n xs) (f : Fr S w w') (hS : ∀ g, v.ownBlock = some g → ¬ S g) : w'.ownsRow b e size v n xs := by
  refine ⟨h.1, ?_⟩
  rcases h.2 with hn | ⟨g, cap, cur, rfl, hb, hg, rest⟩
  · exact .inl hn
  · exact .inr ⟨g, cap, cur, rfl, hb, f.heap hg (hS g rfl), rest⟩
theorem own_lt {w : World} {b n : Nat} {e : TypeId} {size : Nat} {v : Value} {xs : List Value} (h : w.ownsRow b e size v n xs) {g : Nat} (hg : v.ownBlock = some g) : g < w.heap.size := (h.lt g hg).2
theorem own_ne {w : World} {b n : Nat} {e e' : TypeId} {size : Nat} {v : Value} {xs : List Value} (h : w.ownsRow b e size v n xs) {g k : Nat} (hg : v.ownBlock = some g) {c : Array Value} {fz : Nat × Nat} (hk : w.heap[k]? = some (.cells c e' fz)) (hne : e ≠ e') : g ≠ k := by
  rcases h.2 with ⟨rfl, _⟩ | ⟨g', cap, cur, rfl, _, hh, _⟩
  · simp [Value.ownBlock] at hg
  · simp [Value.ownBlock] at hg
    subst hg
    intro e2; subst e2
    rw [hh] at hk; injection hk with hk; injection hk with _ h2; exact hne h2

/-- What append asks of a slice type: its element type's row of the table. -/
structure AppTy (P : Program) (t e : TypeId) (z : Value) (size bytes : Nat) : Prop where
  und : P.underlying t = some (.slice e)
  info : (P.info? e).map (fun i => (i.zero, i.size, i.bytes)) = some (some z, size, bytes)
  zs : z.cells.size = size
  pos : 0 < size

theorem wpList_app {P : Program} {ops : Array Oper} {rest : List Oper} {o : Oper} {a : Act} {w : World} {Q : Exit → Act → World → Prop} {t e : TypeId} {z : Value} {size bytes : Nat} (A : AppTy P t e z size bytes)
    (hgd : o.guard = none) (s x : Operand) (ho : o.op = .call { callee := .builtin .append, args := #[s, x], argTypes := #[t, t] })
    (v : Value) (n : Nat) (xs : List Value) (hs : a.eval s = v) (hown : w.ownsRow 0 e size v n xs)
    (B : Option Addr) (m c : Nat) (news : List Value) (hx : a.eval x = .slice B m c) (hl : news.length = m * size) (hnews : RowAt w B news) (h1 : ∀ u ∈ news, u.oneCell' = true)
    (hB : B = none → m = 0 ∧ c = 0)
    (hbytes : (n + m) * bytes ≤ 140737488355328) (h63 : n + m ≤ 140737488355328)
    (h : ∀ A' c' w', w'.ownsRow 0 e size (.slice A' (n + m) c') (n + m) (xs ++ news) → w.grownBy w' v.ownBlock → ((Value.slice A' (n + m) c').ownBlock = v.ownBlock ∨ (Value.slice A' (n + m) c').ownBlock = some w.heap.size) → wpList P ops Q rest (a.put o.dst (.slice A' (n + m) c')) w') :
    wpList P ops Q (o :: rest) a w := by
  obtain ⟨i, hi, hz, hsz, hby⟩ := info_parts A.info
  have hm : n + m ≤ maxLen := by unfold maxLen; omega
  cases B with
  | some ad =>
    refine wpList_append_own_at w hgd s x t ho 0 e i z size bytes A.und hi hz hsz hby A.zs A.pos v n xs hs hown ad m c news hx hl (fun j u hu => hnews.cell hu) h1 hm hbytes (Nat.zero_le _) ?_
    intro v' w' h1 h2 _ h4
    obtain ⟨A', c', rfl⟩ := own_slice h1
    exact h A' c' w' h1 h2 h4
  | none =>
    obtain ⟨rfl, rfl⟩ := hB rfl
    have hn : news = [] := List.eq_nil_of_length_eq_zero (by simpa using hl)
    subst hn
    obtain ⟨A', c', rfl⟩ := own_slice hown
    exact wpList_append_own_none hgd s x t ho 0 e i size A.und hi _ n xs hs hown hx (h A' c' w (by simpa using hown) ⟨rfl, rfl, rfl, Nat.le_refl _, fun _ _ _ => rfl⟩ (Or.inl rfl))

open Go.Lib in
/-- A string's bytes put behind an owned row, and where the row lies then. -/
theorem run_app_str {P : Program} (w : World) (t u ty e : TypeId) (i : TypeInfo) (ht : P.underlying t = some (.slice e)) (hu : P.underlying u = some .string) (hi : P.info? e = some i) (hz : i.zero = some (.int .u8 0))
    (hsize : i.size = 1) (hby : i.bytes = 1) (v : Value) (n : Nat) (xs : List Value) (hown : w.ownsRow 0 e 1 v n xs) (s : ByteArray)
    (h63 : n + s.size ≤ 140737488355328) :
    ∃ v' w', (Builtin.append_ #[t, u] ty #[v, .string s]).run P w = .ok v' w' ∧ w'.ownsRow 0 e 1 v' (n + s.size) (xs ++ strCells s) ∧ w.grownBy w' v.ownBlock ∧ (v'.ownBlock = v.ownBlock ∨ v'.ownBlock = some w.heap.size) := by
  have h63' : n + s.size ≤ maxLen := by simp only [maxLen]; omega
  have hxl : xs.length = n := by simpa using hown.1
  have hlen : (xs ++ strCells s).length = (n + s.size) * 1 := by rw [List.length_append, hxl, strCells_length, Nat.mul_one]
  have grown : ∀ (old : Nat), old < n + s.size → ∀ (row : Option Nat),
      (w.drew.alloc (.cells (xs.toArray ++ (strCells s).toArray ++ Builtin.zeroCells (Value.int .u8 0).cells (grownCap w (n + s.size) old e - (n + s.size))) e)).ownsRow 0 e 1
        (.slice (some ⟨w.heap.size, 0, none⟩) (n + s.size) (grownCap w (n + s.size) old e)) (n + s.size) (xs ++ strCells s) ∧
      w.grownBy (w.drew.alloc (.cells (xs.toArray ++ (strCells s).toArray ++ Builtin.zeroCells (Value.int .u8 0).cells (grownCap w (n + s.size) old e - (n + s.size))) e)) row := by
    intro old ho row
    have hge := grownCap_ge w (n + s.size) old e
    have hcm : grownCap w (n + s.size) old e ≤ maxLen := grownCap_le_maxLen w (n + s.size) old e h63'
    refine ⟨⟨hlen, .inr ⟨w.heap.size, _, _, rfl, Nat.zero_le _, heap_alloc_new w.drew _, hge, hcm, ?_, ?_⟩⟩, ⟨rfl, rfl, rfl, by simp, fun k hk _ => Below.heap_alloc w.drew _ k hk⟩⟩
    · have hz1 : (Value.int IntKind.u8 0).cells.size = 1 := rfl
      simp only [Array.size_append, List.size_toArray, size_zeroCells, hz1, hxl, strCells_length]
      omega
    · simp only [Array.toList_append, List.append_assoc]
      rw [← List.append_assoc, ← hlen]
      exact List.take_left
  rcases hown.2 with ⟨rfl, rfl⟩ | ⟨g, cap, cur, rfl, hbg, hg, hnc, hcm, hcs, htake⟩
  · obtain rfl : xs = [] := List.eq_nil_of_length_eq_zero hxl
    by_cases hm : s.size = 0
    · obtain ⟨v', w', hr, h1, h2, h3⟩ := run_append_own_string (P := P) w w.heap.size t u ty e i ht hu hi hz hsize hby _ 0 [] (World.ownsRow_nil w w.heap.size e 1) s h63' h63 (Nat.le_refl _)
      have hv : v' = .slice none 0 0 := h3.2 ⟨rfl, hm⟩
      refine ⟨v', w', hr, own_mono h1 (fun _ _ => Nat.zero_le _), h2, Or.inl (by rw [hv])⟩
    · have hr := run_append_nil_string (P := P) w t u ty e i (.int .u8 0) ht hu hi hz s (by omega) (by omega) (by rw [hby]; omega)
      have hgr := grown 0 (by omega) (Value.ownBlock (.slice none 0 0))
      simp only [Nat.zero_add, List.nil_append, Array.empty_append] at hgr ⊢
      have e1 : (s.data.map fun b => Value.int .u8 b.toNat) = (strCells s).toArray := by
        apply Array.ext'
        simp [strCells]
      rw [e1] at hr
      exact ⟨_, _, hr, hgr.1, hgr.2, Or.inr rfl⟩
  · by_cases hroom : n + s.size ≤ cap
    · have hcs' : cur.size = cap := by simpa using hcs
      have hr := run_append_room_string (P := P) w t u ty e i ht hu hi hsize g n cap cur hg s hroom (by omega)
      refine ⟨_, _, hr, ⟨hlen, .inr ⟨g, cap, _, rfl, hbg, setRow_heap w g cur _ e _ hg, hroom, hcm, ?_, ?_⟩⟩, ⟨rfl, rfl, rfl, by simp, fun k _ hk => setRow_other w g k _ (fun e => hk (by simp [Value.ownBlock, e]))⟩, Or.inl rfl⟩
      · simp only [List.size_toArray, List.length_append, List.length_take, List.length_drop, Array.length_toList, strCells_length]
        omega
      · have ht' : cur.toList.take n = xs := by simpa using htake
        rw [ht', ← hlen]
        exact List.take_left
    · have holds : ∀ j u, xs[j]? = some u → w.cell? ((⟨g, 0, none⟩ : Addr).add j) = some u := hown.cells (g := g) rfl
      have hr := run_append_grow_string (P := P) w t u ty e i (.int .u8 0) ht hu hi hz ⟨g, 0, none⟩ n cap xs (by rw [hsize]; simpa using hxl) holds s (by omega) (by omega) (by rw [hby]; exact growslice_fits (by omega) (by omega))
      have hgr := grown cap (by omega) (Value.ownBlock (.slice (some ⟨g, 0, none⟩) n cap))
      exact ⟨_, _, hr, hgr.1, hgr.2, Or.inr rfl⟩

theorem wpList_app_str {P : Program} {ops : Array Oper} {rest : List Oper} {o : Oper} {a : Act} {w : World} {Q : Exit → Act → World → Prop} {t u e : TypeId} (A : AppTy P t e (.int .u8 0) 1 1) (hu : P.underlying u = some .string)
    (hgd : o.guard = none) (sl x : Operand) (ho : o.op = .call { callee := .builtin .append, args := #[sl, x], argTypes := #[t, u] })
    (v : Value) (n : Nat) (xs : List Value) (hs : a.eval sl = v) (hown : w.ownsRow 0 e 1 v n xs) (s : ByteArray) (hx : a.eval x = .string s)
    (h63 : n + s.size ≤ 140737488355328)
    (h : ∀ A' c' w', w'.ownsRow 0 e 1 (.slice A' (n + s.size) c') (n + s.size) (xs ++ Lib.strCells s) → w.grownBy w' v.ownBlock → ((Value.slice A' (n + s.size) c').ownBlock = v.ownBlock ∨ (Value.slice A' (n + s.size) c').ownBlock = some w.heap.size) → wpList P ops Q rest (a.put o.dst (.slice A' (n + s.size) c')) w') :
    wpList P ops Q (o :: rest) a w := by
  obtain ⟨i, hi, hz, hsz, hby⟩ := info_parts A.info
  refine wpList_plain hgd fun K hK => ?_
  obtain ⟨v', w', hr, h2, h3, h4⟩ := run_app_str (P := P) w t u o.type e i A.und hu hi hz hsz hby v n xs hown s h63
  obtain ⟨A', c', rfl⟩ := own_slice h2
  unfold Oper.wp execOp
  simp only [ho, resolve, invoke, builtin, Sem.run_bind, Sem.run_pure, Result.andThen_ok, List.map_toArray, List.map_cons, List.map_nil, hs, hx, hr]
  exact hK _ _ (h A' c' w' h2 h3 h4)
end Go.Proofs.Ytdngcheimohamaa
/- The cells of a struct of so many cells, one by one. Written by a small program. -/
namespace Go.Proofs.Ytdngcheimohamaa
open Go.RowKit
def SegAt (w : World) (a : Addr) (xs : List Value) : Prop := ∀ j u, xs[j]? = some u → w.cell? (a.add j) = some u
theorem add_add' (a : Addr) (i j : Nat) : (a.add i).add j = a.add (i + j) := by
  unfold Addr.add
  by_cases hi : i = 0 <;> by_cases hj : j = 0 <;> simp [hi, hj, Nat.add_assoc]
theorem flat_get {α β : Type} (f : α → List β) (m : Nat) (hf : ∀ a, (f a).length = m) : ∀ (l : List α) (k j : Nat) (a : α) (b : β), l[k]? = some a → (f a)[j]? = some b → (l.flatMap f)[k * m + j]? = some b
  | [], k, j, a, b, h, _ => by simp at h
  | c :: l, 0, j, a, b, h, hb => by
    simp at h; subst h
    have : j < (f c).length := (List.getElem?_eq_some_iff.1 hb).1
    rw [List.flatMap_cons, Nat.zero_mul, Nat.zero_add, List.getElem?_append_left this]; exact hb
  | c :: l, k + 1, j, a, b, h, hb => by
    rw [List.flatMap_cons, List.getElem?_append_right (by rw [hf]; rw [Nat.succ_mul]; omega), hf, show (k + 1) * m + j - m = k * m + j from by rw [Nat.succ_mul]; omega]
    exact flat_get f m hf l k j a b (by simpa using h) hb
theorem RowAt.seg {α : Type} {w : World} {ad : Addr} {l : List α} {f : α → List Value} (h : RowAt w (some ad) (l.flatMap f)) (m : Nat) (hf : ∀ a, (f a).length = m) {k : Nat} {a : α} (hk : l[k]? = some a) : SegAt w (ad.add (k * m)) (f a) := fun j u hu => by
  rw [add_add']
  exact h.cell (flat_get f m hf l k j a u hk hu)
theorem RowAt.some_flat {α : Type} {w : World} {A : Option Addr} {l : List α} {f : α → List Value} (h : RowAt w A (l.flatMap f)) (hf : ∀ a, f a ≠ []) {k : Nat} {a : α} (hk : l[k]? = some a) : ∃ ad, A = some ad := by
  have hm := List.mem_of_getElem? hk
  refine h.some_of ?_
  rcases l with _ | ⟨b, l⟩
  · simp at hm
  · have := hf b
    rw [List.flatMap_cons, List.length_append]
    have : 0 < (f b).length := List.length_pos_iff.2 this
    omega
theorem SegAt.fr {S : Nat → Prop} {w w' : World} {a : Addr} {xs : List Value} (h : SegAt w a xs) (f : Fr S w w') (hS : ¬ S a.block) : SegAt w' a xs := fun j u hu => f.cell (h j u hu) (by rw [add_block]; exact hS)
theorem SegAt.c1 {w : World} {a : Addr} {v0 : Value} (R : SegAt w a [v0]) : w.cell? a = some v0 :=
  R 0 _ rfl
theorem SegAt.c2 {w : World} {a : Addr} {v0 v1 : Value} (R : SegAt w a [v0, v1]) : w.cell? a = some v0 ∧ w.cell? ⟨a.block, a.off + 1, none⟩ = some v1 :=
  ⟨R 0 _ rfl, R 1 _ rfl⟩
theorem SegAt.c3 {w : World} {a : Addr} {v0 v1 v2 : Value} (R : SegAt w a [v0, v1, v2]) : w.cell? a = some v0 ∧ w.cell? ⟨a.block, a.off + 1, none⟩ = some v1 ∧ w.cell? ⟨a.block, a.off + 2, none⟩ = some v2 :=
  ⟨R 0 _ rfl, R 1 _ rfl, R 2 _ rfl⟩
theorem SegAt.c4 {w : World} {a : Addr} {v0 v1 v2 v3 : Value} (R : SegAt w a [v0, v1, v2, v3]) : w.cell? a = some v0 ∧ w.cell? ⟨a.block, a.off + 1, none⟩ = some v1 ∧ w.cell? ⟨a.block, a.off + 2, none⟩ = some v2 ∧ w.cell? ⟨a.block, a.off + 3, none⟩ = some v3 :=
  ⟨R 0 _ rfl, R 1 _ rfl, R 2 _ rfl, R 3 _ rfl⟩
theorem SegAt.c5 {w : World} {a : Addr} {v0 v1 v2 v3 v4 : Value} (R : SegAt w a [v0, v1, v2, v3, v4]) : w.cell? a = some v0 ∧ w.cell? ⟨a.block, a.off + 1, none⟩ = some v1 ∧ w.cell? ⟨a.block, a.off + 2, none⟩ = some v2 ∧ w.cell? ⟨a.block, a.off + 3, none⟩ = some v3 ∧ w.cell? ⟨a.block, a.off + 4, none⟩ = some v4 :=
  ⟨R 0 _ rfl, R 1 _ rfl, R 2 _ rfl, R 3 _ rfl, R 4 _ rfl⟩
theorem SegAt.c6 {w : World} {a : Addr} {v0 v1 v2 v3 v4 v5 : Value} (R : SegAt w a [v0, v1, v2, v3, v4, v5]) : w.cell? a = some v0 ∧ w.cell? ⟨a.block, a.off + 1, none⟩ = some v1 ∧ w.cell? ⟨a.block, a.off + 2, none⟩ = some v2 ∧ w.cell? ⟨a.block, a.off + 3, none⟩ = some v3 ∧ w.cell? ⟨a.block, a.off + 4, none⟩ = some v4 ∧ w.cell? ⟨a.block, a.off + 5, none⟩ = some v5 :=
  ⟨R 0 _ rfl, R 1 _ rfl, R 2 _ rfl, R 3 _ rfl, R 4 _ rfl, R 5 _ rfl⟩
theorem SegAt.c7 {w : World} {a : Addr} {v0 v1 v2 v3 v4 v5 v6 : Value} (R : SegAt w a [v0, v1, v2, v3, v4, v5, v6]) : w.cell? a = some v0 ∧ w.cell? ⟨a.block, a.off + 1, none⟩ = some v1 ∧ w.cell? ⟨a.block, a.off + 2, none⟩ = some v2 ∧ w.cell? ⟨a.block, a.off + 3, none⟩ = some v3 ∧ w.cell? ⟨a.block, a.off + 4, none⟩ = some v4 ∧ w.cell? ⟨a.block, a.off + 5, none⟩ = some v5 ∧ w.cell? ⟨a.block, a.off + 6, none⟩ = some v6 :=
  ⟨R 0 _ rfl, R 1 _ rfl, R 2 _ rfl, R 3 _ rfl, R 4 _ rfl, R 5 _ rfl, R 6 _ rfl⟩
theorem SegAt.c8 {w : World} {a : Addr} {v0 v1 v2 v3 v4 v5 v6 v7 : Value} (R : SegAt w a [v0, v1, v2, v3, v4, v5, v6, v7]) : w.cell? a = some v0 ∧ w.cell? ⟨a.block, a.off + 1, none⟩ = some v1 ∧ w.cell? ⟨a.block, a.off + 2, none⟩ = some v2 ∧ w.cell? ⟨a.block, a.off + 3, none⟩ = some v3 ∧ w.cell? ⟨a.block, a.off + 4, none⟩ = some v4 ∧ w.cell? ⟨a.block, a.off + 5, none⟩ = some v5 ∧ w.cell? ⟨a.block, a.off + 6, none⟩ = some v6 ∧ w.cell? ⟨a.block, a.off + 7, none⟩ = some v7 :=
  ⟨R 0 _ rfl, R 1 _ rfl, R 2 _ rfl, R 3 _ rfl, R 4 _ rfl, R 5 _ rfl, R 6 _ rfl, R 7 _ rfl⟩
theorem SegAt.c9 {w : World} {a : Addr} {v0 v1 v2 v3 v4 v5 v6 v7 v8 : Value} (R : SegAt w a [v0, v1, v2, v3, v4, v5, v6, v7, v8]) : w.cell? a = some v0 ∧ w.cell? ⟨a.block, a.off + 1, none⟩ = some v1 ∧ w.cell? ⟨a.block, a.off + 2, none⟩ = some v2 ∧ w.cell? ⟨a.block, a.off + 3, none⟩ = some v3 ∧ w.cell? ⟨a.block, a.off + 4, none⟩ = some v4 ∧ w.cell? ⟨a.block, a.off + 5, none⟩ = some v5 ∧ w.cell? ⟨a.block, a.off + 6, none⟩ = some v6 ∧ w.cell? ⟨a.block, a.off + 7, none⟩ = some v7 ∧ w.cell? ⟨a.block, a.off + 8, none⟩ = some v8 :=
  ⟨R 0 _ rfl, R 1 _ rfl, R 2 _ rfl, R 3 _ rfl, R 4 _ rfl, R 5 _ rfl, R 6 _ rfl, R 7 _ rfl, R 8 _ rfl⟩
theorem SegAt.c10 {w : World} {a : Addr} {v0 v1 v2 v3 v4 v5 v6 v7 v8 v9 : Value} (R : SegAt w a [v0, v1, v2, v3, v4, v5, v6, v7, v8, v9]) : w.cell? a = some v0 ∧ w.cell? ⟨a.block, a.off + 1, none⟩ = some v1 ∧ w.cell? ⟨a.block, a.off + 2, none⟩ = some v2 ∧ w.cell? ⟨a.block, a.off + 3, none⟩ = some v3 ∧ w.cell? ⟨a.block, a.off + 4, none⟩ = some v4 ∧ w.cell? ⟨a.block, a.off + 5, none⟩ = some v5 ∧ w.cell? ⟨a.block, a.off + 6, none⟩ = some v6 ∧ w.cell? ⟨a.block, a.off + 7, none⟩ = some v7 ∧ w.cell? ⟨a.block, a.off + 8, none⟩ = some v8 ∧ w.cell? ⟨a.block, a.off + 9, none⟩ = some v9 :=
  ⟨R 0 _ rfl, R 1 _ rfl, R 2 _ rfl, R 3 _ rfl, R 4 _ rfl, R 5 _ rfl, R 6 _ rfl, R 7 _ rfl, R 8 _ rfl, R 9 _ rfl⟩
theorem SegAt.c11 {w : World} {a : Addr} {v0 v1 v2 v3 v4 v5 v6 v7 v8 v9 v10 : Value} (R : SegAt w a [v0, v1, v2, v3, v4, v5, v6, v7, v8, v9, v10]) : w.cell? a = some v0 ∧ w.cell? ⟨a.block, a.off + 1, none⟩ = some v1 ∧ w.cell? ⟨a.block, a.off + 2, none⟩ = some v2 ∧ w.cell? ⟨a.block, a.off + 3, none⟩ = some v3 ∧ w.cell? ⟨a.block, a.off + 4, none⟩ = some v4 ∧ w.cell? ⟨a.block, a.off + 5, none⟩ = some v5 ∧ w.cell? ⟨a.block, a.off + 6, none⟩ = some v6 ∧ w.cell? ⟨a.block, a.off + 7, none⟩ = some v7 ∧ w.cell? ⟨a.block, a.off + 8, none⟩ = some v8 ∧ w.cell? ⟨a.block, a.off + 9, none⟩ = some v9 ∧ w.cell? ⟨a.block, a.off + 10, none⟩ = some v10 :=
  ⟨R 0 _ rfl, R 1 _ rfl, R 2 _ rfl, R 3 _ rfl, R 4 _ rfl, R 5 _ rfl, R 6 _ rfl, R 7 _ rfl, R 8 _ rfl, R 9 _ rfl, R 10 _ rfl⟩
theorem SegAt.c12 {w : World} {a : Addr} {v0 v1 v2 v3 v4 v5 v6 v7 v8 v9 v10 v11 : Value} (R : SegAt w a [v0, v1, v2, v3, v4, v5, v6, v7, v8, v9, v10, v11]) : w.cell? a = some v0 ∧ w.cell? ⟨a.block, a.off + 1, none⟩ = some v1 ∧ w.cell? ⟨a.block, a.off + 2, none⟩ = some v2 ∧ w.cell? ⟨a.block, a.off + 3, none⟩ = some v3 ∧ w.cell? ⟨a.block, a.off + 4, none⟩ = some v4 ∧ w.cell? ⟨a.block, a.off + 5, none⟩ = some v5 ∧ w.cell? ⟨a.block, a.off + 6, none⟩ = some v6 ∧ w.cell? ⟨a.block, a.off + 7, none⟩ = some v7 ∧ w.cell? ⟨a.block, a.off + 8, none⟩ = some v8 ∧ w.cell? ⟨a.block, a.off + 9, none⟩ = some v9 ∧ w.cell? ⟨a.block, a.off + 10, none⟩ = some v10 ∧ w.cell? ⟨a.block, a.off + 11, none⟩ = some v11 :=
  ⟨R 0 _ rfl, R 1 _ rfl, R 2 _ rfl, R 3 _ rfl, R 4 _ rfl, R 5 _ rfl, R 6 _ rfl, R 7 _ rfl, R 8 _ rfl, R 9 _ rfl, R 10 _ rfl, R 11 _ rfl⟩
theorem SegAt.c13 {w : World} {a : Addr} {v0 v1 v2 v3 v4 v5 v6 v7 v8 v9 v10 v11 v12 : Value} (R : SegAt w a [v0, v1, v2, v3, v4, v5, v6, v7, v8, v9, v10, v11, v12]) : w.cell? a = some v0 ∧ w.cell? ⟨a.block, a.off + 1, none⟩ = some v1 ∧ w.cell? ⟨a.block, a.off + 2, none⟩ = some v2 ∧ w.cell? ⟨a.block, a.off + 3, none⟩ = some v3 ∧ w.cell? ⟨a.block, a.off + 4, none⟩ = some v4 ∧ w.cell? ⟨a.block, a.off + 5, none⟩ = some v5 ∧ w.cell? ⟨a.block, a.off + 6, none⟩ = some v6 ∧ w.cell? ⟨a.block, a.off + 7, none⟩ = some v7 ∧ w.cell? ⟨a.block, a.off + 8, none⟩ = some v8 ∧ w.cell? ⟨a.block, a.off + 9, none⟩ = some v9 ∧ w.cell? ⟨a.block, a.off + 10, none⟩ = some v10 ∧ w.cell? ⟨a.block, a.off + 11, none⟩ = some v11 ∧ w.cell? ⟨a.block, a.off + 12, none⟩ = some v12 :=
  ⟨R 0 _ rfl, R 1 _ rfl, R 2 _ rfl, R 3 _ rfl, R 4 _ rfl, R 5 _ rfl, R 6 _ rfl, R 7 _ rfl, R 8 _ rfl, R 9 _ rfl, R 10 _ rfl, R 11 _ rfl, R 12 _ rfl⟩
theorem SegAt.c14 {w : World} {a : Addr} {v0 v1 v2 v3 v4 v5 v6 v7 v8 v9 v10 v11 v12 v13 : Value} (R : SegAt w a [v0, v1, v2, v3, v4, v5, v6, v7, v8, v9, v10, v11, v12, v13]) : w.cell? a = some v0 ∧ w.cell? ⟨a.block, a.off + 1, none⟩ = some v1 ∧ w.cell? ⟨a.block, a.off + 2, none⟩ = some v2 ∧ w.cell? ⟨a.block, a.off + 3, none⟩ = some v3 ∧ w.cell? ⟨a.block, a.off + 4, none⟩ = some v4 ∧ w.cell? ⟨a.block, a.off + 5, none⟩ = some v5 ∧ w.cell? ⟨a.block, a.off + 6, none⟩ = some v6 ∧ w.cell? ⟨a.block, a.off + 7, none⟩ = some v7 ∧ w.cell? ⟨a.block, a.off + 8, none⟩ = some v8 ∧ w.cell? ⟨a.block, a.off + 9, none⟩ = some v9 ∧ w.cell? ⟨a.block, a.off + 10, none⟩ = some v10 ∧ w.cell? ⟨a.block, a.off + 11, none⟩ = some v11 ∧ w.cell? ⟨a.block, a.off + 12, none⟩ = some v12 ∧ w.cell? ⟨a.block, a.off + 13, none⟩ = some v13 :=
  ⟨R 0 _ rfl, R 1 _ rfl, R 2 _ rfl, R 3 _ rfl, R 4 _ rfl, R 5 _ rfl, R 6 _ rfl, R 7 _ rfl, R 8 _ rfl, R 9 _ rfl, R 10 _ rfl, R 11 _ rfl, R 12 _ rfl, R 13 _ rfl⟩
theorem SegAt.c15 {w : World} {a : Addr} {v0 v1 v2 v3 v4 v5 v6 v7 v8 v9 v10 v11 v12 v13 v14 : Value} (R : SegAt w a [v0, v1, v2, v3, v4, v5, v6, v7, v8, v9, v10, v11, v12, v13, v14]) : w.cell? a = some v0 ∧ w.cell? ⟨a.block, a.off + 1, none⟩ = some v1 ∧ w.cell? ⟨a.block, a.off + 2, none⟩ = some v2 ∧ w.cell? ⟨a.block, a.off + 3, none⟩ = some v3 ∧ w.cell? ⟨a.block, a.off + 4, none⟩ = some v4 ∧ w.cell? ⟨a.block, a.off + 5, none⟩ = some v5 ∧ w.cell? ⟨a.block, a.off + 6, none⟩ = some v6 ∧ w.cell? ⟨a.block, a.off + 7, none⟩ = some v7 ∧ w.cell? ⟨a.block, a.off + 8, none⟩ = some v8 ∧ w.cell? ⟨a.block, a.off + 9, none⟩ = some v9 ∧ w.cell? ⟨a.block, a.off + 10, none⟩ = some v10 ∧ w.cell? ⟨a.block, a.off + 11, none⟩ = some v11 ∧ w.cell? ⟨a.block, a.off + 12, none⟩ = some v12 ∧ w.cell? ⟨a.block, a.off + 13, none⟩ = some v13 ∧ w.cell? ⟨a.block, a.off + 14, none⟩ = some v14 :=
  ⟨R 0 _ rfl, R 1 _ rfl, R 2 _ rfl, R 3 _ rfl, R 4 _ rfl, R 5 _ rfl, R 6 _ rfl, R 7 _ rfl, R 8 _ rfl, R 9 _ rfl, R 10 _ rfl, R 11 _ rfl, R 12 _ rfl, R 13 _ rfl, R 14 _ rfl⟩
theorem SegAt.c16 {w : World} {a : Addr} {v0 v1 v2 v3 v4 v5 v6 v7 v8 v9 v10 v11 v12 v13 v14 v15 : Value} (R : SegAt w a [v0, v1, v2, v3, v4, v5, v6, v7, v8, v9, v10, v11, v12, v13, v14, v15]) : w.cell? a = some v0 ∧ w.cell? ⟨a.block, a.off + 1, none⟩ = some v1 ∧ w.cell? ⟨a.block, a.off + 2, none⟩ = some v2 ∧ w.cell? ⟨a.block, a.off + 3, none⟩ = some v3 ∧ w.cell? ⟨a.block, a.off + 4, none⟩ = some v4 ∧ w.cell? ⟨a.block, a.off + 5, none⟩ = some v5 ∧ w.cell? ⟨a.block, a.off + 6, none⟩ = some v6 ∧ w.cell? ⟨a.block, a.off + 7, none⟩ = some v7 ∧ w.cell? ⟨a.block, a.off + 8, none⟩ = some v8 ∧ w.cell? ⟨a.block, a.off + 9, none⟩ = some v9 ∧ w.cell? ⟨a.block, a.off + 10, none⟩ = some v10 ∧ w.cell? ⟨a.block, a.off + 11, none⟩ = some v11 ∧ w.cell? ⟨a.block, a.off + 12, none⟩ = some v12 ∧ w.cell? ⟨a.block, a.off + 13, none⟩ = some v13 ∧ w.cell? ⟨a.block, a.off + 14, none⟩ = some v14 ∧ w.cell? ⟨a.block, a.off + 15, none⟩ = some v15 :=
  ⟨R 0 _ rfl, R 1 _ rfl, R 2 _ rfl, R 3 _ rfl, R 4 _ rfl, R 5 _ rfl, R 6 _ rfl, R 7 _ rfl, R 8 _ rfl, R 9 _ rfl, R 10 _ rfl, R 11 _ rfl, R 12 _ rfl, R 13 _ rfl, R 14 _ rfl, R 15 _ rfl⟩
theorem SegAt.c1z {w : World} {b : Nat} {v0 : Value} (R : SegAt w ⟨b, 0, none⟩ [v0]) : w.cell? ⟨b, 0, none⟩ = some v0 :=
  R 0 _ rfl
theorem SegAt.c2z {w : World} {b : Nat} {v0 v1 : Value} (R : SegAt w ⟨b, 0, none⟩ [v0, v1]) : w.cell? ⟨b, 0, none⟩ = some v0 ∧ w.cell? ⟨b, 1, none⟩ = some v1 :=
  ⟨R 0 _ rfl, R 1 _ rfl⟩
theorem SegAt.c3z {w : World} {b : Nat} {v0 v1 v2 : Value} (R : SegAt w ⟨b, 0, none⟩ [v0, v1, v2]) : w.cell? ⟨b, 0, none⟩ = some v0 ∧ w.cell? ⟨b, 1, none⟩ = some v1 ∧ w.cell? ⟨b, 2, none⟩ = some v2 :=
  ⟨R 0 _ rfl, R 1 _ rfl, R 2 _ rfl⟩
theorem SegAt.c4z {w : World} {b : Nat} {v0 v1 v2 v3 : Value} (R : SegAt w ⟨b, 0, none⟩ [v0, v1, v2, v3]) : w.cell? ⟨b, 0, none⟩ = some v0 ∧ w.cell? ⟨b, 1, none⟩ = some v1 ∧ w.cell? ⟨b, 2, none⟩ = some v2 ∧ w.cell? ⟨b, 3, none⟩ = some v3 :=
  ⟨R 0 _ rfl, R 1 _ rfl, R 2 _ rfl, R 3 _ rfl⟩
theorem SegAt.c5z {w : World} {b : Nat} {v0 v1 v2 v3 v4 : Value} (R : SegAt w ⟨b, 0, none⟩ [v0, v1, v2, v3, v4]) : w.cell? ⟨b, 0, none⟩ = some v0 ∧ w.cell? ⟨b, 1, none⟩ = some v1 ∧ w.cell? ⟨b, 2, none⟩ = some v2 ∧ w.cell? ⟨b, 3, none⟩ = some v3 ∧ w.cell? ⟨b, 4, none⟩ = some v4 :=
  ⟨R 0 _ rfl, R 1 _ rfl, R 2 _ rfl, R 3 _ rfl, R 4 _ rfl⟩
theorem SegAt.c6z {w : World} {b : Nat} {v0 v1 v2 v3 v4 v5 : Value} (R : SegAt w ⟨b, 0, none⟩ [v0, v1, v2, v3, v4, v5]) : w.cell? ⟨b, 0, none⟩ = some v0 ∧ w.cell? ⟨b, 1, none⟩ = some v1 ∧ w.cell? ⟨b, 2, none⟩ = some v2 ∧ w.cell? ⟨b, 3, none⟩ = some v3 ∧ w.cell? ⟨b, 4, none⟩ = some v4 ∧ w.cell? ⟨b, 5, none⟩ = some v5 :=
  ⟨R 0 _ rfl, R 1 _ rfl, R 2 _ rfl, R 3 _ rfl, R 4 _ rfl, R 5 _ rfl⟩
theorem SegAt.c7z {w : World} {b : Nat} {v0 v1 v2 v3 v4 v5 v6 : Value} (R : SegAt w ⟨b, 0, none⟩ [v0, v1, v2, v3, v4, v5, v6]) : w.cell? ⟨b, 0, none⟩ = some v0 ∧ w.cell? ⟨b, 1, none⟩ = some v1 ∧ w.cell? ⟨b, 2, none⟩ = some v2 ∧ w.cell? ⟨b, 3, none⟩ = some v3 ∧ w.cell? ⟨b, 4, none⟩ = some v4 ∧ w.cell? ⟨b, 5, none⟩ = some v5 ∧ w.cell? ⟨b, 6, none⟩ = some v6 :=
  ⟨R 0 _ rfl, R 1 _ rfl, R 2 _ rfl, R 3 _ rfl, R 4 _ rfl, R 5 _ rfl, R 6 _ rfl⟩
theorem SegAt.c8z {w : World} {b : Nat} {v0 v1 v2 v3 v4 v5 v6 v7 : Value} (R : SegAt w ⟨b, 0, none⟩ [v0, v1, v2, v3, v4, v5, v6, v7]) : w.cell? ⟨b, 0, none⟩ = some v0 ∧ w.cell? ⟨b, 1, none⟩ = some v1 ∧ w.cell? ⟨b, 2, none⟩ = some v2 ∧ w.cell? ⟨b, 3, none⟩ = some v3 ∧ w.cell? ⟨b, 4, none⟩ = some v4 ∧ w.cell? ⟨b, 5, none⟩ = some v5 ∧ w.cell? ⟨b, 6, none⟩ = some v6 ∧ w.cell? ⟨b, 7, none⟩ = some v7 :=
  ⟨R 0 _ rfl, R 1 _ rfl, R 2 _ rfl, R 3 _ rfl, R 4 _ rfl, R 5 _ rfl, R 6 _ rfl, R 7 _ rfl⟩
theorem SegAt.c9z {w : World} {b : Nat} {v0 v1 v2 v3 v4 v5 v6 v7 v8 : Value} (R : SegAt w ⟨b, 0, none⟩ [v0, v1, v2, v3, v4, v5, v6, v7, v8]) : w.cell? ⟨b, 0, none⟩ = some v0 ∧ w.cell? ⟨b, 1, none⟩ = some v1 ∧ w.cell? ⟨b, 2, none⟩ = some v2 ∧ w.cell? ⟨b, 3, none⟩ = some v3 ∧ w.cell? ⟨b, 4, none⟩ = some v4 ∧ w.cell? ⟨b, 5, none⟩ = some v5 ∧ w.cell? ⟨b, 6, none⟩ = some v6 ∧ w.cell? ⟨b, 7, none⟩ = some v7 ∧ w.cell? ⟨b, 8, none⟩ = some v8 :=
  ⟨R 0 _ rfl, R 1 _ rfl, R 2 _ rfl, R 3 _ rfl, R 4 _ rfl, R 5 _ rfl, R 6 _ rfl, R 7 _ rfl, R 8 _ rfl⟩
theorem SegAt.c10z {w : World} {b : Nat} {v0 v1 v2 v3 v4 v5 v6 v7 v8 v9 : Value} (R : SegAt w ⟨b, 0, none⟩ [v0, v1, v2, v3, v4, v5, v6, v7, v8, v9]) : w.cell? ⟨b, 0, none⟩ = some v0 ∧ w.cell? ⟨b, 1, none⟩ = some v1 ∧ w.cell? ⟨b, 2, none⟩ = some v2 ∧ w.cell? ⟨b, 3, none⟩ = some v3 ∧ w.cell? ⟨b, 4, none⟩ = some v4 ∧ w.cell? ⟨b, 5, none⟩ = some v5 ∧ w.cell? ⟨b, 6, none⟩ = some v6 ∧ w.cell? ⟨b, 7, none⟩ = some v7 ∧ w.cell? ⟨b, 8, none⟩ = some v8 ∧ w.cell? ⟨b, 9, none⟩ = some v9 :=
  ⟨R 0 _ rfl, R 1 _ rfl, R 2 _ rfl, R 3 _ rfl, R 4 _ rfl, R 5 _ rfl, R 6 _ rfl, R 7 _ rfl, R 8 _ rfl, R 9 _ rfl⟩
theorem SegAt.c11z {w : World} {b : Nat} {v0 v1 v2 v3 v4 v5 v6 v7 v8 v9 v10 : Value} (R : SegAt w ⟨b, 0, none⟩ [v0, v1, v2, v3, v4, v5, v6, v7, v8, v9, v10]) : w.cell? ⟨b, 0, none⟩ = some v0 ∧ w.cell? ⟨b, 1, none⟩ = some v1 ∧ w.cell? ⟨b, 2, none⟩ = some v2 ∧ w.cell? ⟨b, 3, none⟩ = some v3 ∧ w.cell? ⟨b, 4, none⟩ = some v4 ∧ w.cell? ⟨b, 5, none⟩ = some v5 ∧ w.cell? ⟨b, 6, none⟩ = some v6 ∧ w.cell? ⟨b, 7, none⟩ = some v7 ∧ w.cell? ⟨b, 8, none⟩ = some v8 ∧ w.cell? ⟨b, 9, none⟩ = some v9 ∧ w.cell? ⟨b, 10, none⟩ = some v10 :=
  ⟨R 0 _ rfl, R 1 _ rfl, R 2 _ rfl, R 3 _ rfl, R 4 _ rfl, R 5 _ rfl, R 6 _ rfl, R 7 _ rfl, R 8 _ rfl, R 9 _ rfl, R 10 _ rfl⟩
theorem SegAt.c12z {w : World} {b : Nat} {v0 v1 v2 v3 v4 v5 v6 v7 v8 v9 v10 v11 : Value} (R : SegAt w ⟨b, 0, none⟩ [v0, v1, v2, v3, v4, v5, v6, v7, v8, v9, v10, v11]) : w.cell? ⟨b, 0, none⟩ = some v0 ∧ w.cell? ⟨b, 1, none⟩ = some v1 ∧ w.cell? ⟨b, 2, none⟩ = some v2 ∧ w.cell? ⟨b, 3, none⟩ = some v3 ∧ w.cell? ⟨b, 4, none⟩ = some v4 ∧ w.cell? ⟨b, 5, none⟩ = some v5 ∧ w.cell? ⟨b, 6, none⟩ = some v6 ∧ w.cell? ⟨b, 7, none⟩ = some v7 ∧ w.cell? ⟨b, 8, none⟩ = some v8 ∧ w.cell? ⟨b, 9, none⟩ = some v9 ∧ w.cell? ⟨b, 10, none⟩ = some v10 ∧ w.cell? ⟨b, 11, none⟩ = some v11 :=
  ⟨R 0 _ rfl, R 1 _ rfl, R 2 _ rfl, R 3 _ rfl, R 4 _ rfl, R 5 _ rfl, R 6 _ rfl, R 7 _ rfl, R 8 _ rfl, R 9 _ rfl, R 10 _ rfl, R 11 _ rfl⟩
theorem SegAt.c13z {w : World} {b : Nat} {v0 v1 v2 v3 v4 v5 v6 v7 v8 v9 v10 v11 v12 : Value} (R : SegAt w ⟨b, 0, none⟩ [v0, v1, v2, v3, v4, v5, v6, v7, v8, v9, v10, v11, v12]) : w.cell? ⟨b, 0, none⟩ = some v0 ∧ w.cell? ⟨b, 1, none⟩ = some v1 ∧ w.cell? ⟨b, 2, none⟩ = some v2 ∧ w.cell? ⟨b, 3, none⟩ = some v3 ∧ w.cell? ⟨b, 4, none⟩ = some v4 ∧ w.cell? ⟨b, 5, none⟩ = some v5 ∧ w.cell? ⟨b, 6, none⟩ = some v6 ∧ w.cell? ⟨b, 7, none⟩ = some v7 ∧ w.cell? ⟨b, 8, none⟩ = some v8 ∧ w.cell? ⟨b, 9, none⟩ = some v9 ∧ w.cell? ⟨b, 10, none⟩ = some v10 ∧ w.cell? ⟨b, 11, none⟩ = some v11 ∧ w.cell? ⟨b, 12, none⟩ = some v12 :=
  ⟨R 0 _ rfl, R 1 _ rfl, R 2 _ rfl, R 3 _ rfl, R 4 _ rfl, R 5 _ rfl, R 6 _ rfl, R 7 _ rfl, R 8 _ rfl, R 9 _ rfl, R 10 _ rfl, R 11 _ rfl, R 12 _ rfl⟩
theorem SegAt.c14z {w : World} {b : Nat} {v0 v1 v2 v3 v4 v5 v6 v7 v8 v9 v10 v11 v12 v13 : Value} (R : SegAt w ⟨b, 0, none⟩ [v0, v1, v2, v3, v4, v5, v6, v7, v8, v9, v10, v11, v12, v13]) : w.cell? ⟨b, 0, none⟩ = some v0 ∧ w.cell? ⟨b, 1, none⟩ = some v1 ∧ w.cell? ⟨b, 2, none⟩ = some v2 ∧ w.cell? ⟨b, 3, none⟩ = some v3 ∧ w.cell? ⟨b, 4, none⟩ = some v4 ∧ w.cell? ⟨b, 5, none⟩ = some v5 ∧ w.cell? ⟨b, 6, none⟩ = some v6 ∧ w.cell? ⟨b, 7, none⟩ = some v7 ∧ w.cell? ⟨b, 8, none⟩ = some v8 ∧ w.cell? ⟨b, 9, none⟩ = some v9 ∧ w.cell? ⟨b, 10, none⟩ = some v10 ∧ w.cell? ⟨b, 11, none⟩ = some v11 ∧ w.cell? ⟨b, 12, none⟩ = some v12 ∧ w.cell? ⟨b, 13, none⟩ = some v13 :=
  ⟨R 0 _ rfl, R 1 _ rfl, R 2 _ rfl, R 3 _ rfl, R 4 _ rfl, R 5 _ rfl, R 6 _ rfl, R 7 _ rfl, R 8 _ rfl, R 9 _ rfl, R 10 _ rfl, R 11 _ rfl, R 12 _ rfl, R 13 _ rfl⟩
theorem SegAt.c15z {w : World} {b : Nat} {v0 v1 v2 v3 v4 v5 v6 v7 v8 v9 v10 v11 v12 v13 v14 : Value} (R : SegAt w ⟨b, 0, none⟩ [v0, v1, v2, v3, v4, v5, v6, v7, v8, v9, v10, v11, v12, v13, v14]) : w.cell? ⟨b, 0, none⟩ = some v0 ∧ w.cell? ⟨b, 1, none⟩ = some v1 ∧ w.cell? ⟨b, 2, none⟩ = some v2 ∧ w.cell? ⟨b, 3, none⟩ = some v3 ∧ w.cell? ⟨b, 4, none⟩ = some v4 ∧ w.cell? ⟨b, 5, none⟩ = some v5 ∧ w.cell? ⟨b, 6, none⟩ = some v6 ∧ w.cell? ⟨b, 7, none⟩ = some v7 ∧ w.cell? ⟨b, 8, none⟩ = some v8 ∧ w.cell? ⟨b, 9, none⟩ = some v9 ∧ w.cell? ⟨b, 10, none⟩ = some v10 ∧ w.cell? ⟨b, 11, none⟩ = some v11 ∧ w.cell? ⟨b, 12, none⟩ = some v12 ∧ w.cell? ⟨b, 13, none⟩ = some v13 ∧ w.cell? ⟨b, 14, none⟩ = some v14 :=
  ⟨R 0 _ rfl, R 1 _ rfl, R 2 _ rfl, R 3 _ rfl, R 4 _ rfl, R 5 _ rfl, R 6 _ rfl, R 7 _ rfl, R 8 _ rfl, R 9 _ rfl, R 10 _ rfl, R 11 _ rfl, R 12 _ rfl, R 13 _ rfl, R 14 _ rfl⟩
theorem SegAt.c16z {w : World} {b : Nat} {v0 v1 v2 v3 v4 v5 v6 v7 v8 v9 v10 v11 v12 v13 v14 v15 : Value} (R : SegAt w ⟨b, 0, none⟩ [v0, v1, v2, v3, v4, v5, v6, v7, v8, v9, v10, v11, v12, v13, v14, v15]) : w.cell? ⟨b, 0, none⟩ = some v0 ∧ w.cell? ⟨b, 1, none⟩ = some v1 ∧ w.cell? ⟨b, 2, none⟩ = some v2 ∧ w.cell? ⟨b, 3, none⟩ = some v3 ∧ w.cell? ⟨b, 4, none⟩ = some v4 ∧ w.cell? ⟨b, 5, none⟩ = some v5 ∧ w.cell? ⟨b, 6, none⟩ = some v6 ∧ w.cell? ⟨b, 7, none⟩ = some v7 ∧ w.cell? ⟨b, 8, none⟩ = some v8 ∧ w.cell? ⟨b, 9, none⟩ = some v9 ∧ w.cell? ⟨b, 10, none⟩ = some v10 ∧ w.cell? ⟨b, 11, none⟩ = some v11 ∧ w.cell? ⟨b, 12, none⟩ = some v12 ∧ w.cell? ⟨b, 13, none⟩ = some v13 ∧ w.cell? ⟨b, 14, none⟩ = some v14 ∧ w.cell? ⟨b, 15, none⟩ = some v15 :=
  ⟨R 0 _ rfl, R 1 _ rfl, R 2 _ rfl, R 3 _ rfl, R 4 _ rfl, R 5 _ rfl, R 6 _ rfl, R 7 _ rfl, R 8 _ rfl, R 9 _ rfl, R 10 _ rfl, R 11 _ rfl, R 12 _ rfl, R 13 _ rfl, R 14 _ rfl, R 15 _ rfl⟩
end Go.Proofs.Ytdngcheimohamaa
/- Contracts of octet.Writer. -/
namespace Go.Proofs.Ytdngcheimohamaa
open Go.RowKit

def bcells (bs : List UInt8) : List Value := bs.map fun b => Value.int .u8 b.toNat
theorem bcells_append (a b : List UInt8) : bcells (a ++ b) = bcells a ++ bcells b := by simp [bcells]
theorem bcells_length (a : List UInt8) : (bcells a).length = a.length := by simp [bcells]
theorem bcells_str (s : ByteArray) : Lib.strCells s = bcells s.data.toList := rfl
theorem bcells_one (a : List UInt8) : ∀ u ∈ bcells a, u.oneCell' = true := by
  intro u hu; simp only [bcells, List.mem_map] at hu; obtain ⟨b, _, rfl⟩ := hu; rfl

theorem Try.app8 : AppTy Try.prog 46 5 (.int .u8 0) 1 1 := ⟨Try.underlying46, by kernel_rfl, rfl, by decide⟩

/-- At p a Writer with the bytes bs, in blocks of S. -/
structure WrAt (w : World) (S : Nat → Prop) (p : Nat) (bs : List UInt8) : Prop where
  ex : ∃ A c T, T ≠ 5 ∧ w.heap[p]? = some (.cells #[.slice A bs.length c] T (0, 0)) ∧ w.ownsRow 0 5 1 (.slice A bs.length c) bs.length (bcells bs) ∧ S p ∧ ∀ k, (Value.slice A bs.length c).ownBlock = some k → S k

theorem WrAt.fr {w w' : World} {S T : Nat → Prop} {p : Nat} {bs : List UInt8} (h : WrAt w S p bs) (f : Fr T w w') (hd : ∀ k, k < w.heap.size → S k → ¬ T k) : WrAt w' S p bs := by
  obtain ⟨A, c, ty, h1, h2, h3, h4, h5⟩ := h.ex
  exact ⟨A, c, ty, h1, f.heap h2 (hd p (Array.getElem?_eq_some_iff.1 h2).1 h4), own_fr h3 f (fun g hg => hd g (own_lt h3 hg) (h5 g hg)), h4, h5⟩
theorem WrAt.mono {w : World} {S T : Nat → Prop} {p : Nat} {bs : List UInt8} (h : WrAt w S p bs) (hd : ∀ k, k < w.heap.size → S k → T k) : WrAt w T p bs := by
  obtain ⟨A, c, ty, h1, h2, h3, h4, h5⟩ := h.ex
  exact ⟨A, c, ty, h1, h2, h3, hd p (Array.getElem?_eq_some_iff.1 h2).1 h4, fun g hg => hd g (own_lt h3 hg) (h5 g hg)⟩

/-- What is left behind the append and the store. -/
theorem WrAt.stored {w wr wa w1 : World} {S : Nat → Prop} {p m d : Nat} {bs xs : List UInt8} {A A' : Option Addr} {c c' T : Nat} (hT : T ≠ 5) (hm : bs.length = m) (hd : xs.length = d)
    (hf : Fr S w wr) (hp : wr.heap[p]? = some (.cells #[.slice A m c] T (0, 0))) (hown : wr.ownsRow 0 5 1 (.slice A m c) m (bcells bs))
    (hSp : andNew S w p) (hS : ∀ k, (Value.slice A m c).ownBlock = some k → andNew S w k) (ha : Fr noB wr wa)
    (hown' : w1.ownsRow 0 5 1 (.slice A' (m + d) c') (m + d) (bcells bs ++ bcells xs)) (hg : wa.grownBy w1 (Value.slice A m c).ownBlock)
    (hat : (Value.slice A' (m + d) c').ownBlock = (Value.slice A m c).ownBlock ∨ (Value.slice A' (m + d) c').ownBlock = some wa.heap.size) :
    WrAt (w1.setCell ⟨p, 0, none⟩ (.slice A' (m + d) c')) (andNew S w) p (bs ++ xs) ∧ Fr S w (w1.setCell ⟨p, 0, none⟩ (.slice A' (m + d) c')) ∧
    w1.cell? ⟨p, 0, none⟩ = some (.slice A m c) ∧ w1.frozen? ⟨p, 0, none⟩ = false := by
  have hpa := ha.heap hp id
  have hne : (Value.slice A m c).ownBlock ≠ some p := fun e => own_ne (own_fr hown ha (fun _ _ => id)) e hpa hT.symm rfl
  have hp1 : w1.heap[p]? = some (.cells #[.slice A m c] T (0, 0)) := by
    rw [hg.block p (Array.getElem?_eq_some_iff.1 hpa).1 (fun e => hne e.symm)]; exact hpa
  have hS' : ∀ k, (Value.slice A' (m + d) c').ownBlock = some k → andNew S w k := by
    intro k hk
    rcases hat with e | e
    · exact hS k (e ▸ hk)
    · rw [hk] at e; cases e
      have := hf.size; have := ha.size; exact Or.inr (by omega)
  subst hm hd
  refine ⟨⟨A', c', T, hT, ?_, ?_, hSp, ?_⟩, ?_, cell_of_one hp1, free_of_one hp1⟩
  · rw [List.length_append]; exact one_setCell hp1
  · rw [List.length_append, bcells_append]
    exact ownsRow_setCell_other hown' (fun e => own_ne hown' e hp1 hT.symm rfl) _
  · rw [List.length_append]; exact hS'
  · refine Fr.setCell (Fr.grown (hf.trans (T := noB) ha (fun _ _ h => h.elim)) hg (fun k hk => hS k hk)) (p := ⟨p, 0, none⟩) hSp _
theorem WrAt.open' {w : World} {S : Nat → Prop} {p : Nat} {bs : List UInt8} (h : WrAt w S p bs) : ∃ A m c T, Hid (bs.length = m) ∧ T ≠ 5 ∧ w.heap[p]? = some (.cells #[.slice A m c] T (0, 0)) ∧ w.ownsRow 0 5 1 (.slice A m c) m (bcells bs) ∧ S p ∧ (∀ k, (Value.slice A m c).ownBlock = some k → S k) ∧ w.cell? ⟨p, 0, none⟩ = some (.slice A m c) := by
  obtain ⟨A, c, T, h1, h2, h3, h4, h5⟩ := h.ex
  exact ⟨A, _, c, T, rfl, h1, h2, h3, h4, h5, cell_of_one h2⟩

/-- The bytes of a number, lowest first. -/
def leB : Nat → Nat → List UInt8
  | 0, _ => []
  | n + 1, x => UInt8.ofNat x :: leB n (x / 256)
theorem leB_length (n x : Nat) : (leB n x).length = n := by induction n generalizing x <;> simp [leB, *]
theorem leB_snoc (n x : Nat) : leB (n + 1) x = leB n x ++ [UInt8.ofNat (x / 256 ^ n)] := by
  induction n generalizing x with
  | zero => simp [leB]
  | succ n ih =>
    rw [leB, ih (x / 256), leB, Nat.div_div_eq_div_mul, Nat.pow_succ, Nat.mul_comm (256 ^ n) 256]
    rfl

theorem cell_one_row (w : World) (x : Value) (t : TypeId) : RowAt (w.alloc (.cells #[x] t)) (some ⟨w.heap.size, 0, none⟩) [x] := fun j u hu => ⟨_, rfl, cell_one_new w x t j u hu⟩

theorem u8_one (n : Nat) : [Value.int .u8 ((n : Int) % 256)] = bcells [UInt8.ofNat n] := by
  simp [bcells]

set_option maxHeartbeats 800000 in
theorem num_calls (w : World) (S : Nat → Prop) (p : Nat) (bs : List UInt8) (x n : Nat) (h : WrAt w S p bs) (hn : n ≤ 8) (hl : bs.length + n ≤ 1000000000000) :
    Calls Try.prog 87 #[.pointer (some ⟨p, 0, none⟩), .int .u64 x, .int .i64 n] w fun e w' =>
      e = .returned (.pointer (some ⟨p, 0, none⟩)) ∧ WrAt w' (andNew S w) p (bs ++ leB n x) ∧ Fr S w w' := by
  go_enter Try.func87, Try.ntmps87
  go_wp2_with fail
  go_loopw [1, 8] (fun y i wr => ∃ k : Nat, k ≤ n ∧ i = .int .i64 k ∧ y = .int .u64 (x / 256 ^ k : Nat) ∧ WrAt wr (andNew S w) p (bs ++ leB k x) ∧ Fr S w wr) (fun _ i _ => n - (intOf i).toNat)
  case atStart => exact ⟨0, Nat.zero_le _, rfl, by simp, by rw [leB, List.append_nil]; exact h.mono (fun k _ hk => Or.inl hk), Fr.refl _ _⟩
  case round =>
    obtain ⟨k, hk, rfl, rfl, hw, hf⟩ := hrel
    by_cases hkn : k < n
    · have hxs : bs ++ leB (k + 1) x = (bs ++ leB k x) ++ [UInt8.ofNat (x / 256 ^ k)] := by rw [leB_snoc, List.append_assoc]
      have hll : (bs ++ leB k x).length ≤ 1000000000000 := by rw [List.length_append, leB_length]; omega
      generalize bs ++ leB k x = xs at *
      obtain ⟨y, hy⟩ : ∃ y, y = x / 256 ^ k := ⟨_, rfl⟩
      have HX := hid hxs; clear hxs
      have HY : Hid (y / 256 = x / 256 ^ (k + 1)) := by unfold Hid; rw [hy, Nat.div_div_eq_div_mul, Nat.pow_succ]
      rw [← hy] at *
      have HE := hid hy; clear hy
      obtain ⟨A, m, c, T, HM, hT, hp, hown, hSp, hS, hc⟩ := hw.open'
      have hm : m ≤ 1000000000000 := by rw [← HM.out]; exact hll
      go_wp2_with (at_builtin; refine wpList_app Try.app8 rfl (.tmp 14) (.tmp 17) rfl _ m (bcells xs) rfl (hown.alloc _) _ 1 1 [.int .u8 (y % 256 : Int)] rfl rfl (cell_one_row _ _ _) (fun u hu => by simp at hu; subst hu; rfl) (by simp) (by omega) (by omega) ?_)
      intro A' c' w1 hown' hg hat
      rw [u8_one] at hown'
      obtain ⟨r1, r2, r3, r4⟩ := WrAt.stored hT HM.out (xs := [UInt8.ofNat y]) rfl hf hp hown hSp hS ((Fr.refl noB wr).alloc _) hown' hg (by simpa using hat)
      clear hown' hg hat hp hown hS hSp hc hf hw
      go_wp2
      go_roundw
      case rel => exact ⟨k + 1, by omega, by go_num, by rw [← HY.out]; go_num, by rw [HX.out]; exact r1, r2⟩
      case measure => simp [intOf]; omega
    · have : k = n := by omega
      subst this
      go_wp2_with fail
      go_ret
      exact ⟨rfl, hw, hf⟩
end Go.Proofs.Ytdngcheimohamaa
/- Contracts of octet.Writer's methods. -/
namespace Go.Proofs.Ytdngcheimohamaa
open Go.RowKit

def WrPost (w : World) (S : Nat → Prop) (p : Nat) (bs xs : List UInt8) (e : Ending) (w' : World) : Prop :=
  e = .returned (.pointer (some ⟨p, 0, none⟩)) ∧ WrAt w' (andNew S w) p (bs ++ xs) ∧ Fr S w w'

theorem byte_calls (w : World) (S : Nat → Prop) (p : Nat) (bs : List UInt8) (x : Nat) (h : WrAt w S p bs) (hx : x < 256) (hl : bs.length + 1 ≤ 1000000000000) :
    Calls Try.prog 89 #[.pointer (some ⟨p, 0, none⟩), .int .u8 x] w (WrPost w S p bs (leB 1 x)) := by
  go_enter Try.func89, Try.ntmps89
  go_wp2_with fail
  refine (num_calls w S p bs x 1 h (by omega) hl).mono ?_
  rintro e w' ⟨rfl, h1, h2⟩
  go_wp2
  go_ret
  exact ⟨rfl, h1, h2⟩
theorem two_calls (w : World) (S : Nat → Prop) (p : Nat) (bs : List UInt8) (x : Nat) (h : WrAt w S p bs) (hx : x < 65536) (hl : bs.length + 2 ≤ 1000000000000) :
    Calls Try.prog 88 #[.pointer (some ⟨p, 0, none⟩), .int .u16 x] w (WrPost w S p bs (leB 2 x)) := by
  go_enter Try.func88, Try.ntmps88
  go_wp2_with fail
  refine (num_calls w S p bs x 2 h (by omega) hl).mono ?_
  rintro e w' ⟨rfl, h1, h2⟩
  go_wp2
  go_ret
  exact ⟨rfl, h1, h2⟩
theorem eight_calls (w : World) (S : Nat → Prop) (p : Nat) (bs : List UInt8) (x : Nat) (h : WrAt w S p bs) (hl : bs.length + 8 ≤ 1000000000000) :
    Calls Try.prog 71 #[.pointer (some ⟨p, 0, none⟩), .int .u64 x] w (WrPost w S p bs (leB 8 x)) := by
  go_enter Try.func71, Try.ntmps71
  go_wp2_with fail
  refine (num_calls w S p bs x 8 h (by omega) hl).mono ?_
  rintro e w' ⟨rfl, h1, h2⟩
  go_wp2
  go_ret
  exact ⟨rfl, h1, h2⟩
/-- The first 65535 of a list. -/
def cut16 {α : Type} (l : List α) : List α := l.take 65535
theorem extract_take (s : ByteArray) (n : Nat) : (s.extract 0 n).data.toList = s.data.toList.take n := by
  simp
def textB (s : ByteArray) : List UInt8 := leB 2 (min s.size 65535) ++ s.data.toList.take 65535

theorem text_calls (w : World) (S : Nat → Prop) (p : Nat) (bs : List UInt8) (s : ByteArray) (h : WrAt w S p bs) (hs : s.size ≤ maxLen) (hl : bs.length + 2 + s.size ≤ 1000000000000) :
    Calls Try.prog 72 #[.pointer (some ⟨p, 0, none⟩), .string s] w (WrPost w S p bs (textB s)) := by
  by_cases hz : s.size ≤ 65535
  · have HT : Hid (bs ++ textB s = bs ++ leB 2 s.size ++ s.data.toList) := by
      unfold Hid textB
      rw [Nat.min_eq_left hz, List.take_of_length_le (by simpa using hz), List.append_assoc]
    go_enter Try.func72, Try.ntmps72
    go_wp2_with fail
    refine (two_calls w S p bs s.size h (by omega) (by omega)).mono ?_
    rintro e w' ⟨rfl, h1, h2⟩
    obtain ⟨A, m, c, T, HM, hT, hp, hown, hSp, hS, hc⟩ := h1.open'
    have hm : m ≤ 1000000000000 - s.size := by have := HM.out; rw [List.length_append, leB_length] at this; omega
    go_wp2_with (at_builtin; refine wpList_app_str Try.app8 Try.underlying9 rfl (.tmp 19) (.tmp 20) rfl _ m _ rfl hown s rfl (by omega) ?_)
    intro A' c' w1 hown' hg hat
    obtain ⟨r1, r2, r3, r4⟩ := WrAt.stored hT HM.out (xs := s.data.toList) (d := (s).size) rfl h2 hp hown hSp hS (Fr.refl noB w') hown' hg (by simpa using hat)
    clear hown' hg hat hp hown hS hSp hc h1 h2 h
    go_wp2
    go_ret
    exact ⟨rfl, by rw [HT.out]; exact r1, r2⟩
  · have hz' : 65535 < s.size := by omega
    have HT : Hid (bs ++ textB s = bs ++ leB 2 (min 65535 s.size) ++ (s.extract 0 65535).data.toList) := by
      unfold Hid textB
      rw [Nat.min_comm, extract_take, List.append_assoc]
    have hes : (s.extract 0 65535).size ≤ s.size := by rw [ByteArray.size_extract]; omega
    go_enter Try.func72, Try.ntmps72
    go_wp2_with fail
    refine (two_calls w S p bs (min 65535 s.size) h (by omega) (by omega)).mono ?_
    rintro e w' ⟨rfl, h1, h2⟩
    dsimp only
    generalize s.extract 0 65535 = s' at *
    generalize min 65535 s.size = k at *
    obtain ⟨A, m, c, T, HM, hT, hp, hown, hSp, hS, hc⟩ := h1.open'
    have hm : m ≤ 1000000000000 - s.size := by have := HM.out; rw [List.length_append, leB_length] at this; omega
    go_wp2_with (at_builtin; refine wpList_app_str Try.app8 Try.underlying9 rfl (.tmp 19) (.tmp 20) rfl _ m _ rfl hown s' rfl (by omega) ?_)
    intro A' c' w1 hown' hg hat
    obtain ⟨r1, r2, r3, r4⟩ := WrAt.stored hT HM.out (xs := s'.data.toList) (d := s'.size) rfl h2 hp hown hSp hS (Fr.refl noB w') hown' hg (by simpa using hat)
    clear hown' hg hat hp hown hS hSp hc h1 h2 h
    go_wp2
    go_ret
    exact ⟨rfl, by rw [HT.out]; exact r1, r2⟩
end Go.Proofs.Ytdngcheimohamaa
/- octet.Writer's Row and Bytes. -/
namespace Go.Proofs.Ytdngcheimohamaa
open Go.RowKit

def strs (ss : List ByteArray) : List Value := ss.map Value.string
theorem strs_get {l : List ByteArray} {k : Nat} {s : ByteArray} (h : l[k]? = some s) : (strs l)[k]? = some (.string s) := by
  unfold strs; rw [List.getElem?_map, h]; rfl
theorem strs_pos {w : World} {A : Option Addr} {l : List ByteArray} {k : Nat} {s : ByteArray} (ha : RowAt w A (strs l)) (h : l[k]? = some s) : ∃ a, A = some a := by
  refine ha.some_of ?_
  have := (List.getElem?_eq_some_iff.1 h).1
  simp only [strs, List.length_map]; omega

def rowB (ss : List ByteArray) : List UInt8 := leB 2 (min ss.length 65535) ++ (ss.take 65535).flatMap textB
def sumSz (ss : List ByteArray) : Nat := (ss.map fun s => s.size + 2).sum
theorem take_snoc' {α : Type} {l : List α} {k : Nat} {x : α} (h : l[k]? = some x) : l.take (k + 1) = l.take k ++ [x] := by
  obtain ⟨hk, rfl⟩ := List.getElem?_eq_some_iff.1 h
  exact List.take_succ_eq_append_getElem hk
theorem sumSz_append (a b : List ByteArray) : sumSz (a ++ b) = sumSz a + sumSz b := by simp only [sumSz, List.map_append, List.sum_append]
theorem sumSz_take_succ {ss : List ByteArray} {k : Nat} {s : ByteArray} (h : ss[k]? = some s) : sumSz (ss.take (k + 1)) = sumSz (ss.take k) + (s.size + 2) := by
  rw [take_snoc' h, sumSz_append]; simp [sumSz]
theorem sumSz_take_le (ss : List ByteArray) (k : Nat) : sumSz (ss.take k) ≤ sumSz ss := by
  conv => rhs; rw [← List.take_append_drop k ss]
  simp only [sumSz, List.map_append, List.sum_append]; omega
theorem textB_length (s : ByteArray) : (textB s).length ≤ s.size + 2 := by
  have : s.data.toList.length = s.size := by simp
  simp only [textB, List.length_append, leB_length, List.length_take]; omega
theorem rows_length (ss : List ByteArray) : (ss.flatMap textB).length ≤ sumSz ss := by
  induction ss with
  | nil => simp [sumSz]
  | cons s ss ih =>
    have := textB_length s
    simp only [List.flatMap_cons, List.length_append, sumSz, List.map_cons, List.sum_cons] at *
    omega
theorem rows_snoc {ss : List ByteArray} {k : Nat} {s : ByteArray} (h : ss[k]? = some s) : (ss.take (k + 1)).flatMap textB = (ss.take k).flatMap textB ++ textB s := by
  rw [take_snoc' h, List.flatMap_append]; simp only [List.flatMap_cons, List.flatMap_nil, List.append_nil]
theorem mem_sumSz {ss : List ByteArray} {s : ByteArray} (h : s ∈ ss) : s.size ≤ sumSz ss := by
  induction ss with
  | nil => simp at h
  | cons a ss ih =>
    simp only [sumSz, List.map_cons, List.sum_cons] at *
    rcases List.mem_cons.1 h with rfl | h
    · omega
    · have := ih h; omega

set_option maxHeartbeats 800000 in
theorem row_calls_small (w : World) (S : Nat → Prop) (p : Nat) (bs : List UInt8) (B : Option Addr) (n cap : Nat) (ss : List ByteArray) (h : WrAt w S p bs) (hx : RowAt w B (strs ss)) (hn : ss.length = n) (hcap : n ≤ cap) (hB : 0 < n → ∀ a, B = some a → ¬ S a.block)
    (hl : bs.length + 2 + sumSz ss ≤ 1000000000000) (h16 : n ≤ 65535) :
    Calls Try.prog 90 #[.pointer (some ⟨p, 0, none⟩), .slice B n cap] w (WrPost w S p bs (rowB ss)) := by
  have HN := hid hn; clear hn
  go_enter Try.func90, Try.ntmps90
  go_wp2_with fail
  refine (two_calls w S p bs n h (by omega) (by omega)).mono ?_
  rintro e w1 ⟨rfl, h1, h2⟩
  go_wp2_with fail
  go_loopw [19] (fun i wr => ∃ k : Nat, k ≤ n ∧ i = .int .i64 k ∧ WrAt wr (andNew S w) p (bs ++ leB 2 n ++ (ss.take k).flatMap textB) ∧ Fr S w wr) (fun i _ => n - (intOf i).toNat)
  case atStart => exact ⟨0, Nat.zero_le _, rfl, by rw [List.take_zero, List.flatMap_nil, List.append_nil]; exact h1, h2⟩
  case round =>
    obtain ⟨k, hk, rfl, hw, hf⟩ := hrel
    by_cases hkn : k < n
    · obtain ⟨s, hs⟩ : ∃ s, ss[k]? = some s := ⟨_, List.getElem?_eq_getElem (by rw [HN.out]; exact hkn)⟩
      obtain ⟨ad, rfl⟩ := hx.some_of (by simp only [strs, List.length_map]; rw [HN.out]; omega)
      have hcx : wr.cell? (ad.add k) = some (.string s) := hf.cell (hx.cell (by rw [strs, List.getElem?_map, hs]; rfl)) (by rw [add_block]; exact hB (by omega) ad rfl)
      have HR := hid (rows_snoc hs)
      have q1 := rows_length (ss.take k)
      have q2 := sumSz_take_le ss (k + 1)
      have q3 := sumSz_take_succ hs
      have q4 : (bs ++ leB 2 n ++ (ss.take k).flatMap textB).length + 2 + s.size ≤ 1000000000000 := by
        rw [List.length_append, List.length_append, leB_length]; omega
      have q5 : s.size ≤ maxLen := by unfold maxLen; omega
      clear q1 q2 q3 hs
      go_wp2_with fail
      refine (text_calls wr (andNew S w) p _ s hw q5 q4).mono ?_
      rintro e w2 ⟨rfl, g1, g2⟩
      go_wp2_with fail
      go_roundw
      case rel =>
        refine ⟨k + 1, by omega, by go_num, ?_, hf.then g2⟩
        rw [HR.out, ← List.append_assoc]
        exact g1.mono (fun i _ hi => hi.elim id fun q => Or.inr (by have := hf.size; omega))
      case measure => simp [intOf]; omega
    · have : k = n := by omega
      subst this
      go_wp2_with fail
      go_ret
      refine ⟨rfl, ?_, hf⟩
      rw [List.take_of_length_le (by rw [HN.out]; omega)] at hw
      rw [rowB, HN.out, Nat.min_eq_left h16, List.take_of_length_le (by rw [HN.out]; exact h16), ← List.append_assoc]
      exact hw
end Go.Proofs.Ytdngcheimohamaa
/- Arguments that are read as data, as rows in memory. -/
namespace Go.Proofs.Ytdngcheimohamaa
open Go.RowKit Go.ChangeShapes Go.WideShapes

theorem list1 {α : Type} {l : List α} (h : l.length = 1) : ∃ a0, l = [a0] :=
  match l, h with | [a0], _ => ⟨a0, rfl⟩
theorem list2 {α : Type} {l : List α} (h : l.length = 2) : ∃ a0 a1, l = [a0, a1] :=
  match l, h with | [a0, a1], _ => ⟨a0, a1, rfl⟩
theorem list3 {α : Type} {l : List α} (h : l.length = 3) : ∃ a0 a1 a2, l = [a0, a1, a2] :=
  match l, h with | [a0, a1, a2], _ => ⟨a0, a1, a2, rfl⟩
theorem list4 {α : Type} {l : List α} (h : l.length = 4) : ∃ a0 a1 a2 a3, l = [a0, a1, a2, a3] :=
  match l, h with | [a0, a1, a2, a3], _ => ⟨a0, a1, a2, a3, rfl⟩
theorem list5 {α : Type} {l : List α} (h : l.length = 5) : ∃ a0 a1 a2 a3 a4, l = [a0, a1, a2, a3, a4] :=
  match l, h with | [a0, a1, a2, a3, a4], _ => ⟨a0, a1, a2, a3, a4, rfl⟩
theorem list6 {α : Type} {l : List α} (h : l.length = 6) : ∃ a0 a1 a2 a3 a4 a5, l = [a0, a1, a2, a3, a4, a5] :=
  match l, h with | [a0, a1, a2, a3, a4, a5], _ => ⟨a0, a1, a2, a3, a4, a5, rfl⟩
theorem list7 {α : Type} {l : List α} (h : l.length = 7) : ∃ a0 a1 a2 a3 a4 a5 a6, l = [a0, a1, a2, a3, a4, a5, a6] :=
  match l, h with | [a0, a1, a2, a3, a4, a5, a6], _ => ⟨a0, a1, a2, a3, a4, a5, a6, rfl⟩
theorem list8 {α : Type} {l : List α} (h : l.length = 8) : ∃ a0 a1 a2 a3 a4 a5 a6 a7, l = [a0, a1, a2, a3, a4, a5, a6, a7] :=
  match l, h with | [a0, a1, a2, a3, a4, a5, a6, a7], _ => ⟨a0, a1, a2, a3, a4, a5, a6, a7, rfl⟩
theorem list9 {α : Type} {l : List α} (h : l.length = 9) : ∃ a0 a1 a2 a3 a4 a5 a6 a7 a8, l = [a0, a1, a2, a3, a4, a5, a6, a7, a8] :=
  match l, h with | [a0, a1, a2, a3, a4, a5, a6, a7, a8], _ => ⟨a0, a1, a2, a3, a4, a5, a6, a7, a8, rfl⟩
theorem list10 {α : Type} {l : List α} (h : l.length = 10) : ∃ a0 a1 a2 a3 a4 a5 a6 a7 a8 a9, l = [a0, a1, a2, a3, a4, a5, a6, a7, a8, a9] :=
  match l, h with | [a0, a1, a2, a3, a4, a5, a6, a7, a8, a9], _ => ⟨a0, a1, a2, a3, a4, a5, a6, a7, a8, a9, rfl⟩
theorem list11 {α : Type} {l : List α} (h : l.length = 11) : ∃ a0 a1 a2 a3 a4 a5 a6 a7 a8 a9 a10, l = [a0, a1, a2, a3, a4, a5, a6, a7, a8, a9, a10] :=
  match l, h with | [a0, a1, a2, a3, a4, a5, a6, a7, a8, a9, a10], _ => ⟨a0, a1, a2, a3, a4, a5, a6, a7, a8, a9, a10, rfl⟩
theorem list12 {α : Type} {l : List α} (h : l.length = 12) : ∃ a0 a1 a2 a3 a4 a5 a6 a7 a8 a9 a10 a11, l = [a0, a1, a2, a3, a4, a5, a6, a7, a8, a9, a10, a11] :=
  match l, h with | [a0, a1, a2, a3, a4, a5, a6, a7, a8, a9, a10, a11], _ => ⟨a0, a1, a2, a3, a4, a5, a6, a7, a8, a9, a10, a11, rfl⟩
theorem list13 {α : Type} {l : List α} (h : l.length = 13) : ∃ a0 a1 a2 a3 a4 a5 a6 a7 a8 a9 a10 a11 a12, l = [a0, a1, a2, a3, a4, a5, a6, a7, a8, a9, a10, a11, a12] :=
  match l, h with | [a0, a1, a2, a3, a4, a5, a6, a7, a8, a9, a10, a11, a12], _ => ⟨a0, a1, a2, a3, a4, a5, a6, a7, a8, a9, a10, a11, a12, rfl⟩
theorem list14 {α : Type} {l : List α} (h : l.length = 14) : ∃ a0 a1 a2 a3 a4 a5 a6 a7 a8 a9 a10 a11 a12 a13, l = [a0, a1, a2, a3, a4, a5, a6, a7, a8, a9, a10, a11, a12, a13] :=
  match l, h with | [a0, a1, a2, a3, a4, a5, a6, a7, a8, a9, a10, a11, a12, a13], _ => ⟨a0, a1, a2, a3, a4, a5, a6, a7, a8, a9, a10, a11, a12, a13, rfl⟩
theorem list15 {α : Type} {l : List α} (h : l.length = 15) : ∃ a0 a1 a2 a3 a4 a5 a6 a7 a8 a9 a10 a11 a12 a13 a14, l = [a0, a1, a2, a3, a4, a5, a6, a7, a8, a9, a10, a11, a12, a13, a14] :=
  match l, h with | [a0, a1, a2, a3, a4, a5, a6, a7, a8, a9, a10, a11, a12, a13, a14], _ => ⟨a0, a1, a2, a3, a4, a5, a6, a7, a8, a9, a10, a11, a12, a13, a14, rfl⟩
theorem list16 {α : Type} {l : List α} (h : l.length = 16) : ∃ a0 a1 a2 a3 a4 a5 a6 a7 a8 a9 a10 a11 a12 a13 a14 a15, l = [a0, a1, a2, a3, a4, a5, a6, a7, a8, a9, a10, a11, a12, a13, a14, a15] :=
  match l, h with | [a0, a1, a2, a3, a4, a5, a6, a7, a8, a9, a10, a11, a12, a13, a14, a15], _ => ⟨a0, a1, a2, a3, a4, a5, a6, a7, a8, a9, a10, a11, a12, a13, a14, a15, rfl⟩
section
variable {H : Type} {enc : TypeId × Value → H} {P : Program} {w : World}
theorem open_strs {t e : TypeId} {A : Option Addr} {len cap : Nat} {d : DataW H} {ps : List MemPlace} (ht : P.underlying t = some (.slice e)) (he : P.underlying e = some .string) (hc : P.cellsOf e = 1)
    (h : DataW.Trod enc P w 0 (fun _ => true) true t (.slice A len cap) d ps) :
    ∃ ss : List ByteArray, RowAt w A (strs ss) ∧ ss.length = len ∧ len ≤ cap ∧ cap ≤ maxLen ∧ (∀ s ∈ ss, s.size ≤ maxLen) ∧ (A = none → len = 0 ∧ cap = 0) := by
  obtain ⟨fuel, hf⟩ := h
  rcases open_strings ht he hc hf with ⟨hcs, _⟩ | ⟨a, l, c, ss, hcs, _, hl, hm, hz, _, hcell, hsz⟩
  · simp [Value.cells] at hcs
    obtain ⟨rfl, rfl, rfl⟩ := hcs
    exact ⟨[], RowAt.nil _ _, rfl, Nat.le_refl _, Nat.zero_le _, by simp, fun _ => ⟨rfl, rfl⟩⟩
  · simp [Value.cells] at hcs
    obtain ⟨rfl, rfl, rfl⟩ := hcs
    simp only [if_true] at hz
    refine ⟨ss.take len, fun j u hu => ⟨a, rfl, ?_⟩, by rw [List.length_take]; omega, hl, hm, fun s hs => hsz s (List.mem_of_mem_take hs), fun e => by cases e⟩
    have hj : j < (ss.take len).length := by have := (List.getElem?_eq_some_iff.1 hu).1; simpa [strs] using this
    have hj2 : j < ss.length := by rw [List.length_take] at hj; omega
    rw [hcell j hj2]
    simp only [strs, List.getElem?_map] at hu
    rw [List.getElem?_take, if_pos (by rw [List.length_take] at hj; omega), List.getElem?_eq_getElem hj2] at hu
    simp at hu
    rw [← hu, List.getD_eq_getElem?_getD, List.getElem?_eq_getElem hj2]
    rfl
theorem flat_inv {α β : Type} (f : α → List β) (m : Nat) : ∀ (l : List α), (∀ a ∈ l, (f a).length = m) → ∀ (j : Nat) (u : β), (l.flatMap f)[j]? = some u → ∃ i a k, l[i]? = some a ∧ (f a)[k]? = some u ∧ j = i * m + k
  | [], _, j, u, h => by simp at h
  | c :: l, hf, j, u, h => by
    have hc := hf c (List.mem_cons_self ..)
    rw [List.flatMap_cons] at h
    by_cases hj : j < m
    · rw [List.getElem?_append_left (by rw [hc]; exact hj)] at h
      exact ⟨0, c, j, rfl, h, by omega⟩
    · rw [List.getElem?_append_right (by rw [hc]; omega), hc] at h
      obtain ⟨i, a, k, h1, h2, h3⟩ := flat_inv f m l (fun a ha => hf a (List.mem_cons_of_mem _ ha)) _ _ h
      exact ⟨i + 1, a, k, by simpa using h1, h2, by rw [Nat.succ_mul]; omega⟩
/-- A slice of structs (or of whatever), each element by a lemma of its own. -/
theorem open_rows {t e : TypeId} {A : Option Addr} {len cap : Nat} {d : DataW H} {ps : List MemPlace} {α : Type} [Inhabited α] (f : α → List Value) (good : α → Prop) (ht : P.underlying t = some (.slice e))
    (each : ∀ n cs y, DataW.trod enc P w 0 (fun _ => true) true n e cs = some y → ∃ a, cs = f a ∧ good a)
    (h : DataW.Trod enc P w 0 (fun _ => true) true t (.slice A len cap) d ps) :
    ∃ l : List α, RowAt w A (l.flatMap f) ∧ l.length = len ∧ len ≤ cap ∧ cap ≤ maxLen ∧ (∀ a ∈ l, good a) ∧ (A = none → len = 0 ∧ cap = 0) := by
  obtain ⟨fuel, hf⟩ := h
  rcases Deep.open_slice ht hf with ⟨hcs, _⟩ | ⟨ad, l, c, m, n, D, Pl, hcs, _, hl, hm, hmm, _, hx⟩
  · simp [Value.cells] at hcs
    obtain ⟨rfl, rfl, rfl⟩ := hcs
    exact ⟨[], by simpa using RowAt.nil _ _, rfl, Nat.le_refl _, Nat.zero_le _, by simp, fun _ => ⟨rfl, rfl⟩⟩
  · simp [Value.cells] at hcs
    obtain ⟨rfl, rfl, rfl⟩ := hcs
    simp only [if_true] at hmm
    subst hmm
    obtain ⟨F, hF⟩ := Deep.choose_lt (α := α) (n := len) (p := fun i a => w.cells? 0 (ad.add (i * P.cellsOf e)) (P.cellsOf e) = some (f a) ∧ good a) (fun i hi => by
      obtain ⟨cs', h1, h2⟩ := hx i (by omega)
      obtain ⟨a, rfl, hg⟩ := each n cs' _ h2
      exact ⟨a, h1, hg⟩)
    have hlen : ∀ a ∈ (List.range len).map F, (f a).length = P.cellsOf e := by
      intro a ha
      obtain ⟨i, hi, rfl⟩ := List.mem_map.1 ha
      exact (World.cells?_some (hF i (List.mem_range.1 hi)).1).2.1
    refine ⟨(List.range len).map F, fun j u hu => ?_, by simp, hl, hm, fun a ha => ?_, fun e => by cases e⟩
    · obtain ⟨i, a, k, h1, h2, rfl⟩ := flat_inv f _ _ hlen j u hu
      obtain ⟨hi, h3⟩ : i < len ∧ F i = a := by
        rw [List.getElem?_map] at h1
        cases hr : (List.range len)[i]? with
        | none => rw [hr] at h1; simp at h1
        | some x =>
          rw [hr] at h1
          obtain ⟨hx1, hx2⟩ := List.getElem?_eq_some_iff.1 hr
          simp at hx1 hx2 h1
          subst hx2
          exact ⟨hx1, h1⟩
      subst h3
      obtain ⟨_, h4, h5⟩ := World.cells?_some (hF i hi).1
      have hk : k < P.cellsOf e := by rw [← h4]; exact (List.getElem?_eq_some_iff.1 h2).1
      refine ⟨ad, rfl, ?_⟩
      rw [← add_add', h5 k hk, h2]
    · obtain ⟨i, hi, rfl⟩ := List.mem_map.1 ha
      exact (hF i (List.mem_range.1 hi)).2
end
end Go.Proofs.Ytdngcheimohamaa
/- bytes.Clone. -/
namespace Go.Proofs.Ytdngcheimohamaa
open Go.RowKit

/-- A slice of bytes of one's own, in new blocks. -/
structure NewBytes (w w' : World) (v : Value) (xs : List UInt8) : Prop where
  own : w'.ownsRow w.heap.size 5 1 v xs.length (bcells xs)
  fr : Fr noB w w'

def CloneP (w : World) (B : Option Addr) (n : Nat) (xs : List UInt8) (e : Ending) (w' : World) : Prop :=
  ∃ A c, e = .returned (.slice A n c) ∧ w'.ownsRow w.heap.size 5 1 (.slice A n c) n (bcells xs) ∧ Fr noB w w' ∧ (A = none ↔ B = none)

set_option maxRecDepth 100000 in
theorem clone_calls (w : World) (B : Option Addr) (n cap : Nat) (xs : List UInt8) (hx : RowAt w B (bcells xs)) (hn : xs.length = n) (hB : B = none → n = 0 ∧ cap = 0) (hl : n ≤ 1000000000000) :
    Calls Try.prog 44 #[.slice B n cap] w (CloneP w B n xs) := by
  have HN := hid hn; clear hn
  have heq := fun (w : World) (a : Option Addr) (n c : Nat) => Lib.run_eql_slice_nil (P := Try.prog) w 46 5 a n c 0 0 Try.underlying46
  cases B with
  | none =>
    obtain ⟨rfl, rfl⟩ := hB rfl
    go_enter Try.func44, Try.ntmps44
    go_wp2
    go_ret
    have hxs : xs = [] := List.eq_nil_of_length_eq_zero HN.out
    subst hxs
    exact ⟨none, 0, rfl, World.ownsRow_nil _ _ _ _, Fr.refl _ _, by simp⟩
  | some ad =>
    have hown : (w.alloc (.cells #[] 5)).ownsRow 0 5 1 (.slice (some ⟨w.heap.size, 0, none⟩) 0 0) 0 [] := World.ownsRow_made w #[] 0 (Nat.zero_le _) (by unfold maxLen; omega) rfl
    have hx1 : 0 < n → ad.block < w.heap.size := fun h0 => hx.lt (by rw [bcells_length, HN.out]; exact h0)
    have hx2 : RowAt (w.alloc (.cells #[] 5)) (some ad) (bcells xs) := hx.fr0 ((Fr.refl noB w).alloc _)
    have hl' : Hid (n ≤ 1000000000000) := hl
    clear hl
    go_enter Try.func44, Try.ntmps44
    go_wp2_with (at_builtin; refine wpList_app Try.app8 rfl (.tmp 5) (.tmp 6) rfl _ 0 [] rfl hown (some ad) n cap (bcells xs) rfl (by rw [bcells_length, HN.out, Nat.mul_one]) hx2 (bcells_one _) (by simp) (by have := hl'.out; omega) (by have := hl'.out; omega) ?_)
    intro A' c' w1 hown' hg hat
    go_wp2
    go_ret
    have hat' : ∃ k, (Value.slice A' n c').ownBlock = some k ∧ w.heap.size ≤ k := by
      rcases hat with e | e
      · exact ⟨_, e, Nat.le_refl _⟩
      · exact ⟨_, e, by simp⟩
    refine ⟨A', c', rfl, own_mono hown' ?_, ?_, ?_⟩
    · obtain ⟨k, e, hk⟩ := hat'
      intro g hg; rw [e] at hg; cases hg; exact hk
    · refine Fr.grown ((Fr.refl noB w).alloc _) hg (fun k hk => Or.inr ?_)
      simp [Value.ownBlock] at hk; omega
    · obtain ⟨k, e, hk⟩ := hat'
      constructor
      · rintro rfl; simp [Value.ownBlock] at e
      · intro h; cases h
end Go.Proofs.Ytdngcheimohamaa
/- []byte as a string, and a string as []byte. -/
namespace Go.Proofs.Ytdngcheimohamaa
open Go.RowKit

def mkS (l : List UInt8) : ByteArray := ⟨l.toArray⟩
theorem mkS_data (l : List UInt8) : (mkS l).data.toList = l := rfl
theorem mkS_toList (l : List UInt8) : (mkS l).toList = l := by rw [ByteArray.toList_eq]; rfl
theorem mkS_size (l : List UInt8) : (mkS l).size = l.length := by simp [mkS, ByteArray.size]
theorem mkS_inj {a b : List UInt8} : mkS a = mkS b ↔ a = b := ⟨fun h => by rw [← mkS_data a, h, mkS_data], fun h => by rw [h]⟩
theorem mkS_of (s : ByteArray) : mkS s.data.toList = s := ByteArray.ext (Array.ext' rfl)

theorem Try.toStr {w : World} {A : Option Addr} {l : List UInt8} (h : RowAt w A (bcells l)) {n : Nat} (hn : l.length = n) (c : Nat) :
    (convert 46 9 (.slice A n c)).run Try.prog w = .ok (.string (mkS l)) w := by
  subst hn
  cases A with
  | some a =>
    refine run_convert_bytes_back w _ _ 5 a c l Try.underlying46 Try.underlying5 Try.underlying9 (fun j hj => h.cell ?_)
    simp [bcells, hj]
  | none =>
    have : l = [] := by
      rcases l with _ | ⟨b, l⟩
      · rfl
      · obtain ⟨ad, e⟩ := h.some_of (by simp [bcells]); cases e
    subst this
    rw [run_convert_bytes_string w _ _ 5 none _ c Try.underlying46 Try.underlying5 Try.underlying9]
    simp [Conv.bytesToString]
    rfl

theorem new_row (w : World) (C : Array Value) (t : TypeId) : RowAt (w.alloc (.cells C t)) (some ⟨w.heap.size, 0, none⟩) C.toList := fun j u hu => by
  refine ⟨_, rfl, ?_⟩
  have e : (⟨w.heap.size, 0, none⟩ : Addr).add j = ⟨w.heap.size, j, none⟩ := by unfold Addr.add; split <;> simp_all
  rw [e, cell_of_row _ _ _ _ _ _ (heap_alloc_new w _)]
  simpa using hu
theorem Try.oneStr (w : World) (y : Nat) : (convert 46 9 (.slice (some ⟨w.heap.size, 0, none⟩) 1 1)).run Try.prog (w.alloc (.cells #[.int .u8 (y % 256 : Int)] 5)) =
    .ok (.string (mkS [UInt8.ofNat y])) (w.alloc (.cells #[.int .u8 (y % 256 : Int)] 5)) := by
  refine Try.toStr (l := [UInt8.ofNat y]) ?_ rfl 1
  have := new_row w #[.int .u8 (y % 256 : Int)] 5
  rw [show bcells [UInt8.ofNat y] = (#[Value.int .u8 (y % 256 : Int)] : Array Value).toList from (u8_one y).symm]
  exact this

theorem Try.fromStr (w : World) (s : ByteArray) : (convert 9 46 (.string s)).run Try.prog w = .ok (.slice (some ⟨w.heap.size, 0, none⟩) s.size (grownCap w s.size 0 5)) (Lib.bytesWorld w 5 s) :=
  Lib.run_convert_string_bytes w _ _ _ s Try.underlying9 Try.underlying46 Try.underlying5
theorem bytesW_fr (w : World) (s : ByteArray) : Fr noB w (Lib.bytesWorld w 5 s) := by
  refine ⟨?_, ?_, ?_, by rw [Lib.bytesWorld_size]; omega, fun k hk _ => Lib.bytesWorld_at_old w _ s k hk⟩
  all_goals
    unfold Lib.bytesWorld World.freeze
    split <;> rfl
theorem bytesW_row (w : World) (s : ByteArray) : RowAt (Lib.bytesWorld w 5 s) (some ⟨w.heap.size, 0, none⟩) (bcells s.data.toList) := fun j u hu => by
  refine ⟨_, rfl, ?_⟩
  have e : (⟨w.heap.size, 0, none⟩ : Addr).add j = ⟨w.heap.size, j, none⟩ := by unfold Addr.add; split <;> simp_all
  have hj : j < s.size := by have := (List.getElem?_eq_some_iff.1 hu).1; simpa [bcells] using this
  rw [e, Lib.bytesWorld_cell w _ s j hj]
  simp only [bcells, List.getElem?_map] at hu
  rw [List.getD_eq_getElem?_getD]
  cases h : s.data.toList[j]? with
  | none => rw [h] at hu; simp at hu
  | some b => rw [h] at hu; simpa using hu
end Go.Proofs.Ytdngcheimohamaa
/- A block of cells, whole. -/
namespace Go.Proofs.Ytdngcheimohamaa
open Go.RowKit
/-! ### A block of cells, whole -/
def BlkAt (w : World) (p : Nat) (T : TypeId) (C : Array Value) : Prop := w.heap[p]? = some (.cells C T (0, 0))
theorem BlkAt.fr {S : Nat → Prop} {w w' : World} {p : Nat} {T : TypeId} {C : Array Value} (h : BlkAt w p T C) (f : Fr S w w') (hp : ¬ S p) : BlkAt w' p T C := f.heap h hp
theorem BlkAt.cell {w : World} {p : Nat} {T : TypeId} {C : Array Value} (h : BlkAt w p T C) {k : Nat} {v : Value} (hk : C[k]? = some v) : w.cell? ⟨p, k, none⟩ = some v := by
  rw [cell_of_row _ _ _ _ _ _ h]; exact hk
theorem BlkAt.free {w : World} {p : Nat} {T : TypeId} {C : Array Value} (h : BlkAt w p T C) (k : Nat) : w.frozen? ⟨p, k, none⟩ = false := by
  unfold BlkAt at h
  simp [World.frozen?, h]
theorem BlkAt.set {w : World} {p : Nat} {T : TypeId} {C : Array Value} (h : BlkAt w p T C) (k : Nat) (v : Value) : BlkAt (w.setCell ⟨p, k, none⟩ v) p T (C.setIfInBounds k v) := by
  unfold BlkAt at *
  simp only [World.setCell, Array.getElem?_modify, h]
  simp
theorem BlkAt.new (w : World) (C : Array Value) (T : TypeId) : BlkAt (w.alloc (.cells C T)) w.heap.size T C := by
  show (w.heap.push _)[w.heap.size]? = _
  simp
theorem BlkAt.al {w : World} {p : Nat} {T : TypeId} {C : Array Value} (h : BlkAt w p T C) (o : Obj) : BlkAt (w.alloc o) p T C := ((Fr.refl noB w).alloc o).heap h id
theorem al_size (w : World) (o : Obj) : (w.alloc o).heap.size = w.heap.size + 1 := Array.size_push _
theorem BlkAt.drew {w : World} {p : Nat} {T : TypeId} {C : Array Value} (h : BlkAt w p T C) : BlkAt w.drew p T C := h
theorem BlkAt.lt {w : World} {p : Nat} {T : TypeId} {C : Array Value} (h : BlkAt w p T C) : p < w.heap.size := (Array.getElem?_eq_some_iff.1 h).1
theorem fr_set1 (w : World) (p k : Nat) (v : Value) : Fr (eqB p) w (w.setCell ⟨p, k, none⟩ v) := (Fr.refl (eqB p) w).setCell (p := ⟨p, k, none⟩) (Or.inl rfl) v
theorem sib_ne {C : Array Value} {i j : Nat} {v : Value} (h : i ≠ j) : (C.setIfInBounds i v)[j]? = C[j]? := by simp [Array.getElem?_setIfInBounds, h]
theorem sib_eq {C : Array Value} {i : Nat} {v : Value} (h : i < C.size) : (C.setIfInBounds i v)[i]? = some v := by simp [Array.getElem?_setIfInBounds, h]
theorem BlkAt.c1 {w : World} {p : Nat} {T : TypeId} {v0 : Value} (h : BlkAt w p T #[v0]) :
    w.cell? ⟨p, 0, none⟩ = some v0 ∧ ∀ j, w.frozen? ⟨p, j, none⟩ = false :=
  ⟨h.cell rfl, h.free⟩
theorem BlkAt.c2 {w : World} {p : Nat} {T : TypeId} {v0 v1 : Value} (h : BlkAt w p T #[v0, v1]) :
    w.cell? ⟨p, 0, none⟩ = some v0 ∧ w.cell? ⟨p, 1, none⟩ = some v1 ∧ ∀ j, w.frozen? ⟨p, j, none⟩ = false :=
  ⟨h.cell rfl, h.cell rfl, h.free⟩
theorem BlkAt.c3 {w : World} {p : Nat} {T : TypeId} {v0 v1 v2 : Value} (h : BlkAt w p T #[v0, v1, v2]) :
    w.cell? ⟨p, 0, none⟩ = some v0 ∧ w.cell? ⟨p, 1, none⟩ = some v1 ∧ w.cell? ⟨p, 2, none⟩ = some v2 ∧ ∀ j, w.frozen? ⟨p, j, none⟩ = false :=
  ⟨h.cell rfl, h.cell rfl, h.cell rfl, h.free⟩
theorem BlkAt.c4 {w : World} {p : Nat} {T : TypeId} {v0 v1 v2 v3 : Value} (h : BlkAt w p T #[v0, v1, v2, v3]) :
    w.cell? ⟨p, 0, none⟩ = some v0 ∧ w.cell? ⟨p, 1, none⟩ = some v1 ∧ w.cell? ⟨p, 2, none⟩ = some v2 ∧ w.cell? ⟨p, 3, none⟩ = some v3 ∧ ∀ j, w.frozen? ⟨p, j, none⟩ = false :=
  ⟨h.cell rfl, h.cell rfl, h.cell rfl, h.cell rfl, h.free⟩
theorem BlkAt.c5 {w : World} {p : Nat} {T : TypeId} {v0 v1 v2 v3 v4 : Value} (h : BlkAt w p T #[v0, v1, v2, v3, v4]) :
    w.cell? ⟨p, 0, none⟩ = some v0 ∧ w.cell? ⟨p, 1, none⟩ = some v1 ∧ w.cell? ⟨p, 2, none⟩ = some v2 ∧ w.cell? ⟨p, 3, none⟩ = some v3 ∧ w.cell? ⟨p, 4, none⟩ = some v4 ∧ ∀ j, w.frozen? ⟨p, j, none⟩ = false :=
  ⟨h.cell rfl, h.cell rfl, h.cell rfl, h.cell rfl, h.cell rfl, h.free⟩
theorem BlkAt.c6 {w : World} {p : Nat} {T : TypeId} {v0 v1 v2 v3 v4 v5 : Value} (h : BlkAt w p T #[v0, v1, v2, v3, v4, v5]) :
    w.cell? ⟨p, 0, none⟩ = some v0 ∧ w.cell? ⟨p, 1, none⟩ = some v1 ∧ w.cell? ⟨p, 2, none⟩ = some v2 ∧ w.cell? ⟨p, 3, none⟩ = some v3 ∧ w.cell? ⟨p, 4, none⟩ = some v4 ∧ w.cell? ⟨p, 5, none⟩ = some v5 ∧ ∀ j, w.frozen? ⟨p, j, none⟩ = false :=
  ⟨h.cell rfl, h.cell rfl, h.cell rfl, h.cell rfl, h.cell rfl, h.cell rfl, h.free⟩
theorem BlkAt.c7 {w : World} {p : Nat} {T : TypeId} {v0 v1 v2 v3 v4 v5 v6 : Value} (h : BlkAt w p T #[v0, v1, v2, v3, v4, v5, v6]) :
    w.cell? ⟨p, 0, none⟩ = some v0 ∧ w.cell? ⟨p, 1, none⟩ = some v1 ∧ w.cell? ⟨p, 2, none⟩ = some v2 ∧ w.cell? ⟨p, 3, none⟩ = some v3 ∧ w.cell? ⟨p, 4, none⟩ = some v4 ∧ w.cell? ⟨p, 5, none⟩ = some v5 ∧ w.cell? ⟨p, 6, none⟩ = some v6 ∧ ∀ j, w.frozen? ⟨p, j, none⟩ = false :=
  ⟨h.cell rfl, h.cell rfl, h.cell rfl, h.cell rfl, h.cell rfl, h.cell rfl, h.cell rfl, h.free⟩
theorem BlkAt.c8 {w : World} {p : Nat} {T : TypeId} {v0 v1 v2 v3 v4 v5 v6 v7 : Value} (h : BlkAt w p T #[v0, v1, v2, v3, v4, v5, v6, v7]) :
    w.cell? ⟨p, 0, none⟩ = some v0 ∧ w.cell? ⟨p, 1, none⟩ = some v1 ∧ w.cell? ⟨p, 2, none⟩ = some v2 ∧ w.cell? ⟨p, 3, none⟩ = some v3 ∧ w.cell? ⟨p, 4, none⟩ = some v4 ∧ w.cell? ⟨p, 5, none⟩ = some v5 ∧ w.cell? ⟨p, 6, none⟩ = some v6 ∧ w.cell? ⟨p, 7, none⟩ = some v7 ∧ ∀ j, w.frozen? ⟨p, j, none⟩ = false :=
  ⟨h.cell rfl, h.cell rfl, h.cell rfl, h.cell rfl, h.cell rfl, h.cell rfl, h.cell rfl, h.cell rfl, h.free⟩
theorem BlkAt.c9 {w : World} {p : Nat} {T : TypeId} {v0 v1 v2 v3 v4 v5 v6 v7 v8 : Value} (h : BlkAt w p T #[v0, v1, v2, v3, v4, v5, v6, v7, v8]) :
    w.cell? ⟨p, 0, none⟩ = some v0 ∧ w.cell? ⟨p, 1, none⟩ = some v1 ∧ w.cell? ⟨p, 2, none⟩ = some v2 ∧ w.cell? ⟨p, 3, none⟩ = some v3 ∧ w.cell? ⟨p, 4, none⟩ = some v4 ∧ w.cell? ⟨p, 5, none⟩ = some v5 ∧ w.cell? ⟨p, 6, none⟩ = some v6 ∧ w.cell? ⟨p, 7, none⟩ = some v7 ∧ w.cell? ⟨p, 8, none⟩ = some v8 ∧ ∀ j, w.frozen? ⟨p, j, none⟩ = false :=
  ⟨h.cell rfl, h.cell rfl, h.cell rfl, h.cell rfl, h.cell rfl, h.cell rfl, h.cell rfl, h.cell rfl, h.cell rfl, h.free⟩
theorem BlkAt.c10 {w : World} {p : Nat} {T : TypeId} {v0 v1 v2 v3 v4 v5 v6 v7 v8 v9 : Value} (h : BlkAt w p T #[v0, v1, v2, v3, v4, v5, v6, v7, v8, v9]) :
    w.cell? ⟨p, 0, none⟩ = some v0 ∧ w.cell? ⟨p, 1, none⟩ = some v1 ∧ w.cell? ⟨p, 2, none⟩ = some v2 ∧ w.cell? ⟨p, 3, none⟩ = some v3 ∧ w.cell? ⟨p, 4, none⟩ = some v4 ∧ w.cell? ⟨p, 5, none⟩ = some v5 ∧ w.cell? ⟨p, 6, none⟩ = some v6 ∧ w.cell? ⟨p, 7, none⟩ = some v7 ∧ w.cell? ⟨p, 8, none⟩ = some v8 ∧ w.cell? ⟨p, 9, none⟩ = some v9 ∧ ∀ j, w.frozen? ⟨p, j, none⟩ = false :=
  ⟨h.cell rfl, h.cell rfl, h.cell rfl, h.cell rfl, h.cell rfl, h.cell rfl, h.cell rfl, h.cell rfl, h.cell rfl, h.cell rfl, h.free⟩
theorem BlkAt.c11 {w : World} {p : Nat} {T : TypeId} {v0 v1 v2 v3 v4 v5 v6 v7 v8 v9 v10 : Value} (h : BlkAt w p T #[v0, v1, v2, v3, v4, v5, v6, v7, v8, v9, v10]) :
    w.cell? ⟨p, 0, none⟩ = some v0 ∧ w.cell? ⟨p, 1, none⟩ = some v1 ∧ w.cell? ⟨p, 2, none⟩ = some v2 ∧ w.cell? ⟨p, 3, none⟩ = some v3 ∧ w.cell? ⟨p, 4, none⟩ = some v4 ∧ w.cell? ⟨p, 5, none⟩ = some v5 ∧ w.cell? ⟨p, 6, none⟩ = some v6 ∧ w.cell? ⟨p, 7, none⟩ = some v7 ∧ w.cell? ⟨p, 8, none⟩ = some v8 ∧ w.cell? ⟨p, 9, none⟩ = some v9 ∧ w.cell? ⟨p, 10, none⟩ = some v10 ∧ ∀ j, w.frozen? ⟨p, j, none⟩ = false :=
  ⟨h.cell rfl, h.cell rfl, h.cell rfl, h.cell rfl, h.cell rfl, h.cell rfl, h.cell rfl, h.cell rfl, h.cell rfl, h.cell rfl, h.cell rfl, h.free⟩
theorem BlkAt.c12 {w : World} {p : Nat} {T : TypeId} {v0 v1 v2 v3 v4 v5 v6 v7 v8 v9 v10 v11 : Value} (h : BlkAt w p T #[v0, v1, v2, v3, v4, v5, v6, v7, v8, v9, v10, v11]) :
    w.cell? ⟨p, 0, none⟩ = some v0 ∧ w.cell? ⟨p, 1, none⟩ = some v1 ∧ w.cell? ⟨p, 2, none⟩ = some v2 ∧ w.cell? ⟨p, 3, none⟩ = some v3 ∧ w.cell? ⟨p, 4, none⟩ = some v4 ∧ w.cell? ⟨p, 5, none⟩ = some v5 ∧ w.cell? ⟨p, 6, none⟩ = some v6 ∧ w.cell? ⟨p, 7, none⟩ = some v7 ∧ w.cell? ⟨p, 8, none⟩ = some v8 ∧ w.cell? ⟨p, 9, none⟩ = some v9 ∧ w.cell? ⟨p, 10, none⟩ = some v10 ∧ w.cell? ⟨p, 11, none⟩ = some v11 ∧ ∀ j, w.frozen? ⟨p, j, none⟩ = false :=
  ⟨h.cell rfl, h.cell rfl, h.cell rfl, h.cell rfl, h.cell rfl, h.cell rfl, h.cell rfl, h.cell rfl, h.cell rfl, h.cell rfl, h.cell rfl, h.cell rfl, h.free⟩
end Go.Proofs.Ytdngcheimohamaa
/- octet.Writer's Bytes, a fresh Writer, and a []byte as a string. -/
namespace Go.Proofs.Ytdngcheimohamaa
open Go.RowKit

theorem bytes_calls (w : World) (S : Nat → Prop) (p : Nat) (bs : List UInt8) (h : WrAt w S p bs) (hl : bs.length ≤ 1000000000000) :
    Calls Try.prog 46 #[.pointer (some ⟨p, 0, none⟩)] w fun e w' => ∃ A c, e = .returned (.slice A bs.length c) ∧ w'.ownsRow w.heap.size 5 1 (.slice A bs.length c) bs.length (bcells bs) ∧ Fr noB w w' := by
  obtain ⟨A, m, c, T, HM, hT, hp, hown, hSp, hS, hc⟩ := h.open'
  rw [HM.out] at hl ⊢
  have hl' := hid hl; clear hl
  go_enter Try.func46, Try.ntmps46
  go_wp2_with fail
  refine (clone_calls w A m c bs (own_row hown) HM.out ?_ hl'.out).mono ?_
  · rintro rfl
    rcases hown.2 with ⟨e, _⟩ | ⟨g, cap, cur, e, _⟩ <;> cases e
    exact ⟨rfl, rfl⟩
  rintro e w' ⟨A', c', rfl, h1, h2, _⟩
  go_wp2
  go_ret
  exact ⟨A', c', rfl, h1, h2⟩
end Go.Proofs.Ytdngcheimohamaa
/- interrexlaw01.few, same. -/
namespace Go.Proofs.Ytdngcheimohamaa
open Go.RowKit

/-- An Item as it lies in memory. -/
structure Item where
  k : Nat
  x : Nat
  is : Bool
  s : ByteArray
  LA : Option Addr
  Lc : Nat
  L : List ByteArray
  most : Int
  long : Int
  e : Int
def Item.cells (i : Item) : List Value := [Value.int .u8 i.k, .int .u64 i.x, .bool i.is, .string i.s, .slice i.LA i.L.length i.Lc, .int .i64 i.most, .int .i64 i.long, .int .i64 i.e]
/-- The integers of an item are integers of their types. -/
structure Item.wf (i : Item) : Prop where
  m1 : -9223372036854775808 ≤ i.most
  m2 : i.most ≤ 9223372036854775807
  l1 : -9223372036854775808 ≤ i.long
  l2 : i.long ≤ 9223372036854775807
  e1 : -9223372036854775808 ≤ i.e
  e2 : i.e ≤ 9223372036854775807
structure ItemsAt (w : World) (A : Option Addr) (l : List Item) : Prop where
  row : RowAt w A (l.flatMap Item.cells)
  sub : ∀ i ∈ l, RowAt w i.LA (strs i.L)
theorem Item.cells_length (i : Item) : i.cells.length = 8 := rfl
def Item.ok (i : Item) : Bool := decide (i.s.size ≤ 100) && decide (i.L.length ≤ 10) && i.L.all fun s => decide (s.size ≤ 50)
def fewB (l : List Item) : Bool := l.all Item.ok && decide (l.length ≤ 30)

/-- A call that answers b, and turns nothing that was there. -/
def BoolPost (w : World) (b : Bool) (e : Ending) (w' : World) : Prop := e = .returned (.bool b) ∧ Fr noB w w'
theorem BoolPost.mk' {w w' : World} {b b' : Bool} (h : b = b') (hf : Fr noB w w') : BoolPost w b' (.returned (.bool b)) w' := ⟨by rw [h], hf⟩

end Go.Proofs.Ytdngcheimohamaa
/- table.Table: its cells; New, Last, Judge. -/
namespace Go.Proofs.Ytdngcheimohamaa
open Go.RowKit

/-- A client's row, as it lies in memory. -/
structure TRow where
  num : Nat
  e : Nat
  A : Option Addr
  n : Nat
  c : Nat
  l : List ByteArray
def TRow.C (r : TRow) : List Value := [.int .u64 r.num, .int .i64 r.e, .slice r.A r.n r.c]
structure TRow.At (r : TRow) (w : World) (U : Nat → Prop) (p : Nat) : Prop where
  len : r.l.length = r.n
  cap : r.n ≤ r.c
  max : r.c ≤ 9223372036854775807
  row : RowAt w r.A (strs r.l)
  blk : ∀ a, r.A = some a → 0 < r.n → U a.block ∧ a.block ≠ p ∧ a.block < w.heap.size
  nil : r.A = none → r.n = 0 ∧ r.c = 0
  few : r.n ≤ 400
  sum : sumSz r.l ≤ 1000000
  num : r.num < 18446744073709551616
  e : r.e < 256
  kept : r.e ≠ 0 → r.l = []
/-- At p lies a Table of these rows, in blocks of U. -/
structure TblAt (w : World) (U : Nat → Prop) (p : Nat) (R : List TRow) : Prop where
  len : R.length = 8
  blk : BlkAt w p 94 (R.flatMap TRow.C).toArray
  inU : U p
  rows : ∀ r ∈ R, r.At w U p
theorem TRow.At.fr {r : TRow} {w w' : World} {U T : Nat → Prop} {p : Nat} (h : r.At w U p) (f : Fr T w w') (hd : ∀ k, k < w.heap.size → U k → k ≠ p → ¬ T k) : r.At w' U p :=
  ⟨h.len, h.cap, h.max, h.row.fr f (fun a e h0 hb => by
    have := h.blk a e (by simp only [strs, List.length_map] at h0; rw [← h.len]; exact h0)
    exact hd _ hb this.1 this.2.1), fun a e h0 => by have := h.blk a e h0; exact ⟨this.1, this.2.1, Nat.lt_of_lt_of_le this.2.2 f.size⟩, h.nil, h.few, h.sum, h.num, h.e, h.kept⟩
theorem TblAt.fr {w w' : World} {U T : Nat → Prop} {p : Nat} {R : List TRow} (h : TblAt w U p R) (f : Fr T w w') (hd : ∀ k, k < w.heap.size → U k → ¬ T k) : TblAt w' U p R :=
  ⟨h.len, h.blk.fr f (hd p h.blk.lt h.inU), h.inU, fun r hr => (h.rows r hr).fr f (fun k h1 h2 _ => hd k h1 h2)⟩
theorem TblAt.mono {w : World} {U V : Nat → Prop} {p : Nat} {R : List TRow} (h : TblAt w U p R) (hd : ∀ k, k < w.heap.size → U k → V k) : TblAt w V p R :=
  ⟨h.len, h.blk, hd p h.blk.lt h.inU, fun r hr => by
    have q := h.rows r hr
    exact ⟨q.len, q.cap, q.max, q.row, fun a e h0 => by have := q.blk a e h0; exact ⟨hd _ this.2.2 this.1, this.2⟩, q.nil, q.few, q.sum, q.num, q.e, q.kept⟩⟩
theorem TblAt.cells {w : World} {U : Nat → Prop} {p : Nat} {R : List TRow} (h : TblAt w U p R) {i : Nat} {r : TRow} (hr : R[i]? = some r) :
    w.cell? ⟨p, i * 3, none⟩ = some (.int .u64 r.num) ∧ w.cell? ⟨p, i * 3 + 1, none⟩ = some (.int .i64 r.e) ∧ w.cell? ⟨p, i * 3 + 2, none⟩ = some (.slice r.A r.n r.c) := by
  have hg := fun j b => flat_get TRow.C 3 (fun _ => rfl) R i j r b hr
  refine ⟨h.blk.cell ?_, h.blk.cell ?_, h.blk.cell ?_⟩
  · have := hg 0 _ rfl; simpa using this
  · have := hg 1 _ rfl; simpa using this
  · have := hg 2 _ rfl; simpa using this
def zeroRow : TRow := ⟨0, 0, none, 0, 0, []⟩
set_option maxRecDepth 100000 in
theorem newT_calls (w : World) : Calls Try.prog 9 #[] w (fun e w' => e = .returned (.pointer (some ⟨w.heap.size, 0, none⟩)) ∧ TblAt w' (upB w.heap.size) w.heap.size (List.replicate 8 zeroRow) ∧ Fr noB w w') := by
  go_enter Try.func9, Try.ntmps9
  go_wp2_with fail
  go_ret
  refine ⟨rfl, ⟨rfl, ?_, Nat.le_refl _, fun r hr => ?_⟩, (Fr.refl noB w).alloc _⟩
  · exact BlkAt.new w _ _
  · rw [List.mem_replicate] at hr
    rw [hr.2]
    exact ⟨rfl, Nat.le_refl _, by decide, RowAt.nil _ _, fun a e => (by cases e), fun _ => ⟨rfl, rfl⟩, by decide, by decide, by decide, by decide, fun _ => rfl⟩
def lastV (R : List TRow) (i : Nat) : Nat := (R[i]?.map TRow.num).getD 0
set_option maxRecDepth 100000 in
theorem last_calls (w : World) (U : Nat → Prop) (p : Nat) (R : List TRow) (i : Nat) (h : TblAt w U p R) : Calls Try.prog 22 #[.pointer (some ⟨p, 0, none⟩), .int .u8 i] w (fun e w' => e = .returned (.int .u64 (lastV R i)) ∧ w = w') := by
  by_cases h8 : 8 ≤ i
  · have d1 : decide ((8 : Int) ≤ i) = true := decide_eq_true (by omega)
    have HV : Hid (lastV R i = 0) := by unfold Hid lastV; rw [List.getElem?_eq_none (by rw [h.len]; exact h8)]; rfl
    clear h8
    go_enter Try.func22, Try.ntmps22
    go_wp2_with fail
    go_ret
    exact ⟨by rw [HV.out]; rfl, rfl⟩
  · have d1 : decide ((8 : Int) ≤ i) = false := decide_eq_false (by omega)
    obtain ⟨r, hr⟩ : ∃ r, R[i]? = some r := ⟨_, List.getElem?_eq_getElem (by rw [h.len]; omega)⟩
    obtain ⟨c0, c1, c2⟩ := h.cells hr
    have HV : Hid (lastV R i = r.num) := by unfold Hid lastV; rw [hr]; rfl
    have hi : 0 ≤ (i : Int) ∧ (i : Int) < 8 := ⟨by omega, by omega⟩
    clear hr h8
    go_enter Try.func22, Try.ntmps22
    go_wp2_with fail
    go_ret
    exact ⟨by rw [HV.out]; rfl, rfl⟩
/-! ### a row that is set -/
theorem flat_set (r : TRow) : ∀ (R : List TRow) (i : Nat), i < R.length → (R.set i r).flatMap TRow.C = (((R.flatMap TRow.C).set (i * 3) (.int .u64 r.num)).set (i * 3 + 1) (.int .i64 r.e)).set (i * 3 + 2) (.slice r.A r.n r.c)
  | [], i, h => by simp at h
  | b :: R, 0, _ => by simp [TRow.C]
  | b :: R, i + 1, h => by
    have ih := flat_set r R i (by simpa using h)
    rw [List.set_cons_succ, List.flatMap_cons, List.flatMap_cons, ih]
    have e0 : (i + 1) * 3 = i * 3 + 3 := by omega
    rw [e0]
    simp only [TRow.C, List.cons_append, List.nil_append, show i * 3 + 3 + 1 = (i * 3 + 1) + 3 from by omega, show i * 3 + 3 + 2 = (i * 3 + 2) + 3 from by omega]
    rfl
theorem TblAt.set {w : World} {U : Nat → Prop} {p : Nat} {R : List TRow} (h : TblAt w U p R) {i : Nat} (hi : i < 8) {r : TRow} (hr : r.At w U p) :
    TblAt (((w.setCell ⟨p, i * 3, none⟩ (.int .u64 r.num)).setCell ⟨p, i * 3 + 1, none⟩ (.int .i64 r.e)).setCell ⟨p, i * 3 + 2, none⟩ (.slice r.A r.n r.c)) U p (R.set i r) := by
  have f : Fr (eqB p) w (((w.setCell ⟨p, i * 3, none⟩ (.int .u64 r.num)).setCell ⟨p, i * 3 + 1, none⟩ (.int .i64 r.e)).setCell ⟨p, i * 3 + 2, none⟩ (.slice r.A r.n r.c)) :=
    ((fr_set1 w p _ _).then' (fr_set1 _ p _ _)).then' (fr_set1 _ p _ _)
  refine ⟨by rw [List.length_set]; exact h.len, ?_, h.inU, fun x hx => ?_⟩
  · have := ((h.blk.set (i * 3) (.int .u64 r.num)).set (i * 3 + 1) (.int .i64 r.e)).set (i * 3 + 2) (.slice r.A r.n r.c)
    rw [flat_set r R i (by rw [h.len]; exact hi)]
    simpa using this
  · rcases List.mem_or_eq_of_mem_set hx with h1 | h1
    · exact (h.rows x h1).fr f (fun k _ _ h3 h4 => h3 h4)
    · subst h1; exact hr.fr f (fun k _ _ h3 h4 => h3 h4)
/-! ### as a value -/
abbrev T3 := Nat × Nat × List ByteArray
def TRow.abs (r : TRow) : T3 := (r.num, r.e, r.l)
/-- At p lies a Table that reads as t, in blocks of U. -/
def TblA (w : World) (U : Nat → Prop) (p : Nat) (t : List T3) : Prop := ∃ R, TblAt w U p R ∧ R.map TRow.abs = t
theorem TblA.fr {w w' : World} {U T : Nat → Prop} {p : Nat} {t : List T3} (h : TblA w U p t) (f : Fr T w w') (hd : ∀ k, k < w.heap.size → U k → ¬ T k) : TblA w' U p t := by
  obtain ⟨R, h1, h2⟩ := h; exact ⟨R, h1.fr f hd, h2⟩
theorem TblA.fr0 {w w' : World} {U : Nat → Prop} {p : Nat} {t : List T3} (h : TblA w U p t) (f : Fr noB w w') : TblA w' U p t := h.fr f (fun _ _ _ => id)
theorem TblA.mono {w : World} {U V : Nat → Prop} {p : Nat} {t : List T3} (h : TblA w U p t) (hd : ∀ k, k < w.heap.size → U k → V k) : TblA w V p t := by
  obtain ⟨R, h1, h2⟩ := h; exact ⟨R, h1.mono hd, h2⟩
theorem TblA.len {w : World} {U : Nat → Prop} {p : Nat} {t : List T3} (h : TblA w U p t) : t.length = 8 := by
  obtain ⟨R, h1, h2⟩ := h; rw [← h2, List.length_map]; exact h1.len
theorem TblA.lt {w : World} {U : Nat → Prop} {p : Nat} {t : List T3} (h : TblA w U p t) : p < w.heap.size := by
  obtain ⟨R, h1, h2⟩ := h; exact h1.blk.lt
def lastA (t : List T3) (i : Nat) : Nat := (t[i]?.map Prod.fst).getD 0
theorem lastA_eq (R : List TRow) (i : Nat) : lastA (R.map TRow.abs) i = lastV R i := by
  unfold lastA lastV; rw [List.getElem?_map]; cases R[i]? <;> rfl
theorem lastA_calls (w : World) (U : Nat → Prop) (p : Nat) (t : List T3) (i : Nat) (h : TblA w U p t) : Calls Try.prog 22 #[.pointer (some ⟨p, 0, none⟩), .int .u8 i] w (fun e w' => e = .returned (.int .u64 (lastA t i)) ∧ w = w') := by
  obtain ⟨R, h1, rfl⟩ := h
  rw [lastA_eq]; exact last_calls w U p R i h1
def zeroT : List T3 := List.replicate 8 (0, 0, [])
theorem newTA_calls (w : World) : Calls Try.prog 9 #[] w (fun e w' => e = .returned (.pointer (some ⟨w.heap.size, 0, none⟩)) ∧ TblA w' (upB w.heap.size) w.heap.size zeroT ∧ Fr noB w w') :=
  (newT_calls w).mono fun e w' ⟨h1, h2, h3⟩ => ⟨h1, ⟨_, h2, rfl⟩, h3⟩
end Go.Proofs.Ytdngcheimohamaa
/- octet.Reader: what it holds, and its contracts. -/
namespace Go.Proofs.Ytdngcheimohamaa
open Go.RowKit

/-- A Reader: what is left, and the first error. -/
structure Rd where
  bs : List UInt8
  e : Nat
def rFail (r : Rd) (k : Nat) : Rd := if r.e = 0 ∧ k ≠ 0 then ⟨[], k⟩ else r
def rTake (r : Rd) (n : Nat) : Rd × List UInt8 := if r.bs.length < n then (rFail r 2, []) else (⟨r.bs.drop n, r.e⟩, r.bs.take n)
/-- The number of bytes, lowest first. -/
def leV : List UInt8 → Nat
  | [] => 0
  | b :: bs => b.toNat + 256 * leV bs
def rNum (r : Rd) (n : Nat) : Rd × Nat := ((rTake r n).1, leV (rTake r n).2)
def rTruth (r : Rd) : Rd × Bool := (if 1 < (rNum r 1).2 then rFail (rNum r 1).1 4 else (rNum r 1).1, (rNum r 1).2 == 1)
def rCount (r : Rd) (most : Int) : Rd × Nat := if max 0 most < ((rNum r 2).2 : Int) then (rFail (rNum r 2).1 3, 0) else rNum r 2
def rText (r : Rd) (most : Int) : Rd × List UInt8 := rTake (rCount r most).1 (rCount r most).2
def rEnd (r : Rd) : Nat := if r.e = 0 ∧ 0 < r.bs.length then 3 else r.e

structure RdV (w : World) (S : Nat → Prop) (p : Nat) (A : Option Addr) (n c : Nat) (T : TypeId) (r : Rd) : Prop where
  len : Hid (r.bs.length = n)
  heap : w.heap[p]? = some (.cells #[.slice A n c, .int .i64 (r.e : Nat)] T (0, 0))
  row : RowAt w A (bcells r.bs)
  cap : n ≤ c
  max : c ≤ 9223372036854775807
  nil : A = none → n = 0 ∧ c = 0
  inS : S p
  rowS : 0 < n → ∀ a, A = some a → S a.block ∧ a.block ≠ p
  err : Hid (r.e ≠ 0 → r.bs = [])
/-- At p a Reader, in blocks of S. -/
def RdAt (w : World) (S : Nat → Prop) (p : Nat) (r : Rd) : Prop := ∃ A n c T, RdV w S p A n c T r

theorem RdV.fr {w w' : World} {S T : Nat → Prop} {p : Nat} {A : Option Addr} {n c : Nat} {ty : TypeId} {r : Rd} (h : RdV w S p A n c ty r) (f : Fr T w w') (hd : ∀ k, k < w.heap.size → S k → ¬ T k) : RdV w' S p A n c ty r :=
  ⟨h.len, f.heap h.heap (hd p (Array.getElem?_eq_some_iff.1 h.heap).1 h.inS), h.row.fr f (fun a e h0 hb => hd _ hb (h.rowS (by rw [bcells_length, h.len.out] at h0; exact h0) a e).1), h.cap, h.max, h.nil, h.inS, h.rowS, h.err⟩
theorem RdAt.fr {w w' : World} {S T : Nat → Prop} {p : Nat} {r : Rd} (h : RdAt w S p r) (f : Fr T w w') (hd : ∀ k, k < w.heap.size → S k → ¬ T k) : RdAt w' S p r := by
  obtain ⟨A, n, c, ty, h⟩ := h
  exact ⟨A, n, c, ty, h.fr f hd⟩
theorem RdAt.mono {w : World} {S T : Nat → Prop} {p : Nat} {r : Rd} (h : RdAt w S p r) (hd : ∀ k, S k → T k) : RdAt w T p r := by
  obtain ⟨A, n, c, ty, h⟩ := h
  exact ⟨A, n, c, ty, h.len, h.heap, h.row, h.cap, h.max, h.nil, hd _ h.inS, fun h0 a e => ⟨hd _ (h.rowS h0 a e).1, (h.rowS h0 a e).2⟩, h.err⟩
theorem RdV.cells {w : World} {S : Nat → Prop} {p : Nat} {A : Option Addr} {n c : Nat} {ty : TypeId} {r : Rd} (h : RdV w S p A n c ty r) :
    w.cell? ⟨p, 0, none⟩ = some (.slice A n c) ∧ w.cell? ⟨p, 1, none⟩ = some (.int .i64 (r.e : Nat)) ∧ w.frozen? ⟨p, 0, none⟩ = false ∧ w.frozen? ⟨p, 1, none⟩ = false := by
  have := h.heap
  refine ⟨?_, ?_, ?_, ?_⟩ <;> simp [World.cell?, World.frozen?, this]
theorem RdV.rowTake {w : World} {S : Nat → Prop} {p : Nat} {A : Option Addr} {n c : Nat} {ty : TypeId} {r : Rd} (h : RdV w S p A n c ty r) (k : Nat) (u : Value) : RowAt (w.setCell ⟨p, 0, none⟩ u) A (bcells (r.bs.take k)) := fun j v hv => by
  have hj : (bcells r.bs)[j]? = some v := by
    simp only [bcells, List.map_take, List.getElem?_take] at hv ⊢
    split at hv
    · exact hv
    · cases hv
  obtain ⟨a, e, hc⟩ := h.row j v hj
  have h0 : 0 < n := by have := (List.getElem?_eq_some_iff.1 hj).1; rw [bcells_length, h.len.out] at this; omega
  have hf2 : Fr (fun b => b = p) w (w.setCell ⟨p, 0, none⟩ u) := Fr.setCell (S := fun b => b = p) (Fr.refl _ w) (p := ⟨p, 0, none⟩) (Or.inl rfl) _
  exact ⟨a, e, hf2.cell hc (by rw [add_block]; exact (h.rowS h0 a e).2)⟩
theorem two_set0 {w : World} {b : Nat} {x y u : Value} {t : TypeId} (h : w.heap[b]? = some (.cells #[x, y] t (0, 0))) : (w.setCell ⟨b, 0, none⟩ u).heap[b]? = some (.cells #[u, y] t (0, 0)) := by
  simp [World.setCell, Array.getElem?_modify, h]
theorem two_set1 {w : World} {b : Nat} {x y u : Value} {t : TypeId} (h : w.heap[b]? = some (.cells #[x, y] t (0, 0))) : (w.setCell ⟨b, 1, none⟩ u).heap[b]? = some (.cells #[x, u] t (0, 0)) := by
  simp [World.setCell, Array.getElem?_modify, h]

def RPost (w : World) (S : Nat → Prop) (p : Nat) (r : Rd) (v : Value) (e : Ending) (w' : World) : Prop := e = .returned v ∧ RdAt w' S p r ∧ Fr S w w'

theorem fail_calls (w : World) (S : Nat → Prop) (p : Nat) (r : Rd) (k : Nat) (h : RdAt w S p r) : Calls Try.prog 48 #[.pointer (some ⟨p, 0, none⟩), .int .i64 k] w (RPost w S p (rFail r k) (.tuple #[])) := by
  obtain ⟨A, n, c, T, h⟩ := h
  obtain ⟨c0, c1, z0, z1⟩ := h.cells
  by_cases e0 : r.e = 0
  · by_cases k0 : k = 0
    · have t0 : ((r.e : Int) == 0) = true := by simp; exact e0
      have t1 : ((k : Int) != 0) = false := by simp; exact k0
      have HF : Hid (rFail r k = r) := by unfold Hid rFail; rw [if_neg (by simp [k0])]
      go_enter Try.func48, Try.ntmps48
      go_wp2_with fail
      go_end0
      exact ⟨rfl, by rw [HF.out]; exact ⟨_, _, _, _, h⟩, Fr.refl _ _⟩
    · have t0 : ((r.e : Int) == 0) = true := by simp; exact e0
      have t1 : ((k : Int) != 0) = true := by simp; exact k0
      have HF : Hid (rFail r k = ⟨[], k⟩) := by unfold Hid rFail; rw [if_pos ⟨e0, k0⟩]
      have HK := hid k0
      clear e0 k0
      go_enter Try.func48, Try.ntmps48
      go_wp2_with fail
      go_end0
      refine ⟨rfl, ?_, ((Fr.refl S w).setCell (Or.inl h.inS) _).setCell (p := ⟨p, 1, none⟩) (Or.inl h.inS) _⟩
      rw [HF.out]
      exact ⟨none, 0, 0, T, rfl, two_set1 (two_set0 h.heap), RowAt.nil _ _, Nat.le_refl _, by omega, fun _ => ⟨rfl, rfl⟩, h.inS, fun h0 => absurd h0 (by omega), fun _ => rfl⟩
  · have t0 : ((r.e : Int) == 0) = false := by simp; exact e0
    have HF : Hid (rFail r k = r) := by unfold Hid rFail; rw [if_neg (by simp [e0])]
    go_enter Try.func48, Try.ntmps48
    go_wp2_with fail
    go_end0
    exact ⟨rfl, by rw [HF.out]; exact ⟨_, _, _, _, h⟩, Fr.refl _ _⟩

/-- What take hands back: bytes that can be read. -/
def TakePost (w : World) (S : Nat → Prop) (p : Nat) (r : Rd) (xs : List UInt8) (e : Ending) (w' : World) : Prop :=
  ∃ A n c, e = .returned (.slice A n c) ∧ Hid (xs.length = n) ∧ RowAt w' A (bcells xs) ∧ (A = none → n = 0 ∧ c = 0) ∧ n ≤ 9223372036854775807 ∧ RdAt w' S p r ∧ Fr S w w'
theorem take_calls (w : World) (S : Nat → Prop) (p : Nat) (r : Rd) (k : Nat) (h : RdAt w S p r) : Calls Try.prog 75 #[.pointer (some ⟨p, 0, none⟩), .int .i64 k] w (TakePost w S p (rTake r k).1 (rTake r k).2) := by
  have hf := fail_calls w S p r 2 h
  obtain ⟨A, n, c, T, h⟩ := h
  obtain ⟨c0, c1, z0, z1⟩ := h.cells
  by_cases hn : n < k
  · have HF : Hid (rTake r k = (rFail r 2, [])) := by unfold Hid rTake; rw [if_pos (by rw [h.len.out]; exact hn)]
    go_enter Try.func75, Try.ntmps75
    go_wp2_with fail
    refine hf.mono ?_
    rintro e w1 ⟨rfl, h1, f1⟩
    go_wp2_with fail
    go_ret
    refine ⟨none, 0, 0, rfl, by rw [HF.out]; rfl, by rw [HF.out]; exact RowAt.nil _ _, fun _ => ⟨rfl, rfl⟩, by omega, by rw [HF.out]; exact h1, f1⟩
  · have HF : Hid (rTake r k = (⟨r.bs.drop k, r.e⟩, r.bs.take k)) := by unfold Hid rTake; rw [if_neg (by rw [h.len.out]; exact hn)]
    have hk : k ≤ n := by omega
    have hcap := h.cap
    have hmax := h.max
    clear hf
    by_cases hck : c = k
    · subst hck
      have hnk : n = c := by omega
      subst hnk
      go_enter Try.func75, Try.ntmps75
      go_wp2_with fail
      go_ret
      have hs : Fr S w (w.setCell ⟨p, 0, none⟩ (.slice A 0 0)) := (Fr.refl S w).setCell (Or.inl h.inS) _
      refine ⟨A, n, n, rfl, by rw [HF.out]; unfold Hid; rw [List.length_take, h.len.out]; omega, ?_, fun e => h.nil e, hmax, ?_, hs⟩
      · rw [HF.out]; exact h.rowTake n _
      · rw [HF.out]
        have hd : r.bs.drop n = [] := List.drop_eq_nil_of_le (by rw [h.len.out]; exact Nat.le_refl _)
        refine ⟨A, 0, 0, T, by unfold Hid; rw [hd]; rfl, ?_, by simp only [hd]; exact RowAt.nil _ _, Nat.le_refl _, by omega, fun _ => ⟨rfl, rfl⟩, h.inS, fun h0 => absurd h0 (by omega), fun _ => hd⟩
        exact two_set0 (u := .slice A 0 0) h.heap
    · go_enter Try.func75, Try.ntmps75
      go_wp2_with fail
      go_ret
      have hs : Fr S w (w.setCell ⟨p, 0, none⟩ (.slice (A.map (·.add k)) (n - k) (c - k))) := (Fr.refl S w).setCell (Or.inl h.inS) _
      have hne : A ≠ none := fun e => by have := h.nil e; omega
      obtain ⟨a, rfl⟩ := Option.ne_none_iff_exists'.1 hne
      refine ⟨some a, k, c, rfl, by rw [HF.out]; unfold Hid; rw [List.length_take, h.len.out]; omega, ?_, fun e => (by cases e), by omega, ?_, hs⟩
      · rw [HF.out]; exact h.rowTake k _
      · rw [HF.out]
        refine ⟨some (a.add k), n - k, c - k, T, by unfold Hid; rw [List.length_drop, h.len.out], two_set0 h.heap, ?_, by omega, by omega, fun e => (by cases e), h.inS, fun h0 b e => ?_, fun e => ?_⟩
        · intro j u hu
          refine ⟨_, rfl, ?_⟩
          rw [add_add']
          have hj : (bcells r.bs)[k + j]? = some u := by
            rw [← hu]; simp only [bcells, List.map_drop, List.getElem?_drop]
          have h0 : 0 < n := by have := (List.getElem?_eq_some_iff.1 hj).1; rw [bcells_length, h.len.out] at this; omega
          have hf2 : Fr (fun b => b = p) w (w.setCell ⟨p, 0, none⟩ (.slice (some (a.add k)) (n - k) (c - k))) := Fr.setCell (S := fun b => b = p) (Fr.refl _ w) (p := ⟨p, 0, none⟩) (Or.inl rfl) _
          exact hf2.cell (h.row.cell hj) (by rw [add_block]; exact (h.rowS h0 a rfl).2)
        · cases e
          rw [add_block]
          exact h.rowS (by omega) a rfl
        · show r.bs.drop k = []
          rw [h.err.out e]; simp
end Go.Proofs.Ytdngcheimohamaa
/- octet.Reader's methods. -/
namespace Go.Proofs.Ytdngcheimohamaa
open Go.RowKit

theorem leV_lt (xs : List UInt8) : leV xs < 256 ^ xs.length := by
  induction xs with
  | nil => simp [leV]
  | cons b xs ih =>
    have := b.toNat_lt
    simp only [leV, List.length_cons, Nat.pow_succ]
    omega
theorem leV_snoc (xs : List UInt8) (b : UInt8) : leV (xs ++ [b]) = leV xs + b.toNat * 256 ^ xs.length := by
  induction xs with
  | nil => simp [leV]
  | cons c xs ih =>
    simp only [List.cons_append, leV, ih, List.length_cons, Nat.pow_succ, Nat.mul_add]
    rw [← Nat.mul_assoc, Nat.mul_comm (256 ^ xs.length) 256, ← Nat.mul_assoc, Nat.mul_comm b.toNat 256, Nat.add_assoc]
theorem rTake_len (r : Rd) (n : Nat) : (rTake r n).2.length ≤ n := by
  unfold rTake
  split
  · simp
  · simp; omega

theorem or_step (x b j : Nat) (hx : x < 256 ^ j) (hb : b < 256) (hj : j < 8) : bits .or .u64 (x : Int) (IntKind.u64.wrap ((b : Int) * 2 ^ (8 * j))) = ((x + b * 256 ^ j : Nat) : Int) := by
  have hp : (256 : Nat) ^ j = 2 ^ (8 * j) := by rw [Nat.pow_mul]
  have hle : (256 : Nat) ^ (j + 1) ≤ 256 ^ 8 := Nat.pow_le_pow_right (by omega) (by omega)
  have hm : b * 256 ^ j < 256 ^ (j + 1) := by rw [Nat.pow_succ, Nat.mul_comm (256 ^ j)]; exact Nat.mul_lt_mul_of_pos_right hb (Nat.pow_pos (by omega))
  have h64 : (256 : Nat) ^ 8 = 18446744073709551616 := by decide
  have e1 : (b : Int) * 2 ^ (8 * j) = ((b * 256 ^ j : Nat) : Int) := by rw [hp]; push_cast; rfl
  have e2 : IntKind.u64.wrap ((b * 256 ^ j : Nat) : Int) = ((b * 256 ^ j : Nat) : Int) := by
    generalize b * 256 ^ j = m at *
    simp [IntKind.wrap, IntKind.bits, IntKind.signed]
    omega
  have hx2 : x < 18446744073709551616 := by
    have : 256 ^ j ≤ 256 ^ (j + 1) := Nat.pow_le_pow_right (by omega) (by omega)
    omega
  rw [e1, e2, bits_or_u64_nat x _ hx2 (by omega)]
  congr 1
  rw [hp] at hx ⊢
  have := Nat.two_pow_add_eq_or_of_lt hx b
  rw [Nat.or_comm, Nat.mul_comm b, ← this, Nat.add_comm]
set_option maxRecDepth 100000 in
set_option maxHeartbeats 1600000 in
theorem numRd_calls (w : World) (S : Nat → Prop) (p : Nat) (r : Rd) (k : Nat) (h : RdAt w S p r) (hk : k ≤ 8) :
    Calls Try.prog 74 #[.pointer (some ⟨p, 0, none⟩), .int .i64 k] w (RPost w S p (rNum r k).1 (.int .u64 ((rNum r k).2 : Nat))) := by
  have hl := rTake_len r k
  go_enter Try.func74, Try.ntmps74
  go_wp2_with fail
  refine (take_calls w S p r k h).mono ?_
  rintro e w1 ⟨A, n, c, rfl, hn, hr, hA, hm, h1, f1⟩
  have HF : Hid (rNum r k = ((rTake r k).1, leV (rTake r k).2)) := rfl
  generalize (rTake r k).1 = r1 at *
  generalize (rTake r k).2 = xs at *
  rw [hn.out] at hl
  go_wp2_with fail
  go_loop [5, 12] (fun y i => ∃ j : Nat, j ≤ n ∧ i = .int .i64 j ∧ y = .int .u64 (leV (xs.take j) : Nat)) (fun _ i => n - (intOf i).toNat)
  case atStart => exact ⟨0, Nat.zero_le _, rfl, rfl⟩
  case round =>
    obtain ⟨j, hj, rfl, rfl⟩ := hrel
    by_cases hjn : j < n
    · obtain ⟨b, hb⟩ : ∃ b, xs[j]? = some b := ⟨_, List.getElem?_eq_getElem (by rw [hn.out]; exact hjn)⟩
      obtain ⟨a, rfl⟩ := hr.some_of (by rw [bcells_length, hn.out]; omega)
      have hc := hr.cell (j := j) (u := .int .u8 b.toNat) (by simp only [bcells, List.getElem?_map, hb]; rfl)
      have hb1 := b.toNat_lt
      have HB := hid hb; clear hb
      go_wp2_with fail
      have hlt : leV (xs.take j) < 256 ^ j := by
        have := leV_lt (xs.take j)
        rw [List.length_take, hn.out, Nat.min_eq_left (by omega)] at this; exact this
      have hst := or_step (leV (xs.take j)) b.toNat j hlt hb1 (by omega)
      have hsn : leV (xs.take (j + 1)) = leV (xs.take j) + b.toNat * 256 ^ j := by
        rw [take_snoc' HB.out, leV_snoc, List.length_take, hn.out, Nat.min_eq_left (by omega)]
      go_round
      case rel => exact ⟨j + 1, by omega, by go_num, by rw [hst, hsn]⟩
      case measure => simp [intOf]; omega
    · have : j = n := by omega
      subst this
      go_wp2_with fail
      go_ret
      rw [HF.out]
      refine ⟨?_, h1, f1⟩
      rw [List.take_of_length_le (by rw [hn.out]; exact Nat.le_refl _)]
      rfl

theorem rNum_lt (r : Rd) (n : Nat) : (rNum r n).2 < 256 ^ n := by
  have h1 := leV_lt (rTake r n).2
  have h3 : 256 ^ (rTake r n).2.length ≤ 256 ^ n := Nat.pow_le_pow_right (by omega) (rTake_len r n)
  unfold rNum; simp only; omega
theorem byteRd_calls (w : World) (S : Nat → Prop) (p : Nat) (r : Rd) (h : RdAt w S p r) :
    Calls Try.prog 77 #[.pointer (some ⟨p, 0, none⟩)] w (RPost w S p (rNum r 1).1 (.int .u8 ((rNum r 1).2 : Nat))) := by
  have hb : (rNum r 1).2 < 256 := rNum_lt r 1
  go_enter Try.func77, Try.ntmps77
  go_wp2_with fail
  refine (numRd_calls w S p r 1 h (by omega)).mono ?_
  rintro e w1 ⟨rfl, h1, f1⟩
  go_wp2_with fail
  go_ret
  exact ⟨rfl, h1, f1⟩
theorem twoRd_calls (w : World) (S : Nat → Prop) (p : Nat) (r : Rd) (h : RdAt w S p r) :
    Calls Try.prog 91 #[.pointer (some ⟨p, 0, none⟩)] w (RPost w S p (rNum r 2).1 (.int .u16 ((rNum r 2).2 : Nat))) := by
  have hb : (rNum r 2).2 < 65536 := rNum_lt r 2
  go_enter Try.func91, Try.ntmps91
  go_wp2_with fail
  refine (numRd_calls w S p r 2 h (by omega)).mono ?_
  rintro e w1 ⟨rfl, h1, f1⟩
  go_wp2_with fail
  go_ret
  exact ⟨rfl, h1, f1⟩
theorem eightRd_calls (w : World) (S : Nat → Prop) (p : Nat) (r : Rd) (h : RdAt w S p r) :
    Calls Try.prog 47 #[.pointer (some ⟨p, 0, none⟩)] w (RPost w S p (rNum r 8).1 (.int .u64 ((rNum r 8).2 : Nat))) := by
  go_enter Try.func47, Try.ntmps47
  go_wp2_with fail
  refine (numRd_calls w S p r 8 h (by omega)).mono ?_
  rintro e w1 ⟨rfl, h1, f1⟩
  go_wp2_with fail
  go_ret
  exact ⟨rfl, h1, f1⟩
theorem countRd_calls (w : World) (S : Nat → Prop) (p : Nat) (r : Rd) (most : Int) (h : RdAt w S p r) (hm1 : -9223372036854775808 ≤ most) (hm2 : most ≤ 9223372036854775807) :
    Calls Try.prog 76 #[.pointer (some ⟨p, 0, none⟩), .int .i64 most] w (RPost w S p (rCount r most).1 (.int .i64 ((rCount r most).2 : Nat))) := by
  have hb : (rNum r 2).2 < 65536 := rNum_lt r 2
  have HF : Hid (rCount r most = if max 0 most < ((rNum r 2).2 : Int) then (rFail (rNum r 2).1 3, 0) else ((rNum r 2).1, (rNum r 2).2)) := rfl
  have hc := twoRd_calls w S p r h
  generalize (rNum r 2).1 = r1 at *
  generalize (rNum r 2).2 = x at *
  by_cases hx : max 0 most < (x : Int)
  · rw [if_pos hx] at HF
    go_enter Try.func76, Try.ntmps76
    go_wp2_with fail
    refine hc.mono ?_
    rintro e w1 ⟨rfl, h1, f1⟩
    go_wp2_with fail
    all_goals
      refine (fail_calls w1 S p r1 3 h1).mono ?_
      rintro e w2 ⟨rfl, h2, f2⟩
      go_wp2_with fail
      go_ret
      rw [HF.out]
      exact ⟨rfl, h2, f1.then' f2⟩
  · rw [if_neg hx] at HF
    go_enter Try.func76, Try.ntmps76
    go_wp2_with fail
    refine hc.mono ?_
    rintro e w1 ⟨rfl, h1, f1⟩
    go_wp2_with fail
    all_goals
      go_ret
      rw [HF.out]
      exact ⟨rfl, h1, f1⟩
theorem textRd_calls (w : World) (S : Nat → Prop) (p : Nat) (r : Rd) (most : Int) (h : RdAt w S p r) (hm1 : -9223372036854775808 ≤ most) (hm2 : most ≤ 9223372036854775807) :
    Calls Try.prog 50 #[.pointer (some ⟨p, 0, none⟩), .int .i64 most] w (RPost w S p (rText r most).1 (.string (mkS (rText r most).2))) := by
  have hc := countRd_calls w S p r most h hm1 hm2
  have HF : Hid (rText r most = ((rTake (rCount r most).1 (rCount r most).2).1, (rTake (rCount r most).1 (rCount r most).2).2)) := rfl
  generalize (rCount r most).1 = r1 at *
  generalize (rCount r most).2 = x at *
  go_enter Try.func50, Try.ntmps50
  go_wp2_with fail
  refine hc.mono ?_
  rintro e w1 ⟨rfl, h1, f1⟩
  go_wp2_with fail
  refine (take_calls w1 S p r1 x h1).mono ?_
  rintro e w2 ⟨A, n, c, rfl, hn, hr, hA, hm, h2, f2⟩
  have hcv := Try.toStr hr hn.out c
  clear hr hA
  go_wp2_with fail
  go_ret
  rw [HF.out]
  exact ⟨rfl, h2, f1.then' f2⟩
/-- Raw hands back new bytes. -/
def RawPost (w : World) (S : Nat → Prop) (p : Nat) (r : Rd) (xs : List UInt8) (e : Ending) (w' : World) : Prop :=
  ∃ A n c, e = .returned (.slice A n c) ∧ Hid (xs.length = n) ∧ w'.ownsRow w.heap.size 5 1 (.slice A n c) n (bcells xs) ∧ RdAt w' S p r ∧ Fr S w w'
theorem errRd_calls (w : World) (S : Nat → Prop) (p : Nat) (r : Rd) (h : RdAt w S p r) :
    Calls Try.prog 49 #[.pointer (some ⟨p, 0, none⟩)] w (fun e w' => e = .returned (.int .i64 (r.e : Nat)) ∧ w = w') := by
  obtain ⟨A, n, c, T, h⟩ := h
  obtain ⟨c0, c1, z0, z1⟩ := h.cells
  go_enter Try.func49, Try.ntmps49
  go_wp2_with fail
  go_ret
  exact ⟨rfl, rfl⟩
theorem endRd_calls (w : World) (S : Nat → Prop) (p : Nat) (r : Rd) (h : RdAt w S p r) :
    Calls Try.prog 17 #[.pointer (some ⟨p, 0, none⟩)] w (fun e w' => e = .returned (.int .i64 (rEnd r : Nat)) ∧ w = w') := by
  obtain ⟨A, n, c, T, h⟩ := h
  obtain ⟨c0, c1, z0, z1⟩ := h.cells
  have hmx := h.max
  have hcp := h.cap
  have HL := h.len
  by_cases e0 : r.e = 0
  · have t0 : ((r.e : Int) == 0) = true := by simp; exact e0
    by_cases n0 : 0 < n
    · have HF : Hid (rEnd r = 3) := by unfold Hid rEnd; rw [if_pos ⟨e0, by rw [HL.out]; exact n0⟩]
      have E0 := hid e0; clear e0
      go_enter Try.func17, Try.ntmps17
      go_wp2_with fail
      go_ret
      exact ⟨by rw [HF.out]; rfl, rfl⟩
    · have HF : Hid (rEnd r = r.e) := by unfold Hid rEnd; rw [if_neg (fun h => n0 (by rw [← HL.out]; exact h.2))]
      have E0 := hid e0; clear e0
      go_enter Try.func17, Try.ntmps17
      go_wp2_with fail
      go_ret
      exact ⟨by rw [HF.out]; rfl, rfl⟩
  · have t0 : ((r.e : Int) == 0) = false := by simp; exact e0
    have HF : Hid (rEnd r = r.e) := by unfold Hid rEnd; rw [if_neg (fun h => e0 h.1)]
    have E0 := hid e0; clear e0
    go_enter Try.func17, Try.ntmps17
    go_wp2_with fail
    go_ret
    exact ⟨by rw [HF.out]; rfl, rfl⟩
end Go.Proofs.Ytdngcheimohamaa
/- octet.Of, and a Reader's Row. -/
namespace Go.Proofs.Ytdngcheimohamaa
open Go.RowKit

theorem Try.appS : AppTy Try.prog 28 9 (.string ⟨#[]⟩) 1 16 := ⟨Try.underlying28, by kernel_rfl, rfl, by decide⟩
def rTexts (r : Rd) (long : Int) : Nat → Rd × List ByteArray
  | 0 => (r, [])
  | n + 1 => ((rText (rTexts r long n).1 long).1, (rTexts r long n).2 ++ [mkS (rText (rTexts r long n).1 long).2])
theorem rTexts_len (r : Rd) (long : Int) (n : Nat) : (rTexts r long n).2.length = n := by induction n <;> simp [rTexts, *]
def rRow (r : Rd) (most long : Int) : Rd × List ByteArray :=
  ((rTexts (rCount r most).1 long (rCount r most).2).1, if (rTexts (rCount r most).1 long (rCount r most).2).1.e = 0 then (rTexts (rCount r most).1 long (rCount r most).2).2 else [])

def OfPost (w : World) (bs : List UInt8) (e : Ending) (w' : World) : Prop := ∃ p, e = .returned (.pointer (some ⟨p, 0, none⟩)) ∧ w.heap.size ≤ p ∧ p < w'.heap.size ∧ RdAt w' (upB w.heap.size) p ⟨bs, 0⟩ ∧ Fr noB w w'
theorem of_calls (w : World) (B : Option Addr) (n cap : Nat) (xs : List UInt8) (hx : RowAt w B (bcells xs)) (hn : xs.length = n) (hB : B = none → n = 0 ∧ cap = 0) (hl : n ≤ 1000000000000) :
    Calls Try.prog 14 #[.slice B n cap] w (OfPost w xs) := by
  have HL := hid hl; clear hl
  have HN := hid hn; clear hn
  go_enter Try.func14, Try.ntmps14
  go_wp2_with fail
  refine (clone_calls w B n cap xs hx HN.out hB HL.out).mono ?_
  rintro e w1 ⟨A, c, rfl, h1, f1, hA⟩
  go_wp2_with fail
  go_ret
  have hz := f1.size
  refine ⟨w1.heap.size, rfl, hz, by simp, ⟨A, n, c, _, HN.out, heap_alloc_new w1 _, (own_row h1).fr0 ((Fr.refl noB _).alloc _), ?_, ?_, fun e => ?_, hz, fun h0 a e => ?_, fun h => absurd rfl h⟩, f1.alloc _⟩
  · rcases h1.2 with ⟨e, e2⟩ | ⟨g, cp, cur, e, _, _, h2, _⟩
    · omega
    · cases e; exact h2
  · rcases h1.2 with ⟨e, e2⟩ | ⟨g, cp, cur, e, _, _, _, h2, _⟩
    · cases e; omega
    · cases e; unfold maxLen at h2; omega
  · subst e
    rcases h1.2 with ⟨e, e2⟩ | ⟨g, cp, cur, e, _⟩
    · cases e; exact ⟨rfl, rfl⟩
    · cases e
  · subst e
    have := h1.lt a.block rfl
    exact ⟨this.1, by omega⟩

def RowPost (w : World) (S : Nat → Prop) (p : Nat) (r : Rd) (ss : List ByteArray) (e : Ending) (w' : World) : Prop :=
  ∃ A n c, e = .returned (.slice A n c) ∧ Hid (ss.length = n) ∧ w'.ownsRow w.heap.size 9 1 (.slice A n c) n (strs ss) ∧ RdAt w' S p r ∧ Fr S w w'
set_option maxRecDepth 100000 in
set_option maxHeartbeats 1600000 in
theorem rowRd_calls (w : World) (S : Nat → Prop) (p : Nat) (r : Rd) (most long : Int) (h : RdAt w S p r) (hS : ∀ k, S k → k < w.heap.size) (hm1 : -9223372036854775808 ≤ most) (hm2 : most ≤ 9223372036854775807) (hl1 : -9223372036854775808 ≤ long) (hl2 : long ≤ 9223372036854775807) :
    Calls Try.prog 78 #[.pointer (some ⟨p, 0, none⟩), .int .i64 most, .int .i64 long] w (RowPost w S p (rRow r most long).1 (rRow r most long).2) := by
  have hc := countRd_calls w S p r most h hm1 hm2
  have hx : (rCount r most).2 < 65536 := by
    have := rNum_lt r 2
    unfold rCount
    split
    · exact Nat.zero_lt_succ _
    · exact this
  have HF : Hid (rRow r most long = ((rTexts (rCount r most).1 long (rCount r most).2).1, if (rTexts (rCount r most).1 long (rCount r most).2).1.e = 0 then (rTexts (rCount r most).1 long (rCount r most).2).2 else [])) := rfl
  generalize (rCount r most).1 = r1 at *
  generalize (rCount r most).2 = x at *
  go_enter Try.func78, Try.ntmps78
  go_wp2_with fail
  refine hc.mono ?_
  rintro e w1 ⟨rfl, h1, f1⟩
  clear hc
  have hw1 := f1.size
  go_wp2_with fail
  go_loopw [7, 11] (fun v i wr => ∃ k : Nat, k ≤ x ∧ i = .int .i64 k ∧ (∃ A c, v = .slice A k c ∧ wr.ownsRow w.heap.size 9 1 v k (strs (rTexts r1 long k).2)) ∧ RdAt wr S p (rTexts r1 long k).1 ∧ Fr S w wr) (fun _ i _ => x - (intOf i).toNat)
  case atStart => exact ⟨0, Nat.zero_le _, rfl, ⟨none, 0, rfl, World.ownsRow_nil _ _ _ _⟩, h1, f1⟩
  case round =>
    obtain ⟨k, hk, rfl, ⟨A, c, rfl, hown⟩, hr, hf⟩ := hrel
    by_cases hkx : k < x
    · have HS : Hid (rTexts r1 long (k + 1) = ((rText (rTexts r1 long k).1 long).1, (rTexts r1 long k).2 ++ [mkS (rText (rTexts r1 long k).1 long).2])) := rfl
      have hct := textRd_calls wr S p (rTexts r1 long k).1 long hr hl1 hl2
      generalize rTexts r1 long k = rk at *
      go_wp2_with fail
      refine hct.mono ?_
      rintro e w2 ⟨rfl, h2, f2⟩
      clear hct
      have hown2 : w2.ownsRow 0 9 1 (.slice A k c) k (strs rk.2) := own_mono (own_fr hown f2 (fun g hg hs => by have := (hown.lt g hg).1; have := hS g hs; omega)) (fun _ _ => Nat.zero_le _)
      have hbase : ∀ g, (Value.slice A k c).ownBlock = some g → w.heap.size ≤ g := fun g hg => (hown.lt g hg).1
      have hz2 : w.heap.size ≤ w2.heap.size := Nat.le_trans hf.size f2.size
      generalize mkS (rText rk.1 long).2 = t at *
      go_wp2_with (at_builtin; refine wpList_app Try.appS rfl (.tmp 13) (.tmp 17) rfl _ k (strs rk.2) rfl (hown2.alloc _) _ 1 1 [.string t] rfl rfl (cell_one_row _ _ _) (fun u hu => by simp at hu; subst hu; rfl) (by simp) (by omega) (by omega) ?_)
      intro A' c' w3 hown3 hg hat
      have f3 : Fr S w w3 := Fr.grown ((hf.then' f2).alloc _) hg (fun g hg => Or.inr (hbase g hg))
      have h3 : RdAt w3 S p (rText rk.1 long).1 := (h2.fr ((Fr.refl noB _).alloc _) (fun _ _ _ => id)).fr (Fr.grown (Fr.refl (fun k => w.heap.size ≤ k) _) hg (fun g hg => Or.inl (hbase g hg))) (fun g _ h1 h2 => by have := hS g h1; omega)
      have hown4 : w3.ownsRow w.heap.size 9 1 (.slice A' (k + 1) c') (k + 1) (strs (rk.2 ++ [t])) := by
        have : strs (rk.2 ++ [t]) = strs rk.2 ++ [.string t] := by simp [strs]
        rw [this]
        refine own_mono hown3 (fun g hg => ?_)
        rcases hat with e | e
        · exact hbase g (e ▸ hg)
        · rw [hg] at e; simp at e; omega
      clear hg hat hown3 hown2 hown hf f2 h2 hr
      go_wp2_with fail
      go_roundw
      case rel => exact ⟨k + 1, by omega, by go_num, ⟨A', c', rfl, by rw [HS.out]; exact hown4⟩, by rw [HS.out]; exact h3, f3⟩
      case measure => simp [intOf]; omega
    · have : k = x := by omega
      subst this
      have HR := hid hr
      have hlen := rTexts_len r1 long k
      generalize rTexts r1 long k = rk at *
      have HL := hid hlen; clear hlen
      obtain ⟨B, n, cp, T, hv⟩ := hr
      obtain ⟨c0, c1, z0, z1⟩ := hv.cells
      by_cases e0 : rk.1.e = 0
      · have t0 : ((rk.1.e : Int) != 0) = false := by simp; exact e0
        rw [if_pos e0] at HF
        have E0 := hid e0; clear e0
        go_wp2_with fail
        go_ret
        rw [HF.out]
        exact ⟨A, k, c, rfl, HL.out, hown, HR.out, hf⟩
      · have t0 : ((rk.1.e : Int) != 0) = true := by simp; exact e0
        rw [if_neg e0] at HF
        have E0 := hid e0; clear e0
        go_wp2_with fail
        go_ret
        rw [HF.out]
        exact ⟨none, 0, 0, rfl, rfl, World.ownsRow_nil _ _ _ _, HR.out, hf⟩
end Go.Proofs.Ytdngcheimohamaa
/- table.clone, Judge, Reply. -/
namespace Go.Proofs.Ytdngcheimohamaa
open Go.RowKit

/-- A []string in new memory. -/
def NewStrs (w : World) (l : List ByteArray) (A : Option Addr) (n c : Nat) (w' : World) : Prop :=
  l.length = n ∧ n ≤ c ∧ c ≤ 9223372036854775807 ∧ RowAt w' A (strs l) ∧ (∀ a, A = some a → 0 < n → w.heap.size ≤ a.block ∧ a.block < w'.heap.size) ∧ (A = none → n = 0 ∧ c = 0)
theorem strs_one (l : List ByteArray) : ∀ u ∈ strs l, u.oneCell' = true := by
  intro u hu
  simp only [strs, List.mem_map] at hu
  obtain ⟨s, _, rfl⟩ := hu
  rfl
theorem own_caps {w : World} {base n : Nat} {e : TypeId} {size : Nat} {A : Option Addr} {m c : Nat} {xs : List Value} (h : w.ownsRow base e size (.slice A m c) n xs) : m ≤ c ∧ c ≤ 9223372036854775807 ∧ (∀ ad, A = some ad → base ≤ ad.block) ∧ (A = none → m = 0 ∧ c = 0) := by
  rcases h.2 with ⟨e1, _⟩ | ⟨g, cap, cur, e1, hb, _, hc, hm, _⟩
  · injection e1 with h0 h1 h2; subst h0 h1 h2; exact ⟨Nat.le_refl _, by decide, fun _ h => (by cases h), fun _ => ⟨rfl, rfl⟩⟩
  · injection e1 with h0 h1 h2; subst h0 h1 h2; exact ⟨hc, Nat.le_trans hm (by decide), fun ad h => (by cases h; exact hb), fun h => (by cases h)⟩
theorem NewStrs.of_own {w w' : World} {l : List ByteArray} {A : Option Addr} {n c : Nat} (h : w'.ownsRow w.heap.size 9 1 (.slice A n c) n (strs l)) : NewStrs w l A n c w' := by
  obtain ⟨h1, h2, h3, h4⟩ := own_caps h
  have hl : l.length = n := by have := h.1; simpa [strs] using this
  refine ⟨hl, h1, h2, own_row h, fun a e hn => ⟨h3 a e, ?_⟩, h4⟩
  subst e
  exact (own_row h).lt (by simp only [strs, List.length_map]; omega)
set_option maxRecDepth 100000 in
theorem cloneS_calls (w : World) (B : Option Addr) (n cap : Nat) (l : List ByteArray) (hx : RowAt w B (strs l)) (hn : l.length = n) (hB : B = none → n = 0 ∧ cap = 0) (hl : n ≤ 1000000000000) :
    Calls Try.prog 70 #[.slice B n cap] w (fun e w' => ∃ A c, e = .returned (.slice A n c) ∧ NewStrs w l A n c w' ∧ Fr noB w w') := by
  have HN := hid hn; clear hn
  have heq := fun (w : World) (a : Option Addr) (n c : Nat) => Lib.run_eql_slice_nil (P := Try.prog) w 28 9 a n c 0 0 Try.underlying28
  cases B with
  | none =>
    obtain ⟨rfl, rfl⟩ := hB rfl
    go_enter Try.func70, Try.ntmps70
    go_wp2
    go_ret
    have hxs : l = [] := List.eq_nil_of_length_eq_zero HN.out
    subst hxs
    exact ⟨none, 0, rfl, NewStrs.of_own (World.ownsRow_nil _ _ _ _), Fr.refl _ _⟩
  | some ad =>
    have hown : (w.alloc (.cells #[] 9)).ownsRow 0 9 1 (.slice (some ⟨w.heap.size, 0, none⟩) 0 0) 0 [] := World.ownsRow_made w #[] 0 (Nat.zero_le _) (by unfold maxLen; omega) rfl
    have hx2 : RowAt (w.alloc (.cells #[] 9)) (some ad) (strs l) := hx.fr0 ((Fr.refl noB w).alloc _)
    have hl' : Hid (n ≤ 1000000000000) := hl
    clear hl
    go_enter Try.func70, Try.ntmps70
    go_wp2_with (at_builtin; refine wpList_app Try.appS rfl (.tmp 5) (.tmp 6) rfl _ 0 [] rfl hown (some ad) n cap (strs l) rfl (by simp only [strs, List.length_map]; rw [HN.out, Nat.mul_one]) hx2 (strs_one l) (by simp) (by have := hl'.out; omega) (by have := hl'.out; omega) ?_)
    intro A' c' w1 hown' hg hat
    go_wp2
    go_ret
    have hat' : ∃ k, (Value.slice A' n c').ownBlock = some k ∧ w.heap.size ≤ k := by
      rcases hat with e | e
      · exact ⟨_, e, Nat.le_refl _⟩
      · exact ⟨_, e, by simp⟩
    refine ⟨A', c', rfl, NewStrs.of_own (own_mono hown' ?_), ?_⟩
    · obtain ⟨k, e, hk⟩ := hat'
      intro g hg; rw [e] at hg; cases hg; exact hk
    · refine Fr.grown ((Fr.refl noB w).alloc _) hg (fun k hk => Or.inr ?_)
      simp [Value.ownBlock] at hk; omega
theorem NewStrs.fr {w w' w'' : World} {T : Nat → Prop} {l : List ByteArray} {A : Option Addr} {n c : Nat} (h : NewStrs w l A n c w') (f : Fr T w' w'') (hT : ∀ a, A = some a → 0 < n → ¬ T a.block) : NewStrs w l A n c w'' :=
  ⟨h.1, h.2.1, h.2.2.1, h.2.2.2.1.fr f (fun a e h0 _ => hT a e (by simp only [strs, List.length_map] at h0; rw [← h.1]; exact h0)), fun a e h0 => ⟨(h.2.2.2.2.1 a e h0).1, Nat.lt_of_lt_of_le (h.2.2.2.2.1 a e h0).2 f.size⟩, h.2.2.2.2.2⟩
theorem NewStrs.low {w0 w w' : World} {l : List ByteArray} {A : Option Addr} {n c : Nat} (h : NewStrs w l A n c w') (hs : w0.heap.size ≤ w.heap.size) : NewStrs w0 l A n c w' :=
  ⟨h.1, h.2.1, h.2.2.1, h.2.2.2.1, fun a e h0 => ⟨Nat.le_trans hs (h.2.2.2.2.1 a e h0).1, (h.2.2.2.2.1 a e h0).2⟩, h.2.2.2.2.2⟩
/-- What a reply is kept as. -/
def keptL (e : Nat) (l : List ByteArray) : List ByteArray := if e = 0 then l else []
def RepNew (w : World) (e : Nat) (l : List ByteArray) (ed : Ending) (w' : World) : Prop :=
  ∃ A n c, ed = .returned (.agg #[.int .i64 e, .slice A n c]) ∧ NewStrs w l A n c w' ∧ Fr noB w w'
theorem fr_two (w : World) (b : Nat) (u0 u1 : Value) : Fr (eqB b) w ((w.setCell ⟨b, 0, none⟩ u0).setCell ⟨b, 1, none⟩ u1) := (fr_set1 w b 0 u0).then' (fr_set1 _ b 1 u1)
theorem nil_new (w w' : World) : NewStrs w [] none 0 0 w' := ⟨rfl, Nat.le_refl _, by decide, RowAt.nil _ _, fun a e => (by cases e), fun _ => ⟨rfl, rfl⟩⟩
set_option maxRecDepth 100000 in
theorem cloneT_calls (w : World) (e : Nat) (B : Option Addr) (n c : Nat) (l : List ByteArray) (hx : RowAt w B (strs l)) (hn : l.length = n) (hB : B = none → n = 0 ∧ c = 0) (hl : n ≤ 1000000000000) :
    Calls Try.prog 43 #[.agg #[.int .i64 e, .slice B n c]] w (RepNew w e (keptL e l)) := by
  have hb0 : BlkAt ((w.alloc (.cells #[.int .i64 e, .slice B n c] 42)).alloc (.cells #[.int .i64 0, .slice none 0 0] 42)) w.heap.size 42 #[.int .i64 e, .slice B n c] := (BlkAt.new _ _ _).al _
  have hb1 : BlkAt ((w.alloc (.cells #[.int .i64 e, .slice B n c] 42)).alloc (.cells #[.int .i64 0, .slice none 0 0] 42)) (w.heap.size + 1) 42 #[.int .i64 0, .slice none 0 0] := by
    have := BlkAt.new (w.alloc (.cells #[.int .i64 e, .slice B n c] 42)) #[.int .i64 0, .slice none 0 0] 42
    rwa [al_size] at this
  have f0 : Fr noB w ((w.alloc (.cells #[.int .i64 e, .slice B n c] 42)).alloc (.cells #[.int .i64 0, .slice none 0 0] 42)) := ((Fr.refl noB w).alloc _).alloc _
  have hr : Hid (Try.f43.results = #[.cell 2 42]) := by unfold Hid; kernel_rfl
  have hs0 : ((w.alloc (.cells #[.int .i64 e, .slice B n c] 42)).alloc (.cells #[.int .i64 0, .slice none 0 0] 42)).heap.size = w.heap.size + 2 := by simp only [al_size]
  by_cases h0 : e = 0
  · have t1 : ((e : Int) != 0) = false := by rw [bne_eq_false_iff_eq]; omega
    have hcl := fun W hx => cloneS_calls W B n c l hx hn hB hl
    have HK : Hid (keptL e l = l) := by unfold Hid keptL; rw [if_pos h0]
    have hxa := hx.fr0 f0
    clear h0 hx hn hl hB
    go_enter Try.func43, Try.ntmps43
    go_upto_region 1 with fail
    generalize ((w.alloc (.cells #[.int .i64 e, .slice B n c] 42)).alloc (.cells #[.int .i64 0, .slice none 0 0] 42)) = wa at *
    obtain ⟨x0, x1, xf⟩ := BlkAt.c2 hb0
    go_wp2_with fail
    refine (hcl wa hxa).mono ?_
    rintro ed w1 ⟨A, c1, rfl, hnew, f1⟩
    replace hb0 := hb0.fr f1 id
    replace hb1 := hb1.fr f1 id
    replace f0 := f0.then' f1
    clear x0 x1 xf hcl f1 hxa
    obtain ⟨x0, x1, xf⟩ := BlkAt.c2 hb0
    obtain ⟨y0, y1, yf⟩ := BlkAt.c2 hb1
    have fs : Fr (fun k => k = w.heap.size ∨ k = w.heap.size + 1) w1 (((w1.setCell ⟨w.heap.size, 1, none⟩ (.slice A n c1)).setCell ⟨w.heap.size + 1, 0, none⟩ (.int .i64 e)).setCell ⟨w.heap.size + 1, 1, none⟩ (.slice A n c1)) :=
      (((Fr.refl _ w1).setCell (p := ⟨w.heap.size, 1, none⟩) (Or.inl (Or.inl rfl)) _).setCell (p := ⟨w.heap.size + 1, 0, none⟩) (Or.inl (Or.inr rfl)) _).setCell (p := ⟨w.heap.size + 1, 1, none⟩) (Or.inl (Or.inr rfl)) _
    have hnew2 := (hnew.fr fs (fun a e h0 h => by have := (hnew.2.2.2.2.1 a e h0).1; omega)).low (w0 := w) (by omega)
    have FF := f0.trans fs (fun i hi h => by omega)
    clear fs hnew f0 hb0 hb1
    go_wp2_with fail
    have hr := hr.out
    exact bodyPost_ret (v := .agg #[.int .i64 e, .slice A n c1]) (by simp [results, hr, go_sem, y0, y1]) rfl (by rw [HK.out]; exact ⟨A, n, c1, rfl, hnew2, FF⟩)
  · have t1 : ((e : Int) != 0) = true := by rw [bne_iff_ne]; omega
    have HK : Hid (keptL e l = []) := by unfold Hid keptL; rw [if_neg h0]
    clear h0 hx hn hl hB
    go_enter Try.func43, Try.ntmps43
    go_upto_region 1 with fail
    generalize ((w.alloc (.cells #[.int .i64 e, .slice B n c] 42)).alloc (.cells #[.int .i64 0, .slice none 0 0] 42)) = wa at *
    obtain ⟨x0, x1, xf⟩ := BlkAt.c2 hb0
    obtain ⟨y0, y1, yf⟩ := BlkAt.c2 hb1
    have FF := f0.trans (fr_two wa (w.heap.size + 1) (.int .i64 e) (.slice none 0 0)) (fun i hi h => by unfold eqB at h; omega)
    go_wp2_with fail
    have hr := hr.out
    exact bodyPost_ret (v := .agg #[.int .i64 e, .slice none 0 0]) (by simp [results, hr, go_sem, y0, y1]) rfl (by rw [HK.out]; exact ⟨none, 0, 0, rfl, nil_new _ _, FF⟩)
theorem isNaN_calls (w : World) (x : Nat) : Calls Try.prog 82 #[.int .u64 x] w (fun e w' => e = .returned (.bool false) ∧ w = w') := by
  go_enter Try.func82, Try.ntmps82
  go_wp2_with fail
  go_ret
  exact ⟨by simp, rfl⟩
def cmpV (x y : Nat) : Int := if x < y then -1 else if y < x then 1 else 0
theorem cmp64_calls (w : World) (x y : Nat) : Calls Try.prog 54 #[.int .u64 x, .int .u64 y] w (fun e w' => e = .returned (.int .i64 (cmpV x y)) ∧ w = w') := by
  have HV : Hid (cmpV x y = if x < y then -1 else if y < x then 1 else 0) := rfl
  generalize cmpV x y = v at *
  go_enter Try.func54, Try.ntmps54
  go_wp2_with fail
  refine (isNaN_calls w x).mono ?_
  rintro e w1 ⟨rfl, rfl⟩
  go_wp2_with fail
  refine (isNaN_calls w y).mono ?_
  rintro e w1 ⟨rfl, rfl⟩
  by_cases h1 : x < y
  · rw [if_pos h1] at HV
    have d1 : decide (x < y) = true := decide_eq_true h1
    clear h1
    go_wp2_with fail
    go_ret
    exact ⟨by rw [HV.out]; rfl, rfl⟩
  · rw [if_neg h1] at HV
    have d1 : decide (x < y) = false := decide_eq_false h1
    by_cases h2 : y < x
    · rw [if_pos h2] at HV
      have d2 : decide (y < x) = true := decide_eq_true h2
      clear h1 h2
      go_wp2_with fail
      go_ret
      exact ⟨by rw [HV.out]; rfl, rfl⟩
    · rw [if_neg h2] at HV
      have d2 : decide (y < x) = false := decide_eq_false h2
      clear h1 h2
      go_wp2_with fail
      go_ret
      exact ⟨by rw [HV.out]; rfl, rfl⟩
def judgeV (R : List TRow) (i num : Nat) : Int := if 8 ≤ i ∨ num = 0 ∨ 1099511627776 < num then 0 else if num < lastV R i then 1 else if num = lastV R i then 2 else 3
set_option maxRecDepth 100000 in
theorem judge_calls (w : World) (U : Nat → Prop) (p : Nat) (R : List TRow) (i num : Nat) (h : TblAt w U p R) : Calls Try.prog 19 #[.pointer (some ⟨p, 0, none⟩), .int .u8 i, .int .u64 num] w (fun e w' => e = .returned (.int .i64 (judgeV R i num)) ∧ w = w') := by
  have HV : Hid (judgeV R i num = if 8 ≤ i ∨ num = 0 ∨ 1099511627776 < num then 0 else if num < lastV R i then 1 else if num = lastV R i then 2 else 3) := rfl
  generalize judgeV R i num = v at *
  by_cases hb : 8 ≤ i ∨ num = 0 ∨ 1099511627776 < num
  · rw [if_pos hb] at HV
    obtain ⟨c1, hc1⟩ : ∃ c, decide ((8 : Int) ≤ i) = c := ⟨_, rfl⟩
    obtain ⟨c2, hc2⟩ : ∃ c, ((num : Int) == 0) = c := ⟨_, rfl⟩
    have hc3 : c1 = false → c2 = false → decide ((1099511627776 : Int) < num) = true := fun h1 h2 => by
      rw [h1, decide_eq_false_iff_not] at hc1
      rw [h2, beq_eq_false_iff_ne] at hc2
      exact decide_eq_true (by omega)
    clear hb h
    cases c1
    · cases c2
      · replace hc3 := hc3 rfl rfl
        go_enter Try.func19, Try.ntmps19
        go_wp2_with fail
        go_ret
        exact ⟨by rw [HV.out]; rfl, rfl⟩
      · clear hc3
        go_enter Try.func19, Try.ntmps19
        go_wp2_with fail
        go_ret
        exact ⟨by rw [HV.out]; rfl, rfl⟩
    · clear hc3
      go_enter Try.func19, Try.ntmps19
      go_wp2_with fail
      go_ret
      exact ⟨by rw [HV.out]; rfl, rfl⟩
  · rw [if_neg hb] at HV
    have d1 : decide ((8 : Int) ≤ i) = false := decide_eq_false (by omega)
    have d2 : ((num : Int) == 0) = false := by rw [beq_eq_false_iff_ne]; omega
    have d3 : decide ((1099511627776 : Int) < num) = false := decide_eq_false (by omega)
    obtain ⟨r, hr⟩ : ∃ r, R[i]? = some r := ⟨_, List.getElem?_eq_getElem (by rw [h.len]; omega)⟩
    obtain ⟨x0, _, _⟩ := h.cells hr
    have hl : lastV R i = r.num := by unfold lastV; rw [hr]; rfl
    rw [hl] at HV
    have hi : 0 ≤ (i : Int) ∧ (i : Int) < 8 := ⟨by omega, by omega⟩
    have hcv : cmpV num r.num = if num < r.num then -1 else if r.num < num then 1 else 0 := rfl
    have hcm := cmp64_calls w num r.num
    have hv : v = 2 + cmpV num r.num ∧ -1 ≤ cmpV num r.num ∧ cmpV num r.num ≤ 1 := by
      rw [HV.out, hcv]
      by_cases h1 : num < r.num
      · rw [if_pos h1, if_pos h1]; decide
      · rw [if_neg h1, if_neg h1]
        by_cases h2 : num = r.num
        · rw [if_pos h2, if_neg (by omega)]; decide
        · rw [if_neg h2, if_pos (by omega)]; decide
    generalize cmpV num r.num = cv at *
    obtain ⟨hv1, hv2, hv3⟩ := hv
    have hw : IntKind.i64.wrap (2 + cv) = v := by rw [IntKind.wrap_i64, hv1]; omega
    clear hb hr hl HV h hcv hv1 hv2 hv3
    go_enter Try.func19, Try.ntmps19
    go_wp2_with fail
    refine hcm.mono ?_
    rintro e w1 ⟨rfl, rfl⟩
    go_wp2_with fail
    go_ret
    exact ⟨rfl, rfl⟩
def judgeA (t : List T3) (i num : Nat) : Int := if 8 ≤ i ∨ num = 0 ∨ 1099511627776 < num then 0 else if num < lastA t i then 1 else if num = lastA t i then 2 else 3
theorem judgeA_calls (w : World) (U : Nat → Prop) (p : Nat) (t : List T3) (i num : Nat) (h : TblA w U p t) : Calls Try.prog 19 #[.pointer (some ⟨p, 0, none⟩), .int .u8 i, .int .u64 num] w (fun e w' => e = .returned (.int .i64 (judgeA t i num)) ∧ w = w') := by
  obtain ⟨R, h1, rfl⟩ := h
  have : judgeA (R.map TRow.abs) i num = judgeV R i num := by unfold judgeA judgeV; rw [lastA_eq]
  rw [this]; exact judge_calls w U p R i num h1
end Go.Proofs.Ytdngcheimohamaa
