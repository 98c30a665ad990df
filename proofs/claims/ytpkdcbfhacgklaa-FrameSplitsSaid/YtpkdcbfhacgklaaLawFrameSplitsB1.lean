/- What the row leans on, part 1: contracts and plain laws. -/
import Derived.Test.YtpkdcbfhacgklaaProg
import Derived.WalkKit
import Derived.Maps.AppendAt
import Derived.Lib.AppendStr
import Derived.Laws.AppendOwnNone
import Derived.Deep.Draws
import Derived.WalkSpells
import Derived.Laws.IdiomStrings
import Derived.Lib.ConvBytes
import Derived.Defers
import Derived.Laws.Pointers
import Derived.Laws.LoneSync
import Derived.RegionTactic
import Derived.RegionCalls
import Derived.ChangeAlike
import Derived.Laws.NewBlocks
import Derived.Laws.Bits64b
import Derived.Lib.SlBytesConst
import Derived.LaidEqlPtr
import Derived.Deep.RegionHeld3
import Derived.Deep.Cut
import Derived.SliceStrings
import Derived.Deep.Slices
import Derived.Laws.ResultCell
/- Memory words of this seat's proofs: frames over a set of blocks, owned rows, rows that are read. -/
namespace Go.Proofs.Ytpkdcbfhacgklaa
open Go.RowKit

/-- A fact behind a name. -/
theorem hid {p : Prop} (h : p) : Hid p := h

/-- Outside of S nothing that was there has turned. -/
structure Fr (S : Nat → Prop) (w w' : World) : Prop where
  os : w'.os = w.os
  tape : w'.tape = w.tape
  output : w'.output = w.output
  size : w.heap.size ≤ w'.heap.size
  block : ∀ k, k < w.heap.size → ¬ S k → w'.heap[k]? = w.heap[k]?

def noB : Nat → Prop := fun _ => False
def andNew (S : Nat → Prop) (w : World) : Nat → Prop := fun k => S k ∨ w.heap.size ≤ k

theorem Fr.refl (S : Nat → Prop) (w : World) : Fr S w w := ⟨rfl, rfl, rfl, Nat.le_refl _, fun _ _ _ => rfl⟩
theorem Fr.trans {S T : Nat → Prop} {a b c : World} (h : Fr S a b) (k : Fr T b c) (hT : ∀ i, i < a.heap.size → T i → S i) : Fr S a c :=
  ⟨k.os.trans h.os, k.tape.trans h.tape, k.output.trans h.output, Nat.le_trans h.size k.size,
   fun i hi hn => (k.block i (Nat.lt_of_lt_of_le hi h.size) (fun t => hn (hT i hi t))).trans (h.block i hi hn)⟩
theorem Fr.mono {S T : Nat → Prop} {a b : World} (h : Fr S a b) (hT : ∀ i, i < a.heap.size → S i → T i) : Fr T a b :=
  ⟨h.os, h.tape, h.output, h.size, fun i hi hn => h.block i hi (fun s => hn (hT i hi s))⟩
/-- Two steps over the same set and what is new. -/
theorem Fr.then {S : Nat → Prop} {a b c : World} (h : Fr S a b) (k : Fr (andNew S a) b c) : Fr S a c :=
  h.trans k fun i hi t => t.elim id fun t => absurd t (by omega)
theorem Fr.then' {S : Nat → Prop} {a b c : World} (h : Fr S a b) (k : Fr S b c) : Fr S a c := h.trans k fun _ _ t => t
theorem Fr.drew {S : Nat → Prop} {a b : World} (h : Fr S a b) : Fr S a b.drew := ⟨h.os, h.tape, h.output, h.size, h.block⟩
theorem Fr.drewN {S : Nat → Prop} {a b : World} (h : Fr S a b) (n : Nat) : Fr S a (b.drewN n) := ⟨h.os, h.tape, h.output, h.size, h.block⟩
theorem Fr.alloc {S : Nat → Prop} {a b : World} (h : Fr S a b) (o : Obj) : Fr S a (b.alloc o) :=
  h.then' ⟨rfl, rfl, rfl, by simp, fun k hk _ => Below.heap_alloc _ _ _ (by omega)⟩
theorem Fr.setCell {S : Nat → Prop} {a b : World} (h : Fr S a b) {p : Addr} (hp : S p.block ∨ a.heap.size ≤ p.block) (u : Value) : Fr S a (b.setCell p u) :=
  ⟨h.os, h.tape, h.output, by have := h.size; simpa [World.setCell] using this, fun k hk hn => by
    rw [Below.heap_setCell _ _ _ _ (fun e => by subst e; rcases hp with hp | hp; exact hn hp; omega)]
    exact h.block k hk hn⟩
theorem Fr.grown {S : Nat → Prop} {a b c : World} {row : Option Nat} (h : Fr S a b) (hg : b.grownBy c row) (hr : ∀ k, row = some k → S k ∨ a.heap.size ≤ k) : Fr S a c :=
  ⟨hg.os.trans h.os, hg.tape.trans h.tape, hg.output.trans h.output, Nat.le_trans h.size hg.size, fun k hk hn =>
    (hg.block k (Nat.lt_of_lt_of_le hk h.size) (fun e => by rcases hr k e.symm with q | q; exact hn q; omega)).trans (h.block k hk hn)⟩
theorem Fr.below {B : Nat} {w w' : World} (h : Fr (fun k => B ≤ k) w w') (hB : B ≤ w.heap.size) : Below B w w' :=
  ⟨h.os, h.tape, h.output, h.size, fun k hk => h.block k (by omega) (by omega)⟩
theorem Fr.of_below {w w' : World} (h : Below w.heap.size w w') (S : Nat → Prop) : Fr S w w' :=
  ⟨h.os, h.tape, h.output, h.size, fun k hk _ => h.block k hk⟩
theorem Fr.below0 {w w' : World} (h : Fr noB w w') : Below w.heap.size w w' :=
  ⟨h.os, h.tape, h.output, h.size, fun k hk => h.block k hk id⟩
theorem Fr.cell {S : Nat → Prop} {w w' : World} (h : Fr S w w') {p : Addr} {v : Value} (hc : w.cell? p = some v) (hS : ¬ S p.block) : w'.cell? p = some v :=
  (World.cell?_of_block (h.block p.block (World.block_lt_of_cell? w p hc) hS)).trans hc
theorem cell_al {w : World} {a : Addr} {v : Value} (h : w.cell? a = some v) (o : Obj) : (w.alloc o).cell? a = some v := ((Fr.refl noB w).alloc o).cell h id
theorem Fr.frozen {S : Nat → Prop} {w w' : World} (h : Fr S w w') {p : Addr} (hp : p.block < w.heap.size) (hS : ¬ S p.block) : w'.frozen? p = w.frozen? p :=
  World.frozen?_of_block (h.block p.block hp hS)
theorem Fr.heap {S : Nat → Prop} {w w' : World} (h : Fr S w w') {k : Nat} {o : Obj} (hc : w.heap[k]? = some o) (hS : ¬ S k) : w'.heap[k]? = some o :=
  (h.block k (Array.getElem?_eq_some_iff.1 hc).1 hS).trans hc

/-! ### Rows that are read -/
/-- The slice value at A, of n elements of size cells each, reads xs. -/
def RowAt (w : World) (A : Option Addr) (xs : List Value) : Prop :=
  ∀ j u, xs[j]? = some u → ∃ ad, A = some ad ∧ w.cell? (ad.add j) = some u
theorem RowAt.nil (w : World) (A : Option Addr) : RowAt w A [] := fun j u h => by simp at h
theorem RowAt.cell {w : World} {ad : Addr} {xs : List Value} (h : RowAt w (some ad) xs) {j : Nat} {u : Value} (hu : xs[j]? = some u) : w.cell? (ad.add j) = some u := by
  obtain ⟨ad', e, hc⟩ := h j u hu
  cases e; exact hc
theorem add_block (a : Addr) (j : Nat) : (a.add j).block = a.block := by unfold Addr.add; split <;> rfl
theorem RowAt.fr {S : Nat → Prop} {w w' : World} {A : Option Addr} {xs : List Value} (h : RowAt w A xs) (f : Fr S w w') (hS : ∀ ad, A = some ad → 0 < xs.length → ad.block < w.heap.size → ¬ S ad.block) : RowAt w' A xs := fun j u hu => by
  obtain ⟨ad, e, hc⟩ := h j u hu
  exact ⟨ad, e, f.cell hc (by rw [add_block]; exact hS ad e (by have := (List.getElem?_eq_some_iff.1 hu).1; omega) (by have := World.block_lt_of_cell? w _ hc; rwa [add_block] at this))⟩
theorem RowAt.fr0 {w w' : World} {A : Option Addr} {xs : List Value} (h : RowAt w A xs) (f : Fr noB w w') : RowAt w' A xs := h.fr f (fun _ _ _ _ => id)
def eqB (n : Nat) : Nat → Prop := fun k => k = n
/-- The blocks from n on. -/
def upB (n : Nat) : Nat → Prop := fun k => n ≤ k
theorem RowAt.up {w w' : World} {A : Option Addr} {xs : List Value} (h : RowAt w A xs) (f : Fr (upB w.heap.size) w w') : RowAt w' A xs := h.fr f (fun _ _ _ h1 h2 => by unfold upB at h2; omega)
theorem Fr.up0 {w w' : World} (h : Fr noB w w') (n : Nat) : Fr (upB n) w w' := h.mono fun _ _ h => h.elim
/-- All that is turned are blocks that were not there: nothing of what was there. -/
theorem Fr.none {w w' : World} (h : Fr (upB w.heap.size) w w') : Fr noB w w' := h.mono fun _ h1 h2 => by unfold upB at h2; omega
theorem RowAt.some_of {w : World} {A : Option Addr} {xs : List Value} (h : RowAt w A xs) (hn : 0 < xs.length) : ∃ ad, A = some ad := by
  obtain ⟨ad, e, _⟩ := h 0 xs[0] (by simp [hn])
  exact ⟨ad, e⟩
theorem RowAt.lt {w : World} {ad : Addr} {xs : List Value} (h : RowAt w (some ad) xs) (hn : 0 < xs.length) : ad.block < w.heap.size := by
  have := World.block_lt_of_cell? w _ (h.cell (j := 0) (u := xs[0]) (by simp [hn]))
  rwa [add_block] at this

/-! ### Rows that are owned -/
theorem own_slice {w : World} {base n : Nat} {e : TypeId} {size : Nat} {v : Value} {xs : List Value} (h : w.ownsRow base e size v n xs) : ∃ A c, v = .slice A n c := by
  rcases h.2 with ⟨rfl, rfl⟩ | ⟨g, cap, cur, rfl, _⟩
  · exact ⟨none, 0, rfl⟩
  · exact ⟨_, cap, rfl⟩
theorem own_row {w : World} {base n : Nat} {e : TypeId} {size : Nat} {A : Option Addr} {m c : Nat} {xs : List Value} (h : w.ownsRow base e size (.slice A m c) n xs) : RowAt w A xs := fun j u hu => by
  rcases h.2 with ⟨e1, rfl⟩ | ⟨g, cap, cur, e1, _⟩
  · have := h.1
    have hx : xs = [] := List.eq_nil_of_length_eq_zero (by simpa using this)
    subst hx; simp at hu
  · cases e1
    exact ⟨_, rfl, h.cells (g := g) rfl j u hu⟩
theorem own_mono {w : World} {b b' n : Nat} {e : TypeId} {size : Nat} {v : Value} {xs : List Value} (h : w.ownsRow b e size v n xs) (hb : ∀ g, v.ownBlock = some g → b' ≤ g) : w.ownsRow b' e size v n xs := by
  refine ⟨h.1, ?_⟩
  rcases h.2 with hn | ⟨g, cap, cur, rfl, _, rest⟩
  · exact .inl hn
  · exact .inr ⟨g, cap, cur, rfl, hb g rfl, rest⟩
theorem own_fr {S : Nat → Prop} {w w' : World} {b n : Nat} {e : TypeId} {size : Nat} {v : Value} {xs : List Value} (h : w.ownsRow b e size v n xs) (f : Fr S w w') (hS : ∀ g, v.ownBlock = some g → ¬ S g) : w'.ownsRow b e size v n xs := by
  refine ⟨h.1, ?_⟩
  rcases h.2 with hn | ⟨g, cap, cur, rfl, hb, hg, rest⟩
  · exact .inl hn
  · exact .inr ⟨g, cap, cur, rfl, hb, f.heap hg (hS g rfl), rest⟩
theorem own_lt {w : World} {b n : Nat} {e : TypeId} {size : Nat} {v : Value} {xs : List Value} (h : w.ownsRow b e size v n xs) {g : Nat} (hg : v.ownBlock = some g) : g < w.heap.size := (h.lt g hg).2
theorem own_ne {w : World} {b n : Nat} {e e' : TypeId} {size : Nat} {v : Value} {xs : List Value} (h : w.ownsRow b e size v n xs) {g k : Nat} (hg : v.ownBlock = some g) {c : Array Value} {fz : Nat × Nat} (hk : w.heap[k]? = some (.cells c e' fz)) (hne : e ≠ e') : g ≠ k := by
  rcases h.2 with ⟨rfl, _⟩ | ⟨g', cap, cur, rfl, _, hh, _⟩
  · simp [Value.ownBlock] at hg
  · simp [Value.ownBlock] at hg
    subst hg
    intro e2; subst e2
    rw [hh] at hk; injection hk with hk; injection hk with _ h2; exact hne h2

/-- What append asks of a slice type: its element type's row of the table. -/
structure AppTy (P : Program) (t e : TypeId) (z : Value) (size bytes : Nat) : Prop where
  und : P.underlying t = some (.slice e)
  info : (P.info? e).map (fun i => (i.zero, i.size, i.bytes)) = some (some z, size, bytes)
  zs : z.cells.size = size
  pos : 0 < size

theorem wpList_app {P : Program} {ops : Array Oper} {rest : List Oper} {o : Oper} {a : Act} {w : World} {Q : Exit → Act → World → Prop} {t e : TypeId} {z : Value} {size bytes : Nat} (A : AppTy P t e z size bytes)
    (hgd : o.guard = none) (s x : Operand) (ho : o.op = .call { callee := .builtin .append, args := #[s, x], argTypes := #[t, t] })
    (v : Value) (n : Nat) (xs : List Value) (hs : a.eval s = v) (hown : w.ownsRow 0 e size v n xs)
    (B : Option Addr) (m c : Nat) (news : List Value) (hx : a.eval x = .slice B m c) (hl : news.length = m * size) (hnews : RowAt w B news) (h1 : ∀ u ∈ news, u.oneCell' = true)
    (hB : B = none → m = 0 ∧ c = 0)
    (hbytes : (n + m) * bytes ≤ 140737488355328) (h63 : n + m ≤ 140737488355328)
    (h : ∀ A' c' w', w'.ownsRow 0 e size (.slice A' (n + m) c') (n + m) (xs ++ news) → w.grownBy w' v.ownBlock → ((Value.slice A' (n + m) c').ownBlock = v.ownBlock ∨ (Value.slice A' (n + m) c').ownBlock = some w.heap.size) → wpList P ops Q rest (a.put o.dst (.slice A' (n + m) c')) w') :
    wpList P ops Q (o :: rest) a w := by
  obtain ⟨i, hi, hz, hsz, hby⟩ := info_parts A.info
  have hm : n + m ≤ maxLen := by unfold maxLen; omega
  cases B with
  | some ad =>
    refine wpList_append_own_at w hgd s x t ho 0 e i z size bytes A.und hi hz hsz hby A.zs A.pos v n xs hs hown ad m c news hx hl (fun j u hu => hnews.cell hu) h1 hm hbytes (Nat.zero_le _) ?_
    intro v' w' h1 h2 _ h4
    obtain ⟨A', c', rfl⟩ := own_slice h1
    exact h A' c' w' h1 h2 h4
  | none =>
    obtain ⟨rfl, rfl⟩ := hB rfl
    have hn : news = [] := List.eq_nil_of_length_eq_zero (by simpa using hl)
    subst hn
    obtain ⟨A', c', rfl⟩ := own_slice hown
    exact wpList_append_own_none hgd s x t ho 0 e i size A.und hi _ n xs hs hown hx (h A' c' w (by simpa using hown) ⟨rfl, rfl, rfl, Nat.le_refl _, fun _ _ _ => rfl⟩ (Or.inl rfl))

open Go.Lib in
/-- A string's bytes put behind an owned row, and where the row lies then. -/
theorem run_app_str {P : Program} (w : World) (t u ty e : TypeId) (i : TypeInfo) (ht : P.underlying t = some (.slice e)) (hu : P.underlying u = some .string) (hi : P.info? e = some i) (hz : i.zero = some (.int .u8 0))
    (hsize : i.size = 1) (hby : i.bytes = 1) (v : Value) (n : Nat) (xs : List Value) (hown : w.ownsRow 0 e 1 v n xs) (s : ByteArray)
    (h63 : n + s.size ≤ 140737488355328) :
    ∃ v' w', (Builtin.append_ #[t, u] ty #[v, .string s]).run P w = .ok v' w' ∧ w'.ownsRow 0 e 1 v' (n + s.size) (xs ++ strCells s) ∧ w.grownBy w' v.ownBlock ∧ (v'.ownBlock = v.ownBlock ∨ v'.ownBlock = some w.heap.size) := by
  have h63' : n + s.size ≤ maxLen := by simp only [maxLen]; omega
  have hxl : xs.length = n := by simpa using hown.1
  have hlen : (xs ++ strCells s).length = (n + s.size) * 1 := by rw [List.length_append, hxl, strCells_length, Nat.mul_one]
  have grown : ∀ (old : Nat), old < n + s.size → ∀ (row : Option Nat),
      (w.drew.alloc (.cells (xs.toArray ++ (strCells s).toArray ++ Builtin.zeroCells (Value.int .u8 0).cells (grownCap w (n + s.size) old e - (n + s.size))) e)).ownsRow 0 e 1
        (.slice (some ⟨w.heap.size, 0, none⟩) (n + s.size) (grownCap w (n + s.size) old e)) (n + s.size) (xs ++ strCells s) ∧
      w.grownBy (w.drew.alloc (.cells (xs.toArray ++ (strCells s).toArray ++ Builtin.zeroCells (Value.int .u8 0).cells (grownCap w (n + s.size) old e - (n + s.size))) e)) row := by
    intro old ho row
    have hge := grownCap_ge w (n + s.size) old e
    have hcm : grownCap w (n + s.size) old e ≤ maxLen := grownCap_le_maxLen w (n + s.size) old e h63'
    refine ⟨⟨hlen, .inr ⟨w.heap.size, _, _, rfl, Nat.zero_le _, heap_alloc_new w.drew _, hge, hcm, ?_, ?_⟩⟩, ⟨rfl, rfl, rfl, by simp, fun k hk _ => Below.heap_alloc w.drew _ k hk⟩⟩
    · have hz1 : (Value.int IntKind.u8 0).cells.size = 1 := rfl
      simp only [Array.size_append, List.size_toArray, size_zeroCells, hz1, hxl, strCells_length]
      omega
    · simp only [Array.toList_append, List.append_assoc]
      rw [← List.append_assoc, ← hlen]
      exact List.take_left
  rcases hown.2 with ⟨rfl, rfl⟩ | ⟨g, cap, cur, rfl, hbg, hg, hnc, hcm, hcs, htake⟩
  · obtain rfl : xs = [] := List.eq_nil_of_length_eq_zero hxl
    by_cases hm : s.size = 0
    · obtain ⟨v', w', hr, h1, h2, h3⟩ := run_append_own_string (P := P) w w.heap.size t u ty e i ht hu hi hz hsize hby _ 0 [] (World.ownsRow_nil w w.heap.size e 1) s h63' h63 (Nat.le_refl _)
      have hv : v' = .slice none 0 0 := h3.2 ⟨rfl, hm⟩
      refine ⟨v', w', hr, own_mono h1 (fun _ _ => Nat.zero_le _), h2, Or.inl (by rw [hv])⟩
    · have hr := run_append_nil_string (P := P) w t u ty e i (.int .u8 0) ht hu hi hz s (by omega) (by omega) (by rw [hby]; omega)
      have hgr := grown 0 (by omega) (Value.ownBlock (.slice none 0 0))
      simp only [Nat.zero_add, List.nil_append, Array.empty_append] at hgr ⊢
      have e1 : (s.data.map fun b => Value.int .u8 b.toNat) = (strCells s).toArray := by
        apply Array.ext'
        simp [strCells]
      rw [e1] at hr
      exact ⟨_, _, hr, hgr.1, hgr.2, Or.inr rfl⟩
  · by_cases hroom : n + s.size ≤ cap
    · have hcs' : cur.size = cap := by simpa using hcs
      have hr := run_append_room_string (P := P) w t u ty e i ht hu hi hsize g n cap cur hg s hroom (by omega)
      refine ⟨_, _, hr, ⟨hlen, .inr ⟨g, cap, _, rfl, hbg, setRow_heap w g cur _ e _ hg, hroom, hcm, ?_, ?_⟩⟩, ⟨rfl, rfl, rfl, by simp, fun k _ hk => setRow_other w g k _ (fun e => hk (by simp [Value.ownBlock, e]))⟩, Or.inl rfl⟩
      · simp only [List.size_toArray, List.length_append, List.length_take, List.length_drop, Array.length_toList, strCells_length]
        omega
      · have ht' : cur.toList.take n = xs := by simpa using htake
        rw [ht', ← hlen]
        exact List.take_left
    · have holds : ∀ j u, xs[j]? = some u → w.cell? ((⟨g, 0, none⟩ : Addr).add j) = some u := hown.cells (g := g) rfl
      have hr := run_append_grow_string (P := P) w t u ty e i (.int .u8 0) ht hu hi hz ⟨g, 0, none⟩ n cap xs (by rw [hsize]; simpa using hxl) holds s (by omega) (by omega) (by rw [hby]; exact growslice_fits (by omega) (by omega))
      have hgr := grown cap (by omega) (Value.ownBlock (.slice (some ⟨g, 0, none⟩) n cap))
      exact ⟨_, _, hr, hgr.1, hgr.2, Or.inr rfl⟩

theorem wpList_app_str {P : Program} {ops : Array Oper} {rest : List Oper} {o : Oper} {a : Act} {w : World} {Q : Exit → Act → World → Prop} {t u e : TypeId} (A : AppTy P t e (.int .u8 0) 1 1) (hu : P.underlying u = some .string)
    (hgd : o.guard = none) (sl x : Operand) (ho : o.op = .call { callee := .builtin .append, args := #[sl, x], argTypes := #[t, u] })
    (v : Value) (n : Nat) (xs : List Value) (hs : a.eval sl = v) (hown : w.ownsRow 0 e 1 v n xs) (s : ByteArray) (hx : a.eval x = .string s)
    (h63 : n + s.size ≤ 140737488355328)
    (h : ∀ A' c' w', w'.ownsRow 0 e 1 (.slice A' (n + s.size) c') (n + s.size) (xs ++ Lib.strCells s) → w.grownBy w' v.ownBlock → ((Value.slice A' (n + s.size) c').ownBlock = v.ownBlock ∨ (Value.slice A' (n + s.size) c').ownBlock = some w.heap.size) → wpList P ops Q rest (a.put o.dst (.slice A' (n + s.size) c')) w') :
    wpList P ops Q (o :: rest) a w := by
  obtain ⟨i, hi, hz, hsz, hby⟩ := info_parts A.info
  refine wpList_plain hgd fun K hK => ?_
  obtain ⟨v', w', hr, h2, h3, h4⟩ := run_app_str (P := P) w t u o.type e i A.und hu hi hz hsz hby v n xs hown s h63
  obtain ⟨A', c', rfl⟩ := own_slice h2
  unfold Oper.wp execOp
  simp only [ho, resolve, invoke, builtin, Sem.run_bind, Sem.run_pure, Result.andThen_ok, List.map_toArray, List.map_cons, List.map_nil, hs, hx, hr]
  exact hK _ _ (h A' c' w' h2 h3 h4)
end Go.Proofs.Ytpkdcbfhacgklaa
/- Contracts of octet.Writer. -/
namespace Go.Proofs.Ytpkdcbfhacgklaa
open Go.RowKit

def bcells (bs : List UInt8) : List Value := bs.map fun b => Value.int .u8 b.toNat
theorem bcells_append (a b : List UInt8) : bcells (a ++ b) = bcells a ++ bcells b := by simp [bcells]
theorem bcells_length (a : List UInt8) : (bcells a).length = a.length := by simp [bcells]
theorem bcells_str (s : ByteArray) : Lib.strCells s = bcells s.data.toList := rfl
theorem bcells_one (a : List UInt8) : ∀ u ∈ bcells a, u.oneCell' = true := by
  intro u hu; simp only [bcells, List.mem_map] at hu; obtain ⟨b, _, rfl⟩ := hu; rfl

theorem Try.app8 : AppTy Try.prog 46 5 (.int .u8 0) 1 1 := ⟨Try.underlying46, by kernel_rfl, rfl, by decide⟩

/-- At p a Writer with the bytes bs, in blocks of S. -/
structure WrAt (w : World) (S : Nat → Prop) (p : Nat) (bs : List UInt8) : Prop where
  ex : ∃ A c T, T ≠ 5 ∧ w.heap[p]? = some (.cells #[.slice A bs.length c] T (0, 0)) ∧ w.ownsRow 0 5 1 (.slice A bs.length c) bs.length (bcells bs) ∧ S p ∧ ∀ k, (Value.slice A bs.length c).ownBlock = some k → S k

theorem WrAt.fr {w w' : World} {S T : Nat → Prop} {p : Nat} {bs : List UInt8} (h : WrAt w S p bs) (f : Fr T w w') (hd : ∀ k, k < w.heap.size → S k → ¬ T k) : WrAt w' S p bs := by
  obtain ⟨A, c, ty, h1, h2, h3, h4, h5⟩ := h.ex
  exact ⟨A, c, ty, h1, f.heap h2 (hd p (Array.getElem?_eq_some_iff.1 h2).1 h4), own_fr h3 f (fun g hg => hd g (own_lt h3 hg) (h5 g hg)), h4, h5⟩
theorem WrAt.mono {w : World} {S T : Nat → Prop} {p : Nat} {bs : List UInt8} (h : WrAt w S p bs) (hd : ∀ k, k < w.heap.size → S k → T k) : WrAt w T p bs := by
  obtain ⟨A, c, ty, h1, h2, h3, h4, h5⟩ := h.ex
  exact ⟨A, c, ty, h1, h2, h3, hd p (Array.getElem?_eq_some_iff.1 h2).1 h4, fun g hg => hd g (own_lt h3 hg) (h5 g hg)⟩

/-- What is left behind the append and the store. -/
theorem WrAt.stored {w wr wa w1 : World} {S : Nat → Prop} {p m d : Nat} {bs xs : List UInt8} {A A' : Option Addr} {c c' T : Nat} (hT : T ≠ 5) (hm : bs.length = m) (hd : xs.length = d)
    (hf : Fr S w wr) (hp : wr.heap[p]? = some (.cells #[.slice A m c] T (0, 0))) (hown : wr.ownsRow 0 5 1 (.slice A m c) m (bcells bs))
    (hSp : andNew S w p) (hS : ∀ k, (Value.slice A m c).ownBlock = some k → andNew S w k) (ha : Fr noB wr wa)
    (hown' : w1.ownsRow 0 5 1 (.slice A' (m + d) c') (m + d) (bcells bs ++ bcells xs)) (hg : wa.grownBy w1 (Value.slice A m c).ownBlock)
    (hat : (Value.slice A' (m + d) c').ownBlock = (Value.slice A m c).ownBlock ∨ (Value.slice A' (m + d) c').ownBlock = some wa.heap.size) :
    WrAt (w1.setCell ⟨p, 0, none⟩ (.slice A' (m + d) c')) (andNew S w) p (bs ++ xs) ∧ Fr S w (w1.setCell ⟨p, 0, none⟩ (.slice A' (m + d) c')) ∧
    w1.cell? ⟨p, 0, none⟩ = some (.slice A m c) ∧ w1.frozen? ⟨p, 0, none⟩ = false := by
  have hpa := ha.heap hp id
  have hne : (Value.slice A m c).ownBlock ≠ some p := fun e => own_ne (own_fr hown ha (fun _ _ => id)) e hpa hT.symm rfl
  have hp1 : w1.heap[p]? = some (.cells #[.slice A m c] T (0, 0)) := by
    rw [hg.block p (Array.getElem?_eq_some_iff.1 hpa).1 (fun e => hne e.symm)]; exact hpa
  have hS' : ∀ k, (Value.slice A' (m + d) c').ownBlock = some k → andNew S w k := by
    intro k hk
    rcases hat with e | e
    · exact hS k (e ▸ hk)
    · rw [hk] at e; cases e
      have := hf.size; have := ha.size; exact Or.inr (by omega)
  subst hm hd
  refine ⟨⟨A', c', T, hT, ?_, ?_, hSp, ?_⟩, ?_, cell_of_one hp1, free_of_one hp1⟩
  · rw [List.length_append]; exact one_setCell hp1
  · rw [List.length_append, bcells_append]
    exact ownsRow_setCell_other hown' (fun e => own_ne hown' e hp1 hT.symm rfl) _
  · rw [List.length_append]; exact hS'
  · refine Fr.setCell (Fr.grown (hf.trans (T := noB) ha (fun _ _ h => h.elim)) hg (fun k hk => hS k hk)) (p := ⟨p, 0, none⟩) hSp _
theorem WrAt.open' {w : World} {S : Nat → Prop} {p : Nat} {bs : List UInt8} (h : WrAt w S p bs) : ∃ A m c T, Hid (bs.length = m) ∧ T ≠ 5 ∧ w.heap[p]? = some (.cells #[.slice A m c] T (0, 0)) ∧ w.ownsRow 0 5 1 (.slice A m c) m (bcells bs) ∧ S p ∧ (∀ k, (Value.slice A m c).ownBlock = some k → S k) ∧ w.cell? ⟨p, 0, none⟩ = some (.slice A m c) := by
  obtain ⟨A, c, T, h1, h2, h3, h4, h5⟩ := h.ex
  exact ⟨A, _, c, T, rfl, h1, h2, h3, h4, h5, cell_of_one h2⟩

/-- The bytes of a number, lowest first. -/
def leB : Nat → Nat → List UInt8
  | 0, _ => []
  | n + 1, x => UInt8.ofNat x :: leB n (x / 256)
theorem leB_length (n x : Nat) : (leB n x).length = n := by induction n generalizing x <;> simp [leB, *]
theorem leB_snoc (n x : Nat) : leB (n + 1) x = leB n x ++ [UInt8.ofNat (x / 256 ^ n)] := by
  induction n generalizing x with
  | zero => simp [leB]
  | succ n ih =>
    rw [leB, ih (x / 256), leB, Nat.div_div_eq_div_mul, Nat.pow_succ, Nat.mul_comm (256 ^ n) 256]
    rfl

theorem cell_one_row (w : World) (x : Value) (t : TypeId) : RowAt (w.alloc (.cells #[x] t)) (some ⟨w.heap.size, 0, none⟩) [x] := fun j u hu => ⟨_, rfl, cell_one_new w x t j u hu⟩

theorem u8_one (n : Nat) : [Value.int .u8 ((n : Int) % 256)] = bcells [UInt8.ofNat n] := by
  simp [bcells]

set_option maxHeartbeats 800000 in
theorem num_calls (w : World) (S : Nat → Prop) (p : Nat) (bs : List UInt8) (x n : Nat) (h : WrAt w S p bs) (hn : n ≤ 8) (hl : bs.length + n ≤ 1000000000000) :
    Calls Try.prog 101 #[.pointer (some ⟨p, 0, none⟩), .int .u64 x, .int .i64 n] w fun e w' =>
      e = .returned (.pointer (some ⟨p, 0, none⟩)) ∧ WrAt w' (andNew S w) p (bs ++ leB n x) ∧ Fr S w w' := by
  go_enter Try.func101, Try.ntmps101
  go_wp2_with fail
  go_loopw [1, 8] (fun y i wr => ∃ k : Nat, k ≤ n ∧ i = .int .i64 k ∧ y = .int .u64 (x / 256 ^ k : Nat) ∧ WrAt wr (andNew S w) p (bs ++ leB k x) ∧ Fr S w wr) (fun _ i _ => n - (intOf i).toNat)
  case atStart => exact ⟨0, Nat.zero_le _, rfl, by simp, by rw [leB, List.append_nil]; exact h.mono (fun k _ hk => Or.inl hk), Fr.refl _ _⟩
  case round =>
    obtain ⟨k, hk, rfl, rfl, hw, hf⟩ := hrel
    by_cases hkn : k < n
    · have hxs : bs ++ leB (k + 1) x = (bs ++ leB k x) ++ [UInt8.ofNat (x / 256 ^ k)] := by rw [leB_snoc, List.append_assoc]
      have hll : (bs ++ leB k x).length ≤ 1000000000000 := by rw [List.length_append, leB_length]; omega
      generalize bs ++ leB k x = xs at *
      obtain ⟨y, hy⟩ : ∃ y, y = x / 256 ^ k := ⟨_, rfl⟩
      have HX := hid hxs; clear hxs
      have HY : Hid (y / 256 = x / 256 ^ (k + 1)) := by unfold Hid; rw [hy, Nat.div_div_eq_div_mul, Nat.pow_succ]
      rw [← hy] at *
      have HE := hid hy; clear hy
      obtain ⟨A, m, c, T, HM, hT, hp, hown, hSp, hS, hc⟩ := hw.open'
      have hm : m ≤ 1000000000000 := by rw [← HM.out]; exact hll
      go_wp2_with (at_builtin; refine wpList_app Try.app8 rfl (.tmp 14) (.tmp 17) rfl _ m (bcells xs) rfl (hown.alloc _) _ 1 1 [.int .u8 (y % 256 : Int)] rfl rfl (cell_one_row _ _ _) (fun u hu => by simp at hu; subst hu; rfl) (by simp) (by omega) (by omega) ?_)
      intro A' c' w1 hown' hg hat
      rw [u8_one] at hown'
      obtain ⟨r1, r2, r3, r4⟩ := WrAt.stored hT HM.out (xs := [UInt8.ofNat y]) rfl hf hp hown hSp hS ((Fr.refl noB wr).alloc _) hown' hg (by simpa using hat)
      clear hown' hg hat hp hown hS hSp hc hf hw
      go_wp2
      go_roundw
      case rel => exact ⟨k + 1, by omega, by go_num, by rw [← HY.out]; go_num, by rw [HX.out]; exact r1, r2⟩
      case measure => simp [intOf]; omega
    · have : k = n := by omega
      subst this
      go_wp2_with fail
      go_ret
      exact ⟨rfl, hw, hf⟩
end Go.Proofs.Ytpkdcbfhacgklaa
/- bytes.Clone. -/
namespace Go.Proofs.Ytpkdcbfhacgklaa
open Go.RowKit

/-- A slice of bytes of one's own, in new blocks. -/
structure NewBytes (w w' : World) (v : Value) (xs : List UInt8) : Prop where
  own : w'.ownsRow w.heap.size 5 1 v xs.length (bcells xs)
  fr : Fr noB w w'

def CloneP (w : World) (B : Option Addr) (n : Nat) (xs : List UInt8) (e : Ending) (w' : World) : Prop :=
  ∃ A c, e = .returned (.slice A n c) ∧ w'.ownsRow w.heap.size 5 1 (.slice A n c) n (bcells xs) ∧ Fr noB w w' ∧ (A = none ↔ B = none)

set_option maxRecDepth 100000 in
theorem clone_calls (w : World) (B : Option Addr) (n cap : Nat) (xs : List UInt8) (hx : RowAt w B (bcells xs)) (hn : xs.length = n) (hB : B = none → n = 0 ∧ cap = 0) (hl : n ≤ 1000000000000) :
    Calls Try.prog 72 #[.slice B n cap] w (CloneP w B n xs) := by
  have HN := hid hn; clear hn
  have heq := fun (w : World) (a : Option Addr) (n c : Nat) => Lib.run_eql_slice_nil (P := Try.prog) w 46 5 a n c 0 0 Try.underlying46
  cases B with
  | none =>
    obtain ⟨rfl, rfl⟩ := hB rfl
    go_enter Try.func72, Try.ntmps72
    go_wp2
    go_ret
    have hxs : xs = [] := List.eq_nil_of_length_eq_zero HN.out
    subst hxs
    exact ⟨none, 0, rfl, World.ownsRow_nil _ _ _ _, Fr.refl _ _, by simp⟩
  | some ad =>
    have hown : (w.alloc (.cells #[] 5)).ownsRow 0 5 1 (.slice (some ⟨w.heap.size, 0, none⟩) 0 0) 0 [] := World.ownsRow_made w #[] 0 (Nat.zero_le _) (by unfold maxLen; omega) rfl
    have hx1 : 0 < n → ad.block < w.heap.size := fun h0 => hx.lt (by rw [bcells_length, HN.out]; exact h0)
    have hx2 : RowAt (w.alloc (.cells #[] 5)) (some ad) (bcells xs) := hx.fr0 ((Fr.refl noB w).alloc _)
    have hl' : Hid (n ≤ 1000000000000) := hl
    clear hl
    go_enter Try.func72, Try.ntmps72
    go_wp2_with (at_builtin; refine wpList_app Try.app8 rfl (.tmp 5) (.tmp 6) rfl _ 0 [] rfl hown (some ad) n cap (bcells xs) rfl (by rw [bcells_length, HN.out, Nat.mul_one]) hx2 (bcells_one _) (by simp) (by have := hl'.out; omega) (by have := hl'.out; omega) ?_)
    intro A' c' w1 hown' hg hat
    go_wp2
    go_ret
    have hat' : ∃ k, (Value.slice A' n c').ownBlock = some k ∧ w.heap.size ≤ k := by
      rcases hat with e | e
      · exact ⟨_, e, Nat.le_refl _⟩
      · exact ⟨_, e, by simp⟩
    refine ⟨A', c', rfl, own_mono hown' ?_, ?_, ?_⟩
    · obtain ⟨k, e, hk⟩ := hat'
      intro g hg; rw [e] at hg; cases hg; exact hk
    · refine Fr.grown ((Fr.refl noB w).alloc _) hg (fun k hk => Or.inr ?_)
      simp [Value.ownBlock] at hk; omega
    · obtain ⟨k, e, hk⟩ := hat'
      constructor
      · rintro rfl; simp [Value.ownBlock] at e
      · intro h; cases h
end Go.Proofs.Ytpkdcbfhacgklaa
/- []byte as a string, and a string as []byte. -/
namespace Go.Proofs.Ytpkdcbfhacgklaa
open Go.RowKit

def mkS (l : List UInt8) : ByteArray := ⟨l.toArray⟩
theorem mkS_data (l : List UInt8) : (mkS l).data.toList = l := rfl
theorem mkS_toList (l : List UInt8) : (mkS l).toList = l := by rw [ByteArray.toList_eq]; rfl
theorem mkS_size (l : List UInt8) : (mkS l).size = l.length := by simp [mkS, ByteArray.size]
theorem mkS_inj {a b : List UInt8} : mkS a = mkS b ↔ a = b := ⟨fun h => by rw [← mkS_data a, h, mkS_data], fun h => by rw [h]⟩
theorem mkS_of (s : ByteArray) : mkS s.data.toList = s := ByteArray.ext (Array.ext' rfl)

theorem Try.toStr {w : World} {A : Option Addr} {l : List UInt8} (h : RowAt w A (bcells l)) {n : Nat} (hn : l.length = n) (c : Nat) :
    (convert 46 9 (.slice A n c)).run Try.prog w = .ok (.string (mkS l)) w := by
  subst hn
  cases A with
  | some a =>
    refine run_convert_bytes_back w _ _ 5 a c l Try.underlying46 Try.underlying5 Try.underlying9 (fun j hj => h.cell ?_)
    simp [bcells, hj]
  | none =>
    have : l = [] := by
      rcases l with _ | ⟨b, l⟩
      · rfl
      · obtain ⟨ad, e⟩ := h.some_of (by simp [bcells]); cases e
    subst this
    rw [run_convert_bytes_string w _ _ 5 none _ c Try.underlying46 Try.underlying5 Try.underlying9]
    simp [Conv.bytesToString]
    rfl

theorem new_row (w : World) (C : Array Value) (t : TypeId) : RowAt (w.alloc (.cells C t)) (some ⟨w.heap.size, 0, none⟩) C.toList := fun j u hu => by
  refine ⟨_, rfl, ?_⟩
  have e : (⟨w.heap.size, 0, none⟩ : Addr).add j = ⟨w.heap.size, j, none⟩ := by unfold Addr.add; split <;> simp_all
  rw [e, cell_of_row _ _ _ _ _ _ (heap_alloc_new w _)]
  simpa using hu
theorem Try.oneStr (w : World) (y : Nat) : (convert 46 9 (.slice (some ⟨w.heap.size, 0, none⟩) 1 1)).run Try.prog (w.alloc (.cells #[.int .u8 (y % 256 : Int)] 5)) =
    .ok (.string (mkS [UInt8.ofNat y])) (w.alloc (.cells #[.int .u8 (y % 256 : Int)] 5)) := by
  refine Try.toStr (l := [UInt8.ofNat y]) ?_ rfl 1
  have := new_row w #[.int .u8 (y % 256 : Int)] 5
  rw [show bcells [UInt8.ofNat y] = (#[Value.int .u8 (y % 256 : Int)] : Array Value).toList from (u8_one y).symm]
  exact this

theorem Try.fromStr (w : World) (s : ByteArray) : (convert 9 46 (.string s)).run Try.prog w = .ok (.slice (some ⟨w.heap.size, 0, none⟩) s.size (grownCap w s.size 0 5)) (Lib.bytesWorld w 5 s) :=
  Lib.run_convert_string_bytes w _ _ _ s Try.underlying9 Try.underlying46 Try.underlying5
theorem bytesW_fr (w : World) (s : ByteArray) : Fr noB w (Lib.bytesWorld w 5 s) := by
  refine ⟨?_, ?_, ?_, by rw [Lib.bytesWorld_size]; omega, fun k hk _ => Lib.bytesWorld_at_old w _ s k hk⟩
  all_goals
    unfold Lib.bytesWorld World.freeze
    split <;> rfl
theorem bytesW_row (w : World) (s : ByteArray) : RowAt (Lib.bytesWorld w 5 s) (some ⟨w.heap.size, 0, none⟩) (bcells s.data.toList) := fun j u hu => by
  refine ⟨_, rfl, ?_⟩
  have e : (⟨w.heap.size, 0, none⟩ : Addr).add j = ⟨w.heap.size, j, none⟩ := by unfold Addr.add; split <;> simp_all
  have hj : j < s.size := by have := (List.getElem?_eq_some_iff.1 hu).1; simpa [bcells] using this
  rw [e, Lib.bytesWorld_cell w _ s j hj]
  simp only [bcells, List.getElem?_map] at hu
  rw [List.getD_eq_getElem?_getD]
  cases h : s.data.toList[j]? with
  | none => rw [h] at hu; simp at hu
  | some b => rw [h] at hu; simpa using hu
end Go.Proofs.Ytpkdcbfhacgklaa
/- A block of cells, whole. -/
namespace Go.Proofs.Ytpkdcbfhacgklaa
open Go.RowKit
/-! ### A block of cells, whole -/
def BlkAt (w : World) (p : Nat) (T : TypeId) (C : Array Value) : Prop := w.heap[p]? = some (.cells C T (0, 0))
theorem BlkAt.fr {S : Nat → Prop} {w w' : World} {p : Nat} {T : TypeId} {C : Array Value} (h : BlkAt w p T C) (f : Fr S w w') (hp : ¬ S p) : BlkAt w' p T C := f.heap h hp
theorem BlkAt.cell {w : World} {p : Nat} {T : TypeId} {C : Array Value} (h : BlkAt w p T C) {k : Nat} {v : Value} (hk : C[k]? = some v) : w.cell? ⟨p, k, none⟩ = some v := by
  rw [cell_of_row _ _ _ _ _ _ h]; exact hk
theorem BlkAt.free {w : World} {p : Nat} {T : TypeId} {C : Array Value} (h : BlkAt w p T C) (k : Nat) : w.frozen? ⟨p, k, none⟩ = false := by
  unfold BlkAt at h
  simp [World.frozen?, h]
theorem BlkAt.set {w : World} {p : Nat} {T : TypeId} {C : Array Value} (h : BlkAt w p T C) (k : Nat) (v : Value) : BlkAt (w.setCell ⟨p, k, none⟩ v) p T (C.setIfInBounds k v) := by
  unfold BlkAt at *
  simp only [World.setCell, Array.getElem?_modify, h]
  simp
theorem BlkAt.new (w : World) (C : Array Value) (T : TypeId) : BlkAt (w.alloc (.cells C T)) w.heap.size T C := by
  show (w.heap.push _)[w.heap.size]? = _
  simp
theorem BlkAt.al {w : World} {p : Nat} {T : TypeId} {C : Array Value} (h : BlkAt w p T C) (o : Obj) : BlkAt (w.alloc o) p T C := ((Fr.refl noB w).alloc o).heap h id
theorem al_size (w : World) (o : Obj) : (w.alloc o).heap.size = w.heap.size + 1 := Array.size_push _
theorem BlkAt.drew {w : World} {p : Nat} {T : TypeId} {C : Array Value} (h : BlkAt w p T C) : BlkAt w.drew p T C := h
theorem BlkAt.lt {w : World} {p : Nat} {T : TypeId} {C : Array Value} (h : BlkAt w p T C) : p < w.heap.size := (Array.getElem?_eq_some_iff.1 h).1
theorem fr_set1 (w : World) (p k : Nat) (v : Value) : Fr (eqB p) w (w.setCell ⟨p, k, none⟩ v) := (Fr.refl (eqB p) w).setCell (p := ⟨p, k, none⟩) (Or.inl rfl) v
theorem sib_ne {C : Array Value} {i j : Nat} {v : Value} (h : i ≠ j) : (C.setIfInBounds i v)[j]? = C[j]? := by simp [Array.getElem?_setIfInBounds, h]
theorem sib_eq {C : Array Value} {i : Nat} {v : Value} (h : i < C.size) : (C.setIfInBounds i v)[i]? = some v := by simp [Array.getElem?_setIfInBounds, h]
theorem BlkAt.c1 {w : World} {p : Nat} {T : TypeId} {v0 : Value} (h : BlkAt w p T #[v0]) :
    w.cell? ⟨p, 0, none⟩ = some v0 ∧ ∀ j, w.frozen? ⟨p, j, none⟩ = false :=
  ⟨h.cell rfl, h.free⟩
theorem BlkAt.c2 {w : World} {p : Nat} {T : TypeId} {v0 v1 : Value} (h : BlkAt w p T #[v0, v1]) :
    w.cell? ⟨p, 0, none⟩ = some v0 ∧ w.cell? ⟨p, 1, none⟩ = some v1 ∧ ∀ j, w.frozen? ⟨p, j, none⟩ = false :=
  ⟨h.cell rfl, h.cell rfl, h.free⟩
theorem BlkAt.c3 {w : World} {p : Nat} {T : TypeId} {v0 v1 v2 : Value} (h : BlkAt w p T #[v0, v1, v2]) :
    w.cell? ⟨p, 0, none⟩ = some v0 ∧ w.cell? ⟨p, 1, none⟩ = some v1 ∧ w.cell? ⟨p, 2, none⟩ = some v2 ∧ ∀ j, w.frozen? ⟨p, j, none⟩ = false :=
  ⟨h.cell rfl, h.cell rfl, h.cell rfl, h.free⟩
theorem BlkAt.c4 {w : World} {p : Nat} {T : TypeId} {v0 v1 v2 v3 : Value} (h : BlkAt w p T #[v0, v1, v2, v3]) :
    w.cell? ⟨p, 0, none⟩ = some v0 ∧ w.cell? ⟨p, 1, none⟩ = some v1 ∧ w.cell? ⟨p, 2, none⟩ = some v2 ∧ w.cell? ⟨p, 3, none⟩ = some v3 ∧ ∀ j, w.frozen? ⟨p, j, none⟩ = false :=
  ⟨h.cell rfl, h.cell rfl, h.cell rfl, h.cell rfl, h.free⟩
theorem BlkAt.c5 {w : World} {p : Nat} {T : TypeId} {v0 v1 v2 v3 v4 : Value} (h : BlkAt w p T #[v0, v1, v2, v3, v4]) :
    w.cell? ⟨p, 0, none⟩ = some v0 ∧ w.cell? ⟨p, 1, none⟩ = some v1 ∧ w.cell? ⟨p, 2, none⟩ = some v2 ∧ w.cell? ⟨p, 3, none⟩ = some v3 ∧ w.cell? ⟨p, 4, none⟩ = some v4 ∧ ∀ j, w.frozen? ⟨p, j, none⟩ = false :=
  ⟨h.cell rfl, h.cell rfl, h.cell rfl, h.cell rfl, h.cell rfl, h.free⟩
theorem BlkAt.c6 {w : World} {p : Nat} {T : TypeId} {v0 v1 v2 v3 v4 v5 : Value} (h : BlkAt w p T #[v0, v1, v2, v3, v4, v5]) :
    w.cell? ⟨p, 0, none⟩ = some v0 ∧ w.cell? ⟨p, 1, none⟩ = some v1 ∧ w.cell? ⟨p, 2, none⟩ = some v2 ∧ w.cell? ⟨p, 3, none⟩ = some v3 ∧ w.cell? ⟨p, 4, none⟩ = some v4 ∧ w.cell? ⟨p, 5, none⟩ = some v5 ∧ ∀ j, w.frozen? ⟨p, j, none⟩ = false :=
  ⟨h.cell rfl, h.cell rfl, h.cell rfl, h.cell rfl, h.cell rfl, h.cell rfl, h.free⟩
theorem BlkAt.c7 {w : World} {p : Nat} {T : TypeId} {v0 v1 v2 v3 v4 v5 v6 : Value} (h : BlkAt w p T #[v0, v1, v2, v3, v4, v5, v6]) :
    w.cell? ⟨p, 0, none⟩ = some v0 ∧ w.cell? ⟨p, 1, none⟩ = some v1 ∧ w.cell? ⟨p, 2, none⟩ = some v2 ∧ w.cell? ⟨p, 3, none⟩ = some v3 ∧ w.cell? ⟨p, 4, none⟩ = some v4 ∧ w.cell? ⟨p, 5, none⟩ = some v5 ∧ w.cell? ⟨p, 6, none⟩ = some v6 ∧ ∀ j, w.frozen? ⟨p, j, none⟩ = false :=
  ⟨h.cell rfl, h.cell rfl, h.cell rfl, h.cell rfl, h.cell rfl, h.cell rfl, h.cell rfl, h.free⟩
theorem BlkAt.c8 {w : World} {p : Nat} {T : TypeId} {v0 v1 v2 v3 v4 v5 v6 v7 : Value} (h : BlkAt w p T #[v0, v1, v2, v3, v4, v5, v6, v7]) :
    w.cell? ⟨p, 0, none⟩ = some v0 ∧ w.cell? ⟨p, 1, none⟩ = some v1 ∧ w.cell? ⟨p, 2, none⟩ = some v2 ∧ w.cell? ⟨p, 3, none⟩ = some v3 ∧ w.cell? ⟨p, 4, none⟩ = some v4 ∧ w.cell? ⟨p, 5, none⟩ = some v5 ∧ w.cell? ⟨p, 6, none⟩ = some v6 ∧ w.cell? ⟨p, 7, none⟩ = some v7 ∧ ∀ j, w.frozen? ⟨p, j, none⟩ = false :=
  ⟨h.cell rfl, h.cell rfl, h.cell rfl, h.cell rfl, h.cell rfl, h.cell rfl, h.cell rfl, h.cell rfl, h.free⟩
theorem BlkAt.c9 {w : World} {p : Nat} {T : TypeId} {v0 v1 v2 v3 v4 v5 v6 v7 v8 : Value} (h : BlkAt w p T #[v0, v1, v2, v3, v4, v5, v6, v7, v8]) :
    w.cell? ⟨p, 0, none⟩ = some v0 ∧ w.cell? ⟨p, 1, none⟩ = some v1 ∧ w.cell? ⟨p, 2, none⟩ = some v2 ∧ w.cell? ⟨p, 3, none⟩ = some v3 ∧ w.cell? ⟨p, 4, none⟩ = some v4 ∧ w.cell? ⟨p, 5, none⟩ = some v5 ∧ w.cell? ⟨p, 6, none⟩ = some v6 ∧ w.cell? ⟨p, 7, none⟩ = some v7 ∧ w.cell? ⟨p, 8, none⟩ = some v8 ∧ ∀ j, w.frozen? ⟨p, j, none⟩ = false :=
  ⟨h.cell rfl, h.cell rfl, h.cell rfl, h.cell rfl, h.cell rfl, h.cell rfl, h.cell rfl, h.cell rfl, h.cell rfl, h.free⟩
theorem BlkAt.c10 {w : World} {p : Nat} {T : TypeId} {v0 v1 v2 v3 v4 v5 v6 v7 v8 v9 : Value} (h : BlkAt w p T #[v0, v1, v2, v3, v4, v5, v6, v7, v8, v9]) :
    w.cell? ⟨p, 0, none⟩ = some v0 ∧ w.cell? ⟨p, 1, none⟩ = some v1 ∧ w.cell? ⟨p, 2, none⟩ = some v2 ∧ w.cell? ⟨p, 3, none⟩ = some v3 ∧ w.cell? ⟨p, 4, none⟩ = some v4 ∧ w.cell? ⟨p, 5, none⟩ = some v5 ∧ w.cell? ⟨p, 6, none⟩ = some v6 ∧ w.cell? ⟨p, 7, none⟩ = some v7 ∧ w.cell? ⟨p, 8, none⟩ = some v8 ∧ w.cell? ⟨p, 9, none⟩ = some v9 ∧ ∀ j, w.frozen? ⟨p, j, none⟩ = false :=
  ⟨h.cell rfl, h.cell rfl, h.cell rfl, h.cell rfl, h.cell rfl, h.cell rfl, h.cell rfl, h.cell rfl, h.cell rfl, h.cell rfl, h.free⟩
theorem BlkAt.c11 {w : World} {p : Nat} {T : TypeId} {v0 v1 v2 v3 v4 v5 v6 v7 v8 v9 v10 : Value} (h : BlkAt w p T #[v0, v1, v2, v3, v4, v5, v6, v7, v8, v9, v10]) :
    w.cell? ⟨p, 0, none⟩ = some v0 ∧ w.cell? ⟨p, 1, none⟩ = some v1 ∧ w.cell? ⟨p, 2, none⟩ = some v2 ∧ w.cell? ⟨p, 3, none⟩ = some v3 ∧ w.cell? ⟨p, 4, none⟩ = some v4 ∧ w.cell? ⟨p, 5, none⟩ = some v5 ∧ w.cell? ⟨p, 6, none⟩ = some v6 ∧ w.cell? ⟨p, 7, none⟩ = some v7 ∧ w.cell? ⟨p, 8, none⟩ = some v8 ∧ w.cell? ⟨p, 9, none⟩ = some v9 ∧ w.cell? ⟨p, 10, none⟩ = some v10 ∧ ∀ j, w.frozen? ⟨p, j, none⟩ = false :=
  ⟨h.cell rfl, h.cell rfl, h.cell rfl, h.cell rfl, h.cell rfl, h.cell rfl, h.cell rfl, h.cell rfl, h.cell rfl, h.cell rfl, h.cell rfl, h.free⟩
theorem BlkAt.c12 {w : World} {p : Nat} {T : TypeId} {v0 v1 v2 v3 v4 v5 v6 v7 v8 v9 v10 v11 : Value} (h : BlkAt w p T #[v0, v1, v2, v3, v4, v5, v6, v7, v8, v9, v10, v11]) :
    w.cell? ⟨p, 0, none⟩ = some v0 ∧ w.cell? ⟨p, 1, none⟩ = some v1 ∧ w.cell? ⟨p, 2, none⟩ = some v2 ∧ w.cell? ⟨p, 3, none⟩ = some v3 ∧ w.cell? ⟨p, 4, none⟩ = some v4 ∧ w.cell? ⟨p, 5, none⟩ = some v5 ∧ w.cell? ⟨p, 6, none⟩ = some v6 ∧ w.cell? ⟨p, 7, none⟩ = some v7 ∧ w.cell? ⟨p, 8, none⟩ = some v8 ∧ w.cell? ⟨p, 9, none⟩ = some v9 ∧ w.cell? ⟨p, 10, none⟩ = some v10 ∧ w.cell? ⟨p, 11, none⟩ = some v11 ∧ ∀ j, w.frozen? ⟨p, j, none⟩ = false :=
  ⟨h.cell rfl, h.cell rfl, h.cell rfl, h.cell rfl, h.cell rfl, h.cell rfl, h.cell rfl, h.cell rfl, h.cell rfl, h.cell rfl, h.cell rfl, h.cell rfl, h.free⟩
end Go.Proofs.Ytpkdcbfhacgklaa
/- sync.Once, sync.Mutex, atomic.Bool in one goroutine, at this dump's numbers. -/
namespace Go.Proofs.Ytpkdcbfhacgklaa
open Go.RowKit

theorem Try.disable (w : World) : (callFunc 130 #[]).run Try.prog w = .ok (.value (.tuple #[])) w := run_call_mark0 Try.func130 (by kernel_rfl) (by kernel_rfl) (by kernel_rfl) .disable (by kernel_rfl) w
theorem Try.enable (w : World) : (callFunc 132 #[]).run Try.prog w = .ok (.value (.tuple #[])) w := run_call_mark0 Try.func132 (by kernel_rfl) (by kernel_rfl) (by kernel_rfl) .enable (by kernel_rfl) w
theorem Try.acquire (a : Addr) (w : World) : (callFunc 133 #[.pointer (some a)]).run Try.prog w = .ok (.value (.tuple #[])) w := run_call_marked Try.func133 (by kernel_rfl) (by kernel_rfl) (by kernel_rfl) .acquire (by kernel_rfl) a w
theorem Try.releaseMerge (a : Addr) (w : World) : (callFunc 135 #[.pointer (some a)]).run Try.prog w = .ok (.value (.tuple #[])) w := run_call_marked Try.func135 (by kernel_rfl) (by kernel_rfl) (by kernel_rfl) .releaseMerge (by kernel_rfl) a w

/-- atomic.Bool's Load. -/
theorem loadB_calls (a : Addr) (d : Nat) (w : World) (hc : w.cell? a = some (.int .u32 d)) (hd : d ≤ 1) :
    Calls Try.prog 120 #[.pointer (some a)] w fun e w' => e = .returned (.bool (d == 1)) ∧ w = w' := by
  have hl := run_call_load (P := Try.prog) Try.func123 (by kernel_rfl) (by kernel_rfl) (by kernel_rfl) .u32 (by kernel_rfl) hc
  rcases (show d = 0 ∨ d = 1 by omega) with rfl | rfl
  · go_enter Try.func120, Try.ntmps120
    go_wp2
    go_ret
    exact ⟨rfl, rfl⟩
  · go_enter Try.func120, Try.ntmps120
    go_wp2
    go_ret
    exact ⟨rfl, rfl⟩
/-- atomic.Bool's Store(true), as a call. -/
theorem storeB_calls (a : Addr) (x : Value) (w : World) (hc : w.cell? a = some x) (hz : w.frozen? a = false) :
    Calls Try.prog 122 #[.pointer (some a), .bool true] w fun e w' => e = .returned (.tuple #[]) ∧ w' = w.drew.setCell a (.int .u32 1) := by
  have hc' : w.drew.cell? a = some x := by go_simp
  have hz' : w.drew.frozen? a = false := by go_simp
  have hst := run_call_store (P := Try.prog) Try.func126 (by kernel_rfl) (by kernel_rfl) (by kernel_rfl) (by kernel_rfl) (k := .u32) (y := 1) hc' hz'
  go_enter Try.func122, Try.ntmps122
  go_wp2
  go_region_calls
  all_goals (go_end0; exact ⟨rfl, rfl⟩)
/-- The same, deferred. -/
theorem storeB_deferred (a : Addr) (x : Value) (u : FrameMode) (w : World) (hc : w.cell? a = some x) (hz : w.frozen? a = false) :
    CallsD Try.prog 122 #[.pointer (some a), .bool true] u w fun e u' w' => u' = u ∧ (e = .returned (.tuple #[]) ∧ w' = w.drew.setCell a (.int .u32 1)) := by
  have hc' : w.drew.cell? a = some x := by go_simp
  have hz' : w.drew.frozen? a = false := by go_simp
  have hst := run_call_store (P := Try.prog) Try.func126 (by kernel_rfl) (by kernel_rfl) (by kernel_rfl) (by kernel_rfl) (k := .u32) (y := 1) hc' hz'
  go_enter_d Try.func122, Try.ntmps122
  go_wp2
  go_region_calls
  all_goals (go_end0; exact ⟨rfl, rfl⟩)
set_option maxRecDepth 100000 in
theorem unlock_deferred (a : Addr) (u : FrameMode) (w : World) (hc : w.cell? a = some (.int .i32 1)) (hz : w.frozen? a = false) :
    CallsD Try.prog 125 #[.pointer (some a)] u w fun e u' w' => u' = u ∧ (e = .returned (.tuple #[]) ∧ w' = w.setCell a (.int .i32 0)) := by
  have hd := Try.disable
  have he := Try.enable
  have hr := Try.releaseMerge
  have hadd := run_call_add (P := Try.prog) Try.func136 (by kernel_rfl) (by kernel_rfl) (by kernel_rfl) .i32 (by kernel_rfl) (y := -1) (s := 0) hc hz (by simp [go_sem]; rfl)
  have hcv := run_convert_to_unsafe (P := Try.prog) (src := 217) (dst := 221) Try.underlying217 Try.underlying221 (by kernel_rfl) hc
  go_enter_d Try.func125, Try.ntmps125
  go_wp2
  go_end0
  go_wp2
  go_end0
  exact ⟨rfl, rfl⟩
set_option maxRecDepth 100000 in
theorem lock_free (a : Addr) (w : World) (hc : w.cell? a = some (.int .i32 0)) (hz : w.frozen? a = false) :
    Calls Try.prog 124 #[.pointer (some a)] w fun e w' => e = .returned (.tuple #[]) ∧ w' = w.setCell a (.int .i32 1) := by
  have hd := Try.disable
  have he := Try.enable
  have ha := Try.acquire
  have hcas := run_call_cas_hit (P := Try.prog) Try.func131 (by kernel_rfl) (by kernel_rfl) (by kernel_rfl) .i32 (by kernel_rfl) (y := 1) hc hz
  have hc' : (w.setCell a (.int .i32 1)).cell? a = some (.int .i32 1) := World.cell?_setCell_same w a _ hc
  have hcv := run_convert_to_unsafe (P := Try.prog) (src := 217) (dst := 221) Try.underlying217 Try.underlying221 (by kernel_rfl) hc'
  go_enter Try.func124, Try.ntmps124
  go_wp2
  first | go_end0 | (simp only [Exit.inBlock, Exit.then]; refine bodyPost_ret (results_none rfl _ _ _) rfl ?_) | refine bodyPost_ret (results_none rfl _ _ _) rfl ?_
  go_wp2
  go_end0
  exact ⟨rfl, rfl⟩

end Go.Proofs.Ytpkdcbfhacgklaa
/- Contracts of octet.Writer's methods. -/
namespace Go.Proofs.Ytpkdcbfhacgklaa
open Go.RowKit

def WrPost (w : World) (S : Nat → Prop) (p : Nat) (bs xs : List UInt8) (e : Ending) (w' : World) : Prop :=
  e = .returned (.pointer (some ⟨p, 0, none⟩)) ∧ WrAt w' (andNew S w) p (bs ++ xs) ∧ Fr S w w'

theorem byte_calls (w : World) (S : Nat → Prop) (p : Nat) (bs : List UInt8) (x : Nat) (h : WrAt w S p bs) (hx : x < 256) (hl : bs.length + 1 ≤ 1000000000000) :
    Calls Try.prog 63 #[.pointer (some ⟨p, 0, none⟩), .int .u8 x] w (WrPost w S p bs (leB 1 x)) := by
  go_enter Try.func63, Try.ntmps63
  go_wp2_with fail
  refine (num_calls w S p bs x 1 h (by omega) hl).mono ?_
  rintro e w' ⟨rfl, h1, h2⟩
  go_wp2
  go_ret
  exact ⟨rfl, h1, h2⟩
theorem two_calls (w : World) (S : Nat → Prop) (p : Nat) (bs : List UInt8) (x : Nat) (h : WrAt w S p bs) (hx : x < 65536) (hl : bs.length + 2 ≤ 1000000000000) :
    Calls Try.prog 114 #[.pointer (some ⟨p, 0, none⟩), .int .u16 x] w (WrPost w S p bs (leB 2 x)) := by
  go_enter Try.func114, Try.ntmps114
  go_wp2_with fail
  refine (num_calls w S p bs x 2 h (by omega) hl).mono ?_
  rintro e w' ⟨rfl, h1, h2⟩
  go_wp2
  go_ret
  exact ⟨rfl, h1, h2⟩
theorem four_calls (w : World) (S : Nat → Prop) (p : Nat) (bs : List UInt8) (x : Nat) (h : WrAt w S p bs) (hx : x < 4294967296) (hl : bs.length + 4 ≤ 1000000000000) :
    Calls Try.prog 64 #[.pointer (some ⟨p, 0, none⟩), .int .u32 x] w (WrPost w S p bs (leB 4 x)) := by
  go_enter Try.func64, Try.ntmps64
  go_wp2_with fail
  refine (num_calls w S p bs x 4 h (by omega) hl).mono ?_
  rintro e w' ⟨rfl, h1, h2⟩
  go_wp2
  go_ret
  exact ⟨rfl, h1, h2⟩
theorem eight_calls (w : World) (S : Nat → Prop) (p : Nat) (bs : List UInt8) (x : Nat) (h : WrAt w S p bs) (hl : bs.length + 8 ≤ 1000000000000) :
    Calls Try.prog 98 #[.pointer (some ⟨p, 0, none⟩), .int .u64 x] w (WrPost w S p bs (leB 8 x)) := by
  go_enter Try.func98, Try.ntmps98
  go_wp2_with fail
  refine (num_calls w S p bs x 8 h (by omega) hl).mono ?_
  rintro e w' ⟨rfl, h1, h2⟩
  go_wp2
  go_ret
  exact ⟨rfl, h1, h2⟩
theorem raw_calls (w : World) (S : Nat → Prop) (p : Nat) (bs : List UInt8) (B : Option Addr) (n cap : Nat) (xs : List UInt8) (h : WrAt w S p bs) (hx : RowAt w B (bcells xs)) (hn : xs.length = n) (hB : B = none → n = 0 ∧ cap = 0) (hl : bs.length + n ≤ 1000000000000) :
    Calls Try.prog 65 #[.pointer (some ⟨p, 0, none⟩), .slice B n cap] w (WrPost w S p bs xs) := by
  obtain ⟨A, m, c, T, HM, hT, hp, hown, hSp, hS, hc⟩ := h.open'
  rw [HM.out] at hl
  have HN := hid hn; clear hn
  go_enter Try.func65, Try.ntmps65
  go_wp2_with (at_builtin; refine wpList_app Try.app8 rfl (.tmp 9) (.tmp 10) rfl _ m (bcells bs) rfl hown B n cap (bcells xs) rfl (by rw [bcells_length, HN.out, Nat.mul_one]) hx (bcells_one _) hB (by omega) (by omega) ?_)
  intro A' c' w1 hown' hg hat
  obtain ⟨r1, r2, r3, r4⟩ := WrAt.stored hT HM.out HN.out (Fr.refl S w) hp hown (Or.inl hSp) (fun k hk => Or.inl (hS k hk)) (Fr.refl noB w) hown' hg (by simpa using hat)
  clear hown' hg hat hp hown hS hSp hc h hx hB
  go_wp2
  go_ret
  exact ⟨rfl, r1, r2⟩

/-- The first 65535 of a list. -/
def cut16 {α : Type} (l : List α) : List α := l.take 65535
theorem extract_take (s : ByteArray) (n : Nat) : (s.extract 0 n).data.toList = s.data.toList.take n := by
  simp
def textB (s : ByteArray) : List UInt8 := leB 2 (min s.size 65535) ++ s.data.toList.take 65535

theorem text_calls (w : World) (S : Nat → Prop) (p : Nat) (bs : List UInt8) (s : ByteArray) (h : WrAt w S p bs) (hs : s.size ≤ maxLen) (hl : bs.length + 2 + s.size ≤ 1000000000000) :
    Calls Try.prog 99 #[.pointer (some ⟨p, 0, none⟩), .string s] w (WrPost w S p bs (textB s)) := by
  by_cases hz : s.size ≤ 65535
  · have HT : Hid (bs ++ textB s = bs ++ leB 2 s.size ++ s.data.toList) := by
      unfold Hid textB
      rw [Nat.min_eq_left hz, List.take_of_length_le (by simpa using hz), List.append_assoc]
    go_enter Try.func99, Try.ntmps99
    go_wp2_with fail
    refine (two_calls w S p bs s.size h (by omega) (by omega)).mono ?_
    rintro e w' ⟨rfl, h1, h2⟩
    obtain ⟨A, m, c, T, HM, hT, hp, hown, hSp, hS, hc⟩ := h1.open'
    have hm : m ≤ 1000000000000 - s.size := by have := HM.out; rw [List.length_append, leB_length] at this; omega
    go_wp2_with (at_builtin; refine wpList_app_str Try.app8 Try.underlying9 rfl (.tmp 19) (.tmp 20) rfl _ m _ rfl hown s rfl (by omega) ?_)
    intro A' c' w1 hown' hg hat
    obtain ⟨r1, r2, r3, r4⟩ := WrAt.stored hT HM.out (xs := s.data.toList) (d := (s).size) rfl h2 hp hown hSp hS (Fr.refl noB w') hown' hg (by simpa using hat)
    clear hown' hg hat hp hown hS hSp hc h1 h2 h
    go_wp2
    go_ret
    exact ⟨rfl, by rw [HT.out]; exact r1, r2⟩
  · have hz' : 65535 < s.size := by omega
    have HT : Hid (bs ++ textB s = bs ++ leB 2 (min 65535 s.size) ++ (s.extract 0 65535).data.toList) := by
      unfold Hid textB
      rw [Nat.min_comm, extract_take, List.append_assoc]
    have hes : (s.extract 0 65535).size ≤ s.size := by rw [ByteArray.size_extract]; omega
    go_enter Try.func99, Try.ntmps99
    go_wp2_with fail
    refine (two_calls w S p bs (min 65535 s.size) h (by omega) (by omega)).mono ?_
    rintro e w' ⟨rfl, h1, h2⟩
    dsimp only
    generalize s.extract 0 65535 = s' at *
    generalize min 65535 s.size = k at *
    obtain ⟨A, m, c, T, HM, hT, hp, hown, hSp, hS, hc⟩ := h1.open'
    have hm : m ≤ 1000000000000 - s.size := by have := HM.out; rw [List.length_append, leB_length] at this; omega
    go_wp2_with (at_builtin; refine wpList_app_str Try.app8 Try.underlying9 rfl (.tmp 19) (.tmp 20) rfl _ m _ rfl hown s' rfl (by omega) ?_)
    intro A' c' w1 hown' hg hat
    obtain ⟨r1, r2, r3, r4⟩ := WrAt.stored hT HM.out (xs := s'.data.toList) (d := s'.size) rfl h2 hp hown hSp hS (Fr.refl noB w') hown' hg (by simpa using hat)
    clear hown' hg hat hp hown hS hSp hc h1 h2 h
    go_wp2
    go_ret
    exact ⟨rfl, by rw [HT.out]; exact r1, r2⟩
end Go.Proofs.Ytpkdcbfhacgklaa
/- octet.Writer's Row and Bytes. -/
namespace Go.Proofs.Ytpkdcbfhacgklaa
open Go.RowKit

def strs (ss : List ByteArray) : List Value := ss.map Value.string
theorem strs_get {l : List ByteArray} {k : Nat} {s : ByteArray} (h : l[k]? = some s) : (strs l)[k]? = some (.string s) := by
  unfold strs; rw [List.getElem?_map, h]; rfl
theorem strs_pos {w : World} {A : Option Addr} {l : List ByteArray} {k : Nat} {s : ByteArray} (ha : RowAt w A (strs l)) (h : l[k]? = some s) : ∃ a, A = some a := by
  refine ha.some_of ?_
  have := (List.getElem?_eq_some_iff.1 h).1
  simp only [strs, List.length_map]; omega

def rowB (ss : List ByteArray) : List UInt8 := leB 2 (min ss.length 65535) ++ (ss.take 65535).flatMap textB
def sumSz (ss : List ByteArray) : Nat := (ss.map fun s => s.size + 2).sum
theorem take_snoc' {α : Type} {l : List α} {k : Nat} {x : α} (h : l[k]? = some x) : l.take (k + 1) = l.take k ++ [x] := by
  obtain ⟨hk, rfl⟩ := List.getElem?_eq_some_iff.1 h
  exact List.take_succ_eq_append_getElem hk
theorem sumSz_append (a b : List ByteArray) : sumSz (a ++ b) = sumSz a + sumSz b := by simp only [sumSz, List.map_append, List.sum_append]
theorem sumSz_take_succ {ss : List ByteArray} {k : Nat} {s : ByteArray} (h : ss[k]? = some s) : sumSz (ss.take (k + 1)) = sumSz (ss.take k) + (s.size + 2) := by
  rw [take_snoc' h, sumSz_append]; simp [sumSz]
theorem sumSz_take_le (ss : List ByteArray) (k : Nat) : sumSz (ss.take k) ≤ sumSz ss := by
  conv => rhs; rw [← List.take_append_drop k ss]
  simp only [sumSz, List.map_append, List.sum_append]; omega
theorem textB_length (s : ByteArray) : (textB s).length ≤ s.size + 2 := by
  have : s.data.toList.length = s.size := by simp
  simp only [textB, List.length_append, leB_length, List.length_take]; omega
theorem rows_length (ss : List ByteArray) : (ss.flatMap textB).length ≤ sumSz ss := by
  induction ss with
  | nil => simp [sumSz]
  | cons s ss ih =>
    have := textB_length s
    simp only [List.flatMap_cons, List.length_append, sumSz, List.map_cons, List.sum_cons] at *
    omega
theorem rows_snoc {ss : List ByteArray} {k : Nat} {s : ByteArray} (h : ss[k]? = some s) : (ss.take (k + 1)).flatMap textB = (ss.take k).flatMap textB ++ textB s := by
  rw [take_snoc' h, List.flatMap_append]; simp only [List.flatMap_cons, List.flatMap_nil, List.append_nil]
theorem mem_sumSz {ss : List ByteArray} {s : ByteArray} (h : s ∈ ss) : s.size ≤ sumSz ss := by
  induction ss with
  | nil => simp at h
  | cons a ss ih =>
    simp only [sumSz, List.map_cons, List.sum_cons] at *
    rcases List.mem_cons.1 h with rfl | h
    · omega
    · have := ih h; omega

set_option maxHeartbeats 800000 in
theorem row_calls_small (w : World) (S : Nat → Prop) (p : Nat) (bs : List UInt8) (B : Option Addr) (n cap : Nat) (ss : List ByteArray) (h : WrAt w S p bs) (hx : RowAt w B (strs ss)) (hn : ss.length = n) (hcap : n ≤ cap) (hB : 0 < n → ∀ a, B = some a → ¬ S a.block)
    (hl : bs.length + 2 + sumSz ss ≤ 1000000000000) (h16 : n ≤ 65535) :
    Calls Try.prog 115 #[.pointer (some ⟨p, 0, none⟩), .slice B n cap] w (WrPost w S p bs (rowB ss)) := by
  have HN := hid hn; clear hn
  go_enter Try.func115, Try.ntmps115
  go_wp2_with fail
  refine (two_calls w S p bs n h (by omega) (by omega)).mono ?_
  rintro e w1 ⟨rfl, h1, h2⟩
  go_wp2_with fail
  go_loopw [19] (fun i wr => ∃ k : Nat, k ≤ n ∧ i = .int .i64 k ∧ WrAt wr (andNew S w) p (bs ++ leB 2 n ++ (ss.take k).flatMap textB) ∧ Fr S w wr) (fun i _ => n - (intOf i).toNat)
  case atStart => exact ⟨0, Nat.zero_le _, rfl, by rw [List.take_zero, List.flatMap_nil, List.append_nil]; exact h1, h2⟩
  case round =>
    obtain ⟨k, hk, rfl, hw, hf⟩ := hrel
    by_cases hkn : k < n
    · obtain ⟨s, hs⟩ : ∃ s, ss[k]? = some s := ⟨_, List.getElem?_eq_getElem (by rw [HN.out]; exact hkn)⟩
      obtain ⟨ad, rfl⟩ := hx.some_of (by simp only [strs, List.length_map]; rw [HN.out]; omega)
      have hcx : wr.cell? (ad.add k) = some (.string s) := hf.cell (hx.cell (by rw [strs, List.getElem?_map, hs]; rfl)) (by rw [add_block]; exact hB (by omega) ad rfl)
      have HR := hid (rows_snoc hs)
      have q1 := rows_length (ss.take k)
      have q2 := sumSz_take_le ss (k + 1)
      have q3 := sumSz_take_succ hs
      have q4 : (bs ++ leB 2 n ++ (ss.take k).flatMap textB).length + 2 + s.size ≤ 1000000000000 := by
        rw [List.length_append, List.length_append, leB_length]; omega
      have q5 : s.size ≤ maxLen := by unfold maxLen; omega
      clear q1 q2 q3 hs
      go_wp2_with fail
      refine (text_calls wr (andNew S w) p _ s hw q5 q4).mono ?_
      rintro e w2 ⟨rfl, g1, g2⟩
      go_wp2_with fail
      go_roundw
      case rel =>
        refine ⟨k + 1, by omega, by go_num, ?_, hf.then g2⟩
        rw [HR.out, ← List.append_assoc]
        exact g1.mono (fun i _ hi => hi.elim id fun q => Or.inr (by have := hf.size; omega))
      case measure => simp [intOf]; omega
    · have : k = n := by omega
      subst this
      go_wp2_with fail
      go_ret
      refine ⟨rfl, ?_, hf⟩
      rw [List.take_of_length_le (by rw [HN.out]; omega)] at hw
      rw [rowB, HN.out, Nat.min_eq_left h16, List.take_of_length_le (by rw [HN.out]; exact h16), ← List.append_assoc]
      exact hw
end Go.Proofs.Ytpkdcbfhacgklaa
/- octet.Writer's Bytes, a fresh Writer, and a []byte as a string. -/
namespace Go.Proofs.Ytpkdcbfhacgklaa
open Go.RowKit

theorem bytes_calls (w : World) (S : Nat → Prop) (p : Nat) (bs : List UInt8) (h : WrAt w S p bs) (hl : bs.length ≤ 1000000000000) :
    Calls Try.prog 62 #[.pointer (some ⟨p, 0, none⟩)] w fun e w' => ∃ A c, e = .returned (.slice A bs.length c) ∧ w'.ownsRow w.heap.size 5 1 (.slice A bs.length c) bs.length (bcells bs) ∧ Fr noB w w' := by
  obtain ⟨A, m, c, T, HM, hT, hp, hown, hSp, hS, hc⟩ := h.open'
  rw [HM.out] at hl ⊢
  have hl' := hid hl; clear hl
  go_enter Try.func62, Try.ntmps62
  go_wp2_with fail
  refine (clone_calls w A m c bs (own_row hown) HM.out ?_ hl'.out).mono ?_
  · rintro rfl
    rcases hown.2 with ⟨e, _⟩ | ⟨g, cap, cur, e, _⟩ <;> cases e
    exact ⟨rfl, rfl⟩
  rintro e w' ⟨A', c', rfl, h1, h2, _⟩
  go_wp2
  go_ret
  exact ⟨A', c', rfl, h1, h2⟩
end Go.Proofs.Ytpkdcbfhacgklaa
/- The cells of a struct of so many cells, one by one. Written by a small program. -/
namespace Go.Proofs.Ytpkdcbfhacgklaa
open Go.RowKit
def SegAt (w : World) (a : Addr) (xs : List Value) : Prop := ∀ j u, xs[j]? = some u → w.cell? (a.add j) = some u
theorem add_add' (a : Addr) (i j : Nat) : (a.add i).add j = a.add (i + j) := by
  unfold Addr.add
  by_cases hi : i = 0 <;> by_cases hj : j = 0 <;> simp [hi, hj, Nat.add_assoc]
theorem flat_get {α β : Type} (f : α → List β) (m : Nat) (hf : ∀ a, (f a).length = m) : ∀ (l : List α) (k j : Nat) (a : α) (b : β), l[k]? = some a → (f a)[j]? = some b → (l.flatMap f)[k * m + j]? = some b
  | [], k, j, a, b, h, _ => by simp at h
  | c :: l, 0, j, a, b, h, hb => by
    simp at h; subst h
    have : j < (f c).length := (List.getElem?_eq_some_iff.1 hb).1
    rw [List.flatMap_cons, Nat.zero_mul, Nat.zero_add, List.getElem?_append_left this]; exact hb
  | c :: l, k + 1, j, a, b, h, hb => by
    rw [List.flatMap_cons, List.getElem?_append_right (by rw [hf]; rw [Nat.succ_mul]; omega), hf, show (k + 1) * m + j - m = k * m + j from by rw [Nat.succ_mul]; omega]
    exact flat_get f m hf l k j a b (by simpa using h) hb
theorem RowAt.seg {α : Type} {w : World} {ad : Addr} {l : List α} {f : α → List Value} (h : RowAt w (some ad) (l.flatMap f)) (m : Nat) (hf : ∀ a, (f a).length = m) {k : Nat} {a : α} (hk : l[k]? = some a) : SegAt w (ad.add (k * m)) (f a) := fun j u hu => by
  rw [add_add']
  exact h.cell (flat_get f m hf l k j a u hk hu)
theorem RowAt.some_flat {α : Type} {w : World} {A : Option Addr} {l : List α} {f : α → List Value} (h : RowAt w A (l.flatMap f)) (hf : ∀ a, f a ≠ []) {k : Nat} {a : α} (hk : l[k]? = some a) : ∃ ad, A = some ad := by
  have hm := List.mem_of_getElem? hk
  refine h.some_of ?_
  rcases l with _ | ⟨b, l⟩
  · simp at hm
  · have := hf b
    rw [List.flatMap_cons, List.length_append]
    have : 0 < (f b).length := List.length_pos_iff.2 this
    omega
theorem SegAt.fr {S : Nat → Prop} {w w' : World} {a : Addr} {xs : List Value} (h : SegAt w a xs) (f : Fr S w w') (hS : ¬ S a.block) : SegAt w' a xs := fun j u hu => f.cell (h j u hu) (by rw [add_block]; exact hS)
theorem SegAt.c1 {w : World} {a : Addr} {v0 : Value} (R : SegAt w a [v0]) : w.cell? a = some v0 :=
  R 0 _ rfl
theorem SegAt.c2 {w : World} {a : Addr} {v0 v1 : Value} (R : SegAt w a [v0, v1]) : w.cell? a = some v0 ∧ w.cell? ⟨a.block, a.off + 1, none⟩ = some v1 :=
  ⟨R 0 _ rfl, R 1 _ rfl⟩
theorem SegAt.c3 {w : World} {a : Addr} {v0 v1 v2 : Value} (R : SegAt w a [v0, v1, v2]) : w.cell? a = some v0 ∧ w.cell? ⟨a.block, a.off + 1, none⟩ = some v1 ∧ w.cell? ⟨a.block, a.off + 2, none⟩ = some v2 :=
  ⟨R 0 _ rfl, R 1 _ rfl, R 2 _ rfl⟩
theorem SegAt.c4 {w : World} {a : Addr} {v0 v1 v2 v3 : Value} (R : SegAt w a [v0, v1, v2, v3]) : w.cell? a = some v0 ∧ w.cell? ⟨a.block, a.off + 1, none⟩ = some v1 ∧ w.cell? ⟨a.block, a.off + 2, none⟩ = some v2 ∧ w.cell? ⟨a.block, a.off + 3, none⟩ = some v3 :=
  ⟨R 0 _ rfl, R 1 _ rfl, R 2 _ rfl, R 3 _ rfl⟩
theorem SegAt.c5 {w : World} {a : Addr} {v0 v1 v2 v3 v4 : Value} (R : SegAt w a [v0, v1, v2, v3, v4]) : w.cell? a = some v0 ∧ w.cell? ⟨a.block, a.off + 1, none⟩ = some v1 ∧ w.cell? ⟨a.block, a.off + 2, none⟩ = some v2 ∧ w.cell? ⟨a.block, a.off + 3, none⟩ = some v3 ∧ w.cell? ⟨a.block, a.off + 4, none⟩ = some v4 :=
  ⟨R 0 _ rfl, R 1 _ rfl, R 2 _ rfl, R 3 _ rfl, R 4 _ rfl⟩
theorem SegAt.c6 {w : World} {a : Addr} {v0 v1 v2 v3 v4 v5 : Value} (R : SegAt w a [v0, v1, v2, v3, v4, v5]) : w.cell? a = some v0 ∧ w.cell? ⟨a.block, a.off + 1, none⟩ = some v1 ∧ w.cell? ⟨a.block, a.off + 2, none⟩ = some v2 ∧ w.cell? ⟨a.block, a.off + 3, none⟩ = some v3 ∧ w.cell? ⟨a.block, a.off + 4, none⟩ = some v4 ∧ w.cell? ⟨a.block, a.off + 5, none⟩ = some v5 :=
  ⟨R 0 _ rfl, R 1 _ rfl, R 2 _ rfl, R 3 _ rfl, R 4 _ rfl, R 5 _ rfl⟩
theorem SegAt.c7 {w : World} {a : Addr} {v0 v1 v2 v3 v4 v5 v6 : Value} (R : SegAt w a [v0, v1, v2, v3, v4, v5, v6]) : w.cell? a = some v0 ∧ w.cell? ⟨a.block, a.off + 1, none⟩ = some v1 ∧ w.cell? ⟨a.block, a.off + 2, none⟩ = some v2 ∧ w.cell? ⟨a.block, a.off + 3, none⟩ = some v3 ∧ w.cell? ⟨a.block, a.off + 4, none⟩ = some v4 ∧ w.cell? ⟨a.block, a.off + 5, none⟩ = some v5 ∧ w.cell? ⟨a.block, a.off + 6, none⟩ = some v6 :=
  ⟨R 0 _ rfl, R 1 _ rfl, R 2 _ rfl, R 3 _ rfl, R 4 _ rfl, R 5 _ rfl, R 6 _ rfl⟩
theorem SegAt.c8 {w : World} {a : Addr} {v0 v1 v2 v3 v4 v5 v6 v7 : Value} (R : SegAt w a [v0, v1, v2, v3, v4, v5, v6, v7]) : w.cell? a = some v0 ∧ w.cell? ⟨a.block, a.off + 1, none⟩ = some v1 ∧ w.cell? ⟨a.block, a.off + 2, none⟩ = some v2 ∧ w.cell? ⟨a.block, a.off + 3, none⟩ = some v3 ∧ w.cell? ⟨a.block, a.off + 4, none⟩ = some v4 ∧ w.cell? ⟨a.block, a.off + 5, none⟩ = some v5 ∧ w.cell? ⟨a.block, a.off + 6, none⟩ = some v6 ∧ w.cell? ⟨a.block, a.off + 7, none⟩ = some v7 :=
  ⟨R 0 _ rfl, R 1 _ rfl, R 2 _ rfl, R 3 _ rfl, R 4 _ rfl, R 5 _ rfl, R 6 _ rfl, R 7 _ rfl⟩
theorem SegAt.c9 {w : World} {a : Addr} {v0 v1 v2 v3 v4 v5 v6 v7 v8 : Value} (R : SegAt w a [v0, v1, v2, v3, v4, v5, v6, v7, v8]) : w.cell? a = some v0 ∧ w.cell? ⟨a.block, a.off + 1, none⟩ = some v1 ∧ w.cell? ⟨a.block, a.off + 2, none⟩ = some v2 ∧ w.cell? ⟨a.block, a.off + 3, none⟩ = some v3 ∧ w.cell? ⟨a.block, a.off + 4, none⟩ = some v4 ∧ w.cell? ⟨a.block, a.off + 5, none⟩ = some v5 ∧ w.cell? ⟨a.block, a.off + 6, none⟩ = some v6 ∧ w.cell? ⟨a.block, a.off + 7, none⟩ = some v7 ∧ w.cell? ⟨a.block, a.off + 8, none⟩ = some v8 :=
  ⟨R 0 _ rfl, R 1 _ rfl, R 2 _ rfl, R 3 _ rfl, R 4 _ rfl, R 5 _ rfl, R 6 _ rfl, R 7 _ rfl, R 8 _ rfl⟩
theorem SegAt.c10 {w : World} {a : Addr} {v0 v1 v2 v3 v4 v5 v6 v7 v8 v9 : Value} (R : SegAt w a [v0, v1, v2, v3, v4, v5, v6, v7, v8, v9]) : w.cell? a = some v0 ∧ w.cell? ⟨a.block, a.off + 1, none⟩ = some v1 ∧ w.cell? ⟨a.block, a.off + 2, none⟩ = some v2 ∧ w.cell? ⟨a.block, a.off + 3, none⟩ = some v3 ∧ w.cell? ⟨a.block, a.off + 4, none⟩ = some v4 ∧ w.cell? ⟨a.block, a.off + 5, none⟩ = some v5 ∧ w.cell? ⟨a.block, a.off + 6, none⟩ = some v6 ∧ w.cell? ⟨a.block, a.off + 7, none⟩ = some v7 ∧ w.cell? ⟨a.block, a.off + 8, none⟩ = some v8 ∧ w.cell? ⟨a.block, a.off + 9, none⟩ = some v9 :=
  ⟨R 0 _ rfl, R 1 _ rfl, R 2 _ rfl, R 3 _ rfl, R 4 _ rfl, R 5 _ rfl, R 6 _ rfl, R 7 _ rfl, R 8 _ rfl, R 9 _ rfl⟩
theorem SegAt.c11 {w : World} {a : Addr} {v0 v1 v2 v3 v4 v5 v6 v7 v8 v9 v10 : Value} (R : SegAt w a [v0, v1, v2, v3, v4, v5, v6, v7, v8, v9, v10]) : w.cell? a = some v0 ∧ w.cell? ⟨a.block, a.off + 1, none⟩ = some v1 ∧ w.cell? ⟨a.block, a.off + 2, none⟩ = some v2 ∧ w.cell? ⟨a.block, a.off + 3, none⟩ = some v3 ∧ w.cell? ⟨a.block, a.off + 4, none⟩ = some v4 ∧ w.cell? ⟨a.block, a.off + 5, none⟩ = some v5 ∧ w.cell? ⟨a.block, a.off + 6, none⟩ = some v6 ∧ w.cell? ⟨a.block, a.off + 7, none⟩ = some v7 ∧ w.cell? ⟨a.block, a.off + 8, none⟩ = some v8 ∧ w.cell? ⟨a.block, a.off + 9, none⟩ = some v9 ∧ w.cell? ⟨a.block, a.off + 10, none⟩ = some v10 :=
  ⟨R 0 _ rfl, R 1 _ rfl, R 2 _ rfl, R 3 _ rfl, R 4 _ rfl, R 5 _ rfl, R 6 _ rfl, R 7 _ rfl, R 8 _ rfl, R 9 _ rfl, R 10 _ rfl⟩
theorem SegAt.c12 {w : World} {a : Addr} {v0 v1 v2 v3 v4 v5 v6 v7 v8 v9 v10 v11 : Value} (R : SegAt w a [v0, v1, v2, v3, v4, v5, v6, v7, v8, v9, v10, v11]) : w.cell? a = some v0 ∧ w.cell? ⟨a.block, a.off + 1, none⟩ = some v1 ∧ w.cell? ⟨a.block, a.off + 2, none⟩ = some v2 ∧ w.cell? ⟨a.block, a.off + 3, none⟩ = some v3 ∧ w.cell? ⟨a.block, a.off + 4, none⟩ = some v4 ∧ w.cell? ⟨a.block, a.off + 5, none⟩ = some v5 ∧ w.cell? ⟨a.block, a.off + 6, none⟩ = some v6 ∧ w.cell? ⟨a.block, a.off + 7, none⟩ = some v7 ∧ w.cell? ⟨a.block, a.off + 8, none⟩ = some v8 ∧ w.cell? ⟨a.block, a.off + 9, none⟩ = some v9 ∧ w.cell? ⟨a.block, a.off + 10, none⟩ = some v10 ∧ w.cell? ⟨a.block, a.off + 11, none⟩ = some v11 :=
  ⟨R 0 _ rfl, R 1 _ rfl, R 2 _ rfl, R 3 _ rfl, R 4 _ rfl, R 5 _ rfl, R 6 _ rfl, R 7 _ rfl, R 8 _ rfl, R 9 _ rfl, R 10 _ rfl, R 11 _ rfl⟩
theorem SegAt.c13 {w : World} {a : Addr} {v0 v1 v2 v3 v4 v5 v6 v7 v8 v9 v10 v11 v12 : Value} (R : SegAt w a [v0, v1, v2, v3, v4, v5, v6, v7, v8, v9, v10, v11, v12]) : w.cell? a = some v0 ∧ w.cell? ⟨a.block, a.off + 1, none⟩ = some v1 ∧ w.cell? ⟨a.block, a.off + 2, none⟩ = some v2 ∧ w.cell? ⟨a.block, a.off + 3, none⟩ = some v3 ∧ w.cell? ⟨a.block, a.off + 4, none⟩ = some v4 ∧ w.cell? ⟨a.block, a.off + 5, none⟩ = some v5 ∧ w.cell? ⟨a.block, a.off + 6, none⟩ = some v6 ∧ w.cell? ⟨a.block, a.off + 7, none⟩ = some v7 ∧ w.cell? ⟨a.block, a.off + 8, none⟩ = some v8 ∧ w.cell? ⟨a.block, a.off + 9, none⟩ = some v9 ∧ w.cell? ⟨a.block, a.off + 10, none⟩ = some v10 ∧ w.cell? ⟨a.block, a.off + 11, none⟩ = some v11 ∧ w.cell? ⟨a.block, a.off + 12, none⟩ = some v12 :=
  ⟨R 0 _ rfl, R 1 _ rfl, R 2 _ rfl, R 3 _ rfl, R 4 _ rfl, R 5 _ rfl, R 6 _ rfl, R 7 _ rfl, R 8 _ rfl, R 9 _ rfl, R 10 _ rfl, R 11 _ rfl, R 12 _ rfl⟩
theorem SegAt.c14 {w : World} {a : Addr} {v0 v1 v2 v3 v4 v5 v6 v7 v8 v9 v10 v11 v12 v13 : Value} (R : SegAt w a [v0, v1, v2, v3, v4, v5, v6, v7, v8, v9, v10, v11, v12, v13]) : w.cell? a = some v0 ∧ w.cell? ⟨a.block, a.off + 1, none⟩ = some v1 ∧ w.cell? ⟨a.block, a.off + 2, none⟩ = some v2 ∧ w.cell? ⟨a.block, a.off + 3, none⟩ = some v3 ∧ w.cell? ⟨a.block, a.off + 4, none⟩ = some v4 ∧ w.cell? ⟨a.block, a.off + 5, none⟩ = some v5 ∧ w.cell? ⟨a.block, a.off + 6, none⟩ = some v6 ∧ w.cell? ⟨a.block, a.off + 7, none⟩ = some v7 ∧ w.cell? ⟨a.block, a.off + 8, none⟩ = some v8 ∧ w.cell? ⟨a.block, a.off + 9, none⟩ = some v9 ∧ w.cell? ⟨a.block, a.off + 10, none⟩ = some v10 ∧ w.cell? ⟨a.block, a.off + 11, none⟩ = some v11 ∧ w.cell? ⟨a.block, a.off + 12, none⟩ = some v12 ∧ w.cell? ⟨a.block, a.off + 13, none⟩ = some v13 :=
  ⟨R 0 _ rfl, R 1 _ rfl, R 2 _ rfl, R 3 _ rfl, R 4 _ rfl, R 5 _ rfl, R 6 _ rfl, R 7 _ rfl, R 8 _ rfl, R 9 _ rfl, R 10 _ rfl, R 11 _ rfl, R 12 _ rfl, R 13 _ rfl⟩
theorem SegAt.c15 {w : World} {a : Addr} {v0 v1 v2 v3 v4 v5 v6 v7 v8 v9 v10 v11 v12 v13 v14 : Value} (R : SegAt w a [v0, v1, v2, v3, v4, v5, v6, v7, v8, v9, v10, v11, v12, v13, v14]) : w.cell? a = some v0 ∧ w.cell? ⟨a.block, a.off + 1, none⟩ = some v1 ∧ w.cell? ⟨a.block, a.off + 2, none⟩ = some v2 ∧ w.cell? ⟨a.block, a.off + 3, none⟩ = some v3 ∧ w.cell? ⟨a.block, a.off + 4, none⟩ = some v4 ∧ w.cell? ⟨a.block, a.off + 5, none⟩ = some v5 ∧ w.cell? ⟨a.block, a.off + 6, none⟩ = some v6 ∧ w.cell? ⟨a.block, a.off + 7, none⟩ = some v7 ∧ w.cell? ⟨a.block, a.off + 8, none⟩ = some v8 ∧ w.cell? ⟨a.block, a.off + 9, none⟩ = some v9 ∧ w.cell? ⟨a.block, a.off + 10, none⟩ = some v10 ∧ w.cell? ⟨a.block, a.off + 11, none⟩ = some v11 ∧ w.cell? ⟨a.block, a.off + 12, none⟩ = some v12 ∧ w.cell? ⟨a.block, a.off + 13, none⟩ = some v13 ∧ w.cell? ⟨a.block, a.off + 14, none⟩ = some v14 :=
  ⟨R 0 _ rfl, R 1 _ rfl, R 2 _ rfl, R 3 _ rfl, R 4 _ rfl, R 5 _ rfl, R 6 _ rfl, R 7 _ rfl, R 8 _ rfl, R 9 _ rfl, R 10 _ rfl, R 11 _ rfl, R 12 _ rfl, R 13 _ rfl, R 14 _ rfl⟩
theorem SegAt.c16 {w : World} {a : Addr} {v0 v1 v2 v3 v4 v5 v6 v7 v8 v9 v10 v11 v12 v13 v14 v15 : Value} (R : SegAt w a [v0, v1, v2, v3, v4, v5, v6, v7, v8, v9, v10, v11, v12, v13, v14, v15]) : w.cell? a = some v0 ∧ w.cell? ⟨a.block, a.off + 1, none⟩ = some v1 ∧ w.cell? ⟨a.block, a.off + 2, none⟩ = some v2 ∧ w.cell? ⟨a.block, a.off + 3, none⟩ = some v3 ∧ w.cell? ⟨a.block, a.off + 4, none⟩ = some v4 ∧ w.cell? ⟨a.block, a.off + 5, none⟩ = some v5 ∧ w.cell? ⟨a.block, a.off + 6, none⟩ = some v6 ∧ w.cell? ⟨a.block, a.off + 7, none⟩ = some v7 ∧ w.cell? ⟨a.block, a.off + 8, none⟩ = some v8 ∧ w.cell? ⟨a.block, a.off + 9, none⟩ = some v9 ∧ w.cell? ⟨a.block, a.off + 10, none⟩ = some v10 ∧ w.cell? ⟨a.block, a.off + 11, none⟩ = some v11 ∧ w.cell? ⟨a.block, a.off + 12, none⟩ = some v12 ∧ w.cell? ⟨a.block, a.off + 13, none⟩ = some v13 ∧ w.cell? ⟨a.block, a.off + 14, none⟩ = some v14 ∧ w.cell? ⟨a.block, a.off + 15, none⟩ = some v15 :=
  ⟨R 0 _ rfl, R 1 _ rfl, R 2 _ rfl, R 3 _ rfl, R 4 _ rfl, R 5 _ rfl, R 6 _ rfl, R 7 _ rfl, R 8 _ rfl, R 9 _ rfl, R 10 _ rfl, R 11 _ rfl, R 12 _ rfl, R 13 _ rfl, R 14 _ rfl, R 15 _ rfl⟩
theorem SegAt.c1z {w : World} {b : Nat} {v0 : Value} (R : SegAt w ⟨b, 0, none⟩ [v0]) : w.cell? ⟨b, 0, none⟩ = some v0 :=
  R 0 _ rfl
theorem SegAt.c2z {w : World} {b : Nat} {v0 v1 : Value} (R : SegAt w ⟨b, 0, none⟩ [v0, v1]) : w.cell? ⟨b, 0, none⟩ = some v0 ∧ w.cell? ⟨b, 1, none⟩ = some v1 :=
  ⟨R 0 _ rfl, R 1 _ rfl⟩
theorem SegAt.c3z {w : World} {b : Nat} {v0 v1 v2 : Value} (R : SegAt w ⟨b, 0, none⟩ [v0, v1, v2]) : w.cell? ⟨b, 0, none⟩ = some v0 ∧ w.cell? ⟨b, 1, none⟩ = some v1 ∧ w.cell? ⟨b, 2, none⟩ = some v2 :=
  ⟨R 0 _ rfl, R 1 _ rfl, R 2 _ rfl⟩
theorem SegAt.c4z {w : World} {b : Nat} {v0 v1 v2 v3 : Value} (R : SegAt w ⟨b, 0, none⟩ [v0, v1, v2, v3]) : w.cell? ⟨b, 0, none⟩ = some v0 ∧ w.cell? ⟨b, 1, none⟩ = some v1 ∧ w.cell? ⟨b, 2, none⟩ = some v2 ∧ w.cell? ⟨b, 3, none⟩ = some v3 :=
  ⟨R 0 _ rfl, R 1 _ rfl, R 2 _ rfl, R 3 _ rfl⟩
theorem SegAt.c5z {w : World} {b : Nat} {v0 v1 v2 v3 v4 : Value} (R : SegAt w ⟨b, 0, none⟩ [v0, v1, v2, v3, v4]) : w.cell? ⟨b, 0, none⟩ = some v0 ∧ w.cell? ⟨b, 1, none⟩ = some v1 ∧ w.cell? ⟨b, 2, none⟩ = some v2 ∧ w.cell? ⟨b, 3, none⟩ = some v3 ∧ w.cell? ⟨b, 4, none⟩ = some v4 :=
  ⟨R 0 _ rfl, R 1 _ rfl, R 2 _ rfl, R 3 _ rfl, R 4 _ rfl⟩
theorem SegAt.c6z {w : World} {b : Nat} {v0 v1 v2 v3 v4 v5 : Value} (R : SegAt w ⟨b, 0, none⟩ [v0, v1, v2, v3, v4, v5]) : w.cell? ⟨b, 0, none⟩ = some v0 ∧ w.cell? ⟨b, 1, none⟩ = some v1 ∧ w.cell? ⟨b, 2, none⟩ = some v2 ∧ w.cell? ⟨b, 3, none⟩ = some v3 ∧ w.cell? ⟨b, 4, none⟩ = some v4 ∧ w.cell? ⟨b, 5, none⟩ = some v5 :=
  ⟨R 0 _ rfl, R 1 _ rfl, R 2 _ rfl, R 3 _ rfl, R 4 _ rfl, R 5 _ rfl⟩
theorem SegAt.c7z {w : World} {b : Nat} {v0 v1 v2 v3 v4 v5 v6 : Value} (R : SegAt w ⟨b, 0, none⟩ [v0, v1, v2, v3, v4, v5, v6]) : w.cell? ⟨b, 0, none⟩ = some v0 ∧ w.cell? ⟨b, 1, none⟩ = some v1 ∧ w.cell? ⟨b, 2, none⟩ = some v2 ∧ w.cell? ⟨b, 3, none⟩ = some v3 ∧ w.cell? ⟨b, 4, none⟩ = some v4 ∧ w.cell? ⟨b, 5, none⟩ = some v5 ∧ w.cell? ⟨b, 6, none⟩ = some v6 :=
  ⟨R 0 _ rfl, R 1 _ rfl, R 2 _ rfl, R 3 _ rfl, R 4 _ rfl, R 5 _ rfl, R 6 _ rfl⟩
theorem SegAt.c8z {w : World} {b : Nat} {v0 v1 v2 v3 v4 v5 v6 v7 : Value} (R : SegAt w ⟨b, 0, none⟩ [v0, v1, v2, v3, v4, v5, v6, v7]) : w.cell? ⟨b, 0, none⟩ = some v0 ∧ w.cell? ⟨b, 1, none⟩ = some v1 ∧ w.cell? ⟨b, 2, none⟩ = some v2 ∧ w.cell? ⟨b, 3, none⟩ = some v3 ∧ w.cell? ⟨b, 4, none⟩ = some v4 ∧ w.cell? ⟨b, 5, none⟩ = some v5 ∧ w.cell? ⟨b, 6, none⟩ = some v6 ∧ w.cell? ⟨b, 7, none⟩ = some v7 :=
  ⟨R 0 _ rfl, R 1 _ rfl, R 2 _ rfl, R 3 _ rfl, R 4 _ rfl, R 5 _ rfl, R 6 _ rfl, R 7 _ rfl⟩
theorem SegAt.c9z {w : World} {b : Nat} {v0 v1 v2 v3 v4 v5 v6 v7 v8 : Value} (R : SegAt w ⟨b, 0, none⟩ [v0, v1, v2, v3, v4, v5, v6, v7, v8]) : w.cell? ⟨b, 0, none⟩ = some v0 ∧ w.cell? ⟨b, 1, none⟩ = some v1 ∧ w.cell? ⟨b, 2, none⟩ = some v2 ∧ w.cell? ⟨b, 3, none⟩ = some v3 ∧ w.cell? ⟨b, 4, none⟩ = some v4 ∧ w.cell? ⟨b, 5, none⟩ = some v5 ∧ w.cell? ⟨b, 6, none⟩ = some v6 ∧ w.cell? ⟨b, 7, none⟩ = some v7 ∧ w.cell? ⟨b, 8, none⟩ = some v8 :=
  ⟨R 0 _ rfl, R 1 _ rfl, R 2 _ rfl, R 3 _ rfl, R 4 _ rfl, R 5 _ rfl, R 6 _ rfl, R 7 _ rfl, R 8 _ rfl⟩
theorem SegAt.c10z {w : World} {b : Nat} {v0 v1 v2 v3 v4 v5 v6 v7 v8 v9 : Value} (R : SegAt w ⟨b, 0, none⟩ [v0, v1, v2, v3, v4, v5, v6, v7, v8, v9]) : w.cell? ⟨b, 0, none⟩ = some v0 ∧ w.cell? ⟨b, 1, none⟩ = some v1 ∧ w.cell? ⟨b, 2, none⟩ = some v2 ∧ w.cell? ⟨b, 3, none⟩ = some v3 ∧ w.cell? ⟨b, 4, none⟩ = some v4 ∧ w.cell? ⟨b, 5, none⟩ = some v5 ∧ w.cell? ⟨b, 6, none⟩ = some v6 ∧ w.cell? ⟨b, 7, none⟩ = some v7 ∧ w.cell? ⟨b, 8, none⟩ = some v8 ∧ w.cell? ⟨b, 9, none⟩ = some v9 :=
  ⟨R 0 _ rfl, R 1 _ rfl, R 2 _ rfl, R 3 _ rfl, R 4 _ rfl, R 5 _ rfl, R 6 _ rfl, R 7 _ rfl, R 8 _ rfl, R 9 _ rfl⟩
theorem SegAt.c11z {w : World} {b : Nat} {v0 v1 v2 v3 v4 v5 v6 v7 v8 v9 v10 : Value} (R : SegAt w ⟨b, 0, none⟩ [v0, v1, v2, v3, v4, v5, v6, v7, v8, v9, v10]) : w.cell? ⟨b, 0, none⟩ = some v0 ∧ w.cell? ⟨b, 1, none⟩ = some v1 ∧ w.cell? ⟨b, 2, none⟩ = some v2 ∧ w.cell? ⟨b, 3, none⟩ = some v3 ∧ w.cell? ⟨b, 4, none⟩ = some v4 ∧ w.cell? ⟨b, 5, none⟩ = some v5 ∧ w.cell? ⟨b, 6, none⟩ = some v6 ∧ w.cell? ⟨b, 7, none⟩ = some v7 ∧ w.cell? ⟨b, 8, none⟩ = some v8 ∧ w.cell? ⟨b, 9, none⟩ = some v9 ∧ w.cell? ⟨b, 10, none⟩ = some v10 :=
  ⟨R 0 _ rfl, R 1 _ rfl, R 2 _ rfl, R 3 _ rfl, R 4 _ rfl, R 5 _ rfl, R 6 _ rfl, R 7 _ rfl, R 8 _ rfl, R 9 _ rfl, R 10 _ rfl⟩
theorem SegAt.c12z {w : World} {b : Nat} {v0 v1 v2 v3 v4 v5 v6 v7 v8 v9 v10 v11 : Value} (R : SegAt w ⟨b, 0, none⟩ [v0, v1, v2, v3, v4, v5, v6, v7, v8, v9, v10, v11]) : w.cell? ⟨b, 0, none⟩ = some v0 ∧ w.cell? ⟨b, 1, none⟩ = some v1 ∧ w.cell? ⟨b, 2, none⟩ = some v2 ∧ w.cell? ⟨b, 3, none⟩ = some v3 ∧ w.cell? ⟨b, 4, none⟩ = some v4 ∧ w.cell? ⟨b, 5, none⟩ = some v5 ∧ w.cell? ⟨b, 6, none⟩ = some v6 ∧ w.cell? ⟨b, 7, none⟩ = some v7 ∧ w.cell? ⟨b, 8, none⟩ = some v8 ∧ w.cell? ⟨b, 9, none⟩ = some v9 ∧ w.cell? ⟨b, 10, none⟩ = some v10 ∧ w.cell? ⟨b, 11, none⟩ = some v11 :=
  ⟨R 0 _ rfl, R 1 _ rfl, R 2 _ rfl, R 3 _ rfl, R 4 _ rfl, R 5 _ rfl, R 6 _ rfl, R 7 _ rfl, R 8 _ rfl, R 9 _ rfl, R 10 _ rfl, R 11 _ rfl⟩
theorem SegAt.c13z {w : World} {b : Nat} {v0 v1 v2 v3 v4 v5 v6 v7 v8 v9 v10 v11 v12 : Value} (R : SegAt w ⟨b, 0, none⟩ [v0, v1, v2, v3, v4, v5, v6, v7, v8, v9, v10, v11, v12]) : w.cell? ⟨b, 0, none⟩ = some v0 ∧ w.cell? ⟨b, 1, none⟩ = some v1 ∧ w.cell? ⟨b, 2, none⟩ = some v2 ∧ w.cell? ⟨b, 3, none⟩ = some v3 ∧ w.cell? ⟨b, 4, none⟩ = some v4 ∧ w.cell? ⟨b, 5, none⟩ = some v5 ∧ w.cell? ⟨b, 6, none⟩ = some v6 ∧ w.cell? ⟨b, 7, none⟩ = some v7 ∧ w.cell? ⟨b, 8, none⟩ = some v8 ∧ w.cell? ⟨b, 9, none⟩ = some v9 ∧ w.cell? ⟨b, 10, none⟩ = some v10 ∧ w.cell? ⟨b, 11, none⟩ = some v11 ∧ w.cell? ⟨b, 12, none⟩ = some v12 :=
  ⟨R 0 _ rfl, R 1 _ rfl, R 2 _ rfl, R 3 _ rfl, R 4 _ rfl, R 5 _ rfl, R 6 _ rfl, R 7 _ rfl, R 8 _ rfl, R 9 _ rfl, R 10 _ rfl, R 11 _ rfl, R 12 _ rfl⟩
theorem SegAt.c14z {w : World} {b : Nat} {v0 v1 v2 v3 v4 v5 v6 v7 v8 v9 v10 v11 v12 v13 : Value} (R : SegAt w ⟨b, 0, none⟩ [v0, v1, v2, v3, v4, v5, v6, v7, v8, v9, v10, v11, v12, v13]) : w.cell? ⟨b, 0, none⟩ = some v0 ∧ w.cell? ⟨b, 1, none⟩ = some v1 ∧ w.cell? ⟨b, 2, none⟩ = some v2 ∧ w.cell? ⟨b, 3, none⟩ = some v3 ∧ w.cell? ⟨b, 4, none⟩ = some v4 ∧ w.cell? ⟨b, 5, none⟩ = some v5 ∧ w.cell? ⟨b, 6, none⟩ = some v6 ∧ w.cell? ⟨b, 7, none⟩ = some v7 ∧ w.cell? ⟨b, 8, none⟩ = some v8 ∧ w.cell? ⟨b, 9, none⟩ = some v9 ∧ w.cell? ⟨b, 10, none⟩ = some v10 ∧ w.cell? ⟨b, 11, none⟩ = some v11 ∧ w.cell? ⟨b, 12, none⟩ = some v12 ∧ w.cell? ⟨b, 13, none⟩ = some v13 :=
  ⟨R 0 _ rfl, R 1 _ rfl, R 2 _ rfl, R 3 _ rfl, R 4 _ rfl, R 5 _ rfl, R 6 _ rfl, R 7 _ rfl, R 8 _ rfl, R 9 _ rfl, R 10 _ rfl, R 11 _ rfl, R 12 _ rfl, R 13 _ rfl⟩
theorem SegAt.c15z {w : World} {b : Nat} {v0 v1 v2 v3 v4 v5 v6 v7 v8 v9 v10 v11 v12 v13 v14 : Value} (R : SegAt w ⟨b, 0, none⟩ [v0, v1, v2, v3, v4, v5, v6, v7, v8, v9, v10, v11, v12, v13, v14]) : w.cell? ⟨b, 0, none⟩ = some v0 ∧ w.cell? ⟨b, 1, none⟩ = some v1 ∧ w.cell? ⟨b, 2, none⟩ = some v2 ∧ w.cell? ⟨b, 3, none⟩ = some v3 ∧ w.cell? ⟨b, 4, none⟩ = some v4 ∧ w.cell? ⟨b, 5, none⟩ = some v5 ∧ w.cell? ⟨b, 6, none⟩ = some v6 ∧ w.cell? ⟨b, 7, none⟩ = some v7 ∧ w.cell? ⟨b, 8, none⟩ = some v8 ∧ w.cell? ⟨b, 9, none⟩ = some v9 ∧ w.cell? ⟨b, 10, none⟩ = some v10 ∧ w.cell? ⟨b, 11, none⟩ = some v11 ∧ w.cell? ⟨b, 12, none⟩ = some v12 ∧ w.cell? ⟨b, 13, none⟩ = some v13 ∧ w.cell? ⟨b, 14, none⟩ = some v14 :=
  ⟨R 0 _ rfl, R 1 _ rfl, R 2 _ rfl, R 3 _ rfl, R 4 _ rfl, R 5 _ rfl, R 6 _ rfl, R 7 _ rfl, R 8 _ rfl, R 9 _ rfl, R 10 _ rfl, R 11 _ rfl, R 12 _ rfl, R 13 _ rfl, R 14 _ rfl⟩
theorem SegAt.c16z {w : World} {b : Nat} {v0 v1 v2 v3 v4 v5 v6 v7 v8 v9 v10 v11 v12 v13 v14 v15 : Value} (R : SegAt w ⟨b, 0, none⟩ [v0, v1, v2, v3, v4, v5, v6, v7, v8, v9, v10, v11, v12, v13, v14, v15]) : w.cell? ⟨b, 0, none⟩ = some v0 ∧ w.cell? ⟨b, 1, none⟩ = some v1 ∧ w.cell? ⟨b, 2, none⟩ = some v2 ∧ w.cell? ⟨b, 3, none⟩ = some v3 ∧ w.cell? ⟨b, 4, none⟩ = some v4 ∧ w.cell? ⟨b, 5, none⟩ = some v5 ∧ w.cell? ⟨b, 6, none⟩ = some v6 ∧ w.cell? ⟨b, 7, none⟩ = some v7 ∧ w.cell? ⟨b, 8, none⟩ = some v8 ∧ w.cell? ⟨b, 9, none⟩ = some v9 ∧ w.cell? ⟨b, 10, none⟩ = some v10 ∧ w.cell? ⟨b, 11, none⟩ = some v11 ∧ w.cell? ⟨b, 12, none⟩ = some v12 ∧ w.cell? ⟨b, 13, none⟩ = some v13 ∧ w.cell? ⟨b, 14, none⟩ = some v14 ∧ w.cell? ⟨b, 15, none⟩ = some v15 :=
  ⟨R 0 _ rfl, R 1 _ rfl, R 2 _ rfl, R 3 _ rfl, R 4 _ rfl, R 5 _ rfl, R 6 _ rfl, R 7 _ rfl, R 8 _ rfl, R 9 _ rfl, R 10 _ rfl, R 11 _ rfl, R 12 _ rfl, R 13 _ rfl, R 14 _ rfl, R 15 _ rfl⟩
end Go.Proofs.Ytpkdcbfhacgklaa
/- interrexlaw01.few, same. -/
namespace Go.Proofs.Ytpkdcbfhacgklaa
open Go.RowKit

/-- An Item as it lies in memory. -/
structure Item where
  k : Nat
  x : Nat
  is : Bool
  s : ByteArray
  LA : Option Addr
  Lc : Nat
  L : List ByteArray
  most : Int
  long : Int
  e : Int
def Item.cells (i : Item) : List Value := [Value.int .u8 i.k, .int .u64 i.x, .bool i.is, .string i.s, .slice i.LA i.L.length i.Lc, .int .i64 i.most, .int .i64 i.long, .int .i64 i.e]
/-- The integers of an item are integers of their types. -/
structure Item.wf (i : Item) : Prop where
  m1 : -9223372036854775808 ≤ i.most
  m2 : i.most ≤ 9223372036854775807
  l1 : -9223372036854775808 ≤ i.long
  l2 : i.long ≤ 9223372036854775807
  e1 : -9223372036854775808 ≤ i.e
  e2 : i.e ≤ 9223372036854775807
structure ItemsAt (w : World) (A : Option Addr) (l : List Item) : Prop where
  row : RowAt w A (l.flatMap Item.cells)
  sub : ∀ i ∈ l, RowAt w i.LA (strs i.L)
theorem Item.cells_length (i : Item) : i.cells.length = 8 := rfl
def Item.ok (i : Item) : Bool := decide (i.s.size ≤ 100) && decide (i.L.length ≤ 10) && i.L.all fun s => decide (s.size ≤ 50)
def fewB (l : List Item) : Bool := l.all Item.ok && decide (l.length ≤ 30)

/-- A call that answers b, and turns nothing that was there. -/
def BoolPost (w : World) (b : Bool) (e : Ending) (w' : World) : Prop := e = .returned (.bool b) ∧ Fr noB w w'
theorem BoolPost.mk' {w w' : World} {b b' : Bool} (h : b = b') (hf : Fr noB w w') : BoolPost w b' (.returned (.bool b)) w' := ⟨by rw [h], hf⟩

end Go.Proofs.Ytpkdcbfhacgklaa
/- crc.Table: what it holds, and its contracts. -/
namespace Go.Proofs.Ytpkdcbfhacgklaa
open Go.RowKit

/-! ### Sums, as numbers -/
def crcStep (x : Nat) : Nat := if x % 2 = 1 then (x / 2) ^^^ 3988292384 else x / 2
def crcIter : Nat → Nat → Nat
  | 0, x => x
  | n + 1, x => crcStep (crcIter n x)
def crcRow (i : Nat) : Nat := crcIter 8 i
def not32 (x : Nat) : Nat := 4294967295 - x
def crcByte (r x : Nat) : Nat := crcRow ((r % 256) ^^^ x) ^^^ (r / 256)
def crcReg (r : Nat) (b : List UInt8) : Nat := b.foldl (fun r x => crcByte r x.toNat) r
def crcMore (s : Nat) (b : List UInt8) : Nat := not32 (crcReg (not32 s) b)
def crcSum (b : List UInt8) : Nat := crcMore 0 b
theorem crcReg_append (r : Nat) (a b : List UInt8) : crcReg r (a ++ b) = crcReg (crcReg r a) b := by unfold crcReg; rw [List.foldl_append]
theorem crcStep_lt {x : Nat} (h : x < 4294967296) : crcStep x < 4294967296 := by
  unfold crcStep
  split
  · exact Nat.xor_lt_two_pow (n := 32) (by omega) (by omega)
  · omega
theorem crcIter_lt {x : Nat} (h : x < 4294967296) (n : Nat) : crcIter n x < 4294967296 := by
  induction n with
  | zero => exact h
  | succ n ih => exact crcStep_lt ih
theorem crcRow_lt {x : Nat} (h : x < 4294967296) : crcRow x < 4294967296 := crcIter_lt h 8
theorem crcByte_lt {r x : Nat} (hr : r < 4294967296) (hx : x < 256) : crcByte r x < 4294967296 := by
  unfold crcByte
  have h1 : (r % 256) ^^^ x < 256 := Nat.xor_lt_two_pow (n := 8) (by omega) (by omega)
  exact Nat.xor_lt_two_pow (n := 32) (crcRow_lt (by omega)) (by omega)
theorem crcReg_lt {r : Nat} (hr : r < 4294967296) (b : List UInt8) : crcReg r b < 4294967296 := by
  unfold crcReg
  induction b generalizing r with
  | nil => exact hr
  | cons x b ih => exact ih (crcByte_lt hr x.toNat_lt)
theorem not32_lt (x : Nat) : not32 x < 4294967296 := by unfold not32; omega
theorem not32_not32 {x : Nat} (h : x < 4294967296) : not32 (not32 x) = x := by unfold not32; omega

theorem xor_u32 (a b : Nat) (ha : a < 4294967296) (hb : b < 4294967296) : bits .xor .u32 (a : Int) (b : Int) = ((a ^^^ b : Nat) : Int) := by
  have hx : a ^^^ b < 2 ^ 32 := Nat.xor_lt_two_pow (by omega) (by omega)
  have h1 : (BitVec.ofInt 32 (a : Int)).toNat = a := by
    rw [BitVec.ofInt_natCast, BitVec.toNat_ofNat]; exact Nat.mod_eq_of_lt (by omega)
  have h2 : (BitVec.ofInt 32 (b : Int)).toNat = b := by
    rw [BitVec.ofInt_natCast, BitVec.toNat_ofNat]; exact Nat.mod_eq_of_lt (by omega)
  show IntKind.u32.wrap ((BitVec.ofInt 32 (a : Int) ^^^ BitVec.ofInt 32 (b : Int)).toNat : Int) = _
  rw [BitVec.toNat_xor, h1, h2]
  simp [IntKind.wrap, IntKind.bits, IntKind.signed]
  omega
theorem xor_u8 (a b : Nat) (ha : a < 256) (hb : b < 256) : bits .xor .u8 (a : Int) (b : Int) = ((a ^^^ b : Nat) : Int) := by
  have hx : a ^^^ b < 2 ^ 8 := Nat.xor_lt_two_pow (by omega) (by omega)
  have h1 : (BitVec.ofInt 8 (a : Int)).toNat = a := by
    rw [BitVec.ofInt_natCast, BitVec.toNat_ofNat]; exact Nat.mod_eq_of_lt (by omega)
  have h2 : (BitVec.ofInt 8 (b : Int)).toNat = b := by
    rw [BitVec.ofInt_natCast, BitVec.toNat_ofNat]; exact Nat.mod_eq_of_lt (by omega)
  show IntKind.u8.wrap ((BitVec.ofInt 8 (a : Int) ^^^ BitVec.ofInt 8 (b : Int)).toNat : Int) = _
  rw [BitVec.toNat_xor, h1, h2]
  simp [IntKind.wrap, IntKind.bits, IntKind.signed]
  omega
theorem and1_u32 (a : Nat) (ha : a < 4294967296) : bits .and .u32 (a : Int) 1 = ((a % 2 : Nat) : Int) := by
  have h1 : (BitVec.ofInt 32 (a : Int)).toNat = a := by
    rw [BitVec.ofInt_natCast, BitVec.toNat_ofNat]; exact Nat.mod_eq_of_lt (by omega)
  show IntKind.u32.wrap ((BitVec.ofInt 32 (a : Int) &&& BitVec.ofInt 32 1).toNat : Int) = _
  rw [BitVec.toNat_and, h1, show (BitVec.ofInt 32 1).toNat = 1 from rfl, Nat.and_one_is_mod]
  simp [IntKind.wrap, IntKind.bits, IntKind.signed]
  omega

theorem not_nat (x : Nat) (h : x < 4294967296) : 4294967295 ^^^ x = 4294967295 - x := by
  refine Nat.eq_of_testBit_eq fun i => ?_
  have e1 : (4294967295 : Nat) = 2 ^ 32 - 1 := by decide
  have e2 : (4294967295 : Nat) - x = 2 ^ 32 - (x + 1) := by omega
  rw [Nat.testBit_xor, e2, Nat.testBit_two_pow_sub_succ (by omega), e1, Nat.testBit_two_pow_sub_one]
  by_cases hi : i < 32
  · simp [hi]
  · have : x.testBit i = false := Nat.testBit_lt_two_pow (Nat.lt_of_lt_of_le h (by rw [show (4294967296 : Nat) = 2 ^ 32 by decide]; exact Nat.pow_le_pow_right (by omega) (by omega)))
    simp [hi, this]
theorem not_u32 (x : Nat) (h : x < 4294967296) : bits .xor .u32 IntKind.u32.max (x : Int) = ((not32 x : Nat) : Int) := by
  have h1 := xor_u32 4294967295 x (by omega) h
  rw [not_nat x h] at h1
  exact h1
/-- What a table's cells are; row: what is known of its rows. -/
structure TabC (C : Array Value) (st d mk : Nat) (row : Nat → Option Nat) : Prop where
  size : C.size = 260
  done : C[0]? = some (.int .u32 (d : Nat))
  state : C[1]? = some (.int .i32 (st : Nat))
  made : C[3]? = some (.int .u32 (mk : Nat))
  any : ∀ i, i < 256 → ∃ x, C[4 + i]? = some x
  rows : ∀ i, i < 256 → ∀ x, row i = some x → C[4 + i]? = some (.int .u32 (x : Nat))
set_option maxRecDepth 100000 in
set_option maxHeartbeats 3200000 in
theorem makeT_calls (w : World) (p st d mk : Nat) (T : TypeId) (C : Array Value) (hb : BlkAt w p T C) (hC : TabC C st d mk (fun _ => none)) :
    Calls Try.prog 119 #[.pointer (some ⟨p, 0, none⟩)] w (fun e w' => e = .returned (.tuple #[]) ∧ ∃ C', BlkAt w' p T C' ∧ TabC C' st d 1 (fun i => some (crcRow i)) ∧ Fr (eqB p) w w') := by
  go_enter Try.func119, Try.ntmps119
  go_wp2_with fail
  go_loopw [5] (fun i wr => ∃ (k : Nat) (D : Array Value), k ≤ 256 ∧ i = .int .i64 k ∧ BlkAt wr p T D ∧ TabC D st d mk (fun j => if j < k then some (crcRow j) else none) ∧ Fr (eqB p) w wr) (fun i _ => 256 - (intOf i).toNat)
  case atStart => exact ⟨0, C, by omega, rfl, hb, ⟨hC.size, hC.done, hC.state, hC.made, hC.any, fun i _ x hx => by simp at hx⟩, Fr.refl _ _⟩
  case round =>
    clear hb hC
    obtain ⟨k, D, hk, rfl, hb, hC, hf⟩ := hrel
    by_cases hk6 : k < 256
    · obtain ⟨wo, rfl⟩ : ∃ wo : World, wo = wr := ⟨_, rfl⟩
      go_wp2_with fail
      go_loop [3, 10] (fun v i => ∃ (j : Nat) (x : Nat), j ≤ 8 ∧ i = .int .i64 j ∧ v = .int .u32 x ∧ Hid (x = crcIter j k) ∧ x < 4294967296) (fun _ i => 8 - (intOf i).toNat)
      case atStart => exact ⟨0, k, by omega, rfl, rfl, rfl, by omega⟩
      case round =>
        obtain ⟨j, x, hj, rfl, rfl, HX, hx⟩ := hrel
        by_cases hj8 : j < 8
        · have hand := and1_u32 x hx
          have hxor := xor_u32 (x / 2) 3988292384 (by omega) (by omega)
          have hlt := crcStep_lt hx
          by_cases h1 : x % 2 = 1
          · have HS : Hid ((x / 2) ^^^ 3988292384 = crcIter (j + 1) k) := by unfold Hid; rw [crcIter, ← HX.out, crcStep, if_pos h1]
            have hlt2 : (x / 2) ^^^ 3988292384 < 4294967296 := by rw [crcStep, if_pos h1] at hlt; exact hlt
            rw [h1] at hand
            have hx2 : x / 2 < 4294967296 := by omega
            have hcast : ((x : Int) / 2) = ((x / 2 : Nat) : Int) := by omega
            have H1 := hid h1
            clear h1 hlt
            generalize hy : x / 2 = y at *
            have HY := hid hy; clear hy
            generalize (y ^^^ 3988292384) = z at *
            go_wp2_with fail
            go_round
            case rel => exact ⟨j + 1, z, by omega, by go_num, congrArg (Value.int .u32) hxor, HS, hlt2⟩
            case measure => simp [intOf]; omega
          · have h0 : x % 2 = 0 := by omega
            have HS : Hid (x / 2 = crcIter (j + 1) k) := by unfold Hid; rw [crcIter, ← HX.out, crcStep, if_neg h1]
            rw [h0] at hand
            have H1 := hid h1
            clear h1 h0 hlt hxor
            go_wp2_with fail
            go_round
            case rel => exact ⟨j + 1, x / 2, by omega, by go_num, by go_num, HS, by omega⟩
            case measure => simp [intOf]; omega
        · have : j = 8 := by omega
          subst this
          have hcell := hb.cell (k := 4 + k) (hC.any k hk6).choose_spec
          have hfree := hb.free (4 + k)
          generalize (hC.any k hk6).choose = old at *
          have hb2 := hb.set (4 + k) (.int .u32 (x : Nat))
          have hC2 : TabC (D.setIfInBounds (4 + k) (.int .u32 (x : Nat))) st d mk (fun j => if j < k + 1 then some (crcRow j) else none) := by
            have hs := hC.size
            refine ⟨by simpa using hs, by rw [sib_ne (by omega)]; exact hC.done, by rw [sib_ne (by omega)]; exact hC.state, by rw [sib_ne (by omega)]; exact hC.made, fun i hi => ?_, fun i hi y hy => ?_⟩
            · by_cases e : i = k
              · subst e; exact ⟨_, sib_eq (by omega)⟩
              · rw [sib_ne (by omega)]; exact hC.any i hi
            · by_cases e : i = k
              · subst e
                rw [if_pos (by omega)] at hy
                injection hy with hy
                rw [sib_eq (by omega), ← hy, HX.out]; rfl
              · rw [sib_ne (by omega)]
                refine hC.rows i hi y ?_
                by_cases hik : i < k
                · rw [if_pos (by omega)] at hy; rw [if_pos hik]; exact hy
                · rw [if_neg (by omega)] at hy; cases hy
          have hf2 := hf.then' (fr_set1 wo p (4 + k) (.int .u32 (x : Nat)))
          have HB2 := hid (And.intro hb2 (And.intro hC2 hf2))
          clear hb hC hb2 hC2 hf hf2
          go_wp2_with fail
          go_roundw
          case rel => exact ⟨k + 1, _, by omega, by go_num, HB2.out.1, HB2.out.2.1, HB2.out.2.2⟩
          case measure => simp [intOf]; omega
    · have : k = 256 := by omega
      subst this
      have hc3 := hb.cell hC.made
      have hz3 := hb.free 3
      have hst := storeB_calls ⟨p, 3, none⟩ _ wr hc3 hz3
      have hC2 : TabC (D.setIfInBounds 3 (.int .u32 1)) st d 1 (fun i => some (crcRow i)) := by
        have hs := hC.size
        refine ⟨by simpa using hs, by rw [sib_ne (by omega)]; exact hC.done, by rw [sib_ne (by omega)]; exact hC.state, by rw [sib_eq (by omega)]; rfl, fun i hi => by rw [sib_ne (by omega)]; exact hC.any i hi, fun i hi y hy => ?_⟩
        rw [sib_ne (by omega)]
        exact hC.rows i hi y (by rw [if_pos hi]; exact hy)
      have HB2 := hid (And.intro (hb.drew.set 3 (.int .u32 1)) (And.intro hC2 (hf.drew.then' (fr_set1 wr.drew p 3 (.int .u32 1)))))
      clear hb hC hC2 hf
      go_wp2_with fail
      refine hst.mono ?_
      rintro e w5 ⟨rfl, rfl⟩
      go_wp2_with fail
      go_end0
      exact ⟨rfl, _, HB2.out.1, HB2.out.2.1, HB2.out.2.2⟩
set_option maxRecDepth 100000 in
set_option maxHeartbeats 1600000 in
theorem doSlow_calls (w : World) (p : Nat) (T : TypeId) (C : Array Value) (hb : BlkAt w p T C) (mk : Nat) (hC : TabC C 0 0 mk (fun _ => none)) :
    Calls Try.prog 121 #[.pointer (some ⟨p, 0, none⟩), .func (.func 119) #[.pointer (some ⟨p, 0, none⟩)] #[]] w (fun e w' => e = .returned (.tuple #[]) ∧ ∃ C', BlkAt w' p T C' ∧ TabC C' 0 1 1 (fun i => some (crcRow i)) ∧ Fr (eqB p) w w') := by
  have c1 := hb.cell hC.state
  have z1 := hb.free 1
  have hb2 := hb.set 1 (.int .i32 1)
  have hs := hC.size
  have hC2 : TabC (C.setIfInBounds 1 (.int .i32 1)) 1 0 mk (fun _ => none) :=
    ⟨by simpa using hs, by rw [sib_ne (by omega)]; exact hC.done, by rw [sib_eq (by omega)]; rfl, by rw [sib_ne (by omega)]; exact hC.made, fun i hi => by rw [sib_ne (by omega)]; exact hC.any i hi, fun i _ x hx => by cases hx⟩
  have hl := loadB_calls ⟨p, 0, none⟩ 0 _ (hb2.cell hC2.done) (by omega)
  have hm := makeT_calls _ p 1 0 mk T _ hb2 hC2
  have f2 := fr_set1 w p 1 (.int .i32 1)
  have hlk := lock_free ⟨p, 1, none⟩ w c1 z1
  clear hb hC hC2 hb2 hs
  have F2 := hid f2; clear f2
  go_enter_defers Try.func121, Try.ntmps121
  go_wp2_with fail
  refine hlk.mono ?_
  rintro e w' ⟨rfl, rfl⟩
  go_wp2_with fail
  refine hl.mono ?_
  rintro e w' ⟨rfl, rfl⟩
  go_wp2_with fail
  refine hm.mono ?_
  rintro e w5 ⟨rfl, C5, hb5, hC5, f5⟩
  clear hm hl hlk c1 z1
  go_wp2_with fail
  -- the door
  refine leaves_cons (f := 122) (args := #[.pointer (some ⟨p, 0, none⟩), .bool true]) (by simp) (by simp [go_sem]) ?_
  refine (storeB_deferred ⟨p, 0, none⟩ _ .returning w5 (hb5.cell hC5.done) (hb5.free 0)).mono ?_
  rintro e u' w'' ⟨rfl, rfl, rfl⟩
  have hb6 := hb5.drew.set 0 (.int .u32 1)
  have f6 := fr_set1 w5.drew p 0 (.int .u32 1)
  have hs := hC5.size
  have hC6 : TabC (C5.setIfInBounds 0 (.int .u32 1)) 1 1 1 (fun i => some (crcRow i)) :=
    ⟨by simpa using hs, by rw [sib_eq (by omega)]; rfl, by rw [sib_ne (by omega)]; exact hC5.state, by rw [sib_ne (by omega)]; exact hC5.made, fun i hi => by rw [sib_ne (by omega)]; exact hC5.any i hi, fun i hi x hx => by rw [sib_ne (by omega)]; exact hC5.rows i hi x hx⟩
  refine leaves_cons (f := 125) (args := #[.pointer (some ⟨p, 1, none⟩)]) (by simp [settle]) (by simp [go_sem]) ?_
  refine (unlock_deferred ⟨p, 1, none⟩ _ _ (hb6.cell hC6.state) (hb6.free 1)).mono ?_
  rintro e u' w'' ⟨rfl, rfl, rfl⟩
  have hb7 := hb6.set 1 (.int .i32 0)
  have f7 := fr_set1 (w5.drew.setCell ⟨p, 0, none⟩ (.int .u32 1)) p 1 (.int .i32 0)
  have hs6 := hC6.size
  have hC7 : TabC ((C5.setIfInBounds 0 (.int .u32 1)).setIfInBounds 1 (.int .i32 0)) 0 1 1 (fun i => some (crcRow i)) :=
    ⟨by simpa using hs6, by rw [sib_ne (by omega)]; exact hC6.done, by rw [sib_eq (by omega)]; rfl, by rw [sib_ne (by omega)]; exact hC6.made, fun i hi => by rw [sib_ne (by omega)]; exact hC6.any i hi, fun i hi x hx => by rw [sib_ne (by omega)]; exact hC6.rows i hi x hx⟩
  have hall : Fr (eqB p) w ((w5.drew.setCell ⟨p, 0, none⟩ (.int .u32 1)).setCell ⟨p, 1, none⟩ (.int .i32 0)) := ((F2.out.then' f5).drew.then' f6).then' f7
  have hfin : ∃ C', BlkAt ((w5.drew.setCell ⟨p, 0, none⟩ (.int .u32 1)).setCell ⟨p, 1, none⟩ (.int .i32 0)) p T C' ∧ TabC C' 0 1 1 (fun i => some (crcRow i)) ∧ Fr (eqB p) w ((w5.drew.setCell ⟨p, 0, none⟩ (.int .u32 1)).setCell ⟨p, 1, none⟩ (.int .i32 0)) := ⟨_, hb7, hC7, hall⟩
  clear hb5 hC5 f5 hb6 f6 hs hC6 hb7 f7 hs6 hC7 hall F2
  have HFIN := hid hfin; clear hfin
  simp only [Leaves, settle, results, Try.results121]
  simp
  exact HFIN.out
/-- A Table, made or not, in the block p. -/
def TabAt (w : World) (p : Nat) (made : Bool) : Prop := ∃ T C, BlkAt w p T C ∧ TabC C 0 (if made then 1 else 0) (if made then 1 else 0) (fun i => if made then some (crcRow i) else none)
theorem TabAt.fr {S : Nat → Prop} {w w' : World} {p : Nat} {m : Bool} (h : TabAt w p m) (f : Fr S w w') (hp : ¬ S p) : TabAt w' p m := by
  obtain ⟨T, C, h1, h2⟩ := h
  exact ⟨T, C, h1.fr f hp, h2⟩
theorem TabAt.lt {w : World} {p : Nat} {m : Bool} (h : TabAt w p m) : p < w.heap.size := by
  obtain ⟨T, C, h1, _⟩ := h
  exact h1.lt
theorem do_calls (w : World) (p : Nat) (m : Bool) (h : TabAt w p m) :
    Calls Try.prog 118 #[.pointer (some ⟨p, 0, none⟩), .func (.func 119) #[.pointer (some ⟨p, 0, none⟩)] #[]] w (fun e w' => e = .returned (.tuple #[]) ∧ TabAt w' p true ∧ Fr (eqB p) w w') := by
  obtain ⟨T, C, hb, hC⟩ := h
  have hl := loadB_calls ⟨p, 0, none⟩ _ w (hb.cell hC.done) (by split <;> omega)
  cases m with
  | true =>
    simp only [if_true] at hl
    have HB := hid hb
    have HC := hid hC
    clear hb hC
    go_enter Try.func118, Try.ntmps118
    go_wp2_with fail
    refine hl.mono ?_
    rintro e w' ⟨rfl, rfl⟩
    go_wp2_with fail
    go_end0
    exact ⟨rfl, ⟨T, C, HB.out, HC.out⟩, Fr.refl _ _⟩
  | false =>
    simp only [Bool.false_eq_true, if_false] at hl
    have hds := doSlow_calls w p T C hb 0 (by simpa using hC)
    clear hb hC
    go_enter Try.func118, Try.ntmps118
    go_wp2_with fail
    refine hl.mono ?_
    rintro e w' ⟨rfl, rfl⟩
    go_wp2_with fail
    refine hds.mono ?_
    rintro e w' ⟨rfl, C', hb', hC', f'⟩
    go_wp2_with fail
    go_end0
    exact ⟨rfl, ⟨T, C', hb', by simpa using hC'⟩, f'⟩
theorem newT_calls (w : World) : Calls Try.prog 86 #[] w (fun e w' => e = .returned (.pointer (some ⟨w.heap.size, 0, none⟩)) ∧ TabAt w' w.heap.size false ∧ Fr noB w w' ∧ w'.heap.size = w.heap.size + 1) := by
  have hsz : Try.zeroCells138.size = 260 := by kernel_rfl
  have h0 : Try.zeroCells138[0]? = some (.int .u32 0) := by kernel_rfl
  have h1 : Try.zeroCells138[1]? = some (.int .i32 0) := by kernel_rfl
  have h3 : Try.zeroCells138[3]? = some (.int .u32 0) := by kernel_rfl
  have hT : TabAt (w.alloc (.cells Try.zeroCells138 138)) w.heap.size false :=
    ⟨_, _, heap_alloc_new w _, ⟨hsz, h0, h1, h3, fun i hi => ⟨_, Array.getElem?_eq_getElem (by omega)⟩, fun i _ x hx => by simp at hx⟩⟩
  have HT := hid hT
  clear hsz h0 h1 h3 hT
  go_enter Try.func86, Try.ntmps86
  go_wp2_with fail
  go_ret
  exact ⟨rfl, HT.out, (Fr.refl noB w).alloc _, by simp⟩
set_option maxRecDepth 100000 in
set_option maxHeartbeats 3200000 in
theorem moreT_calls (w : World) (p : Nat) (m : Bool) (s : Nat) (A : Option Addr) (n c : Nat) (b : List UInt8) (h : TabAt w p m) (hs : s < 4294967296) (hr : RowAt w A (bcells b)) (HN : Hid (b.length = n)) (hn : n ≤ 1000000000000) (hA : ∀ a, A = some a → 0 < n → a.block ≠ p) :
    Calls Try.prog 111 #[.pointer (some ⟨p, 0, none⟩), .int .u32 s, .slice A n c] w (fun e w' => e = .returned (.int .u32 (crcMore s b : Nat)) ∧ TabAt w' p true ∧ Fr (eqB p) w w') := by
  have hmf : ∀ (fn : Fn) (first cap : Array Value) (w : World), (Instr.makeFunc fn first cap).run Try.prog w = .ok (.func fn first cap) w := fun _ _ _ _ => rfl
  have hdo := do_calls w p m h
  have hnt := not_u32 s hs
  obtain ⟨r0, HR0⟩ : ∃ r0, Hid (not32 s = r0) := ⟨_, rfl⟩
  rw [HR0.out] at hnt
  have hsg : IntKind.u32.signed = false := rfl
  go_enter Try.func111, Try.ntmps111
  go_wp2_with fail
  refine hdo.mono ?_
  rintro e w1 ⟨rfl, h1, f1⟩
  clear hdo
  go_wp2_with fail
  obtain ⟨T, C, hb, hC⟩ := h1
  have HC1 := hid (And.intro hb hC)
  have hr0 : r0 < 4294967296 := by rw [← HR0.out]; exact not32_lt s
  have hrow : RowAt w1 A (bcells b) := hr.fr f1 (fun a e h0 _ hk => hA a e (by rw [bcells_length, HN.out] at h0; exact h0) hk)
  have F1 := hid f1
  clear hr f1 hb
  go_loop [7, 20] (fun v i => ∃ (k r : Nat), k ≤ n ∧ i = .int .i64 k ∧ v = .int .u32 r ∧ Hid (r = crcReg r0 (b.take k)) ∧ r < 4294967296) (fun _ i => n - (intOf i).toNat)
  case atStart => exact ⟨0, r0, Nat.zero_le _, rfl, rfl, rfl, hr0⟩
  case round =>
    obtain ⟨k, r, hk, rfl, rfl, HR, hlt⟩ := hrel
    by_cases hkn : k < n
    · obtain ⟨x, hx⟩ : ∃ x, b[k]? = some x := ⟨_, List.getElem?_eq_getElem (by rw [HN.out]; exact hkn)⟩
      obtain ⟨a, rfl⟩ := hrow.some_of (by rw [bcells_length, HN.out]; omega)
      have hcx := hrow.cell (j := k) (u := .int .u8 x.toNat) (by simp only [bcells, List.getElem?_map, hx]; rfl)
      have hx256 := x.toNat_lt
      have HS : Hid (crcByte r x.toNat = crcReg r0 (b.take (k + 1))) := by
        unfold Hid; rw [take_snoc' hx, crcReg_append, ← HR.out]; rfl
      have hltz := crcByte_lt hlt hx256
      obtain ⟨xn, HX⟩ : ∃ xn, Hid (x.toNat = xn) := ⟨_, rfl⟩
      rw [HX.out] at hcx hx256 HS hltz
      obtain ⟨y, HY⟩ : ∃ y, Hid ((r % 256) ^^^ xn = y) := ⟨_, rfl⟩
      have hx8 : bits .xor .u8 ((r : Int) % 256) (xn : Int) = (y : Int) := by
        have := xor_u8 (r % 256) xn (by omega) hx256
        rw [HY.out] at this
        exact this
      have hy256 : y < 256 := by rw [← HY.out]; exact Nat.xor_lt_two_pow (n := 8) (by omega) (by omega)
      have hcell := HC1.out.1.cell (HC1.out.2.rows y hy256 (crcRow y) (by simp))
      have hry : crcRow y < 4294967296 := crcRow_lt (by omega)
      obtain ⟨z, HZ⟩ : ∃ z, Hid (crcRow y ^^^ (r / 256) = z) := ⟨_, rfl⟩
      have hx32 : bits .xor .u32 ((crcRow y : Nat) : Int) ((r : Int) / 256) = (z : Int) := by
        have := xor_u32 (crcRow y) (r / 256) hry (by omega)
        rw [HZ.out] at this
        exact this
      have HE : Hid (crcByte r xn = z) := by unfold Hid crcByte; rw [HY.out, HZ.out]
      rw [HE.out] at hltz HS
      generalize crcRow y = ry at *
      clear hx
      go_wp2_with fail
      go_round
      case rel => exact ⟨k + 1, z, by omega, by go_num, rfl, HS, hltz⟩
      case measure => simp [intOf]; omega
    · have : k = n := by omega
      subst this
      have hfin : Hid (crcMore s b = not32 r) := by
        unfold Hid crcMore; rw [HR.out, List.take_of_length_le (by rw [HN.out]; exact Nat.le_refl _), HR0.out]
      have hn2 := not_u32 r hlt
      go_wp2_with fail
      go_ret
      rw [hfin.out]
      exact ⟨by first | rfl | exact congrArg (fun v => Ending.returned (.int .u32 v)) hn2, ⟨T, C, HC1.out.1, HC1.out.2⟩, F1.out⟩
theorem sumT_calls (w : World) (p : Nat) (m : Bool) (A : Option Addr) (n c : Nat) (b : List UInt8) (h : TabAt w p m) (hr : RowAt w A (bcells b)) (HN : Hid (b.length = n)) (hn : n ≤ 1000000000000) (hA : ∀ a, A = some a → 0 < n → a.block ≠ p) :
    Calls Try.prog 87 #[.pointer (some ⟨p, 0, none⟩), .slice A n c] w (fun e w' => e = .returned (.int .u32 (crcSum b : Nat)) ∧ TabAt w' p true ∧ Fr (eqB p) w w') := by
  have hm := moreT_calls w p m 0 A n c b h (by omega) hr HN hn hA
  clear hr hA
  go_enter Try.func87, Try.ntmps87
  go_wp2_with fail
  refine hm.mono ?_
  rintro e w' ⟨rfl, h1, f1⟩
  go_wp2_with fail
  go_ret
  exact ⟨rfl, h1, f1⟩
theorem new_rowF (w : World) (C : Array Value) (t : TypeId) (fz : Nat × Nat) : RowAt (w.alloc (.cells C t fz)) (some ⟨w.heap.size, 0, none⟩) C.toList := fun j u hu => by
  refine ⟨_, rfl, ?_⟩
  have e : (⟨w.heap.size, 0, none⟩ : Addr).add j = ⟨w.heap.size, j, none⟩ := by unfold Addr.add; split <;> simp_all
  rw [e, cell_of_row _ _ _ _ _ _ (heap_alloc_new w _)]
  simpa using hu
end Go.Proofs.Ytpkdcbfhacgklaa
/- Sums: plain laws. -/
namespace Go.Proofs.Ytpkdcbfhacgklaa
open Go.RowKit

theorem crcStep_zero : crcStep 0 = 0 := by decide
theorem xor_mod2 (a b : Nat) : (a ^^^ b) % 2 = (a % 2) ^^^ (b % 2) := by
  have := Nat.xor_mod_two_pow (a := a) (b := b) (n := 1)
  simpa using this
theorem xor_div2 (a b : Nat) : (a ^^^ b) / 2 = (a / 2) ^^^ (b / 2) := Nat.xor_div_two
theorem crcStep_xor (a b : Nat) : crcStep (a ^^^ b) = crcStep a ^^^ crcStep b := by
  unfold crcStep
  rw [xor_mod2, xor_div2]
  generalize a / 2 = x
  generalize b / 2 = y
  generalize (3988292384 : Nat) = P
  rcases Nat.mod_two_eq_zero_or_one a with ha | ha <;> rcases Nat.mod_two_eq_zero_or_one b with hb | hb <;> rw [ha, hb]
  · simp
  · simp [Nat.xor_assoc]
  · simp only [show (1 ^^^ 0 : Nat) = 1 from rfl, if_true, show ¬ (0 : Nat) = 1 by decide, if_false]
    rw [Nat.xor_assoc, Nat.xor_comm y P, ← Nat.xor_assoc]
  · simp only [show (1 ^^^ 1 : Nat) = 0 from rfl, if_true, show ¬ (0 : Nat) = 1 by decide, if_false]
    refine Nat.eq_of_testBit_eq fun i => ?_
    simp only [Nat.testBit_xor]
    cases x.testBit i <;> cases y.testBit i <;> cases P.testBit i <;> rfl
theorem crcIter_xor (n a b : Nat) : crcIter n (a ^^^ b) = crcIter n a ^^^ crcIter n b := by
  induction n with
  | zero => rfl
  | succ n ih => rw [crcIter, ih, crcStep_xor]; rfl
theorem crcIter_zero (n : Nat) : crcIter n 0 = 0 := by
  induction n with
  | zero => rfl
  | succ n ih => rw [crcIter, ih, crcStep_zero]
theorem crcIter_add (m n x : Nat) : crcIter (m + n) x = crcIter m (crcIter n x) := by
  induction m with
  | zero => rw [Nat.zero_add]; rfl
  | succ m ih => rw [Nat.succ_add, crcIter, ih]; rfl
/-- Even numbers are only shifted. -/
theorem crcIter_shift (n h : Nat) : crcIter n (2 ^ n * h) = h := by
  induction n generalizing h with
  | zero => simp [crcIter]
  | succ n ih =>
    rw [Nat.pow_succ, Nat.mul_assoc, crcIter, ih, crcStep, if_neg (by omega)]
    omega
theorem low_high (n r : Nat) : (r % 2 ^ n) ^^^ (2 ^ n * (r / 2 ^ n)) = r := by
  refine Nat.eq_of_testBit_eq fun i => ?_
  rw [Nat.testBit_xor, Nat.testBit_mod_two_pow, Nat.mul_comm, Nat.testBit_mul_two_pow, Nat.testBit_div_two_pow]
  by_cases h : i < n
  · simp [h, Nat.not_le.2 h]
  · have h2 : n ≤ i := by omega
    simp [h, h2, Nat.sub_add_cancel h2]
theorem crcByte_eq (r x : Nat) : crcByte r x = crcIter 8 (r ^^^ x) := by
  have h := low_high 8 r
  have e : r ^^^ x = ((r % 256) ^^^ x) ^^^ (2 ^ 8 * (r / 256)) := by
    conv => lhs; rw [← h]
    rw [Nat.xor_assoc, Nat.xor_comm (2 ^ 8 * _) x, ← Nat.xor_assoc]
  rw [e, crcIter_xor, crcIter_shift]
  rfl
theorem crcByte_xor (r s x y : Nat) : crcByte (r ^^^ s) (x ^^^ y) = crcByte r x ^^^ crcByte s y := by
  rw [crcByte_eq, crcByte_eq, crcByte_eq, ← crcIter_xor]
  congr 1
  rw [Nat.xor_assoc, ← Nat.xor_assoc s, Nat.xor_comm s x, Nat.xor_assoc, ← Nat.xor_assoc r x]
/-- A step takes different numbers to different ones. -/
theorem crcStep_inj {x : Nat} (hx : x < 4294967296) (h : crcStep x = 0) : x = 0 := by
  unfold crcStep at h
  split at h
  · rename_i h1
    have := congrArg (fun n => n.testBit 31) h
    simp only [Nat.testBit_xor, Nat.zero_testBit] at this
    have h2 : (x / 2).testBit 31 = false := Nat.testBit_lt_two_pow (by omega)
    have h3 : (3988292384 : Nat).testBit 31 = true := by decide
    rw [h2, h3] at this
    cases this
  · omega
theorem crcIter_inj {x : Nat} (hx : x < 4294967296) (n : Nat) (h : crcIter n x = 0) : x = 0 := by
  induction n with
  | zero => exact h
  | succ n ih => exact ih (crcStep_inj (crcIter_lt hx n) h)
end Go.Proofs.Ytpkdcbfhacgklaa
/- interrexref02.Sum. -/
namespace Go.Proofs.Ytpkdcbfhacgklaa
open Go.RowKit

/-- 32 truths in a row. -/
structure BitsC (C : Array Value) (f : Nat → Bool) : Prop where
  size : C.size = 32
  get : ∀ j, j < 32 → C[j]? = some (.bool (f j))
theorem BitsC.set {C : Array Value} {f g : Nat → Bool} (h : BitsC C f) {k : Nat} {v : Bool} (hk : k < 32) (hg : ∀ j, j < 32 → g j = if j = k then v else f j) : BitsC (C.setIfInBounds k (.bool v)) g := by
  have hs := h.size
  refine ⟨by simpa using hs, fun j hj => ?_⟩
  rw [hg j hj]
  by_cases e : j = k
  · subst e; rw [if_pos rfl]; exact sib_eq (by omega)
  · rw [if_neg e, sib_ne (fun h => e h.symm)]; exact h.get j hj
theorem BitsC.cong {C : Array Value} {f g : Nat → Bool} (h : BitsC C f) (hg : ∀ j, j < 32 → g j = f j) : BitsC C g := ⟨h.size, fun j hj => by rw [hg j hj]; exact h.get j hj⟩
def bitsZ : Array Value := Array.replicate 32 (.bool false)
theorem testBit_div (x i : Nat) : x / 2 ^ i % 2 = if x.testBit i then 1 else 0 := by
  have h : x.testBit i = decide (x / 2 ^ i % 2 = 1) := Nat.testBit_eq_decide_div_mod_eq
  rw [h]
  rcases Nat.mod_two_eq_zero_or_one (x / 2 ^ i) with e | e <;> rw [e] <;> rfl
theorem crcStep_bit (x j : Nat) : (crcStep x).testBit j = (((x / 2).testBit j) ^^ (x.testBit 0 && (3988292384 : Nat).testBit j)) := by
  have h0 : x.testBit 0 = decide (x % 2 = 1) := by simp [Nat.testBit_zero]
  unfold crcStep
  by_cases h : x % 2 = 1
  · rw [if_pos h, Nat.testBit_xor, h0, decide_eq_true h]; simp
  · rw [if_neg h, h0, decide_eq_false h]; simp
theorem not32_bit {x j : Nat} (hx : x < 4294967296) (hj : j < 32) : (not32 x).testBit j = !x.testBit j := by
  unfold not32
  rw [← not_nat x hx, Nat.testBit_xor, show (4294967295 : Nat) = 2 ^ 32 - 1 by decide, Nat.testBit_two_pow_sub_one]
  simp [hj]

set_option maxRecDepth 100000 in
set_option maxHeartbeats 12800000 in
theorem sumR_calls (w : World) (s : ByteArray) (hs : s.size ≤ 1000000000000) :
    Calls Try.prog 94 #[.string s] w (fun e w' => e = .returned (.int .u32 (crcSum s.data.toList : Nat)) ∧ Fr noB w w') := by
  have hsz : s.data.toList.length = s.size := by simp
  have HSZ := hid hsz; clear hsz
  have hb0 : BlkAt (w.alloc (.cells #[.bool false, .bool false, .bool false, .bool false, .bool false, .bool false, .bool false, .bool false, .bool false, .bool false, .bool false, .bool false, .bool false, .bool false, .bool false, .bool false, .bool false, .bool false, .bool false, .bool false, .bool false, .bool false, .bool false, .bool false, .bool false, .bool false, .bool false, .bool false, .bool false, .bool false, .bool false, .bool false] 201)) w.heap.size 201 #[.bool false, .bool false, .bool false, .bool false, .bool false, .bool false, .bool false, .bool false, .bool false, .bool false, .bool false, .bool false, .bool false, .bool false, .bool false, .bool false, .bool false, .bool false, .bool false, .bool false, .bool false, .bool false, .bool false, .bool false, .bool false, .bool false, .bool false, .bool false, .bool false, .bool false, .bool false, .bool false] := heap_alloc_new w _
  have hC0 : BitsC #[.bool false, .bool false, .bool false, .bool false, .bool false, .bool false, .bool false, .bool false, .bool false, .bool false, .bool false, .bool false, .bool false, .bool false, .bool false, .bool false, .bool false, .bool false, .bool false, .bool false, .bool false, .bool false, .bool false, .bool false, .bool false, .bool false, .bool false, .bool false, .bool false, .bool false, .bool false, .bool false] (fun _ => false) := ⟨rfl, fun j hj => by
    show (Array.replicate 32 (Value.bool false))[j]? = _
    simp [hj]⟩
  have f0 : Fr noB w (w.alloc (.cells #[.bool false, .bool false, .bool false, .bool false, .bool false, .bool false, .bool false, .bool false, .bool false, .bool false, .bool false, .bool false, .bool false, .bool false, .bool false, .bool false, .bool false, .bool false, .bool false, .bool false, .bool false, .bool false, .bool false, .bool false, .bool false, .bool false, .bool false, .bool false, .bool false, .bool false, .bool false, .bool false] 201)) := (Fr.refl noB w).alloc _
  go_enter Try.func94, Try.ntmps94
  go_wp2_with fail
  generalize (#[.bool false, .bool false, .bool false, .bool false, .bool false, .bool false, .bool false, .bool false, .bool false, .bool false, .bool false, .bool false, .bool false, .bool false, .bool false, .bool false, .bool false, .bool false, .bool false, .bool false, .bool false, .bool false, .bool false, .bool false, .bool false, .bool false, .bool false, .bool false, .bool false, .bool false, .bool false, .bool false] : Array Value) = Z at *
  generalize w.alloc (.cells Z 201) = w0 at *
  generalize hbk : w.heap.size = b at hb0 ⊢
  have hbw : w.heap.size ≤ b := by omega
  have HBB := hid hbk; clear hbk
  go_loopw [14] (fun i wr => ∃ (k : Nat) (C : Array Value), k ≤ 32 ∧ i = .int .i64 k ∧ BlkAt wr b 201 C ∧ BitsC C (fun j => decide (j < k)) ∧ Fr noB w wr) (fun i _ => 32 - (intOf i).toNat)
  case atStart => exact ⟨0, Z, by omega, rfl, hb0, hC0.cong fun j _ => by simp, f0⟩
  case round =>
    clear hb0 hC0 f0
    obtain ⟨k, C, hk, rfl, hb, hC, hf⟩ := hrel
    by_cases hk32 : k < 32
    · have hcell := hb.cell (hC.get k hk32)
      have hfree := hb.free k
      have hb2 := hb.set k (.bool true)
      have hC2 : BitsC (C.setIfInBounds k (.bool true)) (fun j => decide (j < k + 1)) := hC.set hk32 fun j hj => by
        by_cases e : j = k
        · subst e; simp
        · rw [if_neg e, decide_eq_decide]; omega
      have hf2 : Fr noB w (wr.setCell ⟨b, k, none⟩ (.bool true)) := hf.setCell (p := ⟨b, k, none⟩) (Or.inr hbw) _
      have H2 := hid (And.intro hb2 (And.intro hC2 hf2))
      clear hb hC hb2 hC2 hf hf2
      go_wp2_with fail
      go_roundw
      case rel => exact ⟨k + 1, _, by omega, by go_num, H2.out.1, H2.out.2.1, H2.out.2.2⟩
      case measure => simp [intOf]; omega
    · have : k = 32 := by omega
      subst this
      have hC1 : BitsC C ((4294967295 : Nat).testBit) := hC.cong fun j hj => by
        rw [show (4294967295 : Nat) = 2 ^ 32 - 1 by decide, Nat.testBit_two_pow_sub_one]
      clear hC
      obtain ⟨r0, HR0⟩ : ∃ r0 : Nat, Hid (r0 = 4294967295) := ⟨_, rfl⟩
      rw [← HR0.out] at hC1
      have hr0 : r0 < 4294967296 := by rw [HR0.out]; decide
      go_wp2_with fail
      go_loopw [5] (fun i wr => ∃ (k r : Nat) (C : Array Value), k ≤ s.size ∧ i = .int .i64 k ∧ Hid (r = crcReg r0 (s.data.toList.take k)) ∧ r < 4294967296 ∧ BlkAt wr b 201 C ∧ BitsC C r.testBit ∧ Fr noB w wr) (fun i _ => s.size - (intOf i).toNat)
      case atStart => exact ⟨0, r0, C, Nat.zero_le _, rfl, rfl, hr0, hb, hC1, hf⟩
      case round =>
        clear hb hC1 hf hk32 hk
        obtain ⟨k, r, C, hk, rfl, HR, hlt, hb, hC, hf⟩ := hrel
        by_cases hks : k < s.size
        · obtain ⟨x, hx⟩ : ∃ x, s.data.toList[k]? = some x := ⟨_, List.getElem?_eq_getElem (by rw [HSZ.out]; exact hks)⟩
          have hgx : s[k] = x := by
            have h1 : s.data.toList[k]? = some s[k] := by
              rw [List.getElem?_eq_getElem (by rw [HSZ.out]; exact hks)]; rfl
            rw [h1] at hx; exact Option.some.inj hx
          have HX := hid hx; clear hx
          have hx256 := x.toNat_lt
          have HBY : Hid (crcIter 8 (r ^^^ x.toNat) = crcReg r0 (s.data.toList.take (k + 1))) := by
            unfold Hid; rw [take_snoc' HX.out, crcReg_append, ← HR.out, ← crcByte_eq]; rfl
          obtain ⟨wo, rfl⟩ : ∃ wo : World, wo = wr := ⟨_, rfl⟩
          go_wp2_with fail
          replace hx256 : x.toNat < 256 := hx256
          generalize x.toNat = xn at *
          clear hgx
          go_loopw [6, 29] (fun v i wr => ∃ (i3 : Nat) (C : Array Value), i3 ≤ 8 ∧ i = .int .i64 i3 ∧ v = .int .u8 (xn / 2 ^ i3 : Nat) ∧ BlkAt wr b 201 C ∧ BitsC C (fun j => r.testBit j ^^ (decide (j < i3) && xn.testBit j)) ∧ Fr noB w wr) (fun _ i _ => 8 - (intOf i).toNat)
          case atStart => exact ⟨0, C, by omega, rfl, by simp, hb, hC.cong fun j _ => by simp, hf⟩
          case round =>
            clear hb hC hf
            obtain ⟨i3, C, hi, rfl, rfl, hb, hC, hf⟩ := hrel
            by_cases hi8 : i3 < 8
            · have htb := testBit_div xn i3
              have hnx : xn / 2 ^ i3 / 2 = xn / 2 ^ (i3 + 1) := by rw [Nat.div_div_eq_div_mul, Nat.pow_succ]
              have HNX := hid hnx; clear hnx
              have hy256 : xn / 2 ^ i3 < 256 := Nat.lt_of_le_of_lt (Nat.div_le_self _ _) hx256
              generalize xn / 2 ^ i3 = y at *
              cases hbit : xn.testBit i3 with
              | true =>
                rw [hbit] at htb
                have t1 : ((y : Int) % 2 == 1) = true := by simp at htb ⊢; omega
                have hcell := hb.cell (hC.get i3 (by omega))
                have hfree := hb.free i3
                have hb2 := hb.set i3 (.bool (!(r.testBit i3 ^^ (decide (i3 < i3) && xn.testBit i3))))
                have hC2 : BitsC (C.setIfInBounds i3 (.bool (!(r.testBit i3 ^^ (decide (i3 < i3) && xn.testBit i3))))) (fun j => r.testBit j ^^ (decide (j < i3 + 1) && xn.testBit j)) := hC.set (by omega) fun j hj => by
                  by_cases e : j = i3
                  · subst e; simp [hbit]
                  · have : decide (j < i3 + 1) = decide (j < i3) := by rw [decide_eq_decide]; omega
                    rw [if_neg e, this]
                have hf2 : Fr noB w (wr.setCell ⟨b, i3, none⟩ (.bool (!(r.testBit i3 ^^ (decide (i3 < i3) && xn.testBit i3))))) := hf.setCell (p := ⟨b, i3, none⟩) (Or.inr hbw) _
                generalize (r.testBit i3 ^^ (decide (i3 < i3) && xn.testBit i3)) = old at *
                have H2 := hid (And.intro hb2 (And.intro hC2 hf2))
                clear hb hC hb2 hC2 hf hf2 htb hbit
                go_wp2_with fail
                go_roundw
                case rel => exact ⟨i3 + 1, _, by omega, by go_num, by rw [← HNX.out]; go_num, H2.out.1, H2.out.2.1, H2.out.2.2⟩
                case measure => simp [intOf]; omega
              | false =>
                rw [hbit] at htb
                have t1 : ((y : Int) % 2 == 1) = false := by simp at htb ⊢; omega
                have hC2 : BitsC C (fun j => r.testBit j ^^ (decide (j < i3 + 1) && xn.testBit j)) := hC.cong fun j hj => by
                  by_cases e : j = i3
                  · subst e; simp [hbit]
                  · have : decide (j < i3 + 1) = decide (j < i3) := by rw [decide_eq_decide]; omega
                    rw [this]
                have H2 := hid (And.intro hb (And.intro hC2 hf))
                clear hb hC hC2 hf htb hbit
                go_wp2_with fail
                go_roundw
                case rel => exact ⟨i3 + 1, C, by omega, by go_num, by rw [← HNX.out]; go_num, H2.out.1, H2.out.2.1, H2.out.2.2⟩
                case measure => simp [intOf]; omega
            · have : i3 = 8 := by omega
              subst this
              have hC1 : BitsC C ((crcIter 0 (r ^^^ xn)).testBit) := hC.cong fun j hj => by
                show (r ^^^ xn).testBit j = _
                rw [Nat.testBit_xor]
                by_cases e : j < 8
                · simp [e]
                · have : xn.testBit j = false := Nat.testBit_lt_two_pow (Nat.lt_of_lt_of_le hx256 (by rw [show (256 : Nat) = 2 ^ 8 by decide]; exact Nat.pow_le_pow_right (by omega) (by omega)))
                  simp [e, this]
              clear hC
              obtain ⟨r1, HR1⟩ : ∃ r1, Hid (r ^^^ xn = r1) := ⟨_, rfl⟩
              rw [HR1.out] at hC1 HBY
              have hr1 : r1 < 4294967296 := by rw [← HR1.out]; exact Nat.xor_lt_two_pow (n := 32) (by omega) (by omega)
              obtain ⟨wo, rfl⟩ : ∃ wo : World, wo = wr := ⟨_, rfl⟩
              go_wp2_with fail
              go_loopw [44] (fun i wr => ∃ (q : Nat) (C : Array Value), q ≤ 8 ∧ i = .int .i64 q ∧ BlkAt wr b 201 C ∧ BitsC C ((crcIter q r1).testBit) ∧ Fr noB w wr) (fun i _ => 8 - (intOf i).toNat)
              case atStart => exact ⟨0, C, by omega, rfl, hb, hC1, hf⟩
              case round =>
                clear hb hC1 hf hi hi8
                obtain ⟨q, C, hq, rfl, hb, hC, hf⟩ := hrel
                by_cases hq8 : q < 8
                · have HQ : Hid (crcIter (q + 1) r1 = crcStep (crcIter q r1)) := rfl
                  have hg := crcIter_lt hr1 q
                  generalize crcIter q r1 = g at *
                  have hc0 := hb.cell (hC.get 0 (by omega))
                  obtain ⟨out, HO⟩ : ∃ out, Hid (g.testBit 0 = out) := ⟨_, rfl⟩
                  rw [HO.out] at hc0
                  obtain ⟨wo, rfl⟩ : ∃ wo : World, wo = wr := ⟨_, rfl⟩
                  go_wp2_with fail
                  clear hc0
                  go_loopw [48] (fun i wr => ∃ (i5 : Nat) (C : Array Value), i5 ≤ 31 ∧ i = .int .i64 i5 ∧ BlkAt wr b 201 C ∧ BitsC C (fun j => if j < i5 then g.testBit (j + 1) else g.testBit j) ∧ Fr noB w wr) (fun i _ => 31 - (intOf i).toNat)
                  case atStart => exact ⟨0, C, by omega, rfl, hb, hC.cong fun j _ => by simp, hf⟩
                  case round =>
                    clear hb hC hf
                    obtain ⟨i5, C, hi5, rfl, hb, hC, hf⟩ := hrel
                    by_cases h31 : i5 < 31
                    · have hcl1 := hb.cell (hC.get (i5 + 1) (by omega))
                      rw [if_neg (by omega)] at hcl1
                      have hcl0 := hb.cell (hC.get i5 (by omega))
                      have hfree := hb.free i5
                      have hb2 := hb.set i5 (.bool (g.testBit (i5 + 1)))
                      have hC2 : BitsC (C.setIfInBounds i5 (.bool (g.testBit (i5 + 1)))) (fun j => if j < i5 + 1 then g.testBit (j + 1) else g.testBit j) := hC.set (by omega) fun j hj => by
                        by_cases e : j = i5
                        · subst e; simp
                        · rw [if_neg e]
                          by_cases e2 : j < i5
                          · rw [if_pos e2, if_pos (by omega)]
                          · rw [if_neg e2, if_neg (by omega)]
                      have hf2 : Fr noB w (wr.setCell ⟨b, i5, none⟩ (.bool (g.testBit (i5 + 1)))) := hf.setCell (p := ⟨b, i5, none⟩) (Or.inr hbw) _
                      have H2 := hid (And.intro hb2 (And.intro hC2 hf2))
                      generalize g.testBit (i5 + 1) = gb at *
                      clear hb hC hb2 hC2 hf hf2
                      go_wp2_with fail
                      go_roundw
                      case rel => exact ⟨i5 + 1, _, by omega, by go_num, H2.out.1, H2.out.2.1, H2.out.2.2⟩
                      case measure => simp [intOf]; omega
                    · have : i5 = 31 := by omega
                      subst this
                      have hcl := hb.cell (hC.get 31 (by omega))
                      have hfree := hb.free 31
                      have hb2 := hb.set 31 (.bool false)
                      have hC2 : BitsC (C.setIfInBounds 31 (.bool false)) ((g / 2).testBit) := hC.set (by omega) fun j hj => by
                        rw [Nat.testBit_div_two]
                        by_cases e : j = 31
                        · subst e; rw [if_pos rfl]; exact Nat.testBit_lt_two_pow (by omega)
                        · rw [if_neg e, if_pos (by omega)]
                      have hf2 : Fr noB w (wr.setCell ⟨b, 31, none⟩ (.bool false)) := hf.setCell (p := ⟨b, 31, none⟩) (Or.inr hbw) _
                      clear hb hC hf
                      go_wp2_with fail
                      clear hcl hfree
                      generalize wr.setCell ⟨b, 31, none⟩ (.bool false) = w6 at *
                      go_loopw [10, 59] (fun v i wr => ∃ (i6 : Nat) (C : Array Value), i6 ≤ 32 ∧ i = .int .i64 i6 ∧ v = .int .u32 (3988292384 / 2 ^ i6 : Nat) ∧ BlkAt wr b 201 C ∧ BitsC C (fun j => (g / 2).testBit j ^^ (decide (j < i6) && (out && (3988292384 : Nat).testBit j))) ∧ Fr noB w wr) (fun _ i _ => 32 - (intOf i).toNat)
                      case atStart => exact ⟨0, _, by omega, rfl, by simp, hb2, hC2.cong fun j _ => by simp, hf2⟩
                      case round =>
                        clear hb2 hC2 hf2
                        obtain ⟨i6, C, hi6, rfl, rfl, hb, hC, hf⟩ := hrel
                        by_cases h32 : i6 < 32
                        · have htb := testBit_div 3988292384 i6
                          have hnx : 3988292384 / 2 ^ i6 / 2 = 3988292384 / 2 ^ (i6 + 1) := by rw [Nat.div_div_eq_div_mul, Nat.pow_succ]
                          have HNX := hid hnx; clear hnx
                          have hy32 : 3988292384 / 2 ^ i6 < 4294967296 := Nat.lt_of_le_of_lt (Nat.div_le_self _ _) (by decide)
                          generalize 3988292384 / 2 ^ i6 = y at *
                          obtain ⟨pb, hpb⟩ : ∃ pb, pb = (3988292384 : Nat).testBit i6 := ⟨_, rfl⟩
                          rw [← hpb] at htb
                          have HPB := hid hpb; clear hpb
                          have t1 : ((y : Int) % 2 == 1) = pb := by cases pb <;> simp at htb ⊢ <;> omega
                          have hcase : (out = true ∧ pb = true) ∨ (out = false) ∨ (out = true ∧ pb = false) := by cases out <;> cases pb <;> simp
                          have hkeep : (out && pb) = false → BitsC C (fun j => (g / 2).testBit j ^^ (decide (j < i6 + 1) && (out && (3988292384 : Nat).testBit j))) := fun hop => hC.cong fun j hj => by
                            by_cases e : j = i6
                            · subst e; rw [← HPB.out, hop]; simp
                            · have : decide (j < i6 + 1) = decide (j < i6) := by rw [decide_eq_decide]; omega
                              rw [this]
                          clear htb
                          rcases hcase with ⟨ho, hp⟩ | ho | ⟨ho, hp⟩
                          · have hcell := hb.cell (hC.get i6 (by omega))
                            have hfree := hb.free i6
                            have hb2 := hb.set i6 (.bool (!((g / 2).testBit i6 ^^ (decide (i6 < i6) && (out && (3988292384 : Nat).testBit i6)))))
                            have hC2 : BitsC (C.setIfInBounds i6 (.bool (!((g / 2).testBit i6 ^^ (decide (i6 < i6) && (out && (3988292384 : Nat).testBit i6)))))) (fun j => (g / 2).testBit j ^^ (decide (j < i6 + 1) && (out && (3988292384 : Nat).testBit j))) := hC.set (by omega) fun j hj => by
                              by_cases e : j = i6
                              · subst e; rw [if_pos rfl, ← HPB.out, ho, hp]; simp
                              · have : decide (j < i6 + 1) = decide (j < i6) := by rw [decide_eq_decide]; omega
                                rw [if_neg e, this]
                            have hf2 : Fr noB w (wr.setCell ⟨b, i6, none⟩ (.bool (!((g / 2).testBit i6 ^^ (decide (i6 < i6) && (out && (3988292384 : Nat).testBit i6)))))) := hf.setCell (p := ⟨b, i6, none⟩) (Or.inr hbw) _
                            generalize ((g / 2).testBit i6 ^^ (decide (i6 < i6) && (out && (3988292384 : Nat).testBit i6))) = old at *
                            have H2 := hid (And.intro hb2 (And.intro hC2 hf2))
                            have HO2 := HO
                            clear hb hC hb2 hC2 hf hf2 hkeep HO
                            subst ho
                            subst hp
                            go_wp2_with fail
                            go_roundw
                            case rel => exact ⟨i6 + 1, _, by omega, by go_num, by rw [← HNX.out]; go_num, H2.out.1, H2.out.2.1, H2.out.2.2⟩
                            case measure => simp [intOf]; omega
                          · have H2 := hid (And.intro hb (And.intro (hkeep (by rw [ho]; rfl)) hf))
                            clear hb hC hf hkeep HO
                            subst ho
                            go_wp2_with fail
                            go_roundw
                            case rel => exact ⟨i6 + 1, C, by omega, by go_num, by rw [← HNX.out]; go_num, H2.out.1, H2.out.2.1, H2.out.2.2⟩
                            case measure => simp [intOf]; omega
                          · have H2 := hid (And.intro hb (And.intro (hkeep (by rw [ho, hp]; rfl)) hf))
                            clear hb hC hf hkeep HO
                            subst ho
                            subst hp
                            go_wp2_with fail
                            go_roundw
                            case rel => exact ⟨i6 + 1, C, by omega, by go_num, by rw [← HNX.out]; go_num, H2.out.1, H2.out.2.1, H2.out.2.2⟩
                            case measure => simp [intOf]; omega
                        · have : i6 = 32 := by omega
                          subst this
                          have hC1 : BitsC C ((crcIter (q + 1) r1).testBit) := hC.cong fun j hj => by
                            rw [HQ.out, crcStep_bit, HO.out]; simp [hj]
                          have H2 := hid (And.intro hb (And.intro hC1 hf))
                          clear hb hC hC1 hf
                          go_wp2_with fail
                          go_roundw
                          case rel => exact ⟨q + 1, C, by omega, by go_num, H2.out.1, H2.out.2.1, H2.out.2.2⟩
                          case measure => simp [intOf]; omega
                · have : q = 8 := by omega
                  subst this
                  rw [HBY.out] at hC
                  have hlt2 : crcReg r0 (s.data.toList.take (k + 1)) < 4294967296 := crcReg_lt hr0 _
                  have H2 := hid (And.intro hb (And.intro hC (And.intro hf hlt2)))
                  clear hb hC hf hlt2
                  go_wp2_with fail
                  go_roundw
                  case rel => exact ⟨k + 1, _, C, by omega, by go_num, rfl, H2.out.2.2.2, H2.out.1, H2.out.2.1, H2.out.2.2.1⟩
                  case measure => simp [intOf]; omega
        · have : k = s.size := by omega
          subst this
          have HRS : Hid (not32 r = crcSum s.data.toList) := by
            unfold Hid crcSum crcMore
            rw [HR.out, List.take_of_length_le (by rw [HSZ.out]; exact Nat.le_refl _), HR0.out]; rfl
          have hN := not32_lt r
          have hbits : ∀ j, j < 32 → (not32 r).testBit j = !r.testBit j := fun j hj => not32_bit hlt hj
          have HBI := hid hbits; clear hbits
          generalize not32 r = N at *
          obtain ⟨wo, rfl⟩ : ∃ wo : World, wo = wr := ⟨_, rfl⟩
          go_wp2_with fail
          go_loop [12, 13] (fun v i => ∃ q : Nat, q ≤ 32 ∧ i = .int .i64 (31 - (q : Int)) ∧ v = .int .u32 (N / 2 ^ (32 - q) : Nat)) (fun _ i => (intOf i + 1).toNat)
          case atStart => exact ⟨0, by omega, by simp, by simp; omega⟩
          case round =>
            obtain ⟨q, hq, rfl, rfl⟩ := hrel
            by_cases hq32 : q < 32
            · obtain ⟨j, hj⟩ : ∃ j : Nat, 31 - q = j := ⟨_, rfl⟩
              have hij : 31 - (q : Int) = (j : Int) := by omega
              rw [hij]
              have hcell := hb.cell (hC.get j (by omega))
              have hst : N / 2 ^ (32 - (q + 1)) = 2 * (N / 2 ^ (32 - q)) + if N.testBit j then 1 else 0 := by
                rw [← testBit_div, show 32 - q = (32 - (q + 1)) + 1 by omega, Nat.pow_succ, ← Nat.div_div_eq_div_mul, show 32 - (q + 1) = j by omega]
                omega
              rw [HBI.out j (by omega)] at hst
              have hup : N / 2 ^ (32 - (q + 1)) < 4294967296 := Nat.lt_of_le_of_lt (Nat.div_le_self _ _) hN
              have HJ : Hid ((j : Int) - 1 = 31 - ((q + 1 : Nat) : Int)) := by unfold Hid; omega
              generalize N / 2 ^ (32 - q) = y at *
              cases hbit : r.testBit j with
              | true =>
                rw [hbit] at hst hcell
                have hst2 : N / 2 ^ (32 - (q + 1)) = 2 * y := by rw [hst]; simp
                have HST := hid hst2
                rw [hst2] at hup
                clear hst hst2 hbit
                go_wp2_with fail
                go_round
                case rel => exact ⟨q + 1, by omega, by rw [HJ.out], by rw [HST.out]; go_num⟩
                case measure => simp [intOf]
              | false =>
                rw [hbit] at hst hcell
                have hst2 : N / 2 ^ (32 - (q + 1)) = 2 * y + 1 := by rw [hst]; simp
                have HST := hid hst2
                rw [hst2] at hup
                clear hst hst2 hbit
                go_wp2_with fail
                go_round
                case rel => exact ⟨q + 1, by omega, by rw [HJ.out], by rw [HST.out]; go_num⟩
                case measure => simp [intOf]
            · have : q = 32 := by omega
              subst this
              go_wp2_with fail
              go_ret
              rw [← HRS.out]
              exact ⟨by simp, hf⟩
end Go.Proofs.Ytpkdcbfhacgklaa
/- interrexlaw01.lives. -/
namespace Go.Proofs.Ytpkdcbfhacgklaa
open Go.RowKit

theorem WrAt.new (w : World) : WrAt (w.alloc (.cells #[.slice none 0 0] 123)) (upB w.heap.size) w.heap.size [] :=
  ⟨none, 0, _, by decide, heap_alloc_new w _, World.ownsRow_nil _ _ _ _, Nat.le_refl _, fun k h => by simp [Value.ownBlock] at h⟩
theorem WrAt.up {w : World} {n : Nat} {p : Nat} {bs : List UInt8} (h : WrAt w (andNew (upB n) w) p bs) (hn : n ≤ w.heap.size) : WrAt w (upB n) p bs :=
  h.mono fun k _ hk => hk.elim id fun q => Nat.le_trans hn q
theorem WrAt.up' {w0 w : World} {n : Nat} {p : Nat} {bs : List UInt8} (h : WrAt w (andNew (upB n) w0) p bs) (hn : n ≤ w0.heap.size) : WrAt w (upB n) p bs :=
  h.mono fun k _ hk => hk.elim id fun q => Nat.le_trans hn q

theorem Try.eqlW (w : World) (a : Addr) : (binOp .eql 121 (.pointer (some a)) (.pointer (some a))).run Try.prog w = .ok (.bool true) w :=
  run_eql_ptr_same w (te := 123) a Try.underlying121 (show Try.prog.info? 123 = some Try.t123 by kernel_rfl)

end Go.Proofs.Ytpkdcbfhacgklaa
/- Contracts of interrexref01: numbers, truths, texts, rows. -/
namespace Go.Proofs.Ytpkdcbfhacgklaa
open Go.RowKit

def StrPost (w : World) (bs : List UInt8) (e : Ending) (w' : World) : Prop := e = .returned (.string (mkS bs)) ∧ Fr noB w w'
theorem mkS_append (a b : List UInt8) : mkS a ++ mkS b = mkS (a ++ b) := by
  apply ByteArray.ext; apply Array.ext'; simp [mkS]
theorem mkS_nil : mkS [] = ⟨#[]⟩ := rfl

set_option maxRecDepth 100000 in
set_option maxHeartbeats 800000 in
theorem numR_calls (w : World) (x n : Nat) (hx : x ≤ 18446744073709551615) (hn : n ≤ 8) :
    Calls Try.prog 68 #[.int .u64 x, .int .i64 n] w (StrPost w (leB n x)) := by
  have HX := hid hx; clear hx
  go_enter Try.func68, Try.ntmps68
  go_wp2_with fail
  go_loopw [0, 5, 7] (fun y s i wr => ∃ k : Nat, k ≤ n ∧ i = .int .i64 k ∧ y = .int .u64 (x / 256 ^ k : Nat) ∧ s = .string (mkS (leB k x)) ∧ Fr noB w wr) (fun _ _ i _ => n - (intOf i).toNat)
  case atStart => exact ⟨0, Nat.zero_le _, rfl, by simp, rfl, Fr.refl _ _⟩
  case round =>
    obtain ⟨k, hk, rfl, rfl, rfl, hf⟩ := hrel
    by_cases hkn : k < n
    · obtain ⟨y, hy⟩ : ∃ y, y = x / 256 ^ k := ⟨_, rfl⟩
      have hy1 : y ≤ 18446744073709551615 := by rw [hy]; exact Nat.le_trans (Nat.div_le_self _ _) HX.out
      have HY : Hid (y / 256 = x / 256 ^ (k + 1)) := by unfold Hid; rw [hy, Nat.div_div_eq_div_mul, Nat.pow_succ]
      have HL : Hid (leB (k + 1) x = leB k x ++ [UInt8.ofNat y]) := by unfold Hid; rw [leB_snoc, hy]
      have hs : (mkS (leB k x)).size = k := by rw [mkS_size, leB_length]
      generalize hg : mkS (leB k x) = s at *
      have HG := hid hg; clear hg
      have HS := hid hs; clear hs
      rw [← hy] at *
      clear hy
      have hcv := Try.oneStr
      have hcat : s.size + (mkS [UInt8.ofNat y]).size ≤ 9223372036854775807 := by rw [HS.out, mkS_size]; simp; omega
      go_wp2_with fail
      go_roundw
      case rel => exact ⟨k + 1, by omega, by go_num, by rw [← HY.out]; go_num, by rw [HL.out, ← mkS_append, HG.out], hf.alloc _⟩
      case measure => simp [intOf]; omega
    · have : k = n := by omega
      subst this
      go_wp2_with fail
      go_ret
      exact ⟨rfl, hf⟩
/-- A text's bytes in the reference: without a cut. -/
def textR (s : ByteArray) : List UInt8 := leB 2 s.size ++ s.data.toList
theorem textR_eq {s : ByteArray} (h : s.size ≤ 65535) : textR s = textB s := by
  unfold textR textB; rw [Nat.min_eq_left h, List.take_of_length_le (by simpa using h)]
theorem textR_calls (w : World) (s : ByteArray) (hs : s.size ≤ 1000000000000) : Calls Try.prog 108 #[.string s] w (StrPost w (textR s)) := by
  have h1 : s.size ≤ 9223372036854775807 := by omega
  have hk : (mkS (leB 2 s.size)).size + s.size ≤ 9223372036854775807 := by rw [mkS_size, leB_length]; omega
  have HE : Hid (mkS (textR s) = mkS (leB 2 s.size) ++ s) := by unfold Hid textR; rw [← mkS_append, mkS_of]
  have HS := hid hs; clear hs
  go_enter Try.func108, Try.ntmps108
  go_wp2_with fail
  refine (numR_calls w s.size 2 (by have := HS.out; omega) (by omega)).mono ?_
  rintro e w1 ⟨rfl, f1⟩
  go_wp2_with fail
  go_ret
  exact ⟨by rw [HE.out]; rfl, f1⟩
theorem textR_length (s : ByteArray) : (textR s).length = s.size + 2 := by
  have : s.data.toList.length = s.size := by simp
  simp only [textR, List.length_append, leB_length]; omega
def rowR (ss : List ByteArray) : List UInt8 := leB 2 ss.length ++ ss.flatMap textR
theorem rowR_eq {ss : List ByteArray} (h : ss.length ≤ 65535) (hs : ∀ s ∈ ss, s.size ≤ 65535) : rowR ss = rowB ss := by
  unfold rowR rowB; rw [Nat.min_eq_left h, List.take_of_length_le h]
  congr 1
  induction ss with
  | nil => rfl
  | cons s ss ih => rw [List.flatMap_cons, List.flatMap_cons, textR_eq (hs s (List.mem_cons_self ..)), ih (by simp at h; omega) (fun t ht => hs t (List.mem_cons_of_mem _ ht))]
theorem rowsR_snoc {ss : List ByteArray} {k : Nat} {s : ByteArray} (h : ss[k]? = some s) : (ss.take (k + 1)).flatMap textR = (ss.take k).flatMap textR ++ textR s := by
  rw [take_snoc' h, List.flatMap_append]; simp only [List.flatMap_cons, List.flatMap_nil, List.append_nil]
theorem rowsR_length (ss : List ByteArray) : (ss.flatMap textR).length = sumSz ss := by
  induction ss with
  | nil => simp [sumSz]
  | cons s ss ih => simp only [List.flatMap_cons, List.length_append, sumSz, List.map_cons, List.sum_cons, textR_length] at *; omega

set_option maxRecDepth 100000 in
set_option maxHeartbeats 800000 in
theorem rowR_calls (w : World) (B : Option Addr) (n cap : Nat) (ss : List ByteArray) (hx : RowAt w B (strs ss)) (HN : Hid (ss.length = n)) (hl : sumSz ss ≤ 1000000000000) (hn : n ≤ 1000000000000) :
    Calls Try.prog 117 #[.slice B n cap] w (StrPost w (rowR ss)) := by
  have HLn := hid hl; clear hl
  have HNn := hid hn; clear hn
  have n63 : n ≤ 9223372036854775807 := by have := HNn.out; omega
  go_enter Try.func117, Try.ntmps117
  go_wp2_with fail
  refine (numR_calls w n 2 (by have := HNn.out; omega) (by omega)).mono ?_
  rintro e w1 ⟨rfl, f1⟩
  go_wp2_with fail
  go_loopw [3, 12] (fun s i wr => ∃ k : Nat, k ≤ n ∧ i = .int .i64 k ∧ s = .string (mkS (leB 2 n ++ (ss.take k).flatMap textR)) ∧ Fr noB w wr) (fun _ i _ => n - (intOf i).toNat)
  case atStart => exact ⟨0, Nat.zero_le _, rfl, by rw [List.take_zero, List.flatMap_nil, List.append_nil], f1⟩
  case round =>
    obtain ⟨k, hk, rfl, rfl, hf⟩ := hrel
    by_cases hkn : k < n
    · obtain ⟨s, hs⟩ : ∃ s, ss[k]? = some s := ⟨_, List.getElem?_eq_getElem (by rw [HN.out]; exact hkn)⟩
      obtain ⟨ad, rfl⟩ := strs_pos hx hs
      have hcx : wr.cell? (ad.add k) = some (.string s) := hf.cell (hx.cell (strs_get hs)) id
      have HR : Hid (mkS (leB 2 n ++ (ss.take (k + 1)).flatMap textR) = mkS (leB 2 n ++ (ss.take k).flatMap textR) ++ mkS (textR s)) := by
        unfold Hid; rw [mkS_append, rowsR_snoc hs, List.append_assoc]
      have hsz : (mkS (leB 2 n ++ (ss.take k).flatMap textR)).size + (mkS (textR s)).size ≤ 9223372036854775807 := by
        have q1 := sumSz_take_le ss (k + 1)
        have q2 := sumSz_take_succ hs
        have q3 := HLn.out
        rw [mkS_size, mkS_size, List.length_append, leB_length, rowsR_length, textR_length]; omega
      have hs1 : s.size ≤ 1000000000000 := by have := mem_sumSz (List.mem_of_getElem? hs); have := HLn.out; omega
      have HS1 := hid hs1; clear hs1 hs
      generalize hg : mkS (leB 2 n ++ (ss.take k).flatMap textR) = t at *
      have HG := hid hg; clear hg
      go_wp2_with fail
      refine (textR_calls wr s HS1.out).mono ?_
      rintro e w2 ⟨rfl, f2⟩
      go_wp2_with fail
      go_roundw
      case rel => exact ⟨k + 1, by omega, by go_num, by rw [HR.out], hf.then' f2⟩
      case measure => simp [intOf]; omega
    · have : k = n := by omega
      subst this
      go_wp2_with fail
      go_ret
      refine ⟨?_, hf⟩
      rw [List.take_of_length_le (by rw [HN.out]; exact Nat.le_refl _), rowR, HN.out]
      rfl
end Go.Proofs.Ytpkdcbfhacgklaa
/- crc.Table's Seal, interrexref02's Seal. -/
namespace Go.Proofs.Ytpkdcbfhacgklaa
open Go.RowKit

theorem WrAt.newQ (w : World) : WrAt (w.alloc (.cells #[.slice none 0 0] 123)) (eqB w.heap.size) w.heap.size [] :=
  ⟨none, 0, _, by decide, heap_alloc_new w _, World.ownsRow_nil _ _ _ _, rfl, fun k h => by simp [Value.ownBlock] at h⟩
def sealB (b : List UInt8) : List UInt8 := b ++ leB 4 (crcSum b)
theorem sealB_length (b : List UInt8) : (sealB b).length = b.length + 4 := by unfold sealB; rw [List.length_append, leB_length]
theorem crcSum_lt (b : List UInt8) : crcSum b < 4294967296 := not32_lt _
def SealPost (w : World) (p : Nat) (xs : List UInt8) (e : Ending) (w' : World) : Prop :=
  ∃ A c, e = .returned (.slice A xs.length c) ∧ w'.ownsRow w.heap.size 5 1 (.slice A xs.length c) xs.length (bcells xs) ∧ TabAt w' p true ∧ Fr (eqB p) w w'
set_option maxRecDepth 100000 in
set_option maxHeartbeats 1600000 in
theorem seal_calls (w : World) (p : Nat) (m : Bool) (A : Option Addr) (n c : Nat) (b : List UInt8) (h : TabAt w p m) (hr : RowAt w A (bcells b)) (HN : Hid (b.length = n)) (hn : n ≤ 100000000000) (hnil : A = none → n = 0 ∧ c = 0) (hA : ∀ a, A = some a → 0 < n → a.block ≠ p) :
    Calls Try.prog 66 #[.pointer (some ⟨p, 0, none⟩), .slice A n c] w (SealPost w p (sealB b)) := by
  have hlt : ∀ a, A = some a → 0 < n → a.block < w.heap.size := fun a e h0 => by
    subst e; exact hr.lt (by rw [bcells_length, HN.out]; exact h0)
  have hw0 := WrAt.newQ w
  have f0 : Fr noB w (w.alloc (.cells #[.slice none 0 0] 123)) := (Fr.refl noB w).alloc _
  have z0 : (w.alloc (.cells #[.slice none 0 0] 123)).heap.size = w.heap.size + 1 := by simp
  have hp := h.lt
  have hraw := raw_calls _ _ w.heap.size [] A n c b hw0 (hr.fr0 f0) HN.out hnil (by simp; omega)
  have h0 := h.fr f0 id
  have hr0 := hr.fr0 f0
  have HSB : Hid ((sealB b).length = n + 4) := by unfold Hid; rw [sealB_length, HN.out]
  clear hw0 h hr
  go_enter Try.func66, Try.ntmps66
  go_wp2_with fail
  generalize w.alloc (.cells #[.slice none 0 0] 123) = w0 at *
  generalize hq : w.heap.size = q at *
  have HQ := hid hq; clear hq
  refine hraw.mono ?_
  clear hraw
  rintro e w1 ⟨rfl, h1, f1⟩
  have ht1 := h0.fr f1 (fun he => by unfold eqB at he; omega)
  have hr1 := hr0.fr f1 (fun a e h0 _ he => by have := hlt a e (by rw [bcells_length, HN.out] at h0; exact h0); unfold eqB at he; omega)
  have f01 : Fr (fun k => k = p ∨ q ≤ k) w w1 := (f0.mono fun _ _ h => h.elim).then' (f1.mono fun k _ he => Or.inr (by unfold eqB at he; omega))
  have z1 := f1.size
  have hsm := sumT_calls w1 p m A n c b ht1 hr1 HN (by omega) hA
  clear f0 f1 h0 hr0 ht1 hr1
  go_wp2_with fail
  refine hsm.mono ?_
  clear hsm
  rintro e w2 ⟨rfl, ht2, f2⟩
  have h2 := h1.fr f2 (fun k _ h1 h2 => by unfold eqB at h2; rcases h1 with h1 | h1 <;> (try unfold eqB at h1) <;> omega)
  have f02 := f01.then' (f2.mono (T := fun k => k = p ∨ q ≤ k) fun k _ he => Or.inl he)
  have z2 := f2.size
  have hfr := four_calls w2 _ q _ (crcSum b) h2 (crcSum_lt b) (by simp [HN.out]; omega)
  rw [List.nil_append] at hfr
  have HSM : Hid (sealB b = b ++ leB 4 (crcSum b)) := rfl
  clear h1 h2 f01 f2
  generalize crcSum b = sm at *
  go_wp2_with fail
  refine hfr.mono ?_
  clear hfr
  rintro e w3 ⟨rfl, h3, f3⟩
  rw [← HSM.out] at h3
  have ht3 := ht2.fr f3 (fun he => by rcases he with he | he <;> (try unfold eqB at he) <;> omega)
  have f03 := f02.then' (f3.mono (T := fun k => k = p ∨ q ≤ k) fun k _ he => Or.inr (by rcases he with he | he <;> (try unfold eqB at he) <;> omega))
  have z3 := f3.size
  have hby := bytes_calls w3 _ q (sealB b) h3 (by rw [HSB.out]; omega)
  clear ht2 f02 f3 h3
  go_wp2_with fail
  refine hby.mono ?_
  clear hby
  rintro e w4 ⟨B, d, rfl, h4, f4⟩
  have HF : Hid (Fr (eqB p) w w4) := ((f03.then' (f4.mono fun _ _ h => h.elim)).mono (T := eqB p) fun k hk he => he.elim id fun h => by have := HQ.out; omega)
  have HT := hid (ht3.fr f4 id)
  have HO := hid (own_mono (b' := q) h4 (fun g hg => by have := (h4.lt g hg).1; omega))
  clear h4 f4 f03 ht3
  generalize hsl : (sealB b).length = sl at *
  have HSL := hid hsl; clear hsl
  go_wp2_with fail
  go_ret
  exact ⟨B, d, by rw [HSL.out]; rfl, by rw [HSL.out, HQ.out]; exact HO.out, HT.out, HF.out⟩
theorem sealR_calls (w : World) (s : ByteArray) (hs : s.size ≤ 100000000000) :
    Calls Try.prog 67 #[.string s] w (StrPost w (sealB s.data.toList)) := by
  have hsm := fun W => sumR_calls W s (by omega)
  have hlt := crcSum_lt s.data.toList
  have HE : Hid (mkS (sealB s.data.toList) = s ++ mkS (leB 4 (crcSum s.data.toList))) := by
    unfold Hid sealB; rw [← mkS_append, mkS_of]
  have hq : s.size + (mkS (leB 4 (crcSum s.data.toList))).size ≤ 9223372036854775807 := by rw [mkS_size, leB_length]; omega
  have hnm : ∀ W, Calls Try.prog 68 #[.int .u64 (crcSum s.data.toList : Nat), .int .i64 4] W (fun e w' => e = .returned (.string (mkS (leB 4 (crcSum s.data.toList)))) ∧ Fr noB W w') := fun W => numR_calls W (crcSum s.data.toList) 4 (by omega) (by omega)
  generalize crcSum s.data.toList = sm at *
  generalize mkS (leB 4 sm) = t at *
  go_enter Try.func67, Try.ntmps67
  go_wp2_with fail
  refine (hsm _).mono ?_
  rintro e w1 ⟨rfl, f1⟩
  go_wp2_with fail
  refine (hnm _).mono ?_
  rintro e w2 ⟨rfl, f2⟩
  go_wp2_with fail
  go_ret
  exact ⟨by rw [HE.out]; rfl, f1.then' f2⟩
end Go.Proofs.Ytpkdcbfhacgklaa
