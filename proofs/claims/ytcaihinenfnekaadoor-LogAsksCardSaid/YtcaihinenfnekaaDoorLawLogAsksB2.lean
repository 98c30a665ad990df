/- What the row leans on, part 2: contracts and plain laws. -/
import Derived.Test.YtcaihinenfnekaaDoorProg
import Derived.WalkKit
import Derived.Maps.AppendAt
import Derived.Lib.AppendStr
import Derived.Laws.AppendOwnNone
import Derived.Deep.Draws
import Derived.WalkSpells
import Derived.Laws.IdiomStrings
import Derived.Lib.ConvBytes
import Derived.Lib.LaidTab
import Derived.LaidSub
import Derived.Deep.QuietTactic
import Derived.BigQuiet
import Derived.Lib.OthersKept
import Derived.Laws.RangeAny
import Derived.LaidEqlPtr
import Derived.Laws.StructEq
import Derived.Deep.Light
import Derived.Laws.Bits64b
import Derived.Laws.ResultCell
import Derived.Deep.RegionHeld3
import Derived.Deep.Cut
import Derived.RangeFuncNested
import Derived.RangeFuncBound
import Derived.RangeFuncCalls
import Derived.RangeFuncLeaves
import Derived.Shelf.Abstract
import Derived.Shelf.RegionOpen
import Derived.OwnWalkIn
import Derived.TacticsInMore
import Derived.LoopNIn
import Derived.LoopIn
import Derived.SliceStrings
import Derived.Deep.Slices
import Derived.ProofKit
import Derived.Test.YtcaihinenfnekaaDoorLawLogAsksB1
/- A region that draws its order, op by op: what each operation leaves holds whatever else has come up before it. -/
namespace Go.Proofs.YtcaihinenfnekaaDoor
open Go.RowKit

/-- What a slot may hold, kept by every step of R. -/
structure Stb (R : World → World → Prop) where
  V : Value → World → Prop
  st : ∀ v w w', V v w → R w w' → V v w'
def eqv {R : World → World → Prop} (x : Value) : Stb R := ⟨fun v _ => v = x, fun _ _ _ h _ => h⟩
def anyv {R : World → World → Prop} : Stb R := ⟨fun _ _ => True, fun _ _ _ _ _ => trivial⟩

section
variable {P : Program} {ops : Array Oper} {Q : Exit → Act → World → Prop} {R : World → World → Prop}

/-- What slot t may hold while the region runs: what its operation leaves, or what it held. -/
def slotD (l : List Oper) (Vs : List (Stb R)) (a0 : Act) (t : Tmp) (v : Value) (w : World) : Prop :=
  match l, Vs with
  | o :: l, V :: Vs => if o.dst = some t then V.V v w else slotD l Vs a0 t v w
  | _, _ => v = a0.tmps[t]?.getD undef

/-- One operation's part. -/
def CalmOp (P : Program) (ops : Array Oper) (Q : Exit → Act → World → Prop) (C : Nat → World → Prop) (Vs : List (Stb R)) (a0 : Act) (i : Nat) (V : Stb R) (o : Oper) (k k' : Nat) : Prop :=
  ∀ (a : Act) (w : World) (K : Act → World → Prop), C k w → (∀ t, t ∈ o.looksAt ops → slotD ops.toList Vs a0 t (a.tmps[t]?.getD undef) w) →
    (∀ v w', R w w' → C k' w' → V.V v w' → K (a.put o.dst v) w') → wpOp P ops Q i K a w

/-- The state's number behind an operation. -/
def stepR : Bool → Nat → Nat
  | true, r => r + 1
  | false, r => r
/-- All operations' parts; st: which of them turn the state C. -/
def CalmAll (P : Program) (ops : Array Oper) (Q : Exit → Act → World → Prop) (C : Nat → World → Prop) (Vs : List (Stb R)) (a0 : Act) : Nat → Nat → List Oper → List (Stb R) → List Bool → Prop
  | i, r, o :: l, V :: Ws, s :: st => (if s = true then CalmOp P ops Q C Vs a0 i V o r (r + 1) else ∀ k, CalmOp P ops Q C Vs a0 i V o k k) ∧ CalmAll P ops Q C Vs a0 (i + 1) (stepR s r) l Ws st
  | _, _, [], [], [] => True
  | _, _, _, _, _ => False

def rank (st : List Bool) (i : Nat) : Nat := (st.take i).count true

theorem calmAll_get {C : Nat → World → Prop} {Vs : List (Stb R)} {a0 : Act} : ∀ (l : List Oper) (Ws : List (Stb R)) (st : List Bool) (i r : Nat), CalmAll P ops Q C Vs a0 i r l Ws st →
    l.length = Ws.length ∧ l.length = st.length ∧ ∀ j o, l[j]? = some o → ∃ V s, Ws[j]? = some V ∧ st[j]? = some s ∧
      (if s = true then CalmOp P ops Q C Vs a0 (i + j) V o (r + rank st j) (r + rank st j + 1) else ∀ k, CalmOp P ops Q C Vs a0 (i + j) V o k k)
  | [], [], [], i, r, _ => ⟨rfl, rfl, fun j o h => by simp at h⟩
  | o :: l, V :: Ws, s :: st, i, r, h => by
    obtain ⟨h1, h2⟩ := h
    obtain ⟨e1, e2, e3⟩ := calmAll_get l Ws st (i + 1) _ h2
    refine ⟨by simp [e1], by simp [e2], fun j o' hj => ?_⟩
    cases j with
    | zero =>
      simp at hj; subst hj
      exact ⟨V, s, rfl, rfl, by simpa [rank] using h1⟩
    | succ j =>
      obtain ⟨V', s', g1, g2, g3⟩ := e3 j o' (by simpa using hj)
      refine ⟨V', s', by simpa using g1, by simpa using g2, ?_⟩
      have er : rank (s :: st) (j + 1) = (if s = true then 1 else 0) + rank st j := by
        unfold rank; rw [List.take_succ_cons, List.count_cons]; cases s <;> simp <;> omega
      rw [er, show i + (j + 1) = i + 1 + j from by omega]
      cases s
      · simpa [stepR] using g3
      · rw [if_pos rfl, ← Nat.add_assoc]; exact g3
  | [], _ :: _, _, _, _, h => h.elim
  | [], [], _ :: _, _, _, h => h.elim
  | _ :: _, [], _, _, _, h => h.elim
  | _ :: _, _ :: _, [], _, _, h => h.elim

theorem rank_succ (st : List Bool) (i : Nat) : rank st (i + 1) = rank st i + if st[i]? = some true then 1 else 0 := by
  unfold rank
  rw [List.take_add_one, List.count_append]
  cases h : st[i]? with
  | none => simp
  | some b => cases b <;> simp
theorem rank_mono (st : List Bool) {i j : Nat} (h : i ≤ j) : rank st i ≤ rank st j := by
  induction j with
  | zero => rw [Nat.le_zero.1 h]; exact Nat.le_refl _
  | succ j ih =>
    rcases Nat.lt_or_ge j i with hlt | hge
    · rw [show i = j + 1 from by omega]; exact Nat.le_refl _
    · have := ih hge; rw [rank_succ]; omega
theorem rank_lt (st : List Bool) {i j : Nat} (h : i < j) (hi : st[i]? = some true) : rank st i < rank st j := by
  have := rank_mono st (show i + 1 ≤ j by omega)
  rw [rank_succ, if_pos hi] at this; omega
theorem rank_hit (st : List Bool) : ∀ i k, k < rank st i → ∃ j, j < i ∧ st[j]? = some true ∧ rank st j = k
  | 0, k, h => by simp [rank] at h
  | i + 1, k, h => by
    rw [rank_succ] at h
    by_cases hk : k < rank st i
    · obtain ⟨j, h1, h2, h3⟩ := rank_hit st i k hk
      exact ⟨j, by omega, h2, h3⟩
    · by_cases hi : st[i]? = some true
      · rw [if_pos hi] at h; exact ⟨i, by omega, hi, by omega⟩
      · rw [if_neg hi] at h; omega

/-- Each operation waits for those that it looks at; the state's operations wait for one another; no two write one slot. -/
def calmB (ops : Array Oper) (st : List Bool) : Bool :=
  (List.range ops.size).all (fun i => ((ops[i]?).map fun o =>
    o.after.all (fun e => !Region.binds .any e || decide (e.on < i)) &&
    (List.range ops.size).all (fun j => (((ops[j]?).bind (·.dst)).map fun d => !(o.looksAt ops).contains d || o.after.any fun e => Region.binds .any e && e.on == j).getD true) &&
    (!(st[i]? == some true) || (List.range i).all fun j => !(st[j]? == some true) || o.after.any fun e => Region.binds .any e && (e.on == j || ((ops[e.on]?).map fun p => p.after.any fun e' => Region.binds .any e' && e'.on == j).getD false))).getD true) &&
  decide ((ops.toList.filterMap (·.dst)).Nodup)

theorem calmB_spec {st : List Bool} (h : calmB ops st = true) :
    (∀ (i : Nat) o, ops[i]? = some o → ∀ e ∈ o.after, Region.binds .any e = true → e.on < i) ∧
    (∀ (i j : Nat) o p d, ops[i]? = some o → ops[j]? = some p → p.dst = some d → d ∈ o.looksAt ops → ∃ e ∈ o.after, Region.binds .any e = true ∧ e.on = j) ∧
    (∀ (i j : Nat) o, ops[i]? = some o → st[i]? = some true → st[j]? = some true → j < i → ∃ e ∈ o.after, Region.binds .any e = true ∧ (e.on = j ∨ ∃ p, ops[e.on]? = some p ∧ ∃ e' ∈ p.after, Region.binds .any e' = true ∧ e'.on = j)) ∧
    (ops.toList.filterMap (·.dst)).Nodup := by
  simp only [calmB, Bool.and_eq_true, List.all_eq_true, List.mem_range, decide_eq_true_eq] at h
  obtain ⟨h1, h2⟩ := h
  have hs : ∀ {i : Nat} {o : Oper}, ops[i]? = some o → i < ops.size := fun hi => (Array.getElem?_eq_some_iff.1 hi).1
  refine ⟨fun i o hi e he hb => ?_, fun i j o p d hi hj hd hm => ?_, fun i j o hi si sj hji => ?_, h2⟩
  · have := h1 i (hs hi)
    rw [hi] at this
    simp only [Option.map_some, Option.getD_some, Bool.and_eq_true, Array.all_eq_true'] at this
    have := this.1.1 e (by simpa using he)
    simpa [hb] using this
  · have := h1 i (hs hi)
    rw [hi] at this
    simp only [Option.map_some, Option.getD_some, Bool.and_eq_true, List.all_eq_true, List.mem_range] at this
    have := this.1.2 j (hs hj)
    rw [hj] at this
    simp only [Option.bind_some, hd, Option.map_some, Option.getD_some, Bool.or_eq_true, Bool.not_eq_true'] at this
    rcases this with h | h
    · rw [List.contains_eq_mem, decide_eq_false_iff_not] at h; exact absurd hm h
    · obtain ⟨e, he, hb⟩ := Array.any_eq_true'.1 h
      simp only [Bool.and_eq_true, beq_iff_eq] at hb
      exact ⟨e, he, hb⟩
  · have := h1 i (hs hi)
    rw [hi] at this
    simp only [Option.map_some, Option.getD_some, Bool.and_eq_true, Bool.or_eq_true, List.all_eq_true, List.mem_range] at this
    rcases this.2 with h | h
    · simp [si] at h
    · rcases h j hji with h | h
      · simp [sj] at h
      · obtain ⟨e, he, hb⟩ := Array.any_eq_true'.1 h
        simp only [Bool.and_eq_true, Bool.or_eq_true, beq_iff_eq] at hb
        refine ⟨e, he, hb.1, ?_⟩
        rcases hb.2 with h2 | h2
        · exact .inl h2
        · cases hp : ops[e.on]? with
          | none => rw [hp] at h2; cases h2
          | some p =>
            rw [hp] at h2
            simp only [Option.map_some, Option.getD_some] at h2
            obtain ⟨e', he', hb'⟩ := Array.any_eq_true'.1 h2
            simp only [Bool.and_eq_true, beq_iff_eq] at hb'
            exact .inr ⟨p, rfl, e', he', hb'⟩

theorem nodup_dst : ∀ (l : List Oper), (l.filterMap (·.dst)).Nodup → ∀ (i j : Nat) (o p : Oper) (d : Tmp), l[i]? = some o → l[j]? = some p → o.dst = some d → p.dst = some d → i ≠ j → False
  | [], _, i, j, o, p, d, hi, _, _, _, _ => by simp at hi
  | q :: l, hn, i, j, o, p, d, hi, hj, ho, hp, hne => by
    have hn' : (l.filterMap (·.dst)).Nodup := by
      cases h : q.dst <;> simp [List.filterMap_cons, h] at hn
      · exact hn
      · exact hn.2
    cases i with
    | zero =>
      cases j with
      | zero => exact hne rfl
      | succ j =>
        simp at hi; subst hi
        simp only [List.filterMap_cons, ho, List.nodup_cons, List.mem_filterMap] at hn
        exact hn.1 ⟨p, List.mem_of_getElem? (by simpa using hj), hp⟩
    | succ i =>
      cases j with
      | zero =>
        simp at hj; subst hj
        simp only [List.filterMap_cons, hp, List.nodup_cons, List.mem_filterMap] at hn
        exact hn.1 ⟨o, List.mem_of_getElem? (by simpa using hi), ho⟩
      | succ j => exact nodup_dst l hn' i j o p d (by simpa using hi) (by simpa using hj) ho hp (by omega)

structure CalmInv (ops : Array Oper) (C : Nat → World → Prop) (Vs : List (Stb R)) (a0 : Act) (st : List Bool) (w0 : World) (listed : Array Bool) (a : Act) (w : World) (k : Nat) : Prop where
  size : listed.size = ops.size
  closed : ∀ i o, ops[i]? = some o → listed.getD i false = true → ∀ e ∈ o.after, Region.binds .any e = true → listed.getD e.on false = true
  defers : a.defers = a0.defers
  tsize : a.tmps.size = a0.tmps.size
  old : ∀ t, (∀ i o, ops[i]? = some o → listed.getD i false = true → o.dst ≠ some t) → a.eval (.tmp t) = a0.eval (.tmp t)
  new : ∀ i o V d, ops[i]? = some o → Vs[i]? = some V → listed.getD i false = true → o.dst = some d → V.V (a.eval (.tmp d)) w
  state : C k w
  upto : ∀ j, st[j]? = some true → (listed.getD j false = true ↔ rank st j < k)
  base : R w0 w
  kle : k ≤ rank st ops.size

/-- What the rule asks of a region's operations and of the choice of those that turn the state. -/
structure CalmOK (ops : Array Oper) (st : List Bool) : Prop where
  bl : ∀ (i : Nat) o, ops[i]? = some o → ∀ e ∈ o.after, Region.binds .any e = true → e.on < i
  bd : ∀ (i j : Nat) o p d, ops[i]? = some o → ops[j]? = some p → p.dst = some d → d ∈ o.looksAt ops → ∃ e ∈ o.after, Region.binds .any e = true ∧ e.on = j
  bs : ∀ (listed : Array Bool) (k i : Nat) o, ops[i]? = some o → st[i]? = some true →
    (∀ i o, ops[i]? = some o → listed.getD i false = true → ∀ e ∈ o.after, Region.binds .any e = true → listed.getD e.on false = true) →
    (∀ e ∈ o.after, Region.binds .any e = true → listed.getD e.on false = true) → (∀ j, st[j]? = some true → (listed.getD j false = true ↔ rank st j < k)) → rank st i ≤ k
  bn : (ops.toList.filterMap (·.dst)).Nodup
theorem calmB_ok {st : List Bool} (h : calmB ops st = true) : CalmOK ops st := by
  obtain ⟨h1, h2, h3, h4⟩ := calmB_spec h
  refine ⟨h1, h2, fun listed k i o ho hs hcl haft hup => ?_, h4⟩
  rcases Nat.lt_or_ge k (rank st i) with h | h
  · obtain ⟨j, hj1, hj2, hj3⟩ := rank_hit st i k h
    obtain ⟨e, he, hb, hej⟩ := h3 i j o ho hs hj2 hj1
    have := haft e he hb
    rcases hej with hej | ⟨p, hp, e', he', hb', hej'⟩
    · rw [hej, hup j hj2] at this; omega
    · have h3 := hcl e.on p hp this e' he' hb'
      rw [hej', hup j hj2] at h3; omega
  · exact h
/-- The same with levels: an operation's level is that of one that it waits for (one more than the rank of one that turns the state), and no operation that turns the state has a level below its rank. -/
def calmL (ops : Array Oper) (st : List Bool) (lv : List Nat) : Bool :=
  (List.range ops.size).all (fun i => ((ops[i]?).map fun o =>
    o.after.all (fun e => !Region.binds .any e || decide (e.on < i)) &&
    (List.range ops.size).all (fun j => (((ops[j]?).bind (·.dst)).map fun d => !(o.looksAt ops).contains d || o.after.any fun e => Region.binds .any e && e.on == j).getD true) &&
    ((lv.getD i 0 == 0 || o.after.any fun e => Region.binds .any e && (if st[e.on]? == some true then decide (lv.getD i 0 ≤ rank st e.on + 1) else ((ops[e.on]?).isSome && decide (lv.getD i 0 ≤ lv.getD e.on 0)))) &&
     (!(st[i]? == some true) || decide (rank st i ≤ lv.getD i 0)))).getD true) &&
  decide ((ops.toList.filterMap (·.dst)).Nodup)
theorem calmL_ok {st : List Bool} {lv : List Nat} (h : calmL ops st lv = true) : CalmOK ops st := by
  simp only [calmL, Bool.and_eq_true, List.all_eq_true, List.mem_range, decide_eq_true_eq] at h
  obtain ⟨h1, h2⟩ := h
  have hs : ∀ {i : Nat} {o : Oper}, ops[i]? = some o → i < ops.size := fun hi => (Array.getElem?_eq_some_iff.1 hi).1
  have hbl : ∀ (i : Nat) o, ops[i]? = some o → ∀ e ∈ o.after, Region.binds .any e = true → e.on < i := fun i o hi e he hb => by
    have := h1 i (hs hi)
    rw [hi] at this
    simp only [Option.map_some, Option.getD_some, Bool.and_eq_true, Array.all_eq_true'] at this
    have := this.1.1 e (by simpa using he)
    simpa [hb] using this
  have hlv : ∀ (i : Nat) o, ops[i]? = some o → (lv.getD i 0 = 0 ∨ ∃ e ∈ o.after, Region.binds .any e = true ∧ ((st[e.on]? = some true ∧ lv.getD i 0 ≤ rank st e.on + 1) ∨ ((∃ p, ops[e.on]? = some p) ∧ lv.getD i 0 ≤ lv.getD e.on 0))) ∧ (st[i]? = some true → rank st i ≤ lv.getD i 0) := fun i o hi => by
    have := h1 i (hs hi)
    rw [hi] at this
    simp only [Option.map_some, Option.getD_some, Bool.and_eq_true, Bool.or_eq_true] at this
    obtain ⟨ha, hb⟩ := this.2
    refine ⟨?_, fun hst => ?_⟩
    · rcases ha with h | h
      · exact .inl (by simpa using h)
      · obtain ⟨e, he, hb⟩ := Array.any_eq_true'.1 h
        simp only [Bool.and_eq_true] at hb
        refine .inr ⟨e, he, hb.1, ?_⟩
        have h3 := hb.2
        split at h3
        · rename_i hst; exact .inl ⟨by simpa using hst, by simpa using h3⟩
        · simp only [Bool.and_eq_true, decide_eq_true_eq] at h3
          exact .inr ⟨Option.isSome_iff_exists.1 h3.1, h3.2⟩
    · rcases hb with h | h
      · simp [hst] at h
      · simpa using h
  refine ⟨hbl, fun i j o p d hi hj hd hm => ?_, fun listed k i o ho hst hcl haft hup => ?_, h2⟩
  · have := h1 i (hs hi)
    rw [hi] at this
    simp only [Option.map_some, Option.getD_some, Bool.and_eq_true, List.all_eq_true, List.mem_range] at this
    have := this.1.2 j (hs hj)
    rw [hj] at this
    simp only [Option.bind_some, hd, Option.map_some, Option.getD_some, Bool.or_eq_true, Bool.not_eq_true'] at this
    rcases this with h | h
    · rw [List.contains_eq_mem, decide_eq_false_iff_not] at h; exact absurd hm h
    · obtain ⟨e, he, hb⟩ := Array.any_eq_true'.1 h
      simp only [Bool.and_eq_true, beq_iff_eq] at hb
      exact ⟨e, he, hb⟩
  · have key : ∀ (n i : Nat) o, i ≤ n → ops[i]? = some o → (∀ e ∈ o.after, Region.binds .any e = true → listed.getD e.on false = true) → lv.getD i 0 ≤ k := by
      intro n
      induction n with
      | zero =>
        intro i o hin hi ha
        rcases (hlv i o hi).1 with h | ⟨e, he, hb, _⟩
        · omega
        · have := hbl i o hi e he hb; omega
      | succ n ih =>
        intro i o hin hi ha
        rcases (hlv i o hi).1 with h | ⟨e, he, hb, ⟨h3, h4⟩ | ⟨⟨p, hp⟩, h4⟩⟩
        · omega
        · have := (hup e.on h3).1 (ha e he hb); omega
        · have h5 := hbl i o hi e he hb
          have h6 := ih e.on p (by omega) hp (hcl e.on p hp (ha e he hb))
          omega
    have h7 := (hlv i o ho).2 hst
    have h8 := key i i o (Nat.le_refl _) ho haft
    omega

theorem slotD_of {a0 : Act} {t : Tmp} {v : Value} {w : World} : ∀ (l : List Oper) (Vs : List (Stb R)), l.length = Vs.length →
    (∀ (j : Nat) o V, l[j]? = some o → Vs[j]? = some V → o.dst = some t → V.V v w) → ((∀ (j : Nat) o, l[j]? = some o → o.dst ≠ some t) → v = a0.tmps[t]?.getD undef) → slotD l Vs a0 t v w
  | [], [], _, _, h2 => h2 fun j o h => by simp at h
  | o :: l, V :: Vs, hl, h1, h2 => by
    unfold slotD
    split
    · rename_i ho; exact h1 0 o V rfl rfl ho
    · rename_i ho
      refine slotD_of l Vs (by simpa using hl) (fun j o' V' hj hV hd => h1 (j + 1) o' V' (by simpa using hj) (by simpa using hV) hd) (fun hn => h2 fun j o' hj => ?_)
      cases j with
      | zero => simp at hj; subst hj; exact ho
      | succ j => exact hn j o' (by simpa using hj)
  | [], _ :: _, hl, _, _ => by simp at hl
  | _ :: _, [], hl, _, _ => by simp at hl

theorem eval_get (a : Act) (t : Tmp) : a.eval (.tmp t) = a.tmps[t]?.getD undef := by simp [Act.eval]
theorem getD_set (listed : Array Bool) (i j : Nat) (hi : i < listed.size) : (listed.setIfInBounds i true).getD j false = (decide (i = j) || listed.getD j false) := by
  by_cases h : i = j
  · subst h; simp [hi]
  · rw [Go.getD_set_ne false h]; simp [h]

theorem eval_put_same (a : Act) (d : Tmp) (v : Value) (h : d < a.tmps.size) : (a.put (some d) v).eval (.tmp d) = v := by
  simp [Act.eval, Act.put, h]
theorem eval_put_ne (a : Act) (o : Option Tmp) (t : Tmp) (v : Value) (h : o ≠ some t) : (a.put o v).eval (.tmp t) = a.eval (.tmp t) :=
  Act.eval_put fun d hd e => h (by cases e; exact hd)

theorem calm_step {C : Nat → World → Prop} {Vs : List (Stb R)} {a0 : Act} {st : List Bool} {w0 : World} (hB : CalmOK ops st) (hall : CalmAll P ops Q C Vs a0 0 0 ops.toList Vs st)
    (htr : ∀ a b c, R a b → R b c → R a c) (hds : ∀ (i : Nat) o d, ops[i]? = some o → o.dst = some d → d < a0.tmps.size)
    {listed : Array Bool} {a : Act} {w : World} {k : Nat} (hI : CalmInv ops C Vs a0 st w0 listed a w k) {i : Nat} (hi : i ∈ Region.ready .any ops listed)
    {K : Act → World → Prop} (hK : ∀ a' w' k', CalmInv ops C Vs a0 st w0 (listed.setIfInBounds i true) a' w' k' → K a' w') : wpOp P ops Q i K a w := by
  obtain ⟨_, hBd, hBs, hBn⟩ := hB
  obtain ⟨hl1, hl2, hget⟩ := calmAll_get ops.toList Vs st 0 0 hall
  obtain ⟨hun, o, ho, haft⟩ := mem_ready.1 hi
  have hlt : i < ops.size := (Array.getElem?_eq_some_iff.1 ho).1
  have hun' : listed.getD i false = false := by
    have : i < listed.size := by rw [hI.size]; exact hlt
    simp [this] at hun ⊢; exact hun
  obtain ⟨V, s, hV, hs, hop⟩ := hget i o (by simpa using ho)
  have deps : ∀ t, t ∈ o.looksAt ops → slotD ops.toList Vs a0 t (a.tmps[t]?.getD undef) w := fun t ht => by
    rw [← eval_get]
    refine slotD_of _ _ hl1 (fun j p V' hj hV' hd => ?_) (fun hn => ?_)
    · obtain ⟨e, he, hb, hej⟩ := hBd i j o p t ho (by simpa using hj) hd ht
      exact hI.new j p V' t (by simpa using hj) hV' (by rw [← hej]; exact haft e he hb) hd
    · rw [← eval_get]; exact hI.old t fun j p hj _ => hn j p (by simpa using hj)
  have key : ∀ k', (s = true → k' = k + 1) → (s = false → k' = k) → (s = true → rank st i = k) → ∀ v w', R w w' → C k' w' → V.V v w' → K (a.put o.dst v) w' := by
    intro k' hk1 hk0 hrk v w' hR hC hv
    refine hK _ _ k' ⟨by simp [hI.size], fun j p hj hlj e he hb => ?_, ?_, ?_, fun t hn => ?_, fun j p V' d hj hV' hlj hd => ?_, hC, fun j hj => ?_, htr _ _ _ hI.base hR, ?_⟩
    · rw [getD_set _ _ _ (by rw [hI.size]; exact hlt)] at hlj ⊢
      simp only [Bool.or_eq_true, decide_eq_true_eq] at hlj ⊢
      rcases hlj with rfl | hlj
      · rw [ho] at hj; cases hj; exact .inr (haft e he hb)
      · exact .inr (hI.closed j p hj hlj e he hb)
    · rw [← hI.defers]; cases o.dst <;> rfl
    · rw [← hI.tsize]; cases o.dst <;> simp [Act.put]
    · have hne : o.dst ≠ some t := hn i o ho (by rw [getD_set _ _ _ (by rw [hI.size]; exact hlt)]; simp)
      rw [eval_put_ne _ _ _ _ hne]
      exact hI.old t fun j p hj hlj => hn j p hj (by rw [getD_set _ _ _ (by rw [hI.size]; exact hlt), hlj]; simp)
    · rw [getD_set _ _ _ (by rw [hI.size]; exact hlt)] at hlj
      by_cases hij : i = j
      · subst hij
        rw [ho] at hj; cases hj
        rw [hV] at hV'; cases hV'
        rw [hd, eval_put_same _ _ _ (by rw [hI.tsize]; exact hds i o d ho hd)]
        exact hv
      · simp only [hij, decide_false, Bool.false_or] at hlj
        have hne : o.dst ≠ some d := by
          intro e
          -- two operations that write one slot
          have h1 : (ops.toList.filterMap (·.dst)).Nodup := hBn
          obtain ⟨hi1, hi2⟩ := Array.getElem?_eq_some_iff.1 ho
          obtain ⟨hj1, hj2⟩ := Array.getElem?_eq_some_iff.1 hj
          exact nodup_dst _ h1 i j o p d (by simpa using ho) (by simpa using hj) e hd hij
        rw [eval_put_ne _ _ _ _ hne]
        exact V'.st _ _ _ (hI.new j p V' d hj hV' hlj hd) hR
    · rw [getD_set _ _ _ (by rw [hI.size]; exact hlt)]
      simp only [Bool.or_eq_true, decide_eq_true_eq]
      have hu := hI.upto j hj
      cases s with
      | true =>
        rw [hk1 rfl]
        by_cases hij : i = j
        · subst hij; have := hrk rfl; simp; omega
        · have : rank st j ≠ k := by
            rw [← hrk rfl]
            rcases Nat.lt_or_gt_of_ne hij with h | h
            · have := rank_lt st h hs; omega
            · have := rank_lt st h hj; omega
          simp only [hij, false_or, hu]; omega
      | false =>
        rw [hk0 rfl]
        have hij : i ≠ j := by rintro rfl; rw [hs] at hj; cases hj
        simp only [hij, false_or, hu]
    · cases s with
      | true =>
        rw [hk1 rfl, ← hrk rfl]
        have := rank_mono st (show i + 1 ≤ ops.size by omega)
        rw [rank_succ, if_pos hs] at this; exact this
      | false => rw [hk0 rfl]; exact hI.kle
  cases s with
  | true =>
    have hrk : rank st i = k := by
      have h1 := hI.upto i hs
      rw [hun'] at h1
      have h2 : ¬ rank st i < k := fun h => by simpa using h1.2 h
      have := hBs listed k i o ho hs hI.closed haft hI.upto
      omega
    rw [if_pos rfl, Nat.zero_add, Nat.zero_add, hrk] at hop
    exact hop a w K hI.state deps (key (k + 1) (fun _ => rfl) (fun h => by cases h) (fun _ => hrk))
  | false =>
    simp only [Bool.false_eq_true, if_false] at hop
    rw [Nat.zero_add] at hop
    exact hop k a w K hI.state deps (key k (fun h => by cases h) (fun _ => rfl) (fun h => by cases h))

theorem calm_any {C : Nat → World → Prop} {Vs : List (Stb R)} {a0 : Act} {st : List Bool} {w0 : World} (hB : CalmOK ops st) (hall : CalmAll P ops Q C Vs a0 0 0 ops.toList Vs st)
    (htr : ∀ a b c, R a b → R b c → R a c) (hds : ∀ (i : Nat) o d, ops[i]? = some o → o.dst = some d → d < a0.tmps.size)
    (hQ : ∀ listed a w k, CalmInv ops C Vs a0 st w0 listed a w k → (∀ i, i < ops.size → listed.getD i false = true) → Q .normal a w) :
    ∀ (fuel : Nat) (listed : Array Bool) (a : Act) (w : World) (k : Nat), CalmInv ops C Vs a0 st w0 listed a w k →
      ((List.range ops.size).filter fun i => !listed.getD i false).length ≤ fuel → wpAny P .any ops Q fuel listed a w := by
  have hfull : ∀ listed : Array Bool, listed.size = ops.size → Region.ready .any ops listed = [] → ∀ i, i < ops.size → listed.getD i false = true := by
    intro listed hsz hr i
    induction i using Nat.strongRecOn with
    | _ i ih =>
      intro hi
      rcases hl : listed.getD i false with _ | _
      · exfalso
        have : i ∈ Region.ready .any ops listed := mem_ready.2 ⟨by
            have h2 : i < listed.size := by rw [hsz]; exact hi
            simp [h2] at hl ⊢; exact hl, ops[i], by simp [hi], fun e he hb => by
            have h3 := hB.bl i ops[i] (by simp [hi]) e he hb
            exact ih e.on h3 (by omega)⟩
        rw [hr] at this; cases this
      · rfl
  intro fuel
  induction fuel with
  | zero =>
    intro listed a w k hI hlen
    have hnone : ∀ i, i < ops.size → listed.getD i false = true := fun i hi => by
      have h0 := List.eq_nil_of_length_eq_zero (Nat.le_zero.1 hlen)
      have := List.filter_eq_nil_iff.1 h0 i (List.mem_range.2 hi)
      simpa using this
    refine ⟨?_, hQ listed a w k hI hnone⟩
    rw [List.eq_nil_iff_forall_not_mem]
    intro i hi
    obtain ⟨h1, o, ho, _⟩ := mem_ready.1 hi
    have hlt : i < ops.size := (Array.getElem?_eq_some_iff.1 ho).1
    have h2 := hnone i hlt
    have h3 : i < listed.size := by rw [hI.size]; exact hlt
    simp [h3] at h1 h2; rw [h1] at h2; cases h2
  | succ fuel ih =>
    intro listed a w k hI hlen
    refine ⟨fun hr => hQ listed a w k hI (hfull listed hI.size hr), fun i hi => ?_⟩
    refine calm_step hB hall htr hds hI hi fun a' w' k' hI' => ih _ a' w' k' hI' ?_
    obtain ⟨h1, o, ho, _⟩ := mem_ready.1 hi
    have hlt : i < ops.size := (Array.getElem?_eq_some_iff.1 ho).1
    have hsz : i < listed.size := by rw [hI.size]; exact hlt
    have hne : listed.getD i false = false := by simp [hsz] at h1 ⊢; exact h1
    have : ((List.range ops.size).filter fun j => !(listed.setIfInBounds i true).getD j false).length < ((List.range ops.size).filter fun j => !listed.getD j false).length := by
      have e : ((List.range ops.size).filter fun j => !(listed.setIfInBounds i true).getD j false) = ((List.range ops.size).filter fun j => !listed.getD j false).filter fun j => !decide (i = j) := by
        rw [List.filter_filter]
        congr 1; funext j
        rw [getD_set _ _ _ hsz, Bool.not_or]
      rw [e]
      refine List.length_filter_lt_length_iff_exists.2 ⟨i, List.mem_filter.2 ⟨List.mem_range.2 hlt, by rw [hne]; rfl⟩, by simp⟩
    omega

def putL : List Oper → (Nat → Value) → Nat → Act → Act
  | [], _, _, a => a
  | o :: l, vs, i, a => putL l vs (i + 1) (a.put o.dst (vs i))

theorem putL_spec : ∀ (l : List Oper) (vs : Nat → Value) (i : Nat) (a : Act), (l.filterMap (·.dst)).Nodup → (∀ (j : Nat) o d, l[j]? = some o → o.dst = some d → d < a.tmps.size) →
    (putL l vs i a).defers = a.defers ∧ (putL l vs i a).tmps.size = a.tmps.size ∧ (∀ (j : Nat) o d, l[j]? = some o → o.dst = some d → (putL l vs i a).eval (.tmp d) = vs (i + j)) ∧
    (∀ t, (∀ (j : Nat) o, l[j]? = some o → o.dst ≠ some t) → (putL l vs i a).eval (.tmp t) = a.eval (.tmp t))
  | [], vs, i, a, _, _ => ⟨rfl, rfl, fun j o d h => by simp at h, fun _ _ => rfl⟩
  | o :: l, vs, i, a, hn, hd => by
    have hsz : (a.put o.dst (vs i)).tmps.size = a.tmps.size := by cases o.dst <;> simp [Act.put]
    have hn' : (l.filterMap (·.dst)).Nodup := by
      cases h : o.dst <;> simp [List.filterMap_cons, h] at hn
      · exact hn
      · exact hn.2
    obtain ⟨h1, h2, h3, h4⟩ := putL_spec l vs (i + 1) (a.put o.dst (vs i)) hn' (fun j o' d hj hd' => by rw [hsz]; exact hd (j + 1) o' d (by simpa using hj) hd')
    refine ⟨by unfold putL; rw [h1]; cases o.dst <;> rfl, by unfold putL; rw [h2, hsz], fun j o' d hj hdd => ?_, fun t ht => ?_⟩
    · cases j with
      | zero =>
        simp at hj; subst hj
        unfold putL
        rw [h4 d, hdd, eval_put_same _ _ _ (hd 0 o d rfl hdd)]
        · rfl
        · intro j p hp e
          simp only [List.filterMap_cons, hdd, List.nodup_cons, List.mem_filterMap] at hn
          exact hn.1 ⟨p, List.mem_of_getElem? hp, e⟩
      | succ j =>
        unfold putL
        rw [h3 j o' d (by simpa using hj) hdd]
        congr 1; omega
    · unfold putL
      rw [h4 t (fun j p hp => ht (j + 1) p (by simpa using hp)), eval_put_ne _ _ _ _ (ht 0 o rfl)]

theorem act_ext {a b : Act} (h1 : a.defers = b.defers) (h2 : a.tmps.size = b.tmps.size) (h3 : ∀ t, a.eval (.tmp t) = b.eval (.tmp t)) : a = b := by
  obtain ⟨ta, da⟩ := a; obtain ⟨tb, db⟩ := b
  cases h1
  congr
  refine Array.ext h2 fun i hi hj => ?_
  have := h3 i
  simpa [Act.eval, hi, hj] using this

/-- THE RULE: a region that draws its order. -/
theorem wp_region_calm' {id : Nat} {l : List Oper} {C : Nat → World → Prop} {a : Act} {w : World} (st : List Bool) (Vs : List (Stb R)) (hm : P.follows .mixedOrders = true) (hB : CalmOK l.toArray st)
    (htr : ∀ a b c, R a b → R b c → R a c) (h0 : R w w.drew) (hC : C 0 w.drew) (hds : l.all (fun o => (o.dst.map fun d => decide (d < a.tmps.size)).getD true) = true)
    (hall : CalmAll P l.toArray Q C Vs a 0 0 l Vs st)
    (hfin : ∀ (vs : Nat → Value) (w' : World), R w w' → C (rank st l.length) w' → (∀ (i : Nat) o V, l[i]? = some o → Vs[i]? = some V → o.dst ≠ none → V.V (vs i) w') → Q .normal (putL l vs 0 a) w') :
    (Code.region id l.toArray true).wp P Q a w := by
  have hds' : ∀ (i : Nat) o d, l.toArray[i]? = some o → o.dst = some d → d < a.tmps.size := fun i o d hi hd => by
    have := List.all_eq_true.1 hds o (List.mem_of_getElem? (by simpa using hi))
    rw [hd] at this; simpa using this
  have hall' : CalmAll P l.toArray Q C Vs a 0 0 l.toArray.toList Vs st := hall
  have hrep : ∀ i, (Array.replicate l.toArray.size false).getD i false = false := fun i => by
    rw [Array.getD_eq_getD_getElem?, Array.getElem?_replicate]; split <;> rfl
  refine wp_region_any hm (calm_any (w0 := w) (k := 0) hB hall' htr hds' ?_ _ _ _ _ ⟨by simp, ?_, rfl, rfl, fun _ _ => rfl, ?_, hC, ?_, h0, Nat.zero_le _⟩ ?_)
  · intro listed a' w' k hI hfull
    obtain ⟨hl1, hl2, hget⟩ := calmAll_get l Vs st 0 0 hall
    have hBn : (l.filterMap (·.dst)).Nodup := hB.bn
    have hk : k = rank st l.length := by
      have h1 := hI.kle
      simp only [List.size_toArray] at h1
      rcases Nat.lt_or_ge k (rank st l.length) with h | h
      · obtain ⟨j, hj1, hj2, hj3⟩ := rank_hit st l.length k h
        have := (hI.upto j hj2).1 (hfull j (by simpa using hj1)); omega
      · omega
    obtain ⟨p1, p2, p3, p4⟩ := putL_spec l (fun i => ((l[i]?).bind (·.dst)).elim undef fun d => a'.eval (.tmp d)) 0 a hBn (fun j o d hj hd => hds' j o d (by simpa using hj) hd)
    have hlist : ∀ {j : Nat} {o : Oper}, l[j]? = some o → listed.getD j false = true := fun hj => hfull _ (by simpa using (List.getElem?_eq_some_iff.1 hj).1)
    have e : a' = putL l (fun i => ((l[i]?).bind (·.dst)).elim undef fun d => a'.eval (.tmp d)) 0 a := by
      refine act_ext (hI.defers.trans p1.symm) (hI.tsize.trans p2.symm) fun t => ?_
      by_cases ht : ∃ (j : Nat) (o : Oper), l[j]? = some o ∧ o.dst = some t
      · obtain ⟨j, o, hj, hd⟩ := ht
        rw [p3 j o t hj hd, Nat.zero_add, hj]
        simp [hd]
      · have hn : ∀ (j : Nat) (o : Oper), l[j]? = some o → o.dst ≠ some t := fun j o hj hd => ht ⟨j, o, hj, hd⟩
        rw [p4 t hn]
        exact hI.old t fun j o hj _ => hn j o (by simpa using hj)
    rw [e]
    refine hfin _ w' hI.base (hk ▸ hI.state) fun i o V hi hV hne => ?_
    cases hd : o.dst with
    | none => exact absurd hd hne
    | some d =>
      have := hI.new i o V d (by simpa using hi) hV (hlist hi) hd
      simpa [hi, hd] using this
  · intro i o _ h; rw [hrep] at h; cases h
  · intro i o V d _ _ h; rw [hrep] at h; cases h
  · intro j _; rw [hrep]; simp
  · simpa using List.length_filter_le _ (List.range l.length)

theorem wp_region_calm {id : Nat} {l : List Oper} {C : Nat → World → Prop} {a : Act} {w : World} (st : List Bool) (Vs : List (Stb R)) (hm : P.follows .mixedOrders = true) (hB : calmB l.toArray st = true)
    (htr : ∀ a b c, R a b → R b c → R a c) (h0 : R w w.drew) (hC : C 0 w.drew) (hds : l.all (fun o => (o.dst.map fun d => decide (d < a.tmps.size)).getD true) = true)
    (hall : CalmAll P l.toArray Q C Vs a 0 0 l Vs st)
    (hfin : ∀ (vs : Nat → Value) (w' : World), R w w' → C (rank st l.length) w' → (∀ (i : Nat) o V, l[i]? = some o → Vs[i]? = some V → o.dst ≠ none → V.V (vs i) w') → Q .normal (putL l vs 0 a) w') :
    (Code.region id l.toArray true).wp P Q a w :=
  wp_region_calm' st Vs hm (calmB_ok hB) htr h0 hC hds hall hfin
/-- The rule with levels. -/
theorem wp_region_calmL {id : Nat} {l : List Oper} {C : Nat → World → Prop} {a : Act} {w : World} (st : List Bool) (lv : List Nat) (Vs : List (Stb R)) (hm : P.follows .mixedOrders = true) (hB : calmL l.toArray st lv = true)
    (htr : ∀ a b c, R a b → R b c → R a c) (h0 : R w w.drew) (hC : C 0 w.drew) (hds : l.all (fun o => (o.dst.map fun d => decide (d < a.tmps.size)).getD true) = true)
    (hall : CalmAll P l.toArray Q C Vs a 0 0 l Vs st)
    (hfin : ∀ (vs : Nat → Value) (w' : World), R w w' → C (rank st l.length) w' → (∀ (i : Nat) o V, l[i]? = some o → Vs[i]? = some V → o.dst ≠ none → V.V (vs i) w') → Q .normal (putL l vs 0 a) w') :
    (Code.region id l.toArray true).wp P Q a w :=
  wp_region_calm' st Vs hm (calmL_ok hB) htr h0 hC hds hall hfin

theorem wpOp_want {i : Nat} {o : Oper} {a : Act} {w : World} {K : Act → World → Prop} (hi : ops[i]? = some o) (hw : Region.wanted o (yielded ops a.tmps) = true) (h : o.wp P a w K Q) : wpOp P ops Q i K a w := by
  unfold wpOp; rw [hi]; simp only [hw, if_true]; exact .inl h
theorem wpOp_plain {i : Nat} {o : Oper} {a : Act} {w : World} {K : Act → World → Prop} (hi : ops[i]? = some o) (hw : o.guard = none) (h : o.wp P a w K Q) : wpOp P ops Q i K a w :=
  wpOp_want hi (by simp [Region.wanted, hw]) h
theorem wpOp_skip {i : Nat} {o : Oper} {a : Act} {w : World} {K : Act → World → Prop} (hi : ops[i]? = some o) (hw : Region.wanted o (yielded ops a.tmps) = false) (h : K (a.put o.dst undef) w) : wpOp P ops Q i K a w := by
  unfold wpOp; rw [hi]; simp only [hw]; exact h
theorem wanted_of {o : Oper} {a : Act} {g t : Nat} {want b : Bool} (hg : o.guard = some (g, want)) (ht : (ops[g]?).bind (·.dst) = some t) (hv : a.eval (.tmp t) = .bool b) : Region.wanted o (yielded ops a.tmps) = (b == want) := by
  have : a.tmps[t]? = some (.bool b) := by
    simp only [Act.eval, Array.getD_eq_getD_getElem?] at hv
    cases h : a.tmps[t]? with
    | none => rw [h] at hv; simp [undef] at hv
    | some v => rw [h] at hv; simp at hv; rw [hv]
  unfold Region.wanted
  rw [hg]
  simp only [yielded, ht, Option.bind_some, this]
  cases b <;> cases want <;> rfl
theorem calm_run {i : Nat} {o : Oper} {a : Act} {w w' : World} {K : Act → World → Prop} (hi : ops[i]? = some o) (hg : o.guard = none) (v : Value) (hr : (execOp a.eval o).run P w = .ok (.value v) w') (h : K (a.put o.dst v) w') : wpOp P ops Q i K a w :=
  wpOp_plain hi hg (by unfold Oper.wp; rw [hr]; exact h)
theorem calm_mv {C : Nat → World → Prop} {Vs : List (Stb R)} {a0 : Act} {i k : Nat} {V : Stb R} {o : Oper} (t : Tmp) (hi : ops[i]? = some o) (hg : o.guard = none) (ho : o.op = .move (.tmp t) ∨ o.op = .assign (.tmp t)) (hR : ∀ w, R w w) (ht : t ∈ o.looksAt ops)
    (hV : ∀ (v : Value) (w : World), slotD ops.toList Vs a0 t v w → V.V v w) : CalmOp P ops Q C Vs a0 i V o k k := by
  intro a w K hC hd hK
  refine calm_run hi hg (a.eval (.tmp t)) (w' := w) ?_ (hK _ _ (hR w) hC (hV _ w (by rw [eval_get]; exact hd t ht)))
  rcases ho with ho | ho <;> simp [execOp, ho]
theorem calm_move {C : Nat → World → Prop} {Vs : List (Stb R)} {a0 : Act} {i k : Nat} {V : Stb R} {o : Oper} (x : Operand) (hi : ops[i]? = some o) (hg : o.guard = none) (ho : o.op = .move x ∨ o.op = .assign x) (hR : ∀ w, R w w)
    (hV : ∀ (a : Act) (w : World), (∀ t, t ∈ o.looksAt ops → slotD ops.toList Vs a0 t (a.tmps[t]?.getD undef) w) → V.V (a.eval x) w) : CalmOp P ops Q C Vs a0 i V o k k := by
  intro a w K hC hd hK
  refine calm_run hi hg (a.eval x) (w' := w) ?_ (hK _ _ (hR w) hC (hV a w hd))
  rcases ho with ho | ho <;> simp [execOp, ho]
end
end Go.Proofs.YtcaihinenfnekaaDoor
/- op.Check. -/
namespace Go.Proofs.YtcaihinenfnekaaDoor
open Go.RowKit

def zOf (o : OpV) : List UInt8 := signsL.getD o.k []
theorem zOf_get {o : OpV} (h : o.k < 17) : signsL[o.k]? = some (zOf o) := by
  unfold zOf
  rw [List.getD_eq_getElem?_getD, List.getElem?_eq_getElem (by simpa [signsL] using h)]
  rfl
open Classical in
noncomputable def bareB (o : OpV) : Bool := decide (o = bareFrom o (zOf o))
noncomputable def checkV (o : OpV) : Nat :=
  if 17 ≤ o.k then 4 else if bareB o = false then 4 else if (zOf o).all (rightV o) = false then 4
  else if 64 < o.a.size + o.b.size then 3 else if 64 < (writeB o (zOf o)).length then 3 else 0
theorem OpV.eq_iff (o p : OpV) : o = p ↔ o.k = p.k ∧ o.a = p.a ∧ o.b = p.b ∧ o.n = p.n ∧ o.r = p.r := by
  obtain ⟨⟩ := o; obtain ⟨⟩ := p; simp
open Classical in
theorem opNeq (w : World) (o p : OpV) : (binOp .neq 38 (.agg #[.int .u8 o.k, .string o.a, .string o.b, .int .u8 o.n, .int .u8 o.r]) (.agg #[.int .u8 p.k, .string p.a, .string p.b, .int .u8 p.n, .int .u8 p.r])).run Tryd.prog w = .ok (.bool (!decide (o = p))) w := by
  have h1 : Tryd.prog.stoodInHeld 38 = false := by kernel_rfl
  have h2 : Tryd.prog.underlying 38 = some (.struct (Tryd.prog.fieldsOf 38)) := by kernel_rfl
  rw [run_neq_struct, run_equalIn_struct w 9999 _ _ _ h2 h1]
  have ta : ∀ s t : ByteArray, s.toList = t.toList ↔ s = t := fun s t => by
    have := str_eq s t
    constructor
    · intro h; rw [h] at this; simpa using this.symm
    · intro h; rw [h]
  have hi : ∀ a b : Nat, ((a : Int) = b) ↔ a = b := fun a b => by omega
  simp only [Program.fieldsOf, Tryd.underlying38]
  simp [go_sem]
  have he := OpV.eq_iff o p
  by_cases h : o = p
  · subst h; simp
  · have hn := mt he.2 h
    simp only [ta, h, decide_false, Bool.not_false]
    by_cases a1 : o.k = p.k
    · by_cases a2 : o.a = p.a
      · by_cases a3 : o.b = p.b
        · by_cases a4 : o.n = p.n
          · by_cases a5 : o.r = p.r
            · exact absurd ⟨a1, a2, a3, a4, a5⟩ hn
            · rw [if_pos (by rw [a1]), if_pos a2, if_pos a3, if_pos (by rw [a4]), if_neg (by omega)]
          · rw [if_pos (by rw [a1]), if_pos a2, if_pos a3, if_neg (by omega)]
        · rw [if_pos (by rw [a1]), if_pos a2, if_neg a3]
      · rw [if_pos (by rw [a1]), if_neg a2]
    · rw [if_neg (by omega)]
end Go.Proofs.YtcaihinenfnekaaDoor
/- op.Check, op.Bytes. -/
namespace Go.Proofs.YtcaihinenfnekaaDoor
open Go.RowKit

theorem checkV_17 {o : OpV} (h : 17 ≤ o.k) : checkV o = 4 := by unfold checkV; rw [if_pos h]
theorem checkV_bare {o : OpV} (h : ¬ 17 ≤ o.k) (h2 : bareB o = false) : checkV o = 4 := by unfold checkV; rw [if_neg h, if_pos h2]
theorem checkV_rest {o : OpV} (h : ¬ 17 ≤ o.k) (h2 : bareB o = true) : checkV o = if (zOf o).all (rightV o) = false then 4 else if 64 < o.a.size + o.b.size then 3 else if 64 < (writeB o (zOf o)).length then 3 else 0 := by
  unfold checkV; rw [if_neg h, if_neg (by rw [h2]; decide)]

set_option maxRecDepth 100000 in
set_option maxHeartbeats 1600000 in
theorem check17_calls (w : World) (o : OpV) (h17 : 17 ≤ o.k) (hw : o.wf) : Calls Tryd.prog 41 #[o.v] w (IntPost w (checkV o)) := by
  rw [checkV_17 h17]
  have hk := hw.k
  have HK17 : Hid (decide ((17 : Int) ≤ o.k) = true) := decide_eq_true (by omega)
  have HM : Hid (Tryd.prog.eqGuardType Tryd.prog.depth 38 = false) := by unfold Hid; kernel_rfl
  have hv : o.v = .agg #[.int .u8 o.k, .string o.a, .string o.b, .int .u8 o.n, .int .u8 o.r] := rfl
  have hb0 : BlkAt (w.alloc (.cells #[.int .u8 o.k, .string o.a, .string o.b, .int .u8 o.n, .int .u8 o.r] 38)) w.heap.size 38 o.C := BlkAt.new _ _ _
  have f0 : Fr noB w (w.alloc (.cells #[.int .u8 o.k, .string o.a, .string o.b, .int .u8 o.n, .int .u8 o.r] 38)) := (Fr.refl noB w).alloc _
  have HB0 := hid hb0; clear hb0
  rw [hv]; clear hv
  go_enter Tryd.func41, Tryd.ntmps41
  go_wp2_with fail
  generalize w.alloc (.cells #[.int .u8 o.k, .string o.a, .string o.b, .int .u8 o.n, .int .u8 o.r] 38) = wa at *
  refine wp_region_calm (R := Fr noB) (C := fun _ w' => Fr noB wa w') [false, false, false, false, false, false, false, false, false, false]
    [eqv (.pointer (some ⟨w.heap.size, 0, none⟩)), eqv (.int .u8 o.k), eqv (.int .i64 o.k), eqv (.bool true), eqv (.bool true), eqv (undef), eqv (undef), eqv (undef), eqv (undef), eqv (.bool true)]
    (by kernel_rfl) (by kernel_rfl) (fun _ _ _ h1 h2 => h1.then' h2) ((Fr.refl _ _).drew) ((Fr.refl _ _).drew) (by kernel_rfl) ?_ ?_
  · refine ⟨?_, ?_, ?_, ?_, ?_, ?_, ?_, ?_, ?_, ?_, trivial⟩
    · rw [if_neg (by decide)]; intro kq
      intro a W K hC hd hK
      have d1 : a.tmps[1]?.getD undef = .pointer (some ⟨w.heap.size, 0, none⟩) := hd 1 (by decide)
      refine wpOp_plain rfl rfl ?_
      go_wp2_with fail
      exact hK _ _ (Fr.refl _ _) hC rfl
    · rw [if_neg (by decide)]; intro kq
      intro a W K hC hd hK
      have d5 : a.tmps[5]?.getD undef = .pointer (some ⟨w.heap.size, 0, none⟩) := hd 5 (by decide)
      have hbx := hC.heap HB0.out id
      have c0 : W.cell? ⟨w.heap.size, 0, none⟩ = some (.int .u8 o.k) := by rw [cell_of_row _ _ _ _ _ _ hbx]; rfl
      have c1 : W.cell? ⟨w.heap.size, 1, none⟩ = some (.string o.a) := by rw [cell_of_row _ _ _ _ _ _ hbx]; rfl
      have c2 : W.cell? ⟨w.heap.size, 2, none⟩ = some (.string o.b) := by rw [cell_of_row _ _ _ _ _ _ hbx]; rfl
      have c3 : W.cell? ⟨w.heap.size, 3, none⟩ = some (.int .u8 o.n) := by rw [cell_of_row _ _ _ _ _ _ hbx]; rfl
      have c4 : W.cell? ⟨w.heap.size, 4, none⟩ = some (.int .u8 o.r) := by rw [cell_of_row _ _ _ _ _ _ hbx]; rfl
      refine wpOp_plain rfl rfl ?_
      go_wp2_with fail
      exact hK _ _ (Fr.refl _ _) hC rfl
    · rw [if_neg (by decide)]; intro kq
      intro a W K hC hd hK
      have d6 : a.tmps[6]?.getD undef = .int .u8 o.k := hd 6 (by decide)
      refine wpOp_plain rfl rfl ?_
      go_wp2_with fail
      exact hK _ _ (Fr.refl _ _) hC (by show _ = _; simp <;> omega)
    · rw [if_neg (by decide)]; intro kq
      intro a W K hC hd hK
      have d7 : a.tmps[7]?.getD undef = .int .i64 o.k := hd 7 (by decide)
      refine wpOp_plain rfl rfl ?_
      have hdk : decide ((17 : Int) ≤ o.k) = true := HK17.out
      go_wp2_with fail
      exact hK _ _ (Fr.refl _ _) hC rfl
    · rw [if_neg (by decide)]; intro kq
      exact calm_mv 8 rfl rfl (Or.inl rfl) (Fr.refl _) (by decide) fun v w hd => hd
    · rw [if_neg (by decide)]; intro kq
      intro a W K hC hd hK
      have d1 : a.tmps[1]?.getD undef = .pointer (some ⟨w.heap.size, 0, none⟩) := hd 1 (by decide)
      have d9 : a.tmps[9]?.getD undef = .bool true := hd 9 (by decide)
      exact wpOp_skip rfl (wanted_of (want := false) (b := true) rfl rfl (by rw [eval_get]; exact d9)) (hK _ _ (Fr.refl _ _) hC rfl)
    · rw [if_neg (by decide)]; intro kq
      intro a W K hC hd hK
      have d1 : a.tmps[1]?.getD undef = .pointer (some ⟨w.heap.size, 0, none⟩) := hd 1 (by decide)
      have d9 : a.tmps[9]?.getD undef = .bool true := hd 9 (by decide)
      exact wpOp_skip rfl (wanted_of (want := false) (b := true) rfl rfl (by rw [eval_get]; exact d9)) (hK _ _ (Fr.refl _ _) hC rfl)
    · rw [if_neg (by decide)]; intro kq
      intro a W K hC hd hK
      have d11 : a.tmps[11]?.getD undef = undef := hd 11 (by decide)
      have d9 : a.tmps[9]?.getD undef = .bool true := hd 9 (by decide)
      exact wpOp_skip rfl (wanted_of (want := false) (b := true) rfl rfl (by rw [eval_get]; exact d9)) (hK _ _ (Fr.refl _ _) hC rfl)
    · rw [if_neg (by decide)]; intro kq
      intro a W K hC hd hK
      have d10 : a.tmps[10]?.getD undef = undef := hd 10 (by decide)
      have d12 : a.tmps[12]?.getD undef = undef := hd 12 (by decide)
      have d9 : a.tmps[9]?.getD undef = .bool true := hd 9 (by decide)
      exact wpOp_skip rfl (wanted_of (want := false) (b := true) rfl rfl (by rw [eval_get]; exact d9)) (hK _ _ (Fr.refl _ _) hC rfl)
    · rw [if_neg (by decide)]; intro kq
      intro a W K hC hd hK
      have d9 : a.tmps[9]?.getD undef = .bool true := hd 9 (by decide)
      have d13 : a.tmps[13]?.getD undef = undef := hd 13 (by decide)
      refine wpOp_plain rfl rfl ?_
      go_wp2_with fail
      exact hK _ _ (Fr.refl _ _) hC rfl
  · intro vs w8 fw8 cw8 hV
    have v14 : vs 9 = .bool true := hV 9 _ _ rfl rfl (by decide)
    clear hV
    simp only [putL, Act.put, Nat.reduceAdd, List.setIfInBounds_toArray, List.set_cons_zero, List.set_cons_succ, v14]
    go_wp2_with fail
    go_ret
    exact ⟨rfl, f0.then' fw8⟩

set_option maxRecDepth 100000 in
set_option maxHeartbeats 1600000 in
theorem checkB_calls (w : World) (o : OpV) (ht : SignsAt w) (h17 : ¬ 17 ≤ o.k) (hb : bareB o = false) (hw : o.wf) : Calls Tryd.prog 41 #[o.v] w (IntPost w (checkV o)) := by
  rw [checkV_bare h17 hb]
  have hk := hw.k
  have HK17 : Hid (decide ((17 : Int) ≤ o.k) = false) := decide_eq_false (by omega)
  have HK : Hid (o.k < 17) := by unfold Hid; omega
  have HNQ : Hid (∀ w, (binOp .neq 38 (.agg #[.int .u8 o.k, .string o.a, .string o.b, .int .u8 o.n, .int .u8 o.r]) (.agg #[.int .u8 (bareFrom o (zOf o)).k, .string (bareFrom o (zOf o)).a, .string (bareFrom o (zOf o)).b, .int .u8 (bareFrom o (zOf o)).n, .int .u8 (bareFrom o (zOf o)).r])).run Tryd.prog w = .ok (.bool true) w) := fun w => by
    rw [opNeq w o (bareFrom o (zOf o))]
    unfold bareB at hb
    rw [hb]; rfl
  clear hb h17
  have HM : Hid (Tryd.prog.eqGuardType Tryd.prog.depth 38 = false) := by unfold Hid; kernel_rfl
  have hv : o.v = .agg #[.int .u8 o.k, .string o.a, .string o.b, .int .u8 o.n, .int .u8 o.r] := rfl
  have hb0 : BlkAt (w.alloc (.cells #[.int .u8 o.k, .string o.a, .string o.b, .int .u8 o.n, .int .u8 o.r] 38)) w.heap.size 38 o.C := BlkAt.new _ _ _
  have f0 : Fr noB w (w.alloc (.cells #[.int .u8 o.k, .string o.a, .string o.b, .int .u8 o.n, .int .u8 o.r] 38)) := (Fr.refl noB w).alloc _
  have HB0 := hid hb0; clear hb0
  rw [hv]; clear hv
  go_enter Tryd.func41, Tryd.ntmps41
  go_wp2_with fail
  generalize w.alloc (.cells #[.int .u8 o.k, .string o.a, .string o.b, .int .u8 o.n, .int .u8 o.r] 38) = wa at *
  refine wp_region_calm (R := Fr noB) (C := fun _ w' => Fr noB wa w') [false, false, false, false, false, false, false, false, false, false]
    [eqv (.pointer (some ⟨w.heap.size, 0, none⟩)), eqv (.int .u8 o.k), eqv (.int .i64 o.k), eqv (.bool false), eqv (.bool false), eqv (.agg #[.int .u8 o.k, .string o.a, .string o.b, .int .u8 o.n, .int .u8 o.r]), eqv (.agg #[.int .u8 o.k, .string o.a, .string o.b, .int .u8 o.n, .int .u8 o.r]), eqv (.agg #[.int .u8 (bareFrom o (zOf o)).k, .string (bareFrom o (zOf o)).a, .string (bareFrom o (zOf o)).b, .int .u8 (bareFrom o (zOf o)).n, .int .u8 (bareFrom o (zOf o)).r]), eqv (.bool true), eqv (.bool true)]
    (by kernel_rfl) (by kernel_rfl) (fun _ _ _ h1 h2 => h1.then' h2) ((Fr.refl _ _).drew) ((Fr.refl _ _).drew) (by kernel_rfl) ?_ ?_
  · refine ⟨?_, ?_, ?_, ?_, ?_, ?_, ?_, ?_, ?_, ?_, trivial⟩
    · rw [if_neg (by decide)]; intro kq
      intro a W K hC hd hK
      have d1 : a.tmps[1]?.getD undef = .pointer (some ⟨w.heap.size, 0, none⟩) := hd 1 (by decide)
      refine wpOp_plain rfl rfl ?_
      go_wp2_with fail
      exact hK _ _ (Fr.refl _ _) hC rfl
    · rw [if_neg (by decide)]; intro kq
      intro a W K hC hd hK
      have d5 : a.tmps[5]?.getD undef = .pointer (some ⟨w.heap.size, 0, none⟩) := hd 5 (by decide)
      have hbx := hC.heap HB0.out id
      have c0 : W.cell? ⟨w.heap.size, 0, none⟩ = some (.int .u8 o.k) := by rw [cell_of_row _ _ _ _ _ _ hbx]; rfl
      have c1 : W.cell? ⟨w.heap.size, 1, none⟩ = some (.string o.a) := by rw [cell_of_row _ _ _ _ _ _ hbx]; rfl
      have c2 : W.cell? ⟨w.heap.size, 2, none⟩ = some (.string o.b) := by rw [cell_of_row _ _ _ _ _ _ hbx]; rfl
      have c3 : W.cell? ⟨w.heap.size, 3, none⟩ = some (.int .u8 o.n) := by rw [cell_of_row _ _ _ _ _ _ hbx]; rfl
      have c4 : W.cell? ⟨w.heap.size, 4, none⟩ = some (.int .u8 o.r) := by rw [cell_of_row _ _ _ _ _ _ hbx]; rfl
      refine wpOp_plain rfl rfl ?_
      go_wp2_with fail
      exact hK _ _ (Fr.refl _ _) hC rfl
    · rw [if_neg (by decide)]; intro kq
      intro a W K hC hd hK
      have d6 : a.tmps[6]?.getD undef = .int .u8 o.k := hd 6 (by decide)
      refine wpOp_plain rfl rfl ?_
      go_wp2_with fail
      exact hK _ _ (Fr.refl _ _) hC (by show _ = _; simp <;> omega)
    · rw [if_neg (by decide)]; intro kq
      intro a W K hC hd hK
      have d7 : a.tmps[7]?.getD undef = .int .i64 o.k := hd 7 (by decide)
      refine wpOp_plain rfl rfl ?_
      have hdk : decide ((17 : Int) ≤ o.k) = false := HK17.out
      go_wp2_with fail
      exact hK _ _ (Fr.refl _ _) hC rfl
    · rw [if_neg (by decide)]; intro kq
      exact calm_mv 8 rfl rfl (Or.inl rfl) (Fr.refl _) (by decide) fun v w hd => hd
    · rw [if_neg (by decide)]; intro kq
      intro a W K hC hd hK
      have d1 : a.tmps[1]?.getD undef = .pointer (some ⟨w.heap.size, 0, none⟩) := hd 1 (by decide)
      have d9 : a.tmps[9]?.getD undef = .bool false := hd 9 (by decide)
      have hbx := hC.heap HB0.out id
      have c0 : W.cell? ⟨w.heap.size, 0, none⟩ = some (.int .u8 o.k) := by rw [cell_of_row _ _ _ _ _ _ hbx]; rfl
      have c1 : W.cell? ⟨w.heap.size, 1, none⟩ = some (.string o.a) := by rw [cell_of_row _ _ _ _ _ _ hbx]; rfl
      have c2 : W.cell? ⟨w.heap.size, 2, none⟩ = some (.string o.b) := by rw [cell_of_row _ _ _ _ _ _ hbx]; rfl
      have c3 : W.cell? ⟨w.heap.size, 3, none⟩ = some (.int .u8 o.n) := by rw [cell_of_row _ _ _ _ _ _ hbx]; rfl
      have c4 : W.cell? ⟨w.heap.size, 4, none⟩ = some (.int .u8 o.r) := by rw [cell_of_row _ _ _ _ _ _ hbx]; rfl
      refine wpOp_want rfl (wanted_of (want := false) (b := false) rfl rfl (by rw [eval_get]; exact d9)) ?_
      go_wp2_with fail
      exact hK _ _ (Fr.refl _ _) hC rfl
    · rw [if_neg (by decide)]; intro kq
      intro a W K hC hd hK
      have d1 : a.tmps[1]?.getD undef = .pointer (some ⟨w.heap.size, 0, none⟩) := hd 1 (by decide)
      have d9 : a.tmps[9]?.getD undef = .bool false := hd 9 (by decide)
      have hbx := hC.heap HB0.out id
      have c0 : W.cell? ⟨w.heap.size, 0, none⟩ = some (.int .u8 o.k) := by rw [cell_of_row _ _ _ _ _ _ hbx]; rfl
      have c1 : W.cell? ⟨w.heap.size, 1, none⟩ = some (.string o.a) := by rw [cell_of_row _ _ _ _ _ _ hbx]; rfl
      have c2 : W.cell? ⟨w.heap.size, 2, none⟩ = some (.string o.b) := by rw [cell_of_row _ _ _ _ _ _ hbx]; rfl
      have c3 : W.cell? ⟨w.heap.size, 3, none⟩ = some (.int .u8 o.n) := by rw [cell_of_row _ _ _ _ _ _ hbx]; rfl
      have c4 : W.cell? ⟨w.heap.size, 4, none⟩ = some (.int .u8 o.r) := by rw [cell_of_row _ _ _ _ _ _ hbx]; rfl
      refine wpOp_want rfl (wanted_of (want := false) (b := false) rfl rfl (by rw [eval_get]; exact d9)) ?_
      go_wp2_with fail
      exact hK _ _ (Fr.refl _ _) hC rfl
    · rw [if_neg (by decide)]; intro kq
      intro a W K hC hd hK
      have d11 : a.tmps[11]?.getD undef = .agg #[.int .u8 o.k, .string o.a, .string o.b, .int .u8 o.n, .int .u8 o.r] := hd 11 (by decide)
      have d9 : a.tmps[9]?.getD undef = .bool false := hd 9 (by decide)
      refine wpOp_want rfl (wanted_of (want := false) (b := false) rfl rfl (by rw [eval_get]; exact d9)) ?_
      go_wp2_with fail
      refine (bare_calls W o (zOf o) (ht.fr0 (f0.then' hC)) (zOf_get HK.out)).mono ?_
      rintro e w9 ⟨rfl, f9⟩
      exact hK _ _ f9 (hC.then' f9) rfl
    · rw [if_neg (by decide)]; intro kq
      intro a W K hC hd hK
      have d10 : a.tmps[10]?.getD undef = .agg #[.int .u8 o.k, .string o.a, .string o.b, .int .u8 o.n, .int .u8 o.r] := hd 10 (by decide)
      have d12 : a.tmps[12]?.getD undef = .agg #[.int .u8 (bareFrom o (zOf o)).k, .string (bareFrom o (zOf o)).a, .string (bareFrom o (zOf o)).b, .int .u8 (bareFrom o (zOf o)).n, .int .u8 (bareFrom o (zOf o)).r] := hd 12 (by decide)
      have d9 : a.tmps[9]?.getD undef = .bool false := hd 9 (by decide)
      refine wpOp_want rfl (wanted_of (want := false) (b := false) rfl rfl (by rw [eval_get]; exact d9)) ?_
      have hnq : ∀ w, (binOp .neq 38 (.agg #[.int .u8 o.k, .string o.a, .string o.b, .int .u8 o.n, .int .u8 o.r]) (.agg #[.int .u8 (bareFrom o (zOf o)).k, .string (bareFrom o (zOf o)).a, .string (bareFrom o (zOf o)).b, .int .u8 (bareFrom o (zOf o)).n, .int .u8 (bareFrom o (zOf o)).r])).run Tryd.prog w = .ok (.bool true) w := HNQ.out
      have hm := HM.out
      go_wp2_with fail
      exact hK _ _ (Fr.refl _ _) hC rfl
    · rw [if_neg (by decide)]; intro kq
      intro a W K hC hd hK
      have d9 : a.tmps[9]?.getD undef = .bool false := hd 9 (by decide)
      have d13 : a.tmps[13]?.getD undef = .bool true := hd 13 (by decide)
      refine wpOp_plain rfl rfl ?_
      go_wp2_with fail
      exact hK _ _ (Fr.refl _ _) hC rfl
  · intro vs w8 fw8 cw8 hV
    have v14 : vs 9 = .bool true := hV 9 _ _ rfl rfl (by decide)
    clear hV
    simp only [putL, Act.put, Nat.reduceAdd, List.setIfInBounds_toArray, List.set_cons_zero, List.set_cons_succ, v14]
    go_wp2_with fail
    go_ret
    exact ⟨rfl, f0.then' fw8⟩

set_option maxRecDepth 100000 in
set_option maxHeartbeats 3200000 in
theorem checkR_calls (w : World) (o : OpV) (ht : SignsAt w) (h17 : ¬ 17 ≤ o.k) (hb : bareB o = true) (hw : o.wf) (ha1 : o.a.size ≤ 1000000000000000) (hb1 : o.b.size ≤ 1000000000000000) : Calls Tryd.prog 41 #[o.v] w (IntPost w (checkV o)) := by
  have HV0 := hid (checkV_rest h17 hb)
  generalize checkV o = v0 at *
  have hk := hw.k
  have HK17 : Hid (decide ((17 : Int) ≤ o.k) = false) := decide_eq_false (by omega)
  have HK : Hid (o.k < 17) := by unfold Hid; omega
  have hkb : 0 ≤ (o.k : Int) ∧ (o.k : Int) < 17 := ⟨by omega, by omega⟩
  have HNQ : Hid (∀ w, (binOp .neq 38 (.agg #[.int .u8 o.k, .string o.a, .string o.b, .int .u8 o.n, .int .u8 o.r]) (.agg #[.int .u8 (bareFrom o (zOf o)).k, .string (bareFrom o (zOf o)).a, .string (bareFrom o (zOf o)).b, .int .u8 (bareFrom o (zOf o)).n, .int .u8 (bareFrom o (zOf o)).r])).run Tryd.prog w = .ok (.bool false) w) := fun w => by
    rw [opNeq w o (bareFrom o (zOf o))]
    unfold bareB at hb
    rw [hb]; rfl
  clear hb h17
  have HM : Hid (Tryd.prog.eqGuardType Tryd.prog.depth 38 = false) := by unfold Hid; kernel_rfl
  have hv : o.v = .agg #[.int .u8 o.k, .string o.a, .string o.b, .int .u8 o.n, .int .u8 o.r] := rfl
  have hb0 : BlkAt (w.alloc (.cells #[.int .u8 o.k, .string o.a, .string o.b, .int .u8 o.n, .int .u8 o.r] 38)) w.heap.size 38 o.C := BlkAt.new _ _ _
  have f0 : Fr noB w (w.alloc (.cells #[.int .u8 o.k, .string o.a, .string o.b, .int .u8 o.n, .int .u8 o.r] 38)) := (Fr.refl noB w).alloc _
  have HB0 := hid hb0; clear hb0
  rw [hv]; clear hv
  go_enter Tryd.func41, Tryd.ntmps41
  go_wp2_with fail
  generalize w.alloc (.cells #[.int .u8 o.k, .string o.a, .string o.b, .int .u8 o.n, .int .u8 o.r] 38) = wa at *
  refine wp_region_calm (R := Fr noB) (C := fun _ w' => Fr noB wa w') [false, false, false, false, false, false, false, false, false, false]
    [eqv (.pointer (some ⟨w.heap.size, 0, none⟩)), eqv (.int .u8 o.k), eqv (.int .i64 o.k), eqv (.bool false), eqv (.bool false), eqv (.agg #[.int .u8 o.k, .string o.a, .string o.b, .int .u8 o.n, .int .u8 o.r]), eqv (.agg #[.int .u8 o.k, .string o.a, .string o.b, .int .u8 o.n, .int .u8 o.r]), eqv (.agg #[.int .u8 (bareFrom o (zOf o)).k, .string (bareFrom o (zOf o)).a, .string (bareFrom o (zOf o)).b, .int .u8 (bareFrom o (zOf o)).n, .int .u8 (bareFrom o (zOf o)).r]), eqv (.bool false), eqv (.bool false)]
    (by kernel_rfl) (by kernel_rfl) (fun _ _ _ h1 h2 => h1.then' h2) ((Fr.refl _ _).drew) ((Fr.refl _ _).drew) (by kernel_rfl) ?_ ?_
  · refine ⟨?_, ?_, ?_, ?_, ?_, ?_, ?_, ?_, ?_, ?_, trivial⟩
    · rw [if_neg (by decide)]; intro kq
      intro a W K hC hd hK
      have d1 : a.tmps[1]?.getD undef = .pointer (some ⟨w.heap.size, 0, none⟩) := hd 1 (by decide)
      refine wpOp_plain rfl rfl ?_
      go_wp2_with fail
      exact hK _ _ (Fr.refl _ _) hC rfl
    · rw [if_neg (by decide)]; intro kq
      intro a W K hC hd hK
      have d5 : a.tmps[5]?.getD undef = .pointer (some ⟨w.heap.size, 0, none⟩) := hd 5 (by decide)
      have hbx := hC.heap HB0.out id
      have c0 : W.cell? ⟨w.heap.size, 0, none⟩ = some (.int .u8 o.k) := by rw [cell_of_row _ _ _ _ _ _ hbx]; rfl
      have c1 : W.cell? ⟨w.heap.size, 1, none⟩ = some (.string o.a) := by rw [cell_of_row _ _ _ _ _ _ hbx]; rfl
      have c2 : W.cell? ⟨w.heap.size, 2, none⟩ = some (.string o.b) := by rw [cell_of_row _ _ _ _ _ _ hbx]; rfl
      have c3 : W.cell? ⟨w.heap.size, 3, none⟩ = some (.int .u8 o.n) := by rw [cell_of_row _ _ _ _ _ _ hbx]; rfl
      have c4 : W.cell? ⟨w.heap.size, 4, none⟩ = some (.int .u8 o.r) := by rw [cell_of_row _ _ _ _ _ _ hbx]; rfl
      refine wpOp_plain rfl rfl ?_
      go_wp2_with fail
      exact hK _ _ (Fr.refl _ _) hC rfl
    · rw [if_neg (by decide)]; intro kq
      intro a W K hC hd hK
      have d6 : a.tmps[6]?.getD undef = .int .u8 o.k := hd 6 (by decide)
      refine wpOp_plain rfl rfl ?_
      go_wp2_with fail
      exact hK _ _ (Fr.refl _ _) hC (by show _ = _; simp <;> omega)
    · rw [if_neg (by decide)]; intro kq
      intro a W K hC hd hK
      have d7 : a.tmps[7]?.getD undef = .int .i64 o.k := hd 7 (by decide)
      refine wpOp_plain rfl rfl ?_
      have hdk : decide ((17 : Int) ≤ o.k) = false := HK17.out
      go_wp2_with fail
      exact hK _ _ (Fr.refl _ _) hC rfl
    · rw [if_neg (by decide)]; intro kq
      exact calm_mv 8 rfl rfl (Or.inl rfl) (Fr.refl _) (by decide) fun v w hd => hd
    · rw [if_neg (by decide)]; intro kq
      intro a W K hC hd hK
      have d1 : a.tmps[1]?.getD undef = .pointer (some ⟨w.heap.size, 0, none⟩) := hd 1 (by decide)
      have d9 : a.tmps[9]?.getD undef = .bool false := hd 9 (by decide)
      have hbx := hC.heap HB0.out id
      have c0 : W.cell? ⟨w.heap.size, 0, none⟩ = some (.int .u8 o.k) := by rw [cell_of_row _ _ _ _ _ _ hbx]; rfl
      have c1 : W.cell? ⟨w.heap.size, 1, none⟩ = some (.string o.a) := by rw [cell_of_row _ _ _ _ _ _ hbx]; rfl
      have c2 : W.cell? ⟨w.heap.size, 2, none⟩ = some (.string o.b) := by rw [cell_of_row _ _ _ _ _ _ hbx]; rfl
      have c3 : W.cell? ⟨w.heap.size, 3, none⟩ = some (.int .u8 o.n) := by rw [cell_of_row _ _ _ _ _ _ hbx]; rfl
      have c4 : W.cell? ⟨w.heap.size, 4, none⟩ = some (.int .u8 o.r) := by rw [cell_of_row _ _ _ _ _ _ hbx]; rfl
      refine wpOp_want rfl (wanted_of (want := false) (b := false) rfl rfl (by rw [eval_get]; exact d9)) ?_
      go_wp2_with fail
      exact hK _ _ (Fr.refl _ _) hC rfl
    · rw [if_neg (by decide)]; intro kq
      intro a W K hC hd hK
      have d1 : a.tmps[1]?.getD undef = .pointer (some ⟨w.heap.size, 0, none⟩) := hd 1 (by decide)
      have d9 : a.tmps[9]?.getD undef = .bool false := hd 9 (by decide)
      have hbx := hC.heap HB0.out id
      have c0 : W.cell? ⟨w.heap.size, 0, none⟩ = some (.int .u8 o.k) := by rw [cell_of_row _ _ _ _ _ _ hbx]; rfl
      have c1 : W.cell? ⟨w.heap.size, 1, none⟩ = some (.string o.a) := by rw [cell_of_row _ _ _ _ _ _ hbx]; rfl
      have c2 : W.cell? ⟨w.heap.size, 2, none⟩ = some (.string o.b) := by rw [cell_of_row _ _ _ _ _ _ hbx]; rfl
      have c3 : W.cell? ⟨w.heap.size, 3, none⟩ = some (.int .u8 o.n) := by rw [cell_of_row _ _ _ _ _ _ hbx]; rfl
      have c4 : W.cell? ⟨w.heap.size, 4, none⟩ = some (.int .u8 o.r) := by rw [cell_of_row _ _ _ _ _ _ hbx]; rfl
      refine wpOp_want rfl (wanted_of (want := false) (b := false) rfl rfl (by rw [eval_get]; exact d9)) ?_
      go_wp2_with fail
      exact hK _ _ (Fr.refl _ _) hC rfl
    · rw [if_neg (by decide)]; intro kq
      intro a W K hC hd hK
      have d11 : a.tmps[11]?.getD undef = .agg #[.int .u8 o.k, .string o.a, .string o.b, .int .u8 o.n, .int .u8 o.r] := hd 11 (by decide)
      have d9 : a.tmps[9]?.getD undef = .bool false := hd 9 (by decide)
      refine wpOp_want rfl (wanted_of (want := false) (b := false) rfl rfl (by rw [eval_get]; exact d9)) ?_
      go_wp2_with fail
      refine (bare_calls W o (zOf o) (ht.fr0 (f0.then' hC)) (zOf_get HK.out)).mono ?_
      rintro e w9 ⟨rfl, f9⟩
      exact hK _ _ f9 (hC.then' f9) rfl
    · rw [if_neg (by decide)]; intro kq
      intro a W K hC hd hK
      have d10 : a.tmps[10]?.getD undef = .agg #[.int .u8 o.k, .string o.a, .string o.b, .int .u8 o.n, .int .u8 o.r] := hd 10 (by decide)
      have d12 : a.tmps[12]?.getD undef = .agg #[.int .u8 (bareFrom o (zOf o)).k, .string (bareFrom o (zOf o)).a, .string (bareFrom o (zOf o)).b, .int .u8 (bareFrom o (zOf o)).n, .int .u8 (bareFrom o (zOf o)).r] := hd 12 (by decide)
      have d9 : a.tmps[9]?.getD undef = .bool false := hd 9 (by decide)
      refine wpOp_want rfl (wanted_of (want := false) (b := false) rfl rfl (by rw [eval_get]; exact d9)) ?_
      have hnq : ∀ w, (binOp .neq 38 (.agg #[.int .u8 o.k, .string o.a, .string o.b, .int .u8 o.n, .int .u8 o.r]) (.agg #[.int .u8 (bareFrom o (zOf o)).k, .string (bareFrom o (zOf o)).a, .string (bareFrom o (zOf o)).b, .int .u8 (bareFrom o (zOf o)).n, .int .u8 (bareFrom o (zOf o)).r])).run Tryd.prog w = .ok (.bool false) w := HNQ.out
      have hm := HM.out
      go_wp2_with fail
      exact hK _ _ (Fr.refl _ _) hC rfl
    · rw [if_neg (by decide)]; intro kq
      intro a W K hC hd hK
      have d9 : a.tmps[9]?.getD undef = .bool false := hd 9 (by decide)
      have d13 : a.tmps[13]?.getD undef = .bool false := hd 13 (by decide)
      refine wpOp_plain rfl rfl ?_
      go_wp2_with fail
      exact hK _ _ (Fr.refl _ _) hC rfl
  · intro vs w8 fw8 cw8 hV
    have v14 : vs 9 = .bool false := hV 9 _ _ rfl rfl (by decide)
    clear hV
    simp only [putL, Act.put, Nat.reduceAdd, List.setIfInBounds_toArray, List.set_cons_zero, List.set_cons_succ, v14]
    have F8 : Fr noB w w8 := f0.then' fw8
    have hbx := HB0.out.fr fw8 id
    have c0 := hbx.cell (k := 0) (v := .int .u8 o.k) rfl
    have hz0 := zOf_get HK.out
    have cz : w8.cell? ⟨1, o.k, none⟩ = some (.string (mkS (zOf o))) := F8.cell (ht o.k _ hz0) id
    have hcv := Tryd.fromStr w8 (mkS (zOf o))
    have hwf := bytesW_fr w8 (mkS (zOf o))
    have hwr := bytesW_row w8 (mkS (zOf o))
    rw [mkS_data] at hwr
    rw [mkS_size] at hcv
    generalize Lib.bytesWorld w8 5 (mkS (zOf o)) = wc at *
    generalize (⟨w8.heap.size, 0, none⟩ : Addr) = ad at *
    have F9 : Fr noB w wc := F8.then' hwf
    have hbc := hbx.fr hwf id
    obtain ⟨n, hn⟩ : ∃ n, (zOf o).length = n := ⟨_, rfl⟩
    rw [hn] at hcv
    have HN := hid hn; clear hn
    have hz2 := signs_two _ (List.mem_of_getElem? hz0)
    rw [HN.out] at hz2
    clear hz0 hbx hwf
    go_wp2_with fail
    go_loopw [21] (fun i wr => ∃ j : Nat, j ≤ n ∧ i = .int .i64 j ∧ ((zOf o).take j).all (rightV o) = true ∧ Fr noB wc wr) (fun i _ => n - (intOf i).toNat)
    case atStart => exact ⟨0, Nat.zero_le _, rfl, by simp, Fr.refl _ _⟩
    case round =>
      obtain ⟨j, hj, rfl, hall, hf⟩ := hrel
      have hbr := hbc.fr hf id
      have x0 := hbr.cell (k := 0) (v := .int .u8 o.k) rfl
      have x1 := hbr.cell (k := 1) (v := .string o.a) rfl
      have x2 := hbr.cell (k := 2) (v := .string o.b) rfl
      have x3 := hbr.cell (k := 3) (v := .int .u8 o.n) rfl
      have x4 := hbr.cell (k := 4) (v := .int .u8 o.r) rfl
      by_cases hjn : j < n
      · obtain ⟨c, hc⟩ : ∃ c, (zOf o)[j]? = some c := ⟨_, List.getElem?_eq_getElem (by rw [HN.out]; exact hjn)⟩
        have hcx : wr.cell? (ad.add j) = some (.int .u8 c.toNat) := (hwr.fr0 hf).cell (by unfold bcells; rw [List.getElem?_map, hc]; rfl)
        have HT : Hid (((zOf o).take (j + 1)).all (rightV o) = rightV o c) := by unfold Hid; rw [take_snoc' hc, List.all_append, hall]; simp
        have HM2 := hid (List.mem_of_getElem? hc)
        clear hall hc
        by_cases hr : rightV o c = true
        · have hcl : ∀ W, Calls Tryd.prog 82 #[o.v, .int .u8 c.toNat] W (BoolPost W true) := fun W => by have := right_calls W o c; rw [hr] at this; exact this
          rw [hr] at HT
          have HR := hid hr; clear hr
          go_wp2_with fail
          refine (hcl _).mono ?_
          rintro e w9 ⟨rfl, f9⟩
          go_wp2_with fail
          go_roundw
          case rel => exact ⟨j + 1, by omega, by go_num, HT.out, hf.then' f9⟩
          case measure => simp [intOf]; omega
        · have hr' : rightV o c = false := by simpa using hr
          have hcl : ∀ W, Calls Tryd.prog 82 #[o.v, .int .u8 c.toNat] W (BoolPost W false) := fun W => by have := right_calls W o c; rw [hr'] at this; exact this
          have HV : Hid ((zOf o).all (rightV o) = false) := List.all_eq_false.2 ⟨c, HM2.out, hr⟩
          clear hr hr'
          go_wp2_with fail
          refine (hcl _).mono ?_
          rintro e w9 ⟨rfl, f9⟩
          go_wp2_with fail
          go_ret
          refine ⟨?_, (F9.then' hf).then' f9⟩
          rw [HV0.out, if_pos HV.out]; rfl
      · have : j = n := by omega
        subst this
        have HV : Hid ((zOf o).all (rightV o) = true) := by unfold Hid; rw [List.take_of_length_le (by rw [HN.out]; exact Nat.le_refl _)] at hall; exact hall
        clear hall hwr hbc
        by_cases h64 : 64 < o.a.size + o.b.size
        · have d1 : decide ((64 : Int) < (o.a.size : Int) + o.b.size) = true := decide_eq_true (by omega)
          have H64 := hid h64; clear h64
          go_wp2_with fail
          go_ret
          refine ⟨?_, F9.then' hf⟩
          rw [HV0.out, if_neg (by rw [HV.out]; decide), if_pos H64.out]; rfl
        · have d1 : decide ((64 : Int) < (o.a.size : Int) + o.b.size) = false := decide_eq_false (by omega)
          have H64 := hid h64
          have hcl := write_calls wr o (zOf o) (ht.fr0 (F9.then' hf)) (zOf_get HK.out) hw (by omega) (by omega)
          clear h64
          obtain ⟨m, hm⟩ : ∃ m, (writeB o (zOf o)).length = m := ⟨_, rfl⟩
          have HMM := hid hm
          unfold BytesPost at hcl
          rw [hm] at hcl
          clear hm
          go_wp2_with fail
          refine hcl.mono ?_
          rintro e w9 ⟨A, c, rfl, h9, f9⟩
          have HF := hid ((F9.then' hf).then' f9)
          clear h9 f9 hcl
          by_cases hm64 : 64 < m
          · have hm64' := hid hm64; clear hm64
            have d2 : decide ((64 : Int) < (m : Int)) = true := decide_eq_true (by have := hm64'.out; omega)
            go_wp2_with fail
            go_ret
            refine ⟨?_, HF.out⟩
            rw [HV0.out, if_neg (by rw [HV.out]; decide), if_neg H64.out, HMM.out, if_pos hm64'.out]; rfl
          · have hm64' := hid hm64; clear hm64
            have d2 : decide ((64 : Int) < (m : Int)) = false := decide_eq_false (by have := hm64'.out; omega)
            go_wp2_with fail
            go_ret
            refine ⟨?_, HF.out⟩
            rw [HV0.out, if_neg (by rw [HV.out]; decide), if_neg H64.out, HMM.out, if_neg hm64'.out]; rfl
theorem check_calls (w : World) (o : OpV) (ht : SignsAt w) (hw : o.wf) (ha1 : o.a.size ≤ 1000000000000000) (hb1 : o.b.size ≤ 1000000000000000) : Calls Tryd.prog 41 #[o.v] w (IntPost w (checkV o)) := by
  by_cases h : 17 ≤ o.k
  · exact check17_calls w o h hw
  · cases hb : bareB o
    · exact checkB_calls w o ht h hb hw
    · exact checkR_calls w o ht h hb hw ha1 hb1
end Go.Proofs.YtcaihinenfnekaaDoor
/- op.Bytes, interrexlaw14.lives. -/
namespace Go.Proofs.YtcaihinenfnekaaDoor
open Go.RowKit

def BytesEPost (w : World) (bs : List UInt8) (e : Ending) (w' : World) : Prop :=
  ∃ A c, e = .returned (.tuple #[.slice A bs.length c, .int .i64 0]) ∧ w'.ownsRow w.heap.size 5 1 (.slice A bs.length c) bs.length (bcells bs) ∧ Fr noB w w'
theorem checkV_ok {o : OpV} (h : checkV o = 0) : o.k < 17 ∧ bareB o = true ∧ (zOf o).all (rightV o) = true ∧ o.a.size + o.b.size ≤ 64 ∧ (writeB o (zOf o)).length ≤ 64 := by
  unfold checkV at h
  split at h
  · cases h
  · split at h
    · cases h
    · split at h
      · cases h
      · split at h
        · cases h
        · split at h
          · cases h
          · rename_i h1 h2 h3 h4 h5
            exact ⟨by omega, by simpa using h2, by simpa using h3, by omega, by omega⟩
set_option maxHeartbeats 1600000 in
theorem bytesOk_calls (w : World) (o : OpV) (ht : SignsAt w) (hw : o.wf) (h : checkV o = 0) : Calls Tryd.prog 39 #[o.v] w (BytesEPost w (writeB o (zOf o))) := by
  obtain ⟨hk, _, _, hab, _⟩ := checkV_ok h
  have hb0 : BlkAt (w.alloc (.cells #[.int .u8 o.k, .string o.a, .string o.b, .int .u8 o.n, .int .u8 o.r] 38)) w.heap.size 38 o.C := BlkAt.new _ _ _
  have f0 : Fr noB w (w.alloc (.cells #[.int .u8 o.k, .string o.a, .string o.b, .int .u8 o.n, .int .u8 o.r] 38)) := (Fr.refl noB w).alloc _
  have hck := check_calls (w.alloc (.cells #[.int .u8 o.k, .string o.a, .string o.b, .int .u8 o.n, .int .u8 o.r] 38)) o (ht.fr0 f0) hw (by omega) (by omega)
  rw [h] at hck
  clear h
  have hv : o.v = .agg #[.int .u8 o.k, .string o.a, .string o.b, .int .u8 o.n, .int .u8 o.r] := rfl
  rw [hv]
  clear hv
  go_enter Tryd.func39, Tryd.ntmps39
  go_wp2_with fail
  refine hck.mono ?_
  rintro e w1 ⟨rfl, f1⟩
  have hb1 := hb0.fr f1 id
  have F1 := f0.then' f1
  clear hb0 f0 f1 hck
  have x0 := hb1.cell (k := 0) (v := .int .u8 o.k) rfl
  have x1 := hb1.cell (k := 1) (v := .string o.a) rfl
  have x2 := hb1.cell (k := 2) (v := .string o.b) rfl
  have x3 := hb1.cell (k := 3) (v := .int .u8 o.n) rfl
  have x4 := hb1.cell (k := 4) (v := .int .u8 o.r) rfl
  have hwc := write_calls w1 o (zOf o) (ht.fr0 F1) (zOf_get hk) hw (by omega) (by omega)
  generalize writeB o (zOf o) = bs at *
  go_wp2_with fail
  refine hwc.mono ?_
  rintro e w2 ⟨A, c, rfl, h2, f2⟩
  have F2 := F1.then' f2
  have h4 := own_mono h2 (b' := w.heap.size) (fun g hg => by have := F1.size; rcases h2.lt g hg with ⟨h, _⟩; omega)
  clear h2 hwc x0 x1 x2 x3 x4 hb1
  go_wp2_with fail
  go_ret2
  exact ⟨A, c, rfl, h4, F2⟩
set_option maxHeartbeats 1600000 in
theorem bytesNo_calls (w : World) (o : OpV) (ht : SignsAt w) (hw : o.wf) (ha1 : o.a.size ≤ 1000000000000000) (hb1 : o.b.size ≤ 1000000000000000) (h : checkV o ≠ 0) :
    Calls Tryd.prog 39 #[o.v] w (fun e w' => e = .returned (.tuple #[.slice none 0 0, .int .i64 (checkV o : Nat)]) ∧ Fr noB w w') := by
  have f0 : Fr noB w (w.alloc (.cells #[.int .u8 o.k, .string o.a, .string o.b, .int .u8 o.n, .int .u8 o.r] 38)) := (Fr.refl noB w).alloc _
  have hck := check_calls (w.alloc (.cells #[.int .u8 o.k, .string o.a, .string o.b, .int .u8 o.n, .int .u8 o.r] 38)) o (ht.fr0 f0) hw (by omega) (by omega)
  generalize checkV o = v0 at *
  have t1 : ((v0 : Int) != 0) = true := by simp; omega
  have hv : o.v = .agg #[.int .u8 o.k, .string o.a, .string o.b, .int .u8 o.n, .int .u8 o.r] := rfl
  rw [hv]
  clear hv h
  go_enter Tryd.func39, Tryd.ntmps39
  go_wp2_with fail
  refine hck.mono ?_
  rintro e w1 ⟨rfl, f1⟩
  have F1 := f0.then' f1
  clear f0 f1 hck
  go_wp2_with fail
  go_ret2
  exact ⟨rfl, F1⟩
def op0 : OpV := ⟨0, ⟨#[97]⟩, ⟨#[49]⟩, 0, 0⟩
theorem op0_wf : op0.wf := ⟨by decide, by decide, by decide⟩
theorem op0_bare : bareFrom op0 (zOf op0) = op0 := by
  rw [OpV.eq_iff]
  exact ⟨rfl, rfl, rfl, rfl, rfl⟩
theorem op0_bytes : writeB op0 (zOf op0) = [0, 1, 0, 97, 1, 0, 49] := by decide
theorem op0_ok : checkV op0 = 0 := by
  unfold checkV
  have h1 : bareB op0 = true := by unfold bareB; rw [op0_bare]; simp
  rw [if_neg (by decide), if_neg (by rw [h1]; decide), if_neg (by decide), if_neg (by decide), op0_bytes, if_neg (by decide)]
set_option maxHeartbeats 1600000 in
theorem livesO_calls (w : World) (ht : SignsAt w) : Calls Tryd.prog 15 #[] w (BoolPost w true) := by
  have hcl := bytesOk_calls w op0 ht op0_wf op0_ok
  rw [op0_bytes] at hcl
  go_enter Tryd.func15, Tryd.ntmps15
  go_wp2_with fail
  refine hcl.mono ?_
  rintro e w1 ⟨A, c, rfl, h1, f1⟩
  have R3 := Tryd.toStr (own_row h1) rfl c
  simp only [show ([0, 1, 0, 97, 1, 0, 49] : List UInt8).length = 7 from rfl] at *
  have hk : mkS [0, 1, 0, 97, 1, 0, 49] = ⟨#[0, 1, 0, 97, 1, 0, 49]⟩ := rfl
  rw [hk] at R3
  clear h1 hcl
  go_wp2_with fail
  go_ret
  exact BoolPost.mk' (by decide) f1
end Go.Proofs.YtcaihinenfnekaaDoor
/- interrexref14: parts, Text, Check. -/
namespace Go.Proofs.YtcaihinenfnekaaDoor
open Go.RowKit

def partsL : List Int := [2, 1, 2, 1, 1, 2, 1, 1, 2, 1, 1, 2, 2, 1, 1, 0, -1]
def partsV (k : Nat) : Int := partsL.getD k 0
theorem parts_calls (w : World) (k : Nat) : Calls Tryd.prog 80 #[.int .u8 k] w (fun e w' => e = .returned (.tuple #[.int .i64 (partsV k), .bool (decide (k < 17))]) ∧ w' = w) := by
  by_cases h : k < 17
  · have : ∃ p, partsV k = p ∧ decide (k < 17) = true := ⟨_, rfl, decide_eq_true h⟩
    rcases (by omega : k = 0 ∨ k = 1 ∨ k = 2 ∨ k = 3 ∨ k = 4 ∨ k = 5 ∨ k = 6 ∨ k = 7 ∨ k = 8 ∨ k = 9 ∨ k = 10 ∨ k = 11 ∨ k = 12 ∨ k = 13 ∨ k = 14 ∨ k = 15 ∨ k = 16) with rfl | rfl | rfl | rfl | rfl | rfl | rfl | rfl | rfl | rfl | rfl | rfl | rfl | rfl | rfl | rfl | rfl
    all_goals
      clear h this
      go_enter Tryd.func80, Tryd.ntmps80
      go_wp2_with fail
      go_ret2
      exact ⟨rfl, rfl⟩
  · have HV : Hid (partsV k = 0 ∧ decide (k < 17) = false) := ⟨by unfold partsV partsL; rw [List.getD_eq_getElem?_getD, List.getElem?_eq_none (by simp; omega)]; rfl, decide_eq_false h⟩
    have hne : ∀ j : Nat, j < 17 → ((k : Int) == (j : Int)) = false := fun j hj => by rw [beq_eq_false_iff_ne]; omega
    have t0 : ((k : Int) == 0) = false := hne 0 (by decide)
    have t1 : ((k : Int) == 1) = false := hne 1 (by decide)
    have t2 : ((k : Int) == 2) = false := hne 2 (by decide)
    have t3 : ((k : Int) == 3) = false := hne 3 (by decide)
    have t4 : ((k : Int) == 4) = false := hne 4 (by decide)
    have t5 : ((k : Int) == 5) = false := hne 5 (by decide)
    have t6 : ((k : Int) == 6) = false := hne 6 (by decide)
    have t7 : ((k : Int) == 7) = false := hne 7 (by decide)
    have t8 : ((k : Int) == 8) = false := hne 8 (by decide)
    have t9 : ((k : Int) == 9) = false := hne 9 (by decide)
    have t10 : ((k : Int) == 10) = false := hne 10 (by decide)
    have t11 : ((k : Int) == 11) = false := hne 11 (by decide)
    have t12 : ((k : Int) == 12) = false := hne 12 (by decide)
    have t13 : ((k : Int) == 13) = false := hne 13 (by decide)
    have t14 : ((k : Int) == 14) = false := hne 14 (by decide)
    have t15 : ((k : Int) == 15) = false := hne 15 (by decide)
    have t16 : ((k : Int) == 16) = false := hne 16 (by decide)
    clear hne h
    go_enter Tryd.func80, Tryd.ntmps80
    go_wp2_with fail
    go_ret2
    refine ⟨?_, rfl⟩
    rw [HV.out.1, HV.out.2]; rfl

def textO (o : OpV) : List UInt8 := leB 1 o.k ++ (if 1 ≤ partsV o.k then textR o.a else []) ++ (if partsV o.k = 2 then textR o.b else []) ++ (if partsV o.k < 0 then leB 1 o.n ++ leB 1 o.r else [])
theorem byteStr (w : World) (y : Nat) (hy : y < 256) : (convert 70 9 (.slice (some ⟨w.heap.size, 0, none⟩) 1 1)).run Tryd.prog (w.alloc (.cells #[.int .u8 y] 5)) =
    .ok (.string (mkS (leB 1 y))) (w.alloc (.cells #[.int .u8 y] 5)) := by
  have h := Tryd.oneStr w y
  rw [show ((y : Int) % 256) = y from by omega] at h
  exact h
theorem byteStr2 (w : World) (x y : Nat) (hx : x < 256) (hy : y < 256) : (convert 70 9 (.slice (some ⟨w.heap.size, 0, none⟩) 2 2)).run Tryd.prog (w.alloc (.cells #[.int .u8 x, .int .u8 y] 5)) =
    .ok (.string (mkS (leB 1 x ++ leB 1 y))) (w.alloc (.cells #[.int .u8 x, .int .u8 y] 5)) := by
  refine Tryd.toStr (l := leB 1 x ++ leB 1 y) ?_ rfl 2
  have h := new_row w #[.int .u8 x, .int .u8 y] 5
  have e : bcells (leB 1 x ++ leB 1 y) = (#[Value.int .u8 x, .int .u8 y] : Array Value).toList := by
    simp [leB, bcells]
    omega
  rw [e]; exact h
theorem textO_length (o : OpV) : (textO o).length ≤ 7 + o.a.size + o.b.size := by
  unfold textO
  simp only [List.length_append, leB_length]
  split <;> split <;> split <;> simp [textR_length, leB_length] <;> omega

set_option maxRecDepth 100000 in
set_option maxHeartbeats 1600000 in
theorem textO_calls (w : World) (o : OpV) (hw : o.wf) (ha : o.a.size ≤ 1000000000000) (hb : o.b.size ≤ 1000000000000) : Calls Tryd.prog 43 #[o.v] w (StrPost w (textO o)) := by
  have hT : Hid (textO o = leB 1 o.k ++ (if 1 ≤ partsV o.k then textR o.a else []) ++ (if partsV o.k = 2 then textR o.b else []) ++ (if partsV o.k < 0 then leB 1 o.n ++ leB 1 o.r else [])) := rfl
  have hl := textO_length o
  have hal := textR_length o.a
  have hbl := textR_length o.b
  obtain ⟨k, a, b, n, r⟩ := o
  obtain ⟨hk, hn, hr⟩ := hw
  simp only [] at *
  have hb0 : BlkAt (w.alloc (.cells #[.int .u8 k, .string a, .string b, .int .u8 n, .int .u8 r] 69)) w.heap.size 69 #[.int .u8 k, .string a, .string b, .int .u8 n, .int .u8 r] := BlkAt.new _ _ _
  have f0 : Fr noB w (w.alloc (.cells #[.int .u8 k, .string a, .string b, .int .u8 n, .int .u8 r] 69)) := (Fr.refl noB w).alloc _
  unfold OpV.v
  simp only []
  have hcv := fun W => byteStr W k hk
  have hcv2 := fun W => byteStr2 W n r hn hr
  have hs1 : (mkS (leB 1 k)).size = 1 := by rw [mkS_size, leB_length]
  have hsa : (mkS (textR a)).size = a.size + 2 := by rw [mkS_size, hal]
  have hsb : (mkS (textR b)).size = b.size + 2 := by rw [mkS_size, hbl]
  have hs2 : (mkS (leB 1 n ++ leB 1 r)).size = 2 := by rw [mkS_size]; simp [leB_length]
  have hap := ByteArray.size_append (a := mkS (leB 1 k)) (b := mkS (textR a))
  go_enter Tryd.func43, Tryd.ntmps43
  go_wp2_with fail
  generalize (w.alloc (.cells #[.int .u8 k, .string a, .string b, .int .u8 n, .int .u8 r] 69)) = wa at *
  obtain ⟨y0, y1, y2, y3, y4, yf⟩ := BlkAt.c5 hb0
  have x1 := (hb0.al (.cells #[.int .u8 k] 5)).cell (k := 1) (v := .string a) rfl
  refine (parts_calls wa k).mono ?_
  rintro e w1 ⟨rfl, rfl⟩
  generalize hP : partsV k = P at *
  have hp4 : P = 2 ∨ P = 1 ∨ P = 0 ∨ P = -1 := by
    rw [← hP]; unfold partsV partsL
    by_cases h : k < 17
    · have : ∀ k : Fin 17, let P := ([2, 1, 2, 1, 1, 2, 1, 1, 2, 1, 1, 2, 2, 1, 1, 0, -1] : List Int).getD k.val 0; P = 2 ∨ P = 1 ∨ P = 0 ∨ P = -1 := by decide
      exact this ⟨k, h⟩
    · rw [List.getD_eq_getElem?_getD, List.getElem?_eq_none (by simp; omega)]; simp
  clear hP
  have g1 : (mkS (leB 1 k)).size + (mkS (textR a)).size ≤ 9223372036854775807 := by rw [hs1, hsa]; omega
  have g2 : (mkS (leB 1 k) ++ mkS (textR a)).size + (mkS (textR b)).size ≤ 9223372036854775807 := by rw [hap, hs1, hsa, hsb]; omega
  have g3 : (mkS (leB 1 k)).size + (mkS (leB 1 n ++ leB 1 r)).size ≤ 9223372036854775807 := by rw [hs1, hs2]; omega
  have x3 := (hb0.al (.cells #[.int .u8 k] 5)).cell (k := 3) (v := .int .u8 n) rfl
  have x4 := (hb0.al (.cells #[.int .u8 k] 5)).cell (k := 4) (v := .int .u8 r) rfl
  clear hap hs1 hsa hsb hs2 hl hal hbl
  rcases hp4 with rfl | rfl | rfl | rfl
  · rw [if_pos (by decide), if_pos rfl, if_neg (by decide), List.append_nil] at hT
    go_wp2_with fail
    refine (textR_calls _ a ha).mono ?_
    rintro e w2 ⟨rfl, f2⟩
    have F2 := (f0.alloc (.cells #[.int .u8 k] 5)).then' f2
    have hb2 := (hb0.al (.cells #[.int .u8 k] 5)).fr f2 id
    have x2 := hb2.cell (k := 2) (v := .string b) rfl
    clear f2
    go_wp2_with fail
    refine (textR_calls _ b hb).mono ?_
    rintro e w3 ⟨rfl, f3⟩
    have F3 := F2.then' f3
    clear f3
    go_wp2_with fail
    go_ret
    exact ⟨by rw [hT.out, ← mkS_append, ← mkS_append]; rfl, F3⟩
  · rw [if_pos (by decide), if_neg (by decide), if_neg (by decide), List.append_nil, List.append_nil] at hT
    go_wp2_with fail
    refine (textR_calls _ a ha).mono ?_
    rintro e w2 ⟨rfl, f2⟩
    have F2 := (f0.alloc (.cells #[.int .u8 k] 5)).then' f2
    have hb2 := (hb0.al (.cells #[.int .u8 k] 5)).fr f2 id
    have x2 := hb2.cell (k := 2) (v := .string b) rfl
    clear f2
    go_wp2_with fail
    go_ret
    exact ⟨by rw [hT.out, ← mkS_append]; rfl, F2⟩
  · rw [if_neg (by decide), if_neg (by decide), if_neg (by decide), List.append_nil, List.append_nil, List.append_nil] at hT
    go_wp2_with fail
    go_ret
    exact ⟨by rw [hT.out]; rfl, f0.alloc _⟩
  · rw [if_neg (by decide), if_neg (by decide), if_pos (by decide), List.append_nil, List.append_nil] at hT
    have hc2 := hcv2 (w1.alloc (.cells #[.int .u8 k] 5))
    rw [al_size] at hc2
    go_wp2_with fail
    go_ret
    exact ⟨by rw [hT.out, ← mkS_append]; rfl, (f0.alloc _).alloc _⟩
end Go.Proofs.YtcaihinenfnekaaDoor
/- interrexref14.Check. -/
namespace Go.Proofs.YtcaihinenfnekaaDoor
open Go.RowKit

def badR (o : OpV) : Bool := (decide (partsV o.k < 1) && decide (o.a ≠ ⟨#[]⟩)) || (decide (partsV o.k < 2) && decide (o.b ≠ ⟨#[]⟩)) || (decide (0 ≤ partsV o.k) && (decide (o.n ≠ 0) || decide (o.r ≠ 0)))
def bad2R (o : OpV) : Bool := decide (partsV o.k < 0) && (decide (6 < o.n) || decide (o.r < 1) || decide (3 < o.r))
def checkR (o : OpV) : Nat := if 17 ≤ o.k then 4 else if badR o = true then 4 else if bad2R o = true then 4 else if 64 < o.a.size ∨ 64 < o.b.size ∨ 64 < (textO o).length then 3 else 0
theorem toList_nil (s : ByteArray) : s.toList = [] ↔ s = ⟨#[]⟩ := by
  constructor
  · intro h; rw [← mkS_of s, ← ByteArray.toList_eq, h]; rfl
  · rintro rfl; exact mkS_toList []
theorem IntPost.mk' {w w' : World} {i j : Int} (h : i = j) (f : Fr noB w w') : IntPost w j (.returned (.int .i64 i)) w' := ⟨by rw [h], f⟩
set_option maxRecDepth 100000 in
set_option maxHeartbeats 1600000 in
theorem checkO_calls (w : World) (o : OpV) (hw : o.wf) (ha : o.a.size ≤ 1000000000000) (hb : o.b.size ≤ 1000000000000) : Calls Tryd.prog 40 #[o.v] w (IntPost w (checkR o : Nat)) := by
  have hte := fun W => textO_calls W o hw ha hb
  have HV : Hid (checkR o = if 17 ≤ o.k then 4 else if badR o = true then 4 else if bad2R o = true then 4 else if 64 < o.a.size ∨ 64 < o.b.size ∨ 64 < (textO o).length then 3 else 0) := rfl
  unfold badR bad2R at HV
  generalize textO o = tx at *
  obtain ⟨k, a, b, n, r⟩ := o
  obtain ⟨hk, hn, hr⟩ := hw
  unfold OpV.v at *
  simp only [] at *
  generalize checkR ⟨k, a, b, n, r⟩ = res at *
  have hb0 : BlkAt (w.alloc (.cells #[.int .u8 k, .string a, .string b, .int .u8 n, .int .u8 r] 69)) w.heap.size 69 #[.int .u8 k, .string a, .string b, .int .u8 n, .int .u8 r] := BlkAt.new _ _ _
  have f0 : Fr noB w (w.alloc (.cells #[.int .u8 k, .string a, .string b, .int .u8 n, .int .u8 r] 69)) := (Fr.refl noB w).alloc _
  have hts : (mkS tx).size = tx.length := mkS_size _
  obtain ⟨m, hm⟩ : ∃ m, tx.length = m := ⟨_, rfl⟩
  rw [hm] at hts HV
  have hlen : 0 ≤ m := Nat.zero_le _
  obtain ⟨c1, hc1⟩ : ∃ c, ((n : Int) != 0) = c := ⟨_, rfl⟩
  obtain ⟨c2, hc2⟩ : ∃ c, ((r : Int) != 0) = c := ⟨_, rfl⟩
  obtain ⟨c3, hc3⟩ : ∃ c, decide ((6 : Int) < n) = c := ⟨_, rfl⟩
  obtain ⟨c4, hc4⟩ : ∃ c, decide ((r : Int) < 1) = c := ⟨_, rfl⟩
  obtain ⟨c5, hc5⟩ : ∃ c, decide ((3 : Int) < r) = c := ⟨_, rfl⟩
  obtain ⟨c6, hc6⟩ : ∃ c, decide ((64 : Int) < a.size) = c := ⟨_, rfl⟩
  obtain ⟨c7, hc7⟩ : ∃ c, decide ((64 : Int) < b.size) = c := ⟨_, rfl⟩
  obtain ⟨c8, hc8⟩ : ∃ c, decide ((64 : Int) < m) = c := ⟨_, rfl⟩
  have hd1 : Hid (c1 = true ↔ n ≠ 0) := by rw [← hc1]; unfold Hid; rw [bne_iff_ne]; omega
  have hd2 : Hid (c2 = true ↔ r ≠ 0) := by rw [← hc2]; unfold Hid; rw [bne_iff_ne]; omega
  have hd3 : Hid (c3 = true ↔ 6 < n) := by rw [← hc3]; unfold Hid; rw [decide_eq_true_eq]; omega
  have hd4 : Hid (c4 = true ↔ r < 1) := by rw [← hc4]; unfold Hid; rw [decide_eq_true_eq]; omega
  have hd5 : Hid (c5 = true ↔ 3 < r) := by rw [← hc5]; unfold Hid; rw [decide_eq_true_eq]; omega
  have hd6 : Hid (c6 = true ↔ 64 < a.size) := by rw [← hc6]; unfold Hid; rw [decide_eq_true_eq]; omega
  have hd7 : Hid (c7 = true ↔ 64 < b.size) := by rw [← hc7]; unfold Hid; rw [decide_eq_true_eq]; omega
  have hd8 : Hid (c8 = true ↔ 64 < m) := by rw [← hc8]; unfold Hid; rw [decide_eq_true_eq]; omega
  have hA : Hid (a.toList = [] ↔ a = ⟨#[]⟩) := toList_nil a
  have hB : Hid (b.toList = [] ↔ b = ⟨#[]⟩) := toList_nil b
  go_enter Tryd.func40, Tryd.ntmps40
  go_wp2_with fail
  generalize (w.alloc (.cells #[.int .u8 k, .string a, .string b, .int .u8 n, .int .u8 r] 69)) = wa at *
  obtain ⟨y0, y1, y2, y3, y4, yf⟩ := BlkAt.c5 hb0
  refine (parts_calls wa k).mono ?_
  rintro e w1 ⟨rfl, rfl⟩
  by_cases h17 : k < 17
  · rw [if_neg (by omega)] at HV
    rw [decide_eq_true h17]
    have hp4 : partsV k = 2 ∨ partsV k = 1 ∨ partsV k = 0 ∨ partsV k = -1 := by
      unfold partsV partsL
      have : ∀ k : Fin 17, let P := ([2, 1, 2, 1, 1, 2, 1, 1, 2, 1, 1, 2, 2, 1, 1, 0, -1] : List Int).getD k.val 0; P = 2 ∨ P = 1 ∨ P = 0 ∨ P = -1 := by decide
      exact this ⟨k, h17⟩
    generalize partsV k = P at *
    clear h17
    rcases hp4 with rfl | rfl | rfl | rfl
    all_goals
      simp at HV
      go_wp2_with (go_at_call 43; refine (hte _).mono ?_; rintro e w2 ⟨rfl, f2⟩)
      all_goals
        go_ret
        refine IntPost.mk' ?_ (by first | exact f0 | exact f0.then' (by assumption))
        clear hte hb0 f0
        go_light
        have hv := HV.out
        have e1 := hd1.out
        have e2 := hd2.out
        have e3 := hd3.out
        have e4 := hd4.out
        have e5 := hd5.out
        have e6 := hd6.out
        have e7 := hd7.out
        have e8 := hd8.out
        have e9 := hA.out
        have e10 := hB.out
        clear HV hd1 hd2 hd3 hd4 hd5 hd6 hd7 hd8 hA hB hc1 hc2 hc3 hc4 hc5 hc6 hc7 hc8 ha hb hk hn hr hts hm hlen yf
        simp_all
        all_goals first | omega | ((repeat' split) <;> first | rfl | omega | (simp_all; done) | (simp_all; omega))
  · rw [if_pos (by omega)] at HV
    rw [decide_eq_false h17]
    generalize partsV k = P at *
    go_wp2_with fail
    go_ret
    exact IntPost.mk' (by rw [HV.out]; rfl) f0
end Go.Proofs.YtcaihinenfnekaaDoor
/- octet.Reader: what it holds, and its contracts. -/
namespace Go.Proofs.YtcaihinenfnekaaDoor
open Go.RowKit

/-- A Reader: what is left, and the first error. -/
structure Rd where
  bs : List UInt8
  e : Nat
def rFail (r : Rd) (k : Nat) : Rd := if r.e = 0 ∧ k ≠ 0 then ⟨[], k⟩ else r
def rTake (r : Rd) (n : Nat) : Rd × List UInt8 := if r.bs.length < n then (rFail r 2, []) else (⟨r.bs.drop n, r.e⟩, r.bs.take n)
/-- The number of bytes, lowest first. -/
def leV : List UInt8 → Nat
  | [] => 0
  | b :: bs => b.toNat + 256 * leV bs
def rNum (r : Rd) (n : Nat) : Rd × Nat := ((rTake r n).1, leV (rTake r n).2)
def rTruth (r : Rd) : Rd × Bool := (if 1 < (rNum r 1).2 then rFail (rNum r 1).1 4 else (rNum r 1).1, (rNum r 1).2 == 1)
def rCount (r : Rd) (most : Int) : Rd × Nat := if max 0 most < ((rNum r 2).2 : Int) then (rFail (rNum r 2).1 3, 0) else rNum r 2
def rText (r : Rd) (most : Int) : Rd × List UInt8 := rTake (rCount r most).1 (rCount r most).2
def rEnd (r : Rd) : Nat := if r.e = 0 ∧ 0 < r.bs.length then 3 else r.e

structure RdV (w : World) (S : Nat → Prop) (p : Nat) (A : Option Addr) (n c : Nat) (T : TypeId) (r : Rd) : Prop where
  len : Hid (r.bs.length = n)
  heap : w.heap[p]? = some (.cells #[.slice A n c, .int .i64 (r.e : Nat)] T (0, 0))
  row : RowAt w A (bcells r.bs)
  cap : n ≤ c
  max : c ≤ 9223372036854775807
  nil : A = none → n = 0 ∧ c = 0
  inS : S p
  rowS : 0 < n → ∀ a, A = some a → S a.block ∧ a.block ≠ p
  err : Hid (r.e ≠ 0 → r.bs = [])
/-- At p a Reader, in blocks of S. -/
def RdAt (w : World) (S : Nat → Prop) (p : Nat) (r : Rd) : Prop := ∃ A n c T, RdV w S p A n c T r

theorem RdV.fr {w w' : World} {S T : Nat → Prop} {p : Nat} {A : Option Addr} {n c : Nat} {ty : TypeId} {r : Rd} (h : RdV w S p A n c ty r) (f : Fr T w w') (hd : ∀ k, k < w.heap.size → S k → ¬ T k) : RdV w' S p A n c ty r :=
  ⟨h.len, f.heap h.heap (hd p (Array.getElem?_eq_some_iff.1 h.heap).1 h.inS), h.row.fr f (fun a e h0 hb => hd _ hb (h.rowS (by rw [bcells_length, h.len.out] at h0; exact h0) a e).1), h.cap, h.max, h.nil, h.inS, h.rowS, h.err⟩
theorem RdAt.fr {w w' : World} {S T : Nat → Prop} {p : Nat} {r : Rd} (h : RdAt w S p r) (f : Fr T w w') (hd : ∀ k, k < w.heap.size → S k → ¬ T k) : RdAt w' S p r := by
  obtain ⟨A, n, c, ty, h⟩ := h
  exact ⟨A, n, c, ty, h.fr f hd⟩
theorem RdAt.mono {w : World} {S T : Nat → Prop} {p : Nat} {r : Rd} (h : RdAt w S p r) (hd : ∀ k, S k → T k) : RdAt w T p r := by
  obtain ⟨A, n, c, ty, h⟩ := h
  exact ⟨A, n, c, ty, h.len, h.heap, h.row, h.cap, h.max, h.nil, hd _ h.inS, fun h0 a e => ⟨hd _ (h.rowS h0 a e).1, (h.rowS h0 a e).2⟩, h.err⟩
theorem RdV.cells {w : World} {S : Nat → Prop} {p : Nat} {A : Option Addr} {n c : Nat} {ty : TypeId} {r : Rd} (h : RdV w S p A n c ty r) :
    w.cell? ⟨p, 0, none⟩ = some (.slice A n c) ∧ w.cell? ⟨p, 1, none⟩ = some (.int .i64 (r.e : Nat)) ∧ w.frozen? ⟨p, 0, none⟩ = false ∧ w.frozen? ⟨p, 1, none⟩ = false := by
  have := h.heap
  refine ⟨?_, ?_, ?_, ?_⟩ <;> simp [World.cell?, World.frozen?, this]
theorem RdV.rowTake {w : World} {S : Nat → Prop} {p : Nat} {A : Option Addr} {n c : Nat} {ty : TypeId} {r : Rd} (h : RdV w S p A n c ty r) (k : Nat) (u : Value) : RowAt (w.setCell ⟨p, 0, none⟩ u) A (bcells (r.bs.take k)) := fun j v hv => by
  have hj : (bcells r.bs)[j]? = some v := by
    simp only [bcells, List.map_take, List.getElem?_take] at hv ⊢
    split at hv
    · exact hv
    · cases hv
  obtain ⟨a, e, hc⟩ := h.row j v hj
  have h0 : 0 < n := by have := (List.getElem?_eq_some_iff.1 hj).1; rw [bcells_length, h.len.out] at this; omega
  have hf2 : Fr (fun b => b = p) w (w.setCell ⟨p, 0, none⟩ u) := Fr.setCell (S := fun b => b = p) (Fr.refl _ w) (p := ⟨p, 0, none⟩) (Or.inl rfl) _
  exact ⟨a, e, hf2.cell hc (by rw [add_block]; exact (h.rowS h0 a e).2)⟩
theorem two_set0 {w : World} {b : Nat} {x y u : Value} {t : TypeId} (h : w.heap[b]? = some (.cells #[x, y] t (0, 0))) : (w.setCell ⟨b, 0, none⟩ u).heap[b]? = some (.cells #[u, y] t (0, 0)) := by
  simp [World.setCell, Array.getElem?_modify, h]
theorem two_set1 {w : World} {b : Nat} {x y u : Value} {t : TypeId} (h : w.heap[b]? = some (.cells #[x, y] t (0, 0))) : (w.setCell ⟨b, 1, none⟩ u).heap[b]? = some (.cells #[x, u] t (0, 0)) := by
  simp [World.setCell, Array.getElem?_modify, h]

def RPost (w : World) (S : Nat → Prop) (p : Nat) (r : Rd) (v : Value) (e : Ending) (w' : World) : Prop := e = .returned v ∧ RdAt w' S p r ∧ Fr S w w'

theorem fail_calls (w : World) (S : Nat → Prop) (p : Nat) (r : Rd) (k : Nat) (h : RdAt w S p r) : Calls Tryd.prog 100 #[.pointer (some ⟨p, 0, none⟩), .int .i64 k] w (RPost w S p (rFail r k) (.tuple #[])) := by
  obtain ⟨A, n, c, T, h⟩ := h
  obtain ⟨c0, c1, z0, z1⟩ := h.cells
  by_cases e0 : r.e = 0
  · by_cases k0 : k = 0
    · have t0 : ((r.e : Int) == 0) = true := by simp; exact e0
      have t1 : ((k : Int) != 0) = false := by simp; exact k0
      have HF : Hid (rFail r k = r) := by unfold Hid rFail; rw [if_neg (by simp [k0])]
      go_enter Tryd.func100, Tryd.ntmps100
      go_wp2_with fail
      go_end0
      exact ⟨rfl, by rw [HF.out]; exact ⟨_, _, _, _, h⟩, Fr.refl _ _⟩
    · have t0 : ((r.e : Int) == 0) = true := by simp; exact e0
      have t1 : ((k : Int) != 0) = true := by simp; exact k0
      have HF : Hid (rFail r k = ⟨[], k⟩) := by unfold Hid rFail; rw [if_pos ⟨e0, k0⟩]
      have HK := hid k0
      clear e0 k0
      go_enter Tryd.func100, Tryd.ntmps100
      go_wp2_with fail
      go_end0
      refine ⟨rfl, ?_, ((Fr.refl S w).setCell (Or.inl h.inS) _).setCell (p := ⟨p, 1, none⟩) (Or.inl h.inS) _⟩
      rw [HF.out]
      exact ⟨none, 0, 0, T, rfl, two_set1 (two_set0 h.heap), RowAt.nil _ _, Nat.le_refl _, by omega, fun _ => ⟨rfl, rfl⟩, h.inS, fun h0 => absurd h0 (by omega), fun _ => rfl⟩
  · have t0 : ((r.e : Int) == 0) = false := by simp; exact e0
    have HF : Hid (rFail r k = r) := by unfold Hid rFail; rw [if_neg (by simp [e0])]
    go_enter Tryd.func100, Tryd.ntmps100
    go_wp2_with fail
    go_end0
    exact ⟨rfl, by rw [HF.out]; exact ⟨_, _, _, _, h⟩, Fr.refl _ _⟩

/-- What take hands back: bytes that can be read. -/
def TakePost (w : World) (S : Nat → Prop) (p : Nat) (r : Rd) (xs : List UInt8) (e : Ending) (w' : World) : Prop :=
  ∃ A n c, e = .returned (.slice A n c) ∧ Hid (xs.length = n) ∧ RowAt w' A (bcells xs) ∧ (A = none → n = 0 ∧ c = 0) ∧ n ≤ 9223372036854775807 ∧ RdAt w' S p r ∧ Fr S w w'
theorem take_calls (w : World) (S : Nat → Prop) (p : Nat) (r : Rd) (k : Nat) (h : RdAt w S p r) : Calls Tryd.prog 131 #[.pointer (some ⟨p, 0, none⟩), .int .i64 k] w (TakePost w S p (rTake r k).1 (rTake r k).2) := by
  have hf := fail_calls w S p r 2 h
  obtain ⟨A, n, c, T, h⟩ := h
  obtain ⟨c0, c1, z0, z1⟩ := h.cells
  by_cases hn : n < k
  · have HF : Hid (rTake r k = (rFail r 2, [])) := by unfold Hid rTake; rw [if_pos (by rw [h.len.out]; exact hn)]
    go_enter Tryd.func131, Tryd.ntmps131
    go_wp2_with fail
    refine hf.mono ?_
    rintro e w1 ⟨rfl, h1, f1⟩
    go_wp2_with fail
    go_ret
    refine ⟨none, 0, 0, rfl, by rw [HF.out]; rfl, by rw [HF.out]; exact RowAt.nil _ _, fun _ => ⟨rfl, rfl⟩, by omega, by rw [HF.out]; exact h1, f1⟩
  · have HF : Hid (rTake r k = (⟨r.bs.drop k, r.e⟩, r.bs.take k)) := by unfold Hid rTake; rw [if_neg (by rw [h.len.out]; exact hn)]
    have hk : k ≤ n := by omega
    have hcap := h.cap
    have hmax := h.max
    clear hf
    by_cases hck : c = k
    · subst hck
      have hnk : n = c := by omega
      subst hnk
      go_enter Tryd.func131, Tryd.ntmps131
      go_wp2_with fail
      go_ret
      have hs : Fr S w (w.setCell ⟨p, 0, none⟩ (.slice A 0 0)) := (Fr.refl S w).setCell (Or.inl h.inS) _
      refine ⟨A, n, n, rfl, by rw [HF.out]; unfold Hid; rw [List.length_take, h.len.out]; omega, ?_, fun e => h.nil e, hmax, ?_, hs⟩
      · rw [HF.out]; exact h.rowTake n _
      · rw [HF.out]
        have hd : r.bs.drop n = [] := List.drop_eq_nil_of_le (by rw [h.len.out]; exact Nat.le_refl _)
        refine ⟨A, 0, 0, T, by unfold Hid; rw [hd]; rfl, ?_, by simp only [hd]; exact RowAt.nil _ _, Nat.le_refl _, by omega, fun _ => ⟨rfl, rfl⟩, h.inS, fun h0 => absurd h0 (by omega), fun _ => hd⟩
        exact two_set0 (u := .slice A 0 0) h.heap
    · go_enter Tryd.func131, Tryd.ntmps131
      go_wp2_with fail
      go_ret
      have hs : Fr S w (w.setCell ⟨p, 0, none⟩ (.slice (A.map (·.add k)) (n - k) (c - k))) := (Fr.refl S w).setCell (Or.inl h.inS) _
      have hne : A ≠ none := fun e => by have := h.nil e; omega
      obtain ⟨a, rfl⟩ := Option.ne_none_iff_exists'.1 hne
      refine ⟨some a, k, c, rfl, by rw [HF.out]; unfold Hid; rw [List.length_take, h.len.out]; omega, ?_, fun e => (by cases e), by omega, ?_, hs⟩
      · rw [HF.out]; exact h.rowTake k _
      · rw [HF.out]
        refine ⟨some (a.add k), n - k, c - k, T, by unfold Hid; rw [List.length_drop, h.len.out], two_set0 h.heap, ?_, by omega, by omega, fun e => (by cases e), h.inS, fun h0 b e => ?_, fun e => ?_⟩
        · intro j u hu
          refine ⟨_, rfl, ?_⟩
          rw [add_add']
          have hj : (bcells r.bs)[k + j]? = some u := by
            rw [← hu]; simp only [bcells, List.map_drop, List.getElem?_drop]
          have h0 : 0 < n := by have := (List.getElem?_eq_some_iff.1 hj).1; rw [bcells_length, h.len.out] at this; omega
          have hf2 : Fr (fun b => b = p) w (w.setCell ⟨p, 0, none⟩ (.slice (some (a.add k)) (n - k) (c - k))) := Fr.setCell (S := fun b => b = p) (Fr.refl _ w) (p := ⟨p, 0, none⟩) (Or.inl rfl) _
          exact hf2.cell (h.row.cell hj) (by rw [add_block]; exact (h.rowS h0 a rfl).2)
        · cases e
          rw [add_block]
          exact h.rowS (by omega) a rfl
        · show r.bs.drop k = []
          rw [h.err.out e]; simp
end Go.Proofs.YtcaihinenfnekaaDoor
/- octet.Reader's methods. -/
namespace Go.Proofs.YtcaihinenfnekaaDoor
open Go.RowKit

theorem leV_lt (xs : List UInt8) : leV xs < 256 ^ xs.length := by
  induction xs with
  | nil => simp [leV]
  | cons b xs ih =>
    have := b.toNat_lt
    simp only [leV, List.length_cons, Nat.pow_succ]
    omega
theorem leV_snoc (xs : List UInt8) (b : UInt8) : leV (xs ++ [b]) = leV xs + b.toNat * 256 ^ xs.length := by
  induction xs with
  | nil => simp [leV]
  | cons c xs ih =>
    simp only [List.cons_append, leV, ih, List.length_cons, Nat.pow_succ, Nat.mul_add]
    rw [← Nat.mul_assoc, Nat.mul_comm (256 ^ xs.length) 256, ← Nat.mul_assoc, Nat.mul_comm b.toNat 256, Nat.add_assoc]
theorem rTake_len (r : Rd) (n : Nat) : (rTake r n).2.length ≤ n := by
  unfold rTake
  split
  · simp
  · simp; omega

theorem or_step (x b j : Nat) (hx : x < 256 ^ j) (hb : b < 256) (hj : j < 8) : bits .or .u64 (x : Int) (IntKind.u64.wrap ((b : Int) * 2 ^ (8 * j))) = ((x + b * 256 ^ j : Nat) : Int) := by
  have hp : (256 : Nat) ^ j = 2 ^ (8 * j) := by rw [Nat.pow_mul]
  have hle : (256 : Nat) ^ (j + 1) ≤ 256 ^ 8 := Nat.pow_le_pow_right (by omega) (by omega)
  have hm : b * 256 ^ j < 256 ^ (j + 1) := by rw [Nat.pow_succ, Nat.mul_comm (256 ^ j)]; exact Nat.mul_lt_mul_of_pos_right hb (Nat.pow_pos (by omega))
  have h64 : (256 : Nat) ^ 8 = 18446744073709551616 := by decide
  have e1 : (b : Int) * 2 ^ (8 * j) = ((b * 256 ^ j : Nat) : Int) := by rw [hp]; push_cast; rfl
  have e2 : IntKind.u64.wrap ((b * 256 ^ j : Nat) : Int) = ((b * 256 ^ j : Nat) : Int) := by
    generalize b * 256 ^ j = m at *
    simp [IntKind.wrap, IntKind.bits, IntKind.signed]
    omega
  have hx2 : x < 18446744073709551616 := by
    have : 256 ^ j ≤ 256 ^ (j + 1) := Nat.pow_le_pow_right (by omega) (by omega)
    omega
  rw [e1, e2, bits_or_u64_nat x _ hx2 (by omega)]
  congr 1
  rw [hp] at hx ⊢
  have := Nat.two_pow_add_eq_or_of_lt hx b
  rw [Nat.or_comm, Nat.mul_comm b, ← this, Nat.add_comm]
set_option maxRecDepth 100000 in
set_option maxHeartbeats 1600000 in
theorem numRd_calls (w : World) (S : Nat → Prop) (p : Nat) (r : Rd) (k : Nat) (h : RdAt w S p r) (hk : k ≤ 8) :
    Calls Tryd.prog 119 #[.pointer (some ⟨p, 0, none⟩), .int .i64 k] w (RPost w S p (rNum r k).1 (.int .u64 ((rNum r k).2 : Nat))) := by
  have hl := rTake_len r k
  go_enter Tryd.func119, Tryd.ntmps119
  go_wp2_with fail
  refine (take_calls w S p r k h).mono ?_
  rintro e w1 ⟨A, n, c, rfl, hn, hr, hA, hm, h1, f1⟩
  have HF : Hid (rNum r k = ((rTake r k).1, leV (rTake r k).2)) := rfl
  generalize (rTake r k).1 = r1 at *
  generalize (rTake r k).2 = xs at *
  rw [hn.out] at hl
  go_wp2_with fail
  go_loop [5, 12] (fun y i => ∃ j : Nat, j ≤ n ∧ i = .int .i64 j ∧ y = .int .u64 (leV (xs.take j) : Nat)) (fun _ i => n - (intOf i).toNat)
  case atStart => exact ⟨0, Nat.zero_le _, rfl, rfl⟩
  case round =>
    obtain ⟨j, hj, rfl, rfl⟩ := hrel
    by_cases hjn : j < n
    · obtain ⟨b, hb⟩ : ∃ b, xs[j]? = some b := ⟨_, List.getElem?_eq_getElem (by rw [hn.out]; exact hjn)⟩
      obtain ⟨a, rfl⟩ := hr.some_of (by rw [bcells_length, hn.out]; omega)
      have hc := hr.cell (j := j) (u := .int .u8 b.toNat) (by simp only [bcells, List.getElem?_map, hb]; rfl)
      have hb1 := b.toNat_lt
      have HB := hid hb; clear hb
      go_wp2_with fail
      have hlt : leV (xs.take j) < 256 ^ j := by
        have := leV_lt (xs.take j)
        rw [List.length_take, hn.out, Nat.min_eq_left (by omega)] at this; exact this
      have hst := or_step (leV (xs.take j)) b.toNat j hlt hb1 (by omega)
      have hsn : leV (xs.take (j + 1)) = leV (xs.take j) + b.toNat * 256 ^ j := by
        rw [take_snoc' HB.out, leV_snoc, List.length_take, hn.out, Nat.min_eq_left (by omega)]
      go_round
      case rel => exact ⟨j + 1, by omega, by go_num, by rw [hst, hsn]⟩
      case measure => simp [intOf]; omega
    · have : j = n := by omega
      subst this
      go_wp2_with fail
      go_ret
      rw [HF.out]
      refine ⟨?_, h1, f1⟩
      rw [List.take_of_length_le (by rw [hn.out]; exact Nat.le_refl _)]
      rfl

theorem rNum_lt (r : Rd) (n : Nat) : (rNum r n).2 < 256 ^ n := by
  have h1 := leV_lt (rTake r n).2
  have h3 : 256 ^ (rTake r n).2.length ≤ 256 ^ n := Nat.pow_le_pow_right (by omega) (rTake_len r n)
  unfold rNum; simp only; omega
theorem byteRd_calls (w : World) (S : Nat → Prop) (p : Nat) (r : Rd) (h : RdAt w S p r) :
    Calls Tryd.prog 84 #[.pointer (some ⟨p, 0, none⟩)] w (RPost w S p (rNum r 1).1 (.int .u8 ((rNum r 1).2 : Nat))) := by
  have hb : (rNum r 1).2 < 256 := rNum_lt r 1
  go_enter Tryd.func84, Tryd.ntmps84
  go_wp2_with fail
  refine (numRd_calls w S p r 1 h (by omega)).mono ?_
  rintro e w1 ⟨rfl, h1, f1⟩
  go_wp2_with fail
  go_ret
  exact ⟨rfl, h1, f1⟩
theorem twoRd_calls (w : World) (S : Nat → Prop) (p : Nat) (r : Rd) (h : RdAt w S p r) :
    Calls Tryd.prog 132 #[.pointer (some ⟨p, 0, none⟩)] w (RPost w S p (rNum r 2).1 (.int .u16 ((rNum r 2).2 : Nat))) := by
  have hb : (rNum r 2).2 < 65536 := rNum_lt r 2
  go_enter Tryd.func132, Tryd.ntmps132
  go_wp2_with fail
  refine (numRd_calls w S p r 2 h (by omega)).mono ?_
  rintro e w1 ⟨rfl, h1, f1⟩
  go_wp2_with fail
  go_ret
  exact ⟨rfl, h1, f1⟩
theorem countRd_calls (w : World) (S : Nat → Prop) (p : Nat) (r : Rd) (most : Int) (h : RdAt w S p r) (hm1 : -9223372036854775808 ≤ most) (hm2 : most ≤ 9223372036854775807) :
    Calls Tryd.prog 126 #[.pointer (some ⟨p, 0, none⟩), .int .i64 most] w (RPost w S p (rCount r most).1 (.int .i64 ((rCount r most).2 : Nat))) := by
  have hb : (rNum r 2).2 < 65536 := rNum_lt r 2
  have HF : Hid (rCount r most = if max 0 most < ((rNum r 2).2 : Int) then (rFail (rNum r 2).1 3, 0) else ((rNum r 2).1, (rNum r 2).2)) := rfl
  have hc := twoRd_calls w S p r h
  generalize (rNum r 2).1 = r1 at *
  generalize (rNum r 2).2 = x at *
  by_cases hx : max 0 most < (x : Int)
  · rw [if_pos hx] at HF
    go_enter Tryd.func126, Tryd.ntmps126
    go_wp2_with fail
    refine hc.mono ?_
    rintro e w1 ⟨rfl, h1, f1⟩
    go_wp2_with fail
    all_goals
      refine (fail_calls w1 S p r1 3 h1).mono ?_
      rintro e w2 ⟨rfl, h2, f2⟩
      go_wp2_with fail
      go_ret
      rw [HF.out]
      exact ⟨rfl, h2, f1.then' f2⟩
  · rw [if_neg hx] at HF
    go_enter Tryd.func126, Tryd.ntmps126
    go_wp2_with fail
    refine hc.mono ?_
    rintro e w1 ⟨rfl, h1, f1⟩
    go_wp2_with fail
    all_goals
      go_ret
      rw [HF.out]
      exact ⟨rfl, h1, f1⟩
theorem textRd_calls (w : World) (S : Nat → Prop) (p : Nat) (r : Rd) (most : Int) (h : RdAt w S p r) (hm1 : -9223372036854775808 ≤ most) (hm2 : most ≤ 9223372036854775807) :
    Calls Tryd.prog 127 #[.pointer (some ⟨p, 0, none⟩), .int .i64 most] w (RPost w S p (rText r most).1 (.string (mkS (rText r most).2))) := by
  have hc := countRd_calls w S p r most h hm1 hm2
  have HF : Hid (rText r most = ((rTake (rCount r most).1 (rCount r most).2).1, (rTake (rCount r most).1 (rCount r most).2).2)) := rfl
  generalize (rCount r most).1 = r1 at *
  generalize (rCount r most).2 = x at *
  go_enter Tryd.func127, Tryd.ntmps127
  go_wp2_with fail
  refine hc.mono ?_
  rintro e w1 ⟨rfl, h1, f1⟩
  go_wp2_with fail
  refine (take_calls w1 S p r1 x h1).mono ?_
  rintro e w2 ⟨A, n, c, rfl, hn, hr, hA, hm, h2, f2⟩
  have hcv := Tryd.toStr hr hn.out c
  clear hr hA
  go_wp2_with fail
  go_ret
  rw [HF.out]
  exact ⟨rfl, h2, f1.then' f2⟩
/-- Raw hands back new bytes. -/
def RawPost (w : World) (S : Nat → Prop) (p : Nat) (r : Rd) (xs : List UInt8) (e : Ending) (w' : World) : Prop :=
  ∃ A n c, e = .returned (.slice A n c) ∧ Hid (xs.length = n) ∧ w'.ownsRow w.heap.size 5 1 (.slice A n c) n (bcells xs) ∧ RdAt w' S p r ∧ Fr S w w'
theorem errRd_calls (w : World) (S : Nat → Prop) (p : Nat) (r : Rd) (h : RdAt w S p r) :
    Calls Tryd.prog 85 #[.pointer (some ⟨p, 0, none⟩)] w (fun e w' => e = .returned (.int .i64 (r.e : Nat)) ∧ w = w') := by
  obtain ⟨A, n, c, T, h⟩ := h
  obtain ⟨c0, c1, z0, z1⟩ := h.cells
  go_enter Tryd.func85, Tryd.ntmps85
  go_wp2_with fail
  go_ret
  exact ⟨rfl, rfl⟩
theorem endRd_calls (w : World) (S : Nat → Prop) (p : Nat) (r : Rd) (h : RdAt w S p r) :
    Calls Tryd.prog 87 #[.pointer (some ⟨p, 0, none⟩)] w (fun e w' => e = .returned (.int .i64 (rEnd r : Nat)) ∧ w = w') := by
  obtain ⟨A, n, c, T, h⟩ := h
  obtain ⟨c0, c1, z0, z1⟩ := h.cells
  have hmx := h.max
  have hcp := h.cap
  have HL := h.len
  by_cases e0 : r.e = 0
  · have t0 : ((r.e : Int) == 0) = true := by simp; exact e0
    by_cases n0 : 0 < n
    · have HF : Hid (rEnd r = 3) := by unfold Hid rEnd; rw [if_pos ⟨e0, by rw [HL.out]; exact n0⟩]
      have E0 := hid e0; clear e0
      go_enter Tryd.func87, Tryd.ntmps87
      go_wp2_with fail
      go_ret
      exact ⟨by rw [HF.out]; rfl, rfl⟩
    · have HF : Hid (rEnd r = r.e) := by unfold Hid rEnd; rw [if_neg (fun h => n0 (by rw [← HL.out]; exact h.2))]
      have E0 := hid e0; clear e0
      go_enter Tryd.func87, Tryd.ntmps87
      go_wp2_with fail
      go_ret
      exact ⟨by rw [HF.out]; rfl, rfl⟩
  · have t0 : ((r.e : Int) == 0) = false := by simp; exact e0
    have HF : Hid (rEnd r = r.e) := by unfold Hid rEnd; rw [if_neg (fun h => e0 h.1)]
    have E0 := hid e0; clear e0
    go_enter Tryd.func87, Tryd.ntmps87
    go_wp2_with fail
    go_ret
    exact ⟨by rw [HF.out]; rfl, rfl⟩
end Go.Proofs.YtcaihinenfnekaaDoor
/- octet.Of, and a Reader's Row. -/
namespace Go.Proofs.YtcaihinenfnekaaDoor
open Go.RowKit

theorem Tryd.appS : AppTy Tryd.prog 22 9 (.string ⟨#[]⟩) 1 16 := ⟨Tryd.underlying22, by kernel_rfl, rfl, by decide⟩
def rTexts (r : Rd) (long : Int) : Nat → Rd × List ByteArray
  | 0 => (r, [])
  | n + 1 => ((rText (rTexts r long n).1 long).1, (rTexts r long n).2 ++ [mkS (rText (rTexts r long n).1 long).2])
theorem rTexts_len (r : Rd) (long : Int) (n : Nat) : (rTexts r long n).2.length = n := by induction n <;> simp [rTexts, *]
def rRow (r : Rd) (most long : Int) : Rd × List ByteArray :=
  ((rTexts (rCount r most).1 long (rCount r most).2).1, if (rTexts (rCount r most).1 long (rCount r most).2).1.e = 0 then (rTexts (rCount r most).1 long (rCount r most).2).2 else [])

def OfPost (w : World) (bs : List UInt8) (e : Ending) (w' : World) : Prop := ∃ p, e = .returned (.pointer (some ⟨p, 0, none⟩)) ∧ w.heap.size ≤ p ∧ p < w'.heap.size ∧ RdAt w' (upB w.heap.size) p ⟨bs, 0⟩ ∧ Fr noB w w'
theorem of_calls (w : World) (B : Option Addr) (n cap : Nat) (xs : List UInt8) (hx : RowAt w B (bcells xs)) (hn : xs.length = n) (hB : B = none → n = 0 ∧ cap = 0) (hl : n ≤ 1000000000000) :
    Calls Tryd.prog 83 #[.slice B n cap] w (OfPost w xs) := by
  have HL := hid hl; clear hl
  have HN := hid hn; clear hn
  go_enter Tryd.func83, Tryd.ntmps83
  go_wp2_with fail
  refine (clone_calls w B n cap xs hx HN.out hB HL.out).mono ?_
  rintro e w1 ⟨A, c, rfl, h1, f1, hA⟩
  go_wp2_with fail
  go_ret
  have hz := f1.size
  refine ⟨w1.heap.size, rfl, hz, by simp, ⟨A, n, c, _, HN.out, heap_alloc_new w1 _, (own_row h1).fr0 ((Fr.refl noB _).alloc _), ?_, ?_, fun e => ?_, hz, fun h0 a e => ?_, fun h => absurd rfl h⟩, f1.alloc _⟩
  · rcases h1.2 with ⟨e, e2⟩ | ⟨g, cp, cur, e, _, _, h2, _⟩
    · omega
    · cases e; exact h2
  · rcases h1.2 with ⟨e, e2⟩ | ⟨g, cp, cur, e, _, _, _, h2, _⟩
    · cases e; omega
    · cases e; unfold maxLen at h2; omega
  · subst e
    rcases h1.2 with ⟨e, e2⟩ | ⟨g, cp, cur, e, _⟩
    · cases e; exact ⟨rfl, rfl⟩
    · cases e
  · subst e
    have := h1.lt a.block rfl
    exact ⟨this.1, by omega⟩

def RowPost (w : World) (S : Nat → Prop) (p : Nat) (r : Rd) (ss : List ByteArray) (e : Ending) (w' : World) : Prop :=
  ∃ A n c, e = .returned (.slice A n c) ∧ Hid (ss.length = n) ∧ w'.ownsRow w.heap.size 9 1 (.slice A n c) n (strs ss) ∧ RdAt w' S p r ∧ Fr S w w'
set_option maxRecDepth 100000 in
set_option maxHeartbeats 1600000 in
theorem rowRd_calls (w : World) (S : Nat → Prop) (p : Nat) (r : Rd) (most long : Int) (h : RdAt w S p r) (hS : ∀ k, S k → k < w.heap.size) (hm1 : -9223372036854775808 ≤ most) (hm2 : most ≤ 9223372036854775807) (hl1 : -9223372036854775808 ≤ long) (hl2 : long ≤ 9223372036854775807) :
    Calls Tryd.prog 101 #[.pointer (some ⟨p, 0, none⟩), .int .i64 most, .int .i64 long] w (RowPost w S p (rRow r most long).1 (rRow r most long).2) := by
  have hc := countRd_calls w S p r most h hm1 hm2
  have hx : (rCount r most).2 < 65536 := by
    have := rNum_lt r 2
    unfold rCount
    split
    · exact Nat.zero_lt_succ _
    · exact this
  have HF : Hid (rRow r most long = ((rTexts (rCount r most).1 long (rCount r most).2).1, if (rTexts (rCount r most).1 long (rCount r most).2).1.e = 0 then (rTexts (rCount r most).1 long (rCount r most).2).2 else [])) := rfl
  generalize (rCount r most).1 = r1 at *
  generalize (rCount r most).2 = x at *
  go_enter Tryd.func101, Tryd.ntmps101
  go_wp2_with fail
  refine hc.mono ?_
  rintro e w1 ⟨rfl, h1, f1⟩
  clear hc
  have hw1 := f1.size
  go_wp2_with fail
  go_loopw [7, 11] (fun v i wr => ∃ k : Nat, k ≤ x ∧ i = .int .i64 k ∧ (∃ A c, v = .slice A k c ∧ wr.ownsRow w.heap.size 9 1 v k (strs (rTexts r1 long k).2)) ∧ RdAt wr S p (rTexts r1 long k).1 ∧ Fr S w wr) (fun _ i _ => x - (intOf i).toNat)
  case atStart => exact ⟨0, Nat.zero_le _, rfl, ⟨none, 0, rfl, World.ownsRow_nil _ _ _ _⟩, h1, f1⟩
  case round =>
    obtain ⟨k, hk, rfl, ⟨A, c, rfl, hown⟩, hr, hf⟩ := hrel
    by_cases hkx : k < x
    · have HS : Hid (rTexts r1 long (k + 1) = ((rText (rTexts r1 long k).1 long).1, (rTexts r1 long k).2 ++ [mkS (rText (rTexts r1 long k).1 long).2])) := rfl
      have hct := textRd_calls wr S p (rTexts r1 long k).1 long hr hl1 hl2
      generalize rTexts r1 long k = rk at *
      go_wp2_with fail
      refine hct.mono ?_
      rintro e w2 ⟨rfl, h2, f2⟩
      clear hct
      have hown2 : w2.ownsRow 0 9 1 (.slice A k c) k (strs rk.2) := own_mono (own_fr hown f2 (fun g hg hs => by have := (hown.lt g hg).1; have := hS g hs; omega)) (fun _ _ => Nat.zero_le _)
      have hbase : ∀ g, (Value.slice A k c).ownBlock = some g → w.heap.size ≤ g := fun g hg => (hown.lt g hg).1
      have hz2 : w.heap.size ≤ w2.heap.size := Nat.le_trans hf.size f2.size
      generalize mkS (rText rk.1 long).2 = t at *
      go_wp2_with (at_builtin; refine wpList_app Tryd.appS rfl (.tmp 13) (.tmp 17) rfl _ k (strs rk.2) rfl (hown2.alloc _) _ 1 1 [.string t] rfl rfl (cell_one_row _ _ _) (fun u hu => by simp at hu; subst hu; rfl) (by simp) (by omega) (by omega) ?_)
      intro A' c' w3 hown3 hg hat
      have f3 : Fr S w w3 := Fr.grown ((hf.then' f2).alloc _) hg (fun g hg => Or.inr (hbase g hg))
      have h3 : RdAt w3 S p (rText rk.1 long).1 := (h2.fr ((Fr.refl noB _).alloc _) (fun _ _ _ => id)).fr (Fr.grown (Fr.refl (fun k => w.heap.size ≤ k) _) hg (fun g hg => Or.inl (hbase g hg))) (fun g _ h1 h2 => by have := hS g h1; omega)
      have hown4 : w3.ownsRow w.heap.size 9 1 (.slice A' (k + 1) c') (k + 1) (strs (rk.2 ++ [t])) := by
        have : strs (rk.2 ++ [t]) = strs rk.2 ++ [.string t] := by simp [strs]
        rw [this]
        refine own_mono hown3 (fun g hg => ?_)
        rcases hat with e | e
        · exact hbase g (e ▸ hg)
        · rw [hg] at e; simp at e; omega
      clear hg hat hown3 hown2 hown hf f2 h2 hr
      go_wp2_with fail
      go_roundw
      case rel => exact ⟨k + 1, by omega, by go_num, ⟨A', c', rfl, by rw [HS.out]; exact hown4⟩, by rw [HS.out]; exact h3, f3⟩
      case measure => simp [intOf]; omega
    · have : k = x := by omega
      subst this
      have HR := hid hr
      have hlen := rTexts_len r1 long k
      generalize rTexts r1 long k = rk at *
      have HL := hid hlen; clear hlen
      obtain ⟨B, n, cp, T, hv⟩ := hr
      obtain ⟨c0, c1, z0, z1⟩ := hv.cells
      by_cases e0 : rk.1.e = 0
      · have t0 : ((rk.1.e : Int) != 0) = false := by simp; exact e0
        rw [if_pos e0] at HF
        have E0 := hid e0; clear e0
        go_wp2_with fail
        go_ret
        rw [HF.out]
        exact ⟨A, k, c, rfl, HL.out, hown, HR.out, hf⟩
      · have t0 : ((rk.1.e : Int) != 0) = true := by simp; exact e0
        rw [if_neg e0] at HF
        have E0 := hid e0; clear e0
        go_wp2_with fail
        go_ret
        rw [HF.out]
        exact ⟨none, 0, 0, rfl, rfl, World.ownsRow_nil _ _ _ _, HR.out, hf⟩
end Go.Proofs.YtcaihinenfnekaaDoor
/- op.text, (*op.Op).read. -/
namespace Go.Proofs.YtcaihinenfnekaaDoor
open Go.RowKit

theorem optext_calls (w : World) (S : Nat → Prop) (p : Nat) (r : Rd) (h : RdAt w S p r) : Calls Tryd.prog 120 #[.pointer (some ⟨p, 0, none⟩)] w (RPost w S p (rText r 65535).1 (.string (mkS (rText r 65535).2))) := by
  go_enter Tryd.func120, Tryd.ntmps120
  go_wp2_with fail
  refine (textRd_calls w S p r 65535 h (by decide) (by decide)).mono ?_
  rintro e w1 ⟨rfl, h1, f1⟩
  go_wp2_with fail
  go_ret
  exact ⟨rfl, h1, f1⟩
theorem RdAt.inn {w : World} {S : Nat → Prop} {p : Nat} {r : Rd} (h : RdAt w S p r) : RdAt w (fun k => S k ∧ k < w.heap.size) p r := by
  obtain ⟨A, n, c, T, h⟩ := h
  refine ⟨A, n, c, T, h.len, h.heap, h.row, h.cap, h.max, h.nil, ⟨h.inS, (Array.getElem?_eq_some_iff.1 h.heap).1⟩, fun h0 a e => ?_, h.err⟩
  obtain ⟨h1, h2⟩ := h.rowS h0 a e
  subst e
  exact ⟨⟨h1, h.row.lt (by rw [bcells_length, h.len.out]; exact h0)⟩, h2⟩
/-- One of a sign's parts, as it is read. -/
def rdPart (o : OpV) (r : Rd) (c : UInt8) : OpV × Rd :=
  if c = 97 then ({o with a := mkS (rText r 65535).2}, (rText r 65535).1) else if c = 98 then ({o with b := mkS (rText r 65535).2}, (rText r 65535).1)
  else if c = 110 then ({o with n := (rNum r 1).2}, (rNum r 1).1) else if c = 114 then ({o with r := (rNum r 1).2}, (rNum r 1).1) else (o, r)
def rdSign (s : OpV × Rd) (c : UInt8) : OpV × Rd := ((rdPart s.1 s.2 c).1, if (rdPart s.1 s.2 c).2.e = 0 ∧ rightV (rdPart s.1 s.2 c).1 c = false then rFail (rdPart s.1 s.2 c).2 4 else (rdPart s.1 s.2 c).2)
def orB (S : Nat → Prop) (p : Nat) : Nat → Prop := fun k => S k ∨ k = p
def SignPost (w : World) (S : Nat → Prop) (po p : Nat) (s : OpV × Rd) (e : Ending) (w' : World) : Prop :=
  e = .returned (.tuple #[]) ∧ BlkAt w' po 38 s.1.C ∧ RdAt w' S p s.2 ∧ Fr (orB S po) w w'
theorem rdSign_keep {o o' : OpV} {r r' : Rd} {c : UInt8} (h : rdPart o r c = (o', r')) (hk : r'.e ≠ 0 ∨ rightV o' c = true) : rdSign (o, r) c = (o', r') := by
  unfold rdSign; rw [h]
  rw [if_neg]
  rintro ⟨h1, h2⟩
  rcases hk with hk | hk
  · exact hk h1
  · simp only [] at h2; rw [hk] at h2; cases h2
theorem rdSign_fail {o o' : OpV} {r r' : Rd} {c : UInt8} (h : rdPart o r c = (o', r')) (h1 : r'.e = 0) (h2 : rightV o' c = false) : rdSign (o, r) c = (o', rFail r' 4) := by
  unfold rdSign; rw [h]
  rw [if_pos ⟨h1, h2⟩]

set_option maxHeartbeats 1600000 in
theorem opread97_calls (w : World) (S : Nat → Prop) (po p : Nat) (o : OpV) (r : Rd) (hb : BlkAt w po 38 o.C) (h : RdAt w S p r) (hS : ¬ S po) :
    Calls Tryd.prog 86 #[.pointer (some ⟨po, 0, none⟩), .pointer (some ⟨p, 0, none⟩), .int .u8 97] w (SignPost w S po p (rdSign (o, r) 97)) := by
  obtain ⟨k, a, b, n, q⟩ := o
  have HP : Hid (rdPart ⟨k, a, b, n, q⟩ r 97 = (⟨k, mkS (rText r 65535).2, b, n, q⟩, (rText r 65535).1)) := rfl
  have hcl := optext_calls w S p r h
  generalize (rText r 65535) = rr at *
  obtain ⟨r1, x⟩ := rr
  simp only [] at *
  have xf : w.frozen? ⟨po, 1, none⟩ = false := hb.free _
  have x0 := hb.cell (k := 1) (v := .string a) rfl
  go_enter Tryd.func86, Tryd.ntmps86
  go_wp2_with fail
  refine hcl.mono ?_
  rintro e w1 ⟨rfl, h1, f1⟩
  have hb1 := hb.fr f1 hS
  have yf : w1.frozen? ⟨po, 1, none⟩ = false := hb1.free _
  have y0 := hb1.cell (k := 1) (v := .string a) rfl
  have fs := fr_set1 w1 po 1 (.string (mkS x))
  have hb2 : BlkAt (w1.setCell ⟨po, 1, none⟩ (.string (mkS x))) po 38 (⟨k, mkS x, b, n, q⟩ : OpV).C := by simpa [OpV.C] using hb1.set 1 (.string (mkS x))
  have h2 := h1.fr fs (fun j hj hs e => hS (by unfold eqB at e; exact e ▸ hs))
  have F : Fr (orB S po) w (w1.setCell ⟨po, 1, none⟩ (.string (mkS x))) := (f1.mono fun _ _ h => Or.inl h).then' (fs.mono fun _ _ h => Or.inr h)
  clear f1 h1 hb1 fs hcl hb h x0 xf
  go_wp2_with fail
  generalize (w1.setCell ⟨po, 1, none⟩ (.string (mkS x))) = w2 at *
  have hE := errRd_calls w2 S p r1 h2
  by_cases he : r1.e = 0
  · rw [he] at hE
    refine hE.mono ?_
    rintro e w3 ⟨rfl, rfl⟩
    have z0 := hb2.cell (k := 0) (v := .int .u8 k) rfl
    have z1 := hb2.cell (k := 1) (v := .string (mkS x)) rfl
    have z2 := hb2.cell (k := 2) (v := .string b) rfl
    have z3 := hb2.cell (k := 3) (v := .int .u8 n) rfl
    have z4 := hb2.cell (k := 4) (v := .int .u8 q) rfl
    have hr := right_calls w2 ⟨k, mkS x, b, n, q⟩ 97
    cases hv : rightV ⟨k, mkS x, b, n, q⟩ 97
    · rw [hv] at hr
      have HE := hid (rdSign_fail HP.out he hv)
      clear he hE hv
      go_wp2_with fail
      refine hr.mono ?_
      rintro e w4 ⟨rfl, f4⟩
      have hb4 := hb2.fr f4 id
      have h4 := h2.fr f4 (fun _ _ _ => id)
      have F4 := F.then' (f4.mono (T := orB S po) fun _ _ h => h.elim)
      clear hr z0 z1 z2 z3 z4 hb2 h2 F f4
      go_wp2_with fail
      refine (fail_calls w4 S p r1 4 h4).mono ?_
      rintro e w5 ⟨rfl, h5, f5⟩
      have hb5 := hb4.fr f5 hS
      have F5 := F4.then' (f5.mono (T := orB S po) fun _ _ h => Or.inl h)
      clear hb4 h4 F4 f5
      go_wp2_with fail
      go_end0
      rw [HE.out]
      exact ⟨rfl, hb5, h5, F5⟩
    · rw [hv] at hr
      have HE := hid (rdSign_keep HP.out (Or.inr hv))
      clear he hE hv
      go_wp2_with fail
      refine hr.mono ?_
      rintro e w4 ⟨rfl, f4⟩
      have hb4 := hb2.fr f4 id
      have h4 := h2.fr f4 (fun _ _ _ => id)
      have F4 := F.then' (f4.mono (T := orB S po) fun _ _ h => h.elim)
      clear hr z0 z1 z2 z3 z4 hb2 h2 F f4
      go_wp2_with fail
      go_end0
      rw [HE.out]
      exact ⟨rfl, hb4, h4, F4⟩
  · have t1 : ((r1.e : Int) == 0) = false := by rw [beq_eq_false_iff_ne]; omega
    have HE := hid (rdSign_keep HP.out (Or.inl he))
    generalize hre : (r1.e : Int) = re at *
    have HRE := hid hre
    clear he hre
    refine hE.mono ?_
    rintro e w3 ⟨rfl, rfl⟩
    clear hE
    go_wp2_with fail
    go_end0
    rw [HE.out]
    exact ⟨rfl, hb2, h2, F⟩

set_option maxHeartbeats 1600000 in
theorem opread98_calls (w : World) (S : Nat → Prop) (po p : Nat) (o : OpV) (r : Rd) (hb : BlkAt w po 38 o.C) (h : RdAt w S p r) (hS : ¬ S po) :
    Calls Tryd.prog 86 #[.pointer (some ⟨po, 0, none⟩), .pointer (some ⟨p, 0, none⟩), .int .u8 98] w (SignPost w S po p (rdSign (o, r) 98)) := by
  obtain ⟨k, a, b, n, q⟩ := o
  have HP : Hid (rdPart ⟨k, a, b, n, q⟩ r 98 = (⟨k, a, mkS (rText r 65535).2, n, q⟩, (rText r 65535).1)) := rfl
  have hcl := optext_calls w S p r h
  generalize (rText r 65535) = rr at *
  obtain ⟨r1, x⟩ := rr
  simp only [] at *
  have xf : w.frozen? ⟨po, 2, none⟩ = false := hb.free _
  have x0 := hb.cell (k := 2) (v := .string b) rfl
  go_enter Tryd.func86, Tryd.ntmps86
  go_wp2_with fail
  refine hcl.mono ?_
  rintro e w1 ⟨rfl, h1, f1⟩
  have hb1 := hb.fr f1 hS
  have yf : w1.frozen? ⟨po, 2, none⟩ = false := hb1.free _
  have y0 := hb1.cell (k := 2) (v := .string b) rfl
  have fs := fr_set1 w1 po 2 (.string (mkS x))
  have hb2 : BlkAt (w1.setCell ⟨po, 2, none⟩ (.string (mkS x))) po 38 (⟨k, a, mkS x, n, q⟩ : OpV).C := by simpa [OpV.C] using hb1.set 2 (.string (mkS x))
  have h2 := h1.fr fs (fun j hj hs e => hS (by unfold eqB at e; exact e ▸ hs))
  have F : Fr (orB S po) w (w1.setCell ⟨po, 2, none⟩ (.string (mkS x))) := (f1.mono fun _ _ h => Or.inl h).then' (fs.mono fun _ _ h => Or.inr h)
  clear f1 h1 hb1 fs hcl hb h x0 xf
  go_wp2_with fail
  generalize (w1.setCell ⟨po, 2, none⟩ (.string (mkS x))) = w2 at *
  have hE := errRd_calls w2 S p r1 h2
  by_cases he : r1.e = 0
  · rw [he] at hE
    refine hE.mono ?_
    rintro e w3 ⟨rfl, rfl⟩
    have z0 := hb2.cell (k := 0) (v := .int .u8 k) rfl
    have z1 := hb2.cell (k := 1) (v := .string a) rfl
    have z2 := hb2.cell (k := 2) (v := .string (mkS x)) rfl
    have z3 := hb2.cell (k := 3) (v := .int .u8 n) rfl
    have z4 := hb2.cell (k := 4) (v := .int .u8 q) rfl
    have hr := right_calls w2 ⟨k, a, mkS x, n, q⟩ 98
    cases hv : rightV ⟨k, a, mkS x, n, q⟩ 98
    · rw [hv] at hr
      have HE := hid (rdSign_fail HP.out he hv)
      clear he hE hv
      go_wp2_with fail
      refine hr.mono ?_
      rintro e w4 ⟨rfl, f4⟩
      have hb4 := hb2.fr f4 id
      have h4 := h2.fr f4 (fun _ _ _ => id)
      have F4 := F.then' (f4.mono (T := orB S po) fun _ _ h => h.elim)
      clear hr z0 z1 z2 z3 z4 hb2 h2 F f4
      go_wp2_with fail
      refine (fail_calls w4 S p r1 4 h4).mono ?_
      rintro e w5 ⟨rfl, h5, f5⟩
      have hb5 := hb4.fr f5 hS
      have F5 := F4.then' (f5.mono (T := orB S po) fun _ _ h => Or.inl h)
      clear hb4 h4 F4 f5
      go_wp2_with fail
      go_end0
      rw [HE.out]
      exact ⟨rfl, hb5, h5, F5⟩
    · rw [hv] at hr
      have HE := hid (rdSign_keep HP.out (Or.inr hv))
      clear he hE hv
      go_wp2_with fail
      refine hr.mono ?_
      rintro e w4 ⟨rfl, f4⟩
      have hb4 := hb2.fr f4 id
      have h4 := h2.fr f4 (fun _ _ _ => id)
      have F4 := F.then' (f4.mono (T := orB S po) fun _ _ h => h.elim)
      clear hr z0 z1 z2 z3 z4 hb2 h2 F f4
      go_wp2_with fail
      go_end0
      rw [HE.out]
      exact ⟨rfl, hb4, h4, F4⟩
  · have t1 : ((r1.e : Int) == 0) = false := by rw [beq_eq_false_iff_ne]; omega
    have HE := hid (rdSign_keep HP.out (Or.inl he))
    generalize hre : (r1.e : Int) = re at *
    have HRE := hid hre
    clear he hre
    refine hE.mono ?_
    rintro e w3 ⟨rfl, rfl⟩
    clear hE
    go_wp2_with fail
    go_end0
    rw [HE.out]
    exact ⟨rfl, hb2, h2, F⟩

set_option maxHeartbeats 1600000 in
theorem opread110_calls (w : World) (S : Nat → Prop) (po p : Nat) (o : OpV) (r : Rd) (hb : BlkAt w po 38 o.C) (h : RdAt w S p r) (hS : ¬ S po) :
    Calls Tryd.prog 86 #[.pointer (some ⟨po, 0, none⟩), .pointer (some ⟨p, 0, none⟩), .int .u8 110] w (SignPost w S po p (rdSign (o, r) 110)) := by
  obtain ⟨k, a, b, n, q⟩ := o
  have HP : Hid (rdPart ⟨k, a, b, n, q⟩ r 110 = (⟨k, a, b, (rNum r 1).2, q⟩, (rNum r 1).1)) := rfl
  have hcl := byteRd_calls w S p r h
  generalize (rNum r 1) = rr at *
  obtain ⟨r1, x⟩ := rr
  simp only [] at *
  have xf : w.frozen? ⟨po, 3, none⟩ = false := hb.free _
  have x0 := hb.cell (k := 3) (v := .int .u8 n) rfl
  go_enter Tryd.func86, Tryd.ntmps86
  go_wp2_with fail
  refine hcl.mono ?_
  rintro e w1 ⟨rfl, h1, f1⟩
  have hb1 := hb.fr f1 hS
  have yf : w1.frozen? ⟨po, 3, none⟩ = false := hb1.free _
  have y0 := hb1.cell (k := 3) (v := .int .u8 n) rfl
  have fs := fr_set1 w1 po 3 (.int .u8 (x : Nat))
  have hb2 : BlkAt (w1.setCell ⟨po, 3, none⟩ (.int .u8 (x : Nat))) po 38 (⟨k, a, b, x, q⟩ : OpV).C := by simpa [OpV.C] using hb1.set 3 (.int .u8 (x : Nat))
  have h2 := h1.fr fs (fun j hj hs e => hS (by unfold eqB at e; exact e ▸ hs))
  have F : Fr (orB S po) w (w1.setCell ⟨po, 3, none⟩ (.int .u8 (x : Nat))) := (f1.mono fun _ _ h => Or.inl h).then' (fs.mono fun _ _ h => Or.inr h)
  clear f1 h1 hb1 fs hcl hb h x0 xf
  go_wp2_with fail
  generalize (w1.setCell ⟨po, 3, none⟩ (.int .u8 (x : Nat))) = w2 at *
  have hE := errRd_calls w2 S p r1 h2
  by_cases he : r1.e = 0
  · rw [he] at hE
    refine hE.mono ?_
    rintro e w3 ⟨rfl, rfl⟩
    have z0 := hb2.cell (k := 0) (v := .int .u8 k) rfl
    have z1 := hb2.cell (k := 1) (v := .string a) rfl
    have z2 := hb2.cell (k := 2) (v := .string b) rfl
    have z3 := hb2.cell (k := 3) (v := .int .u8 x) rfl
    have z4 := hb2.cell (k := 4) (v := .int .u8 q) rfl
    have hr := right_calls w2 ⟨k, a, b, x, q⟩ 110
    cases hv : rightV ⟨k, a, b, x, q⟩ 110
    · rw [hv] at hr
      have HE := hid (rdSign_fail HP.out he hv)
      clear he hE hv
      go_wp2_with fail
      refine hr.mono ?_
      rintro e w4 ⟨rfl, f4⟩
      have hb4 := hb2.fr f4 id
      have h4 := h2.fr f4 (fun _ _ _ => id)
      have F4 := F.then' (f4.mono (T := orB S po) fun _ _ h => h.elim)
      clear hr z0 z1 z2 z3 z4 hb2 h2 F f4
      go_wp2_with fail
      refine (fail_calls w4 S p r1 4 h4).mono ?_
      rintro e w5 ⟨rfl, h5, f5⟩
      have hb5 := hb4.fr f5 hS
      have F5 := F4.then' (f5.mono (T := orB S po) fun _ _ h => Or.inl h)
      clear hb4 h4 F4 f5
      go_wp2_with fail
      go_end0
      rw [HE.out]
      exact ⟨rfl, hb5, h5, F5⟩
    · rw [hv] at hr
      have HE := hid (rdSign_keep HP.out (Or.inr hv))
      clear he hE hv
      go_wp2_with fail
      refine hr.mono ?_
      rintro e w4 ⟨rfl, f4⟩
      have hb4 := hb2.fr f4 id
      have h4 := h2.fr f4 (fun _ _ _ => id)
      have F4 := F.then' (f4.mono (T := orB S po) fun _ _ h => h.elim)
      clear hr z0 z1 z2 z3 z4 hb2 h2 F f4
      go_wp2_with fail
      go_end0
      rw [HE.out]
      exact ⟨rfl, hb4, h4, F4⟩
  · have t1 : ((r1.e : Int) == 0) = false := by rw [beq_eq_false_iff_ne]; omega
    have HE := hid (rdSign_keep HP.out (Or.inl he))
    generalize hre : (r1.e : Int) = re at *
    have HRE := hid hre
    clear he hre
    refine hE.mono ?_
    rintro e w3 ⟨rfl, rfl⟩
    clear hE
    go_wp2_with fail
    go_end0
    rw [HE.out]
    exact ⟨rfl, hb2, h2, F⟩

set_option maxHeartbeats 1600000 in
theorem opread114_calls (w : World) (S : Nat → Prop) (po p : Nat) (o : OpV) (r : Rd) (hb : BlkAt w po 38 o.C) (h : RdAt w S p r) (hS : ¬ S po) :
    Calls Tryd.prog 86 #[.pointer (some ⟨po, 0, none⟩), .pointer (some ⟨p, 0, none⟩), .int .u8 114] w (SignPost w S po p (rdSign (o, r) 114)) := by
  obtain ⟨k, a, b, n, q⟩ := o
  have HP : Hid (rdPart ⟨k, a, b, n, q⟩ r 114 = (⟨k, a, b, n, (rNum r 1).2⟩, (rNum r 1).1)) := rfl
  have hcl := byteRd_calls w S p r h
  generalize (rNum r 1) = rr at *
  obtain ⟨r1, x⟩ := rr
  simp only [] at *
  have xf : w.frozen? ⟨po, 4, none⟩ = false := hb.free _
  have x0 := hb.cell (k := 4) (v := .int .u8 q) rfl
  go_enter Tryd.func86, Tryd.ntmps86
  go_wp2_with fail
  refine hcl.mono ?_
  rintro e w1 ⟨rfl, h1, f1⟩
  have hb1 := hb.fr f1 hS
  have yf : w1.frozen? ⟨po, 4, none⟩ = false := hb1.free _
  have y0 := hb1.cell (k := 4) (v := .int .u8 q) rfl
  have fs := fr_set1 w1 po 4 (.int .u8 (x : Nat))
  have hb2 : BlkAt (w1.setCell ⟨po, 4, none⟩ (.int .u8 (x : Nat))) po 38 (⟨k, a, b, n, x⟩ : OpV).C := by simpa [OpV.C] using hb1.set 4 (.int .u8 (x : Nat))
  have h2 := h1.fr fs (fun j hj hs e => hS (by unfold eqB at e; exact e ▸ hs))
  have F : Fr (orB S po) w (w1.setCell ⟨po, 4, none⟩ (.int .u8 (x : Nat))) := (f1.mono fun _ _ h => Or.inl h).then' (fs.mono fun _ _ h => Or.inr h)
  clear f1 h1 hb1 fs hcl hb h x0 xf
  go_wp2_with fail
  generalize (w1.setCell ⟨po, 4, none⟩ (.int .u8 (x : Nat))) = w2 at *
  have hE := errRd_calls w2 S p r1 h2
  by_cases he : r1.e = 0
  · rw [he] at hE
    refine hE.mono ?_
    rintro e w3 ⟨rfl, rfl⟩
    have z0 := hb2.cell (k := 0) (v := .int .u8 k) rfl
    have z1 := hb2.cell (k := 1) (v := .string a) rfl
    have z2 := hb2.cell (k := 2) (v := .string b) rfl
    have z3 := hb2.cell (k := 3) (v := .int .u8 n) rfl
    have z4 := hb2.cell (k := 4) (v := .int .u8 x) rfl
    have hr := right_calls w2 ⟨k, a, b, n, x⟩ 114
    cases hv : rightV ⟨k, a, b, n, x⟩ 114
    · rw [hv] at hr
      have HE := hid (rdSign_fail HP.out he hv)
      clear he hE hv
      go_wp2_with fail
      refine hr.mono ?_
      rintro e w4 ⟨rfl, f4⟩
      have hb4 := hb2.fr f4 id
      have h4 := h2.fr f4 (fun _ _ _ => id)
      have F4 := F.then' (f4.mono (T := orB S po) fun _ _ h => h.elim)
      clear hr z0 z1 z2 z3 z4 hb2 h2 F f4
      go_wp2_with fail
      refine (fail_calls w4 S p r1 4 h4).mono ?_
      rintro e w5 ⟨rfl, h5, f5⟩
      have hb5 := hb4.fr f5 hS
      have F5 := F4.then' (f5.mono (T := orB S po) fun _ _ h => Or.inl h)
      clear hb4 h4 F4 f5
      go_wp2_with fail
      go_end0
      rw [HE.out]
      exact ⟨rfl, hb5, h5, F5⟩
    · rw [hv] at hr
      have HE := hid (rdSign_keep HP.out (Or.inr hv))
      clear he hE hv
      go_wp2_with fail
      refine hr.mono ?_
      rintro e w4 ⟨rfl, f4⟩
      have hb4 := hb2.fr f4 id
      have h4 := h2.fr f4 (fun _ _ _ => id)
      have F4 := F.then' (f4.mono (T := orB S po) fun _ _ h => h.elim)
      clear hr z0 z1 z2 z3 z4 hb2 h2 F f4
      go_wp2_with fail
      go_end0
      rw [HE.out]
      exact ⟨rfl, hb4, h4, F4⟩
  · have t1 : ((r1.e : Int) == 0) = false := by rw [beq_eq_false_iff_ne]; omega
    have HE := hid (rdSign_keep HP.out (Or.inl he))
    generalize hre : (r1.e : Int) = re at *
    have HRE := hid hre
    clear he hre
    refine hE.mono ?_
    rintro e w3 ⟨rfl, rfl⟩
    clear hE
    go_wp2_with fail
    go_end0
    rw [HE.out]
    exact ⟨rfl, hb2, h2, F⟩
theorem opread_calls (w : World) (S : Nat → Prop) (po p : Nat) (o : OpV) (r : Rd) (c : UInt8) (hb : BlkAt w po 38 o.C) (h : RdAt w S p r) (hS : ¬ S po) (hc : c = 97 ∨ c = 98 ∨ c = 110 ∨ c = 114) :
    Calls Tryd.prog 86 #[.pointer (some ⟨po, 0, none⟩), .pointer (some ⟨p, 0, none⟩), .int .u8 c.toNat] w (SignPost w S po p (rdSign (o, r) c)) := by
  rcases hc with rfl | rfl | rfl | rfl
  · exact opread97_calls w S po p o r hb h hS
  · exact opread98_calls w S po p o r hb h hS
  · exact opread110_calls w S po p o r hb h hS
  · exact opread114_calls w S po p o r hb h hS
end Go.Proofs.YtcaihinenfnekaaDoor
/- op.Read. -/
namespace Go.Proofs.YtcaihinenfnekaaDoor
open Go.RowKit

def zeroOp : OpV := ⟨0, ⟨#[]⟩, ⟨#[]⟩, 0, 0⟩
def opRd (bs : List UInt8) : Rd × Nat := rNum ⟨bs, 0⟩ 1
def opIn (bs : List UInt8) : OpV × Rd := if (opRd bs).1.e = 0 then (signsL.getD (opRd bs).2 []).foldl rdSign (⟨(opRd bs).2, ⟨#[]⟩, ⟨#[]⟩, 0, 0⟩, (opRd bs).1) else (⟨(opRd bs).2, ⟨#[]⟩, ⟨#[]⟩, 0, 0⟩, (opRd bs).1)
/-- op.Read, as a function. -/
def opRead (bs : List UInt8) : OpV × Nat :=
  if 64 < bs.length then (zeroOp, 3) else if 17 ≤ (opRd bs).2 then (zeroOp, 4) else if rEnd (opIn bs).2 = 0 then ((opIn bs).1, 0) else (zeroOp, rEnd (opIn bs).2)
def OpEPost (w : World) (q : OpV × Nat) (e : Ending) (w' : World) : Prop := e = .returned (.tuple #[q.1.v, .int .i64 (q.2 : Nat)]) ∧ Fr noB w w'
theorem rdSigns_snoc (s : OpV × Rd) {z : List UInt8} {k : Nat} {c : UInt8} (hc : z[k]? = some c) : (z.take (k + 1)).foldl rdSign s = rdSign ((z.take k).foldl rdSign s) c := by
  rw [take_snoc' hc, List.foldl_append]; rfl
theorem fr_set5 (w : World) (b : Nat) (u0 u1 u2 u3 u4 : Value) : Fr (eqB b) w (((((w.setCell ⟨b, 0, none⟩ u0).setCell ⟨b, 1, none⟩ u1).setCell ⟨b, 2, none⟩ u2).setCell ⟨b, 3, none⟩ u3).setCell ⟨b, 4, none⟩ u4) :=
  ((((fr_set1 w b 0 u0).then' (fr_set1 _ b 1 u1)).then' (fr_set1 _ b 2 u2)).then' (fr_set1 _ b 3 u3)).then' (fr_set1 _ b 4 u4)

set_option maxRecDepth 100000 in
set_option maxHeartbeats 1600000 in
theorem opRead_calls (w : World) (A : Option Addr) (n c : Nat) (bs : List UInt8) (ht : SignsAt w) (hx : RowAt w A (bcells bs)) (hn : bs.length = n) (hB : A = none → n = 0 ∧ c = 0) :
    Calls Tryd.prog 42 #[.slice A n c] w (OpEPost w (opRead bs)) := by
  have hb0 : BlkAt (w.alloc (.cells #[.int .u8 0, .string ⟨#[]⟩, .string ⟨#[]⟩, .int .u8 0, .int .u8 0] 38)) w.heap.size 38 zeroOp.C := BlkAt.new _ _ _
  have f0 : Fr noB w (w.alloc (.cells #[.int .u8 0, .string ⟨#[]⟩, .string ⟨#[]⟩, .int .u8 0, .int .u8 0] 38)) := (Fr.refl noB w).alloc _
  have hz0 := al_size w (.cells #[.int .u8 0, .string ⟨#[]⟩, .string ⟨#[]⟩, .int .u8 0, .int .u8 0] 38)
  by_cases h64 : 64 < n
  · have d1 : decide ((64 : Int) < n) = true := decide_eq_true (by omega)
    have HV : Hid (opRead bs = (zeroOp, 3)) := by unfold Hid opRead; rw [if_pos (by omega)]
    clear hn h64
    go_enter Tryd.func42, Tryd.ntmps42
    go_wp2_with fail
    have hr : Tryd.f42.results = #[.cell 2 38, .tmp 3] := by kernel_rfl
    exact bodyPost_ret (v := .tuple #[zeroOp.v, .int .i64 3]) (by simp [results, hr, go_sem, zeroOp, OpV.v]) rfl ⟨by rw [HV.out]; rfl, f0⟩
  · have d1 : decide ((64 : Int) < n) = false := decide_eq_false (by omega)
    have hoc := of_calls (w.alloc (.cells #[.int .u8 0, .string ⟨#[]⟩, .string ⟨#[]⟩, .int .u8 0, .int .u8 0] 38)) A n c bs (hx.fr0 f0) hn hB (by omega)
    have HR : Hid (opRead bs = if 17 ≤ (opRd bs).2 then (zeroOp, 4) else if rEnd (opIn bs).2 = 0 then ((opIn bs).1, 0) else (zeroOp, rEnd (opIn bs).2)) := by
      show opRead bs = _
      conv => lhs; unfold opRead
      rw [if_neg (by omega)]
    clear hn h64 hx
    go_enter Tryd.func42, Tryd.ntmps42
    go_wp2_with fail
    refine hoc.mono ?_
    rintro e w1 ⟨p, rfl, hp1, hp2, h1, f1⟩
    have hi1 := h1.inn
    obtain ⟨S, hS, HSd⟩ : ∃ S : Nat → Prop, RdAt w1 S p ⟨bs, 0⟩ ∧ ∀ k, S k → w.heap.size < k ∧ k < w1.heap.size := ⟨_, hi1, fun k hk => by have := hk.1; unfold upB at this; omega⟩
    have hb1 := hb0.fr f1 id
    have F1 := f0.then' f1
    clear h1 hi1 f1 f0 hb0 hoc
    go_wp2_with fail
    refine (byteRd_calls w1 S p ⟨bs, 0⟩ hS).mono ?_
    have hk2 := rNum_lt ⟨bs, 0⟩ 1
    have HO : Hid (opRd bs = rNum ⟨bs, 0⟩ 1) := rfl
    generalize rNum ⟨bs, 0⟩ 1 = q at *
    obtain ⟨r, k⟩ := q
    simp only [] at *
    rintro e w2 ⟨rfl, h2, f2⟩
    have hb2 := hb1.fr f2 (fun h => by have := HSd _ h; omega)
    have F2 : Fr noB w w2 := F1.trans f2 (fun i hi h => by have := HSd _ h; omega)
    have hs2 := f2.size
    clear hS hb1 F1 f2
    have hbo : BlkAt (w2.alloc (.cells #[.int .u8 k, .string ⟨#[]⟩, .string ⟨#[]⟩, .int .u8 0, .int .u8 0] 38)) w2.heap.size 38 (⟨k, ⟨#[]⟩, ⟨#[]⟩, 0, 0⟩ : OpV).C := BlkAt.new _ _ _
    have hb3 := hb2.al (.cells #[.int .u8 k, .string ⟨#[]⟩, .string ⟨#[]⟩, .int .u8 0, .int .u8 0] 38)
    have h3 := h2.fr ((Fr.refl noB w2).alloc (.cells #[.int .u8 k, .string ⟨#[]⟩, .string ⟨#[]⟩, .int .u8 0, .int .u8 0] 38)) (fun _ _ _ => id)
    have F3 := F2.alloc (.cells #[.int .u8 k, .string ⟨#[]⟩, .string ⟨#[]⟩, .int .u8 0, .int .u8 0] 38)
    have hs3 := al_size w2 (.cells #[.int .u8 k, .string ⟨#[]⟩, .string ⟨#[]⟩, .int .u8 0, .int .u8 0] 38)
    obtain ⟨po, hpo⟩ : ∃ po, w2.heap.size = po := ⟨_, rfl⟩
    obtain ⟨y0, y1, y2, y3, y4, yf⟩ := BlkAt.c5 hb3
    clear hb2 h2 F2
    by_cases h17 : 17 ≤ k
    · have d2 : decide ((17 : Int) ≤ k) = true := decide_eq_true (by omega)
      rw [HO.out, if_pos h17] at HR
      clear h17 HO
      go_wp2_with fail
      generalize (w2.alloc (.cells #[.int .u8 k, .string ⟨#[]⟩, .string ⟨#[]⟩, .int .u8 0, .int .u8 0] 38)) = w3 at *
      have hr : Tryd.f42.results = #[.cell 2 38, .tmp 3] := by kernel_rfl
      exact bodyPost_ret (v := .tuple #[zeroOp.v, .int .i64 4]) (by simp [results, hr, go_sem, zeroOp, OpV.v, y0, y1, y2, y3, y4]) rfl ⟨by rw [HR.out]; rfl, F3.trans (fr_set5 w3 w.heap.size _ _ _ _ _) (fun i hi h => by unfold eqB at h; omega)⟩
    · have d2 : decide ((17 : Int) ≤ k) = false := decide_eq_false (by omega)
      rw [HO.out, if_neg h17] at HR
      obtain ⟨z, hz⟩ : ∃ z, signsL[k]? = some z := ⟨_, List.getElem?_eq_getElem (by simp [signsL]; omega)⟩
      have hok := signs_ok z (List.mem_of_getElem? hz)
      have hz2 := signs_two z (List.mem_of_getElem? hz)
      have hkb : 0 ≤ (k : Int) ∧ (k : Int) < 17 := ⟨by omega, by omega⟩
      have HI : Hid (opIn bs = if r.e = 0 then z.foldl rdSign (⟨k, ⟨#[]⟩, ⟨#[]⟩, 0, 0⟩, r) else (⟨k, ⟨#[]⟩, ⟨#[]⟩, 0, 0⟩, r)) := by
        show opIn bs = _
        unfold opIn; rw [HO.out, List.getD_eq_getElem?_getD, hz]; rfl
      have cz := F3.cell (ht k _ hz) id
      have hE := errRd_calls _ S p r h3
      have x0 := hbo.cell (k := 0) (v := .int .u8 k) rfl
      have hpS : ¬ S po := fun h => by have := HSd _ h; omega
      have hpw : w.heap.size < po := by have := F3.size; omega
      rw [hpo] at hbo hs3 x0
      have HZ := hid hz
      clear h17 HO hk2 hz
      go_wp2_with fail
      generalize (w2.alloc (.cells #[.int .u8 k, .string ⟨#[]⟩, .string ⟨#[]⟩, .int .u8 0, .int .u8 0] 38)) = w3 at *
      have hr : Hid (Tryd.f42.results = #[.cell 2 38, .tmp 3]) := by unfold Hid; kernel_rfl
      by_cases he : r.e = 0
      · rw [HI.out, if_pos he] at HR
        clear HI
        rw [he] at hE
        refine hE.mono ?_
        rintro e w4 ⟨rfl, rfl⟩
        have hcv := Tryd.fromStr w3 (mkS z)
        have hwf := bytesW_fr w3 (mkS z)
        have hwr := bytesW_row w3 (mkS z)
        rw [mkS_data] at hwr
        rw [mkS_size] at hcv
        generalize Lib.bytesWorld w3 5 (mkS z) = wc at *
        have had : ¬ orB S po (⟨w3.heap.size, 0, none⟩ : Addr).block := by
          rintro (h | h)
          · have := HSd _ h; simp only [] at this; omega
          · simp only [] at h; omega
        generalize (⟨w3.heap.size, 0, none⟩ : Addr) = ad at *
        have FC := F3.then' hwf
        have hbc := hbo.fr hwf id
        have hrc := h3.fr hwf (fun _ _ _ => id)
        have hb0 := hb3.fr hwf id
        obtain ⟨m, hm⟩ : ∃ m, z.length = m := ⟨_, rfl⟩
        rw [hm] at hcv hz2
        have HM := hid hm
        have hs4 := hwf.size
        clear hm hE hbo h3 hb3 hwf F3 he y0 y1 y2 y3 y4 yf hpo HZ hB ht
        go_wp2_with fail
        have HRW := hid hwr
        clear hwr hcv cz x0
        go_loopw [32] (fun i wr => ∃ j : Nat, j ≤ m ∧ i = .int .i64 j ∧ BlkAt wr po 38 ((z.take j).foldl rdSign (⟨k, ⟨#[]⟩, ⟨#[]⟩, 0, 0⟩, r)).1.C ∧ RdAt wr S p ((z.take j).foldl rdSign (⟨k, ⟨#[]⟩, ⟨#[]⟩, 0, 0⟩, r)).2 ∧ BlkAt wr w.heap.size 38 zeroOp.C ∧ Fr noB w wr ∧ RowAt wr (some ad) (bcells z)) (fun i _ => m - (intOf i).toNat)
        case atStart => exact ⟨0, Nat.zero_le _, rfl, hbc, hrc, hb0, FC, HRW.out⟩
        case round =>
          clear hbc hrc hb0 FC HRW
          obtain ⟨j, hj, rfl, hb1, hr1, hz1, hf, hrow⟩ := hrel
          by_cases hjm : j < m
          · obtain ⟨c, hc⟩ : ∃ c, z[j]? = some c := ⟨_, List.getElem?_eq_getElem (by rw [HM.out]; exact hjm)⟩
            have hcx : wr.cell? (ad.add j) = some (.int .u8 c.toNat) := hrow.cell (by unfold bcells; rw [List.getElem?_map, hc]; rfl)
            have HS := hid (rdSigns_snoc (⟨k, ⟨#[]⟩, ⟨#[]⟩, 0, 0⟩, r) hc)
            have hc4 := hok c (List.mem_of_getElem? hc)
            generalize (z.take j).foldl rdSign (⟨k, ⟨#[]⟩, ⟨#[]⟩, 0, 0⟩, r) = s at *
            obtain ⟨o', r'⟩ := s
            have HN := hid hc
            clear hc
            go_wp2_with fail
            refine (opread_calls wr S po p o' r' c hb1 hr1 hpS hc4).mono ?_
            rintro e w5 ⟨rfl, hb5, hr5, f5⟩
            have hz5 := hz1.fr f5 (by
              rintro (h | h)
              · have := HSd _ h; omega
              · omega)
            have F5 := hf.trans f5 (fun i hi h => by
              rcases h with h | h
              · have := HSd _ h; omega
              · omega)
            have hrow5 := hrow.fr f5 (fun a e _ _ => by cases e; exact had)
            clear f5 hb1 hr1 hz1 hf hrow hcx
            go_wp2_with fail
            go_roundw
            case rel => exact ⟨j + 1, by omega, by go_num, by rw [HS.out]; exact hb5, by rw [HS.out]; exact hr5, hz5, F5, hrow5⟩
            case measure => simp [intOf]; omega
          · have : j = m := by omega
            subst this
            rw [List.take_of_length_le (by rw [HM.out]; exact Nat.le_refl _)] at hb1 hr1
            generalize z.foldl rdSign (⟨k, ⟨#[]⟩, ⟨#[]⟩, 0, 0⟩, r) = s at *
            obtain ⟨o', r'⟩ := s
            simp only [] at hb1 hr1 HR
            clear hrow
            have hE := endRd_calls wr S p r' hr1
            by_cases h0 : rEnd r' = 0
            · rw [if_pos h0] at HR
              rw [h0] at hE
              obtain ⟨q0, q1, q2, q3, q4, qf⟩ := BlkAt.c5 hb1
              obtain ⟨y0, y1, y2, y3, y4, yf⟩ := BlkAt.c5 hz1
              have FF := hf.trans (fr_set5 wr w.heap.size (.int .u8 o'.k) (.string o'.a) (.string o'.b) (.int .u8 o'.n) (.int .u8 o'.r)) (fun i hi h => by unfold eqB at h; omega)
              clear h0
              go_wp2_with fail
              refine hE.mono ?_
              rintro e w6 ⟨rfl, rfl⟩
              go_wp2_with fail
              have hr := hr.out
              exact bodyPost_ret (v := .tuple #[o'.v, .int .i64 0]) (by simp [results, hr, go_sem, OpV.v, y0, y1, y2, y3, y4]) rfl ⟨by rw [HR.out] <;> rfl, FF⟩
            · rw [if_neg h0] at HR
              generalize rEnd r' = re at *
              have t1 : ((re : Int) != 0) = true := by rw [bne_iff_ne]; omega
              obtain ⟨y0, y1, y2, y3, y4, yf⟩ := BlkAt.c5 hz1
              have FF := hf.trans (fr_set5 wr w.heap.size (.int .u8 0) (.string ⟨#[]⟩) (.string ⟨#[]⟩) (.int .u8 0) (.int .u8 0)) (fun i hi h => by unfold eqB at h; omega)
              clear h0
              go_wp2_with fail
              refine hE.mono ?_
              rintro e w6 ⟨rfl, rfl⟩
              go_wp2_with fail
              have hr := hr.out
              exact bodyPost_ret (v := .tuple #[zeroOp.v, .int .i64 re]) (by simp [results, hr, go_sem, zeroOp, OpV.v, y0, y1, y2, y3, y4]) rfl ⟨by rw [HR.out] <;> rfl, FF⟩
      · rw [HI.out, if_neg he] at HR
        simp only [] at HR
        clear HI
        have t1 : ((r.e : Int) == 0) = false := by rw [beq_eq_false_iff_ne]; omega
        generalize hre : (r.e : Int) = re1 at *
        refine hE.mono ?_
        rintro e w4 ⟨rfl, rfl⟩
        clear hE cz hre he x0
        obtain ⟨o', ho'⟩ : ∃ o' : OpV, (⟨k, ⟨#[]⟩, ⟨#[]⟩, 0, 0⟩ : OpV) = o' := ⟨_, rfl⟩
        rw [ho'] at hbo HR
        have hE := endRd_calls w3 S p r h3
        by_cases h0 : rEnd r = 0
        · rw [if_pos h0] at HR
          rw [h0] at hE
          obtain ⟨q0, q1, q2, q3, q4, qf⟩ := BlkAt.c5 hbo
          obtain ⟨y0, y1, y2, y3, y4, yf⟩ := BlkAt.c5 hb3
          have FF := F3.trans (fr_set5 w3 w.heap.size (.int .u8 o'.k) (.string o'.a) (.string o'.b) (.int .u8 o'.n) (.int .u8 o'.r)) (fun i hi h => by unfold eqB at h; omega)
          clear h0
          go_wp2_with fail
          refine hE.mono ?_
          rintro e w6 ⟨rfl, rfl⟩
          go_wp2_with fail
          have hr := hr.out
          exact bodyPost_ret (v := .tuple #[o'.v, .int .i64 0]) (by simp [results, hr, go_sem, OpV.v, y0, y1, y2, y3, y4]) rfl ⟨by rw [HR.out] <;> rfl, FF⟩
        · rw [if_neg h0] at HR
          generalize rEnd r = re at *
          have t1 : ((re : Int) != 0) = true := by rw [bne_iff_ne]; omega
          obtain ⟨y0, y1, y2, y3, y4, yf⟩ := BlkAt.c5 hb3
          have FF := F3.trans (fr_set5 w3 w.heap.size (.int .u8 0) (.string ⟨#[]⟩) (.string ⟨#[]⟩) (.int .u8 0) (.int .u8 0)) (fun i hi h => by unfold eqB at h; omega)
          clear h0
          go_wp2_with fail
          refine hE.mono ?_
          rintro e w6 ⟨rfl, rfl⟩
          go_wp2_with fail
          have hr := hr.out
          exact bodyPost_ret (v := .tuple #[zeroOp.v, .int .i64 re]) (by simp [results, hr, go_sem, zeroOp, OpV.v, y0, y1, y2, y3, y4]) rfl ⟨by rw [HR.out] <;> rfl, FF⟩
end Go.Proofs.YtcaihinenfnekaaDoor
