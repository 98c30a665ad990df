/- What the row leans on, part 2: contracts and plain laws. -/
import Derived.Test.YtpkdcbfhacgklaaProg
import Derived.WalkKit
import Derived.Maps.AppendAt
import Derived.Lib.AppendStr
import Derived.Laws.AppendOwnNone
import Derived.Deep.Draws
import Derived.WalkSpells
import Derived.Laws.IdiomStrings
import Derived.Lib.ConvBytes
import Derived.Defers
import Derived.Laws.Pointers
import Derived.Laws.LoneSync
import Derived.RegionTactic
import Derived.RegionCalls
import Derived.ChangeAlike
import Derived.Laws.NewBlocks
import Derived.Laws.Bits64b
import Derived.Lib.SlBytesConst
import Derived.LaidEqlPtr
import Derived.Deep.RegionHeld3
import Derived.Deep.Cut
import Derived.SliceStrings
import Derived.Deep.Slices
import Derived.Laws.ResultCell
import Derived.Test.YtpkdcbfhacgklaaLawFrameSplitsB1
/- A region that draws its order, op by op: what each operation leaves holds whatever else has come up before it. -/
namespace Go.Proofs.Ytpkdcbfhacgklaa
open Go.RowKit

/-- What a slot may hold, kept by every step of R. -/
structure Stb (R : World → World → Prop) where
  V : Value → World → Prop
  st : ∀ v w w', V v w → R w w' → V v w'
def eqv {R : World → World → Prop} (x : Value) : Stb R := ⟨fun v _ => v = x, fun _ _ _ h _ => h⟩
def anyv {R : World → World → Prop} : Stb R := ⟨fun _ _ => True, fun _ _ _ _ _ => trivial⟩

section
variable {P : Program} {ops : Array Oper} {Q : Exit → Act → World → Prop} {R : World → World → Prop}

/-- What slot t may hold while the region runs: what its operation leaves, or what it held. -/
def slotD (l : List Oper) (Vs : List (Stb R)) (a0 : Act) (t : Tmp) (v : Value) (w : World) : Prop :=
  match l, Vs with
  | o :: l, V :: Vs => if o.dst = some t then V.V v w else slotD l Vs a0 t v w
  | _, _ => v = a0.tmps[t]?.getD undef

/-- One operation's part. -/
def CalmOp (P : Program) (ops : Array Oper) (Q : Exit → Act → World → Prop) (C : Nat → World → Prop) (Vs : List (Stb R)) (a0 : Act) (i : Nat) (V : Stb R) (o : Oper) (k k' : Nat) : Prop :=
  ∀ (a : Act) (w : World) (K : Act → World → Prop), C k w → (∀ t, t ∈ o.looksAt ops → slotD ops.toList Vs a0 t (a.tmps[t]?.getD undef) w) →
    (∀ v w', R w w' → C k' w' → V.V v w' → K (a.put o.dst v) w') → wpOp P ops Q i K a w

/-- The state's number behind an operation. -/
def stepR : Bool → Nat → Nat
  | true, r => r + 1
  | false, r => r
/-- All operations' parts; st: which of them turn the state C. -/
def CalmAll (P : Program) (ops : Array Oper) (Q : Exit → Act → World → Prop) (C : Nat → World → Prop) (Vs : List (Stb R)) (a0 : Act) : Nat → Nat → List Oper → List (Stb R) → List Bool → Prop
  | i, r, o :: l, V :: Ws, s :: st => (if s = true then CalmOp P ops Q C Vs a0 i V o r (r + 1) else ∀ k, CalmOp P ops Q C Vs a0 i V o k k) ∧ CalmAll P ops Q C Vs a0 (i + 1) (stepR s r) l Ws st
  | _, _, [], [], [] => True
  | _, _, _, _, _ => False

def rank (st : List Bool) (i : Nat) : Nat := (st.take i).count true

theorem calmAll_get {C : Nat → World → Prop} {Vs : List (Stb R)} {a0 : Act} : ∀ (l : List Oper) (Ws : List (Stb R)) (st : List Bool) (i r : Nat), CalmAll P ops Q C Vs a0 i r l Ws st →
    l.length = Ws.length ∧ l.length = st.length ∧ ∀ j o, l[j]? = some o → ∃ V s, Ws[j]? = some V ∧ st[j]? = some s ∧
      (if s = true then CalmOp P ops Q C Vs a0 (i + j) V o (r + rank st j) (r + rank st j + 1) else ∀ k, CalmOp P ops Q C Vs a0 (i + j) V o k k)
  | [], [], [], i, r, _ => ⟨rfl, rfl, fun j o h => by simp at h⟩
  | o :: l, V :: Ws, s :: st, i, r, h => by
    obtain ⟨h1, h2⟩ := h
    obtain ⟨e1, e2, e3⟩ := calmAll_get l Ws st (i + 1) _ h2
    refine ⟨by simp [e1], by simp [e2], fun j o' hj => ?_⟩
    cases j with
    | zero =>
      simp at hj; subst hj
      exact ⟨V, s, rfl, rfl, by simpa [rank] using h1⟩
    | succ j =>
      obtain ⟨V', s', g1, g2, g3⟩ := e3 j o' (by simpa using hj)
      refine ⟨V', s', by simpa using g1, by simpa using g2, ?_⟩
      have er : rank (s :: st) (j + 1) = (if s = true then 1 else 0) + rank st j := by
        unfold rank; rw [List.take_succ_cons, List.count_cons]; cases s <;> simp <;> omega
      rw [er, show i + (j + 1) = i + 1 + j from by omega]
      cases s
      · simpa [stepR] using g3
      · rw [if_pos rfl, ← Nat.add_assoc]; exact g3
  | [], _ :: _, _, _, _, h => h.elim
  | [], [], _ :: _, _, _, h => h.elim
  | _ :: _, [], _, _, _, h => h.elim
  | _ :: _, _ :: _, [], _, _, h => h.elim

theorem rank_succ (st : List Bool) (i : Nat) : rank st (i + 1) = rank st i + if st[i]? = some true then 1 else 0 := by
  unfold rank
  rw [List.take_add_one, List.count_append]
  cases h : st[i]? with
  | none => simp
  | some b => cases b <;> simp
theorem rank_mono (st : List Bool) {i j : Nat} (h : i ≤ j) : rank st i ≤ rank st j := by
  induction j with
  | zero => rw [Nat.le_zero.1 h]; exact Nat.le_refl _
  | succ j ih =>
    rcases Nat.lt_or_ge j i with hlt | hge
    · rw [show i = j + 1 from by omega]; exact Nat.le_refl _
    · have := ih hge; rw [rank_succ]; omega
theorem rank_lt (st : List Bool) {i j : Nat} (h : i < j) (hi : st[i]? = some true) : rank st i < rank st j := by
  have := rank_mono st (show i + 1 ≤ j by omega)
  rw [rank_succ, if_pos hi] at this; omega
theorem rank_hit (st : List Bool) : ∀ i k, k < rank st i → ∃ j, j < i ∧ st[j]? = some true ∧ rank st j = k
  | 0, k, h => by simp [rank] at h
  | i + 1, k, h => by
    rw [rank_succ] at h
    by_cases hk : k < rank st i
    · obtain ⟨j, h1, h2, h3⟩ := rank_hit st i k hk
      exact ⟨j, by omega, h2, h3⟩
    · by_cases hi : st[i]? = some true
      · rw [if_pos hi] at h; exact ⟨i, by omega, hi, by omega⟩
      · rw [if_neg hi] at h; omega

/-- Each operation waits for those that it looks at; the state's operations wait for one another; no two write one slot. -/
def calmB (ops : Array Oper) (st : List Bool) : Bool :=
  (List.range ops.size).all (fun i => ((ops[i]?).map fun o =>
    o.after.all (fun e => !Region.binds .any e || decide (e.on < i)) &&
    (List.range ops.size).all (fun j => (((ops[j]?).bind (·.dst)).map fun d => !(o.looksAt ops).contains d || o.after.any fun e => Region.binds .any e && e.on == j).getD true) &&
    (!(st[i]? == some true) || (List.range i).all fun j => !(st[j]? == some true) || o.after.any fun e => Region.binds .any e && (e.on == j || ((ops[e.on]?).map fun p => p.after.any fun e' => Region.binds .any e' && e'.on == j).getD false))).getD true) &&
  decide ((ops.toList.filterMap (·.dst)).Nodup)

theorem calmB_spec {st : List Bool} (h : calmB ops st = true) :
    (∀ (i : Nat) o, ops[i]? = some o → ∀ e ∈ o.after, Region.binds .any e = true → e.on < i) ∧
    (∀ (i j : Nat) o p d, ops[i]? = some o → ops[j]? = some p → p.dst = some d → d ∈ o.looksAt ops → ∃ e ∈ o.after, Region.binds .any e = true ∧ e.on = j) ∧
    (∀ (i j : Nat) o, ops[i]? = some o → st[i]? = some true → st[j]? = some true → j < i → ∃ e ∈ o.after, Region.binds .any e = true ∧ (e.on = j ∨ ∃ p, ops[e.on]? = some p ∧ ∃ e' ∈ p.after, Region.binds .any e' = true ∧ e'.on = j)) ∧
    (ops.toList.filterMap (·.dst)).Nodup := by
  simp only [calmB, Bool.and_eq_true, List.all_eq_true, List.mem_range, decide_eq_true_eq] at h
  obtain ⟨h1, h2⟩ := h
  have hs : ∀ {i : Nat} {o : Oper}, ops[i]? = some o → i < ops.size := fun hi => (Array.getElem?_eq_some_iff.1 hi).1
  refine ⟨fun i o hi e he hb => ?_, fun i j o p d hi hj hd hm => ?_, fun i j o hi si sj hji => ?_, h2⟩
  · have := h1 i (hs hi)
    rw [hi] at this
    simp only [Option.map_some, Option.getD_some, Bool.and_eq_true, Array.all_eq_true'] at this
    have := this.1.1 e (by simpa using he)
    simpa [hb] using this
  · have := h1 i (hs hi)
    rw [hi] at this
    simp only [Option.map_some, Option.getD_some, Bool.and_eq_true, List.all_eq_true, List.mem_range] at this
    have := this.1.2 j (hs hj)
    rw [hj] at this
    simp only [Option.bind_some, hd, Option.map_some, Option.getD_some, Bool.or_eq_true, Bool.not_eq_true'] at this
    rcases this with h | h
    · rw [List.contains_eq_mem, decide_eq_false_iff_not] at h; exact absurd hm h
    · obtain ⟨e, he, hb⟩ := Array.any_eq_true'.1 h
      simp only [Bool.and_eq_true, beq_iff_eq] at hb
      exact ⟨e, he, hb⟩
  · have := h1 i (hs hi)
    rw [hi] at this
    simp only [Option.map_some, Option.getD_some, Bool.and_eq_true, Bool.or_eq_true, List.all_eq_true, List.mem_range] at this
    rcases this.2 with h | h
    · simp [si] at h
    · rcases h j hji with h | h
      · simp [sj] at h
      · obtain ⟨e, he, hb⟩ := Array.any_eq_true'.1 h
        simp only [Bool.and_eq_true, Bool.or_eq_true, beq_iff_eq] at hb
        refine ⟨e, he, hb.1, ?_⟩
        rcases hb.2 with h2 | h2
        · exact .inl h2
        · cases hp : ops[e.on]? with
          | none => rw [hp] at h2; cases h2
          | some p =>
            rw [hp] at h2
            simp only [Option.map_some, Option.getD_some] at h2
            obtain ⟨e', he', hb'⟩ := Array.any_eq_true'.1 h2
            simp only [Bool.and_eq_true, beq_iff_eq] at hb'
            exact .inr ⟨p, rfl, e', he', hb'⟩

theorem nodup_dst : ∀ (l : List Oper), (l.filterMap (·.dst)).Nodup → ∀ (i j : Nat) (o p : Oper) (d : Tmp), l[i]? = some o → l[j]? = some p → o.dst = some d → p.dst = some d → i ≠ j → False
  | [], _, i, j, o, p, d, hi, _, _, _, _ => by simp at hi
  | q :: l, hn, i, j, o, p, d, hi, hj, ho, hp, hne => by
    have hn' : (l.filterMap (·.dst)).Nodup := by
      cases h : q.dst <;> simp [List.filterMap_cons, h] at hn
      · exact hn
      · exact hn.2
    cases i with
    | zero =>
      cases j with
      | zero => exact hne rfl
      | succ j =>
        simp at hi; subst hi
        simp only [List.filterMap_cons, ho, List.nodup_cons, List.mem_filterMap] at hn
        exact hn.1 ⟨p, List.mem_of_getElem? (by simpa using hj), hp⟩
    | succ i =>
      cases j with
      | zero =>
        simp at hj; subst hj
        simp only [List.filterMap_cons, hp, List.nodup_cons, List.mem_filterMap] at hn
        exact hn.1 ⟨o, List.mem_of_getElem? (by simpa using hi), ho⟩
      | succ j => exact nodup_dst l hn' i j o p d (by simpa using hi) (by simpa using hj) ho hp (by omega)

structure CalmInv (ops : Array Oper) (C : Nat → World → Prop) (Vs : List (Stb R)) (a0 : Act) (st : List Bool) (w0 : World) (listed : Array Bool) (a : Act) (w : World) (k : Nat) : Prop where
  size : listed.size = ops.size
  closed : ∀ i o, ops[i]? = some o → listed.getD i false = true → ∀ e ∈ o.after, Region.binds .any e = true → listed.getD e.on false = true
  defers : a.defers = a0.defers
  tsize : a.tmps.size = a0.tmps.size
  old : ∀ t, (∀ i o, ops[i]? = some o → listed.getD i false = true → o.dst ≠ some t) → a.eval (.tmp t) = a0.eval (.tmp t)
  new : ∀ i o V d, ops[i]? = some o → Vs[i]? = some V → listed.getD i false = true → o.dst = some d → V.V (a.eval (.tmp d)) w
  state : C k w
  upto : ∀ j, st[j]? = some true → (listed.getD j false = true ↔ rank st j < k)
  base : R w0 w
  kle : k ≤ rank st ops.size

/-- What the rule asks of a region's operations and of the choice of those that turn the state. -/
structure CalmOK (ops : Array Oper) (st : List Bool) : Prop where
  bl : ∀ (i : Nat) o, ops[i]? = some o → ∀ e ∈ o.after, Region.binds .any e = true → e.on < i
  bd : ∀ (i j : Nat) o p d, ops[i]? = some o → ops[j]? = some p → p.dst = some d → d ∈ o.looksAt ops → ∃ e ∈ o.after, Region.binds .any e = true ∧ e.on = j
  bs : ∀ (listed : Array Bool) (k i : Nat) o, ops[i]? = some o → st[i]? = some true →
    (∀ i o, ops[i]? = some o → listed.getD i false = true → ∀ e ∈ o.after, Region.binds .any e = true → listed.getD e.on false = true) →
    (∀ e ∈ o.after, Region.binds .any e = true → listed.getD e.on false = true) → (∀ j, st[j]? = some true → (listed.getD j false = true ↔ rank st j < k)) → rank st i ≤ k
  bn : (ops.toList.filterMap (·.dst)).Nodup
theorem calmB_ok {st : List Bool} (h : calmB ops st = true) : CalmOK ops st := by
  obtain ⟨h1, h2, h3, h4⟩ := calmB_spec h
  refine ⟨h1, h2, fun listed k i o ho hs hcl haft hup => ?_, h4⟩
  rcases Nat.lt_or_ge k (rank st i) with h | h
  · obtain ⟨j, hj1, hj2, hj3⟩ := rank_hit st i k h
    obtain ⟨e, he, hb, hej⟩ := h3 i j o ho hs hj2 hj1
    have := haft e he hb
    rcases hej with hej | ⟨p, hp, e', he', hb', hej'⟩
    · rw [hej, hup j hj2] at this; omega
    · have h3 := hcl e.on p hp this e' he' hb'
      rw [hej', hup j hj2] at h3; omega
  · exact h
/-- The same with levels: an operation's level is that of one that it waits for (one more than the rank of one that turns the state), and no operation that turns the state has a level below its rank. -/
def calmL (ops : Array Oper) (st : List Bool) (lv : List Nat) : Bool :=
  (List.range ops.size).all (fun i => ((ops[i]?).map fun o =>
    o.after.all (fun e => !Region.binds .any e || decide (e.on < i)) &&
    (List.range ops.size).all (fun j => (((ops[j]?).bind (·.dst)).map fun d => !(o.looksAt ops).contains d || o.after.any fun e => Region.binds .any e && e.on == j).getD true) &&
    ((lv.getD i 0 == 0 || o.after.any fun e => Region.binds .any e && (if st[e.on]? == some true then decide (lv.getD i 0 ≤ rank st e.on + 1) else ((ops[e.on]?).isSome && decide (lv.getD i 0 ≤ lv.getD e.on 0)))) &&
     (!(st[i]? == some true) || decide (rank st i ≤ lv.getD i 0)))).getD true) &&
  decide ((ops.toList.filterMap (·.dst)).Nodup)
theorem calmL_ok {st : List Bool} {lv : List Nat} (h : calmL ops st lv = true) : CalmOK ops st := by
  simp only [calmL, Bool.and_eq_true, List.all_eq_true, List.mem_range, decide_eq_true_eq] at h
  obtain ⟨h1, h2⟩ := h
  have hs : ∀ {i : Nat} {o : Oper}, ops[i]? = some o → i < ops.size := fun hi => (Array.getElem?_eq_some_iff.1 hi).1
  have hbl : ∀ (i : Nat) o, ops[i]? = some o → ∀ e ∈ o.after, Region.binds .any e = true → e.on < i := fun i o hi e he hb => by
    have := h1 i (hs hi)
    rw [hi] at this
    simp only [Option.map_some, Option.getD_some, Bool.and_eq_true, Array.all_eq_true'] at this
    have := this.1.1 e (by simpa using he)
    simpa [hb] using this
  have hlv : ∀ (i : Nat) o, ops[i]? = some o → (lv.getD i 0 = 0 ∨ ∃ e ∈ o.after, Region.binds .any e = true ∧ ((st[e.on]? = some true ∧ lv.getD i 0 ≤ rank st e.on + 1) ∨ ((∃ p, ops[e.on]? = some p) ∧ lv.getD i 0 ≤ lv.getD e.on 0))) ∧ (st[i]? = some true → rank st i ≤ lv.getD i 0) := fun i o hi => by
    have := h1 i (hs hi)
    rw [hi] at this
    simp only [Option.map_some, Option.getD_some, Bool.and_eq_true, Bool.or_eq_true] at this
    obtain ⟨ha, hb⟩ := this.2
    refine ⟨?_, fun hst => ?_⟩
    · rcases ha with h | h
      · exact .inl (by simpa using h)
      · obtain ⟨e, he, hb⟩ := Array.any_eq_true'.1 h
        simp only [Bool.and_eq_true] at hb
        refine .inr ⟨e, he, hb.1, ?_⟩
        have h3 := hb.2
        split at h3
        · rename_i hst; exact .inl ⟨by simpa using hst, by simpa using h3⟩
        · simp only [Bool.and_eq_true, decide_eq_true_eq] at h3
          exact .inr ⟨Option.isSome_iff_exists.1 h3.1, h3.2⟩
    · rcases hb with h | h
      · simp [hst] at h
      · simpa using h
  refine ⟨hbl, fun i j o p d hi hj hd hm => ?_, fun listed k i o ho hst hcl haft hup => ?_, h2⟩
  · have := h1 i (hs hi)
    rw [hi] at this
    simp only [Option.map_some, Option.getD_some, Bool.and_eq_true, List.all_eq_true, List.mem_range] at this
    have := this.1.2 j (hs hj)
    rw [hj] at this
    simp only [Option.bind_some, hd, Option.map_some, Option.getD_some, Bool.or_eq_true, Bool.not_eq_true'] at this
    rcases this with h | h
    · rw [List.contains_eq_mem, decide_eq_false_iff_not] at h; exact absurd hm h
    · obtain ⟨e, he, hb⟩ := Array.any_eq_true'.1 h
      simp only [Bool.and_eq_true, beq_iff_eq] at hb
      exact ⟨e, he, hb⟩
  · have key : ∀ (n i : Nat) o, i ≤ n → ops[i]? = some o → (∀ e ∈ o.after, Region.binds .any e = true → listed.getD e.on false = true) → lv.getD i 0 ≤ k := by
      intro n
      induction n with
      | zero =>
        intro i o hin hi ha
        rcases (hlv i o hi).1 with h | ⟨e, he, hb, _⟩
        · omega
        · have := hbl i o hi e he hb; omega
      | succ n ih =>
        intro i o hin hi ha
        rcases (hlv i o hi).1 with h | ⟨e, he, hb, ⟨h3, h4⟩ | ⟨⟨p, hp⟩, h4⟩⟩
        · omega
        · have := (hup e.on h3).1 (ha e he hb); omega
        · have h5 := hbl i o hi e he hb
          have h6 := ih e.on p (by omega) hp (hcl e.on p hp (ha e he hb))
          omega
    have h7 := (hlv i o ho).2 hst
    have h8 := key i i o (Nat.le_refl _) ho haft
    omega

theorem slotD_of {a0 : Act} {t : Tmp} {v : Value} {w : World} : ∀ (l : List Oper) (Vs : List (Stb R)), l.length = Vs.length →
    (∀ (j : Nat) o V, l[j]? = some o → Vs[j]? = some V → o.dst = some t → V.V v w) → ((∀ (j : Nat) o, l[j]? = some o → o.dst ≠ some t) → v = a0.tmps[t]?.getD undef) → slotD l Vs a0 t v w
  | [], [], _, _, h2 => h2 fun j o h => by simp at h
  | o :: l, V :: Vs, hl, h1, h2 => by
    unfold slotD
    split
    · rename_i ho; exact h1 0 o V rfl rfl ho
    · rename_i ho
      refine slotD_of l Vs (by simpa using hl) (fun j o' V' hj hV hd => h1 (j + 1) o' V' (by simpa using hj) (by simpa using hV) hd) (fun hn => h2 fun j o' hj => ?_)
      cases j with
      | zero => simp at hj; subst hj; exact ho
      | succ j => exact hn j o' (by simpa using hj)
  | [], _ :: _, hl, _, _ => by simp at hl
  | _ :: _, [], hl, _, _ => by simp at hl

theorem eval_get (a : Act) (t : Tmp) : a.eval (.tmp t) = a.tmps[t]?.getD undef := by simp [Act.eval]
theorem getD_set (listed : Array Bool) (i j : Nat) (hi : i < listed.size) : (listed.setIfInBounds i true).getD j false = (decide (i = j) || listed.getD j false) := by
  by_cases h : i = j
  · subst h; simp [hi]
  · rw [Go.getD_set_ne false h]; simp [h]

theorem eval_put_same (a : Act) (d : Tmp) (v : Value) (h : d < a.tmps.size) : (a.put (some d) v).eval (.tmp d) = v := by
  simp [Act.eval, Act.put, h]
theorem eval_put_ne (a : Act) (o : Option Tmp) (t : Tmp) (v : Value) (h : o ≠ some t) : (a.put o v).eval (.tmp t) = a.eval (.tmp t) :=
  Act.eval_put fun d hd e => h (by cases e; exact hd)

theorem calm_step {C : Nat → World → Prop} {Vs : List (Stb R)} {a0 : Act} {st : List Bool} {w0 : World} (hB : CalmOK ops st) (hall : CalmAll P ops Q C Vs a0 0 0 ops.toList Vs st)
    (htr : ∀ a b c, R a b → R b c → R a c) (hds : ∀ (i : Nat) o d, ops[i]? = some o → o.dst = some d → d < a0.tmps.size)
    {listed : Array Bool} {a : Act} {w : World} {k : Nat} (hI : CalmInv ops C Vs a0 st w0 listed a w k) {i : Nat} (hi : i ∈ Region.ready .any ops listed)
    {K : Act → World → Prop} (hK : ∀ a' w' k', CalmInv ops C Vs a0 st w0 (listed.setIfInBounds i true) a' w' k' → K a' w') : wpOp P ops Q i K a w := by
  obtain ⟨_, hBd, hBs, hBn⟩ := hB
  obtain ⟨hl1, hl2, hget⟩ := calmAll_get ops.toList Vs st 0 0 hall
  obtain ⟨hun, o, ho, haft⟩ := mem_ready.1 hi
  have hlt : i < ops.size := (Array.getElem?_eq_some_iff.1 ho).1
  have hun' : listed.getD i false = false := by
    have : i < listed.size := by rw [hI.size]; exact hlt
    simp [this] at hun ⊢; exact hun
  obtain ⟨V, s, hV, hs, hop⟩ := hget i o (by simpa using ho)
  have deps : ∀ t, t ∈ o.looksAt ops → slotD ops.toList Vs a0 t (a.tmps[t]?.getD undef) w := fun t ht => by
    rw [← eval_get]
    refine slotD_of _ _ hl1 (fun j p V' hj hV' hd => ?_) (fun hn => ?_)
    · obtain ⟨e, he, hb, hej⟩ := hBd i j o p t ho (by simpa using hj) hd ht
      exact hI.new j p V' t (by simpa using hj) hV' (by rw [← hej]; exact haft e he hb) hd
    · rw [← eval_get]; exact hI.old t fun j p hj _ => hn j p (by simpa using hj)
  have key : ∀ k', (s = true → k' = k + 1) → (s = false → k' = k) → (s = true → rank st i = k) → ∀ v w', R w w' → C k' w' → V.V v w' → K (a.put o.dst v) w' := by
    intro k' hk1 hk0 hrk v w' hR hC hv
    refine hK _ _ k' ⟨by simp [hI.size], fun j p hj hlj e he hb => ?_, ?_, ?_, fun t hn => ?_, fun j p V' d hj hV' hlj hd => ?_, hC, fun j hj => ?_, htr _ _ _ hI.base hR, ?_⟩
    · rw [getD_set _ _ _ (by rw [hI.size]; exact hlt)] at hlj ⊢
      simp only [Bool.or_eq_true, decide_eq_true_eq] at hlj ⊢
      rcases hlj with rfl | hlj
      · rw [ho] at hj; cases hj; exact .inr (haft e he hb)
      · exact .inr (hI.closed j p hj hlj e he hb)
    · rw [← hI.defers]; cases o.dst <;> rfl
    · rw [← hI.tsize]; cases o.dst <;> simp [Act.put]
    · have hne : o.dst ≠ some t := hn i o ho (by rw [getD_set _ _ _ (by rw [hI.size]; exact hlt)]; simp)
      rw [eval_put_ne _ _ _ _ hne]
      exact hI.old t fun j p hj hlj => hn j p hj (by rw [getD_set _ _ _ (by rw [hI.size]; exact hlt), hlj]; simp)
    · rw [getD_set _ _ _ (by rw [hI.size]; exact hlt)] at hlj
      by_cases hij : i = j
      · subst hij
        rw [ho] at hj; cases hj
        rw [hV] at hV'; cases hV'
        rw [hd, eval_put_same _ _ _ (by rw [hI.tsize]; exact hds i o d ho hd)]
        exact hv
      · simp only [hij, decide_false, Bool.false_or] at hlj
        have hne : o.dst ≠ some d := by
          intro e
          -- two operations that write one slot
          have h1 : (ops.toList.filterMap (·.dst)).Nodup := hBn
          obtain ⟨hi1, hi2⟩ := Array.getElem?_eq_some_iff.1 ho
          obtain ⟨hj1, hj2⟩ := Array.getElem?_eq_some_iff.1 hj
          exact nodup_dst _ h1 i j o p d (by simpa using ho) (by simpa using hj) e hd hij
        rw [eval_put_ne _ _ _ _ hne]
        exact V'.st _ _ _ (hI.new j p V' d hj hV' hlj hd) hR
    · rw [getD_set _ _ _ (by rw [hI.size]; exact hlt)]
      simp only [Bool.or_eq_true, decide_eq_true_eq]
      have hu := hI.upto j hj
      cases s with
      | true =>
        rw [hk1 rfl]
        by_cases hij : i = j
        · subst hij; have := hrk rfl; simp; omega
        · have : rank st j ≠ k := by
            rw [← hrk rfl]
            rcases Nat.lt_or_gt_of_ne hij with h | h
            · have := rank_lt st h hs; omega
            · have := rank_lt st h hj; omega
          simp only [hij, false_or, hu]; omega
      | false =>
        rw [hk0 rfl]
        have hij : i ≠ j := by rintro rfl; rw [hs] at hj; cases hj
        simp only [hij, false_or, hu]
    · cases s with
      | true =>
        rw [hk1 rfl, ← hrk rfl]
        have := rank_mono st (show i + 1 ≤ ops.size by omega)
        rw [rank_succ, if_pos hs] at this; exact this
      | false => rw [hk0 rfl]; exact hI.kle
  cases s with
  | true =>
    have hrk : rank st i = k := by
      have h1 := hI.upto i hs
      rw [hun'] at h1
      have h2 : ¬ rank st i < k := fun h => by simpa using h1.2 h
      have := hBs listed k i o ho hs hI.closed haft hI.upto
      omega
    rw [if_pos rfl, Nat.zero_add, Nat.zero_add, hrk] at hop
    exact hop a w K hI.state deps (key (k + 1) (fun _ => rfl) (fun h => by cases h) (fun _ => hrk))
  | false =>
    simp only [Bool.false_eq_true, if_false] at hop
    rw [Nat.zero_add] at hop
    exact hop k a w K hI.state deps (key k (fun h => by cases h) (fun _ => rfl) (fun h => by cases h))

theorem calm_any {C : Nat → World → Prop} {Vs : List (Stb R)} {a0 : Act} {st : List Bool} {w0 : World} (hB : CalmOK ops st) (hall : CalmAll P ops Q C Vs a0 0 0 ops.toList Vs st)
    (htr : ∀ a b c, R a b → R b c → R a c) (hds : ∀ (i : Nat) o d, ops[i]? = some o → o.dst = some d → d < a0.tmps.size)
    (hQ : ∀ listed a w k, CalmInv ops C Vs a0 st w0 listed a w k → (∀ i, i < ops.size → listed.getD i false = true) → Q .normal a w) :
    ∀ (fuel : Nat) (listed : Array Bool) (a : Act) (w : World) (k : Nat), CalmInv ops C Vs a0 st w0 listed a w k →
      ((List.range ops.size).filter fun i => !listed.getD i false).length ≤ fuel → wpAny P .any ops Q fuel listed a w := by
  have hfull : ∀ listed : Array Bool, listed.size = ops.size → Region.ready .any ops listed = [] → ∀ i, i < ops.size → listed.getD i false = true := by
    intro listed hsz hr i
    induction i using Nat.strongRecOn with
    | _ i ih =>
      intro hi
      rcases hl : listed.getD i false with _ | _
      · exfalso
        have : i ∈ Region.ready .any ops listed := mem_ready.2 ⟨by
            have h2 : i < listed.size := by rw [hsz]; exact hi
            simp [h2] at hl ⊢; exact hl, ops[i], by simp [hi], fun e he hb => by
            have h3 := hB.bl i ops[i] (by simp [hi]) e he hb
            exact ih e.on h3 (by omega)⟩
        rw [hr] at this; cases this
      · rfl
  intro fuel
  induction fuel with
  | zero =>
    intro listed a w k hI hlen
    have hnone : ∀ i, i < ops.size → listed.getD i false = true := fun i hi => by
      have h0 := List.eq_nil_of_length_eq_zero (Nat.le_zero.1 hlen)
      have := List.filter_eq_nil_iff.1 h0 i (List.mem_range.2 hi)
      simpa using this
    refine ⟨?_, hQ listed a w k hI hnone⟩
    rw [List.eq_nil_iff_forall_not_mem]
    intro i hi
    obtain ⟨h1, o, ho, _⟩ := mem_ready.1 hi
    have hlt : i < ops.size := (Array.getElem?_eq_some_iff.1 ho).1
    have h2 := hnone i hlt
    have h3 : i < listed.size := by rw [hI.size]; exact hlt
    simp [h3] at h1 h2; rw [h1] at h2; cases h2
  | succ fuel ih =>
    intro listed a w k hI hlen
    refine ⟨fun hr => hQ listed a w k hI (hfull listed hI.size hr), fun i hi => ?_⟩
    refine calm_step hB hall htr hds hI hi fun a' w' k' hI' => ih _ a' w' k' hI' ?_
    obtain ⟨h1, o, ho, _⟩ := mem_ready.1 hi
    have hlt : i < ops.size := (Array.getElem?_eq_some_iff.1 ho).1
    have hsz : i < listed.size := by rw [hI.size]; exact hlt
    have hne : listed.getD i false = false := by simp [hsz] at h1 ⊢; exact h1
    have : ((List.range ops.size).filter fun j => !(listed.setIfInBounds i true).getD j false).length < ((List.range ops.size).filter fun j => !listed.getD j false).length := by
      have e : ((List.range ops.size).filter fun j => !(listed.setIfInBounds i true).getD j false) = ((List.range ops.size).filter fun j => !listed.getD j false).filter fun j => !decide (i = j) := by
        rw [List.filter_filter]
        congr 1; funext j
        rw [getD_set _ _ _ hsz, Bool.not_or]
      rw [e]
      refine List.length_filter_lt_length_iff_exists.2 ⟨i, List.mem_filter.2 ⟨List.mem_range.2 hlt, by rw [hne]; rfl⟩, by simp⟩
    omega

def putL : List Oper → (Nat → Value) → Nat → Act → Act
  | [], _, _, a => a
  | o :: l, vs, i, a => putL l vs (i + 1) (a.put o.dst (vs i))

theorem putL_spec : ∀ (l : List Oper) (vs : Nat → Value) (i : Nat) (a : Act), (l.filterMap (·.dst)).Nodup → (∀ (j : Nat) o d, l[j]? = some o → o.dst = some d → d < a.tmps.size) →
    (putL l vs i a).defers = a.defers ∧ (putL l vs i a).tmps.size = a.tmps.size ∧ (∀ (j : Nat) o d, l[j]? = some o → o.dst = some d → (putL l vs i a).eval (.tmp d) = vs (i + j)) ∧
    (∀ t, (∀ (j : Nat) o, l[j]? = some o → o.dst ≠ some t) → (putL l vs i a).eval (.tmp t) = a.eval (.tmp t))
  | [], vs, i, a, _, _ => ⟨rfl, rfl, fun j o d h => by simp at h, fun _ _ => rfl⟩
  | o :: l, vs, i, a, hn, hd => by
    have hsz : (a.put o.dst (vs i)).tmps.size = a.tmps.size := by cases o.dst <;> simp [Act.put]
    have hn' : (l.filterMap (·.dst)).Nodup := by
      cases h : o.dst <;> simp [List.filterMap_cons, h] at hn
      · exact hn
      · exact hn.2
    obtain ⟨h1, h2, h3, h4⟩ := putL_spec l vs (i + 1) (a.put o.dst (vs i)) hn' (fun j o' d hj hd' => by rw [hsz]; exact hd (j + 1) o' d (by simpa using hj) hd')
    refine ⟨by unfold putL; rw [h1]; cases o.dst <;> rfl, by unfold putL; rw [h2, hsz], fun j o' d hj hdd => ?_, fun t ht => ?_⟩
    · cases j with
      | zero =>
        simp at hj; subst hj
        unfold putL
        rw [h4 d, hdd, eval_put_same _ _ _ (hd 0 o d rfl hdd)]
        · rfl
        · intro j p hp e
          simp only [List.filterMap_cons, hdd, List.nodup_cons, List.mem_filterMap] at hn
          exact hn.1 ⟨p, List.mem_of_getElem? hp, e⟩
      | succ j =>
        unfold putL
        rw [h3 j o' d (by simpa using hj) hdd]
        congr 1; omega
    · unfold putL
      rw [h4 t (fun j p hp => ht (j + 1) p (by simpa using hp)), eval_put_ne _ _ _ _ (ht 0 o rfl)]

theorem act_ext {a b : Act} (h1 : a.defers = b.defers) (h2 : a.tmps.size = b.tmps.size) (h3 : ∀ t, a.eval (.tmp t) = b.eval (.tmp t)) : a = b := by
  obtain ⟨ta, da⟩ := a; obtain ⟨tb, db⟩ := b
  cases h1
  congr
  refine Array.ext h2 fun i hi hj => ?_
  have := h3 i
  simpa [Act.eval, hi, hj] using this

/-- THE RULE: a region that draws its order. -/
theorem wp_region_calm' {id : Nat} {l : List Oper} {C : Nat → World → Prop} {a : Act} {w : World} (st : List Bool) (Vs : List (Stb R)) (hm : P.follows .mixedOrders = true) (hB : CalmOK l.toArray st)
    (htr : ∀ a b c, R a b → R b c → R a c) (h0 : R w w.drew) (hC : C 0 w.drew) (hds : l.all (fun o => (o.dst.map fun d => decide (d < a.tmps.size)).getD true) = true)
    (hall : CalmAll P l.toArray Q C Vs a 0 0 l Vs st)
    (hfin : ∀ (vs : Nat → Value) (w' : World), R w w' → C (rank st l.length) w' → (∀ (i : Nat) o V, l[i]? = some o → Vs[i]? = some V → o.dst ≠ none → V.V (vs i) w') → Q .normal (putL l vs 0 a) w') :
    (Code.region id l.toArray true).wp P Q a w := by
  have hds' : ∀ (i : Nat) o d, l.toArray[i]? = some o → o.dst = some d → d < a.tmps.size := fun i o d hi hd => by
    have := List.all_eq_true.1 hds o (List.mem_of_getElem? (by simpa using hi))
    rw [hd] at this; simpa using this
  have hall' : CalmAll P l.toArray Q C Vs a 0 0 l.toArray.toList Vs st := hall
  have hrep : ∀ i, (Array.replicate l.toArray.size false).getD i false = false := fun i => by
    rw [Array.getD_eq_getD_getElem?, Array.getElem?_replicate]; split <;> rfl
  refine wp_region_any hm (calm_any (w0 := w) (k := 0) hB hall' htr hds' ?_ _ _ _ _ ⟨by simp, ?_, rfl, rfl, fun _ _ => rfl, ?_, hC, ?_, h0, Nat.zero_le _⟩ ?_)
  · intro listed a' w' k hI hfull
    obtain ⟨hl1, hl2, hget⟩ := calmAll_get l Vs st 0 0 hall
    have hBn : (l.filterMap (·.dst)).Nodup := hB.bn
    have hk : k = rank st l.length := by
      have h1 := hI.kle
      simp only [List.size_toArray] at h1
      rcases Nat.lt_or_ge k (rank st l.length) with h | h
      · obtain ⟨j, hj1, hj2, hj3⟩ := rank_hit st l.length k h
        have := (hI.upto j hj2).1 (hfull j (by simpa using hj1)); omega
      · omega
    obtain ⟨p1, p2, p3, p4⟩ := putL_spec l (fun i => ((l[i]?).bind (·.dst)).elim undef fun d => a'.eval (.tmp d)) 0 a hBn (fun j o d hj hd => hds' j o d (by simpa using hj) hd)
    have hlist : ∀ {j : Nat} {o : Oper}, l[j]? = some o → listed.getD j false = true := fun hj => hfull _ (by simpa using (List.getElem?_eq_some_iff.1 hj).1)
    have e : a' = putL l (fun i => ((l[i]?).bind (·.dst)).elim undef fun d => a'.eval (.tmp d)) 0 a := by
      refine act_ext (hI.defers.trans p1.symm) (hI.tsize.trans p2.symm) fun t => ?_
      by_cases ht : ∃ (j : Nat) (o : Oper), l[j]? = some o ∧ o.dst = some t
      · obtain ⟨j, o, hj, hd⟩ := ht
        rw [p3 j o t hj hd, Nat.zero_add, hj]
        simp [hd]
      · have hn : ∀ (j : Nat) (o : Oper), l[j]? = some o → o.dst ≠ some t := fun j o hj hd => ht ⟨j, o, hj, hd⟩
        rw [p4 t hn]
        exact hI.old t fun j o hj _ => hn j o (by simpa using hj)
    rw [e]
    refine hfin _ w' hI.base (hk ▸ hI.state) fun i o V hi hV hne => ?_
    cases hd : o.dst with
    | none => exact absurd hd hne
    | some d =>
      have := hI.new i o V d (by simpa using hi) hV (hlist hi) hd
      simpa [hi, hd] using this
  · intro i o _ h; rw [hrep] at h; cases h
  · intro i o V d _ _ h; rw [hrep] at h; cases h
  · intro j _; rw [hrep]; simp
  · simpa using List.length_filter_le _ (List.range l.length)

theorem wp_region_calm {id : Nat} {l : List Oper} {C : Nat → World → Prop} {a : Act} {w : World} (st : List Bool) (Vs : List (Stb R)) (hm : P.follows .mixedOrders = true) (hB : calmB l.toArray st = true)
    (htr : ∀ a b c, R a b → R b c → R a c) (h0 : R w w.drew) (hC : C 0 w.drew) (hds : l.all (fun o => (o.dst.map fun d => decide (d < a.tmps.size)).getD true) = true)
    (hall : CalmAll P l.toArray Q C Vs a 0 0 l Vs st)
    (hfin : ∀ (vs : Nat → Value) (w' : World), R w w' → C (rank st l.length) w' → (∀ (i : Nat) o V, l[i]? = some o → Vs[i]? = some V → o.dst ≠ none → V.V (vs i) w') → Q .normal (putL l vs 0 a) w') :
    (Code.region id l.toArray true).wp P Q a w :=
  wp_region_calm' st Vs hm (calmB_ok hB) htr h0 hC hds hall hfin
/-- The rule with levels. -/
theorem wp_region_calmL {id : Nat} {l : List Oper} {C : Nat → World → Prop} {a : Act} {w : World} (st : List Bool) (lv : List Nat) (Vs : List (Stb R)) (hm : P.follows .mixedOrders = true) (hB : calmL l.toArray st lv = true)
    (htr : ∀ a b c, R a b → R b c → R a c) (h0 : R w w.drew) (hC : C 0 w.drew) (hds : l.all (fun o => (o.dst.map fun d => decide (d < a.tmps.size)).getD true) = true)
    (hall : CalmAll P l.toArray Q C Vs a 0 0 l Vs st)
    (hfin : ∀ (vs : Nat → Value) (w' : World), R w w' → C (rank st l.length) w' → (∀ (i : Nat) o V, l[i]? = some o → Vs[i]? = some V → o.dst ≠ none → V.V (vs i) w') → Q .normal (putL l vs 0 a) w') :
    (Code.region id l.toArray true).wp P Q a w :=
  wp_region_calm' st Vs hm (calmL_ok hB) htr h0 hC hds hall hfin

theorem wpOp_want {i : Nat} {o : Oper} {a : Act} {w : World} {K : Act → World → Prop} (hi : ops[i]? = some o) (hw : Region.wanted o (yielded ops a.tmps) = true) (h : o.wp P a w K Q) : wpOp P ops Q i K a w := by
  unfold wpOp; rw [hi]; simp only [hw, if_true]; exact .inl h
theorem wpOp_plain {i : Nat} {o : Oper} {a : Act} {w : World} {K : Act → World → Prop} (hi : ops[i]? = some o) (hw : o.guard = none) (h : o.wp P a w K Q) : wpOp P ops Q i K a w :=
  wpOp_want hi (by simp [Region.wanted, hw]) h
theorem wpOp_skip {i : Nat} {o : Oper} {a : Act} {w : World} {K : Act → World → Prop} (hi : ops[i]? = some o) (hw : Region.wanted o (yielded ops a.tmps) = false) (h : K (a.put o.dst undef) w) : wpOp P ops Q i K a w := by
  unfold wpOp; rw [hi]; simp only [hw]; exact h
theorem wanted_of {o : Oper} {a : Act} {g t : Nat} {want b : Bool} (hg : o.guard = some (g, want)) (ht : (ops[g]?).bind (·.dst) = some t) (hv : a.eval (.tmp t) = .bool b) : Region.wanted o (yielded ops a.tmps) = (b == want) := by
  have : a.tmps[t]? = some (.bool b) := by
    simp only [Act.eval, Array.getD_eq_getD_getElem?] at hv
    cases h : a.tmps[t]? with
    | none => rw [h] at hv; simp [undef] at hv
    | some v => rw [h] at hv; simp at hv; rw [hv]
  unfold Region.wanted
  rw [hg]
  simp only [yielded, ht, Option.bind_some, this]
  cases b <;> cases want <;> rfl
theorem calm_run {i : Nat} {o : Oper} {a : Act} {w w' : World} {K : Act → World → Prop} (hi : ops[i]? = some o) (hg : o.guard = none) (v : Value) (hr : (execOp a.eval o).run P w = .ok (.value v) w') (h : K (a.put o.dst v) w') : wpOp P ops Q i K a w :=
  wpOp_plain hi hg (by unfold Oper.wp; rw [hr]; exact h)
theorem calm_mv {C : Nat → World → Prop} {Vs : List (Stb R)} {a0 : Act} {i k : Nat} {V : Stb R} {o : Oper} (t : Tmp) (hi : ops[i]? = some o) (hg : o.guard = none) (ho : o.op = .move (.tmp t) ∨ o.op = .assign (.tmp t)) (hR : ∀ w, R w w) (ht : t ∈ o.looksAt ops)
    (hV : ∀ (v : Value) (w : World), slotD ops.toList Vs a0 t v w → V.V v w) : CalmOp P ops Q C Vs a0 i V o k k := by
  intro a w K hC hd hK
  refine calm_run hi hg (a.eval (.tmp t)) (w' := w) ?_ (hK _ _ (hR w) hC (hV _ w (by rw [eval_get]; exact hd t ht)))
  rcases ho with ho | ho <;> simp [execOp, ho]
theorem calm_move {C : Nat → World → Prop} {Vs : List (Stb R)} {a0 : Act} {i k : Nat} {V : Stb R} {o : Oper} (x : Operand) (hi : ops[i]? = some o) (hg : o.guard = none) (ho : o.op = .move x ∨ o.op = .assign x) (hR : ∀ w, R w w)
    (hV : ∀ (a : Act) (w : World), (∀ t, t ∈ o.looksAt ops → slotD ops.toList Vs a0 t (a.tmps[t]?.getD undef) w) → V.V (a.eval x) w) : CalmOp P ops Q C Vs a0 i V o k k := by
  intro a w K hC hd hK
  refine calm_run hi hg (a.eval x) (w' := w) ?_ (hK _ _ (hR w) hC (hV a w hd))
  rcases ho with ho | ho <;> simp [execOp, ho]
end
end Go.Proofs.Ytpkdcbfhacgklaa
/- A region that draws its order, with a ghost: the state may speak of one slot's value. Written by a small program out of the elder rule's text. -/
namespace Go.Proofs.Ytpkdcbfhacgklaa.G
open Go.RowKit Go.Proofs.Ytpkdcbfhacgklaa
section
variable {P : Program} {ops : Array Oper} {Q : Exit → Act → World → Prop} {R : World → World → Prop}
/-- One operation's part. -/
def CalmOp (P : Program) (ops : Array Oper) (Q : Exit → Act → World → Prop) (gs : Tmp) (C : Nat → Value → World → Prop) (Vs : List (Stb R)) (a0 : Act) (i : Nat) (V : Stb R) (o : Oper) (k k' : Nat) : Prop :=
  ∀ (a : Act) (w : World) (K : Act → World → Prop), C k (a.eval (.tmp gs)) w → (∀ t, t ∈ o.looksAt ops → slotD ops.toList Vs a0 t (a.tmps[t]?.getD undef) w) →
    (∀ v w', R w w' → C k' (if o.dst = some gs then v else a.eval (.tmp gs)) w' → V.V v w' → K (a.put o.dst v) w') → wpOp P ops Q i K a w


/-- All operations' parts. -/
def CalmAll (P : Program) (ops : Array Oper) (Q : Exit → Act → World → Prop) (gs : Tmp) (C : Nat → Value → World → Prop) (Vs : List (Stb R)) (a0 : Act) : Nat → Nat → List Oper → List (Stb R) → List Bool → Prop
  | i, r, o :: l, V :: Ws, s :: st => (if s = true then CalmOp P ops Q gs C Vs a0 i V o r (r + 1) else ∀ k, CalmOp P ops Q gs C Vs a0 i V o k k) ∧ CalmAll P ops Q gs C Vs a0 (i + 1) (stepR s r) l Ws st
  | _, _, [], [], [] => True
  | _, _, _, _, _ => False


theorem calmAll_get {gs : Tmp} {C : Nat → Value → World → Prop} {Vs : List (Stb R)} {a0 : Act} : ∀ (l : List Oper) (Ws : List (Stb R)) (st : List Bool) (i r : Nat), CalmAll P ops Q gs C Vs a0 i r l Ws st →
    l.length = Ws.length ∧ l.length = st.length ∧ ∀ j o, l[j]? = some o → ∃ V s, Ws[j]? = some V ∧ st[j]? = some s ∧
      (if s = true then CalmOp P ops Q gs C Vs a0 (i + j) V o (r + rank st j) (r + rank st j + 1) else ∀ k, CalmOp P ops Q gs C Vs a0 (i + j) V o k k)
  | [], [], [], i, r, _ => ⟨rfl, rfl, fun j o h => by simp at h⟩
  | o :: l, V :: Ws, s :: st, i, r, h => by
    obtain ⟨h1, h2⟩ := h
    obtain ⟨e1, e2, e3⟩ := calmAll_get l Ws st (i + 1) _ h2
    refine ⟨by simp [e1], by simp [e2], fun j o' hj => ?_⟩
    cases j with
    | zero =>
      simp at hj; subst hj
      exact ⟨V, s, rfl, rfl, by simpa [rank] using h1⟩
    | succ j =>
      obtain ⟨V', s', g1, g2, g3⟩ := e3 j o' (by simpa using hj)
      refine ⟨V', s', by simpa using g1, by simpa using g2, ?_⟩
      have er : rank (s :: st) (j + 1) = (if s = true then 1 else 0) + rank st j := by
        unfold rank; rw [List.take_succ_cons, List.count_cons]; cases s <;> simp <;> omega
      rw [er, show i + (j + 1) = i + 1 + j from by omega]
      cases s
      · simpa [stepR] using g3
      · rw [if_pos rfl, ← Nat.add_assoc]; exact g3
  | [], _ :: _, _, _, _, h => h.elim
  | [], [], _ :: _, _, _, h => h.elim
  | _ :: _, [], _, _, _, h => h.elim
  | _ :: _, _ :: _, [], _, _, h => h.elim


structure CalmInv (ops : Array Oper) (gs : Tmp) (C : Nat → Value → World → Prop) (Vs : List (Stb R)) (a0 : Act) (st : List Bool) (w0 : World) (listed : Array Bool) (a : Act) (w : World) (k : Nat) : Prop where
  size : listed.size = ops.size
  closed : ∀ i o, ops[i]? = some o → listed.getD i false = true → ∀ e ∈ o.after, Region.binds .any e = true → listed.getD e.on false = true
  defers : a.defers = a0.defers
  tsize : a.tmps.size = a0.tmps.size
  old : ∀ t, (∀ i o, ops[i]? = some o → listed.getD i false = true → o.dst ≠ some t) → a.eval (.tmp t) = a0.eval (.tmp t)
  new : ∀ i o V d, ops[i]? = some o → Vs[i]? = some V → listed.getD i false = true → o.dst = some d → V.V (a.eval (.tmp d)) w
  state : C k (a.eval (.tmp gs)) w
  upto : ∀ j, st[j]? = some true → (listed.getD j false = true ↔ rank st j < k)
  base : R w0 w
  kle : k ≤ rank st ops.size


theorem calm_step {gs : Tmp} {C : Nat → Value → World → Prop} {Vs : List (Stb R)} {a0 : Act} {st : List Bool} {w0 : World} (hB : CalmOK ops st) (hall : CalmAll P ops Q gs C Vs a0 0 0 ops.toList Vs st)
    (htr : ∀ a b c, R a b → R b c → R a c) (hds : ∀ (i : Nat) o d, ops[i]? = some o → o.dst = some d → d < a0.tmps.size)
    {listed : Array Bool} {a : Act} {w : World} {k : Nat} (hI : CalmInv ops gs C Vs a0 st w0 listed a w k) {i : Nat} (hi : i ∈ Region.ready .any ops listed)
    {K : Act → World → Prop} (hK : ∀ a' w' k', CalmInv ops gs C Vs a0 st w0 (listed.setIfInBounds i true) a' w' k' → K a' w') : wpOp P ops Q i K a w := by
  obtain ⟨_, hBd, hBs, hBn⟩ := hB
  obtain ⟨hl1, hl2, hget⟩ := calmAll_get ops.toList Vs st 0 0 hall
  obtain ⟨hun, o, ho, haft⟩ := mem_ready.1 hi
  have hlt : i < ops.size := (Array.getElem?_eq_some_iff.1 ho).1
  have hun' : listed.getD i false = false := by
    have : i < listed.size := by rw [hI.size]; exact hlt
    simp [this] at hun ⊢; exact hun
  obtain ⟨V, s, hV, hs, hop⟩ := hget i o (by simpa using ho)
  have deps : ∀ t, t ∈ o.looksAt ops → slotD ops.toList Vs a0 t (a.tmps[t]?.getD undef) w := fun t ht => by
    rw [← eval_get]
    refine slotD_of _ _ hl1 (fun j p V' hj hV' hd => ?_) (fun hn => ?_)
    · obtain ⟨e, he, hb, hej⟩ := hBd i j o p t ho (by simpa using hj) hd ht
      exact hI.new j p V' t (by simpa using hj) hV' (by rw [← hej]; exact haft e he hb) hd
    · rw [← eval_get]; exact hI.old t fun j p hj _ => hn j p (by simpa using hj)
  have key : ∀ k', (s = true → k' = k + 1) → (s = false → k' = k) → (s = true → rank st i = k) → ∀ v w', R w w' → C k' (if o.dst = some gs then v else a.eval (.tmp gs)) w' → V.V v w' → K (a.put o.dst v) w' := by
    intro k' hk1 hk0 hrk v w' hR hC0 hv
    have hC : C k' ((a.put o.dst v).eval (.tmp gs)) w' := by
      by_cases hg : o.dst = some gs
      · rw [if_pos hg] at hC0
        rw [hg, eval_put_same _ _ _ (by rw [hI.tsize]; exact hds i o gs ho hg)]; exact hC0
      · rw [if_neg hg] at hC0
        rw [eval_put_ne _ _ _ _ hg]; exact hC0
    refine hK _ _ k' ⟨by simp [hI.size], fun j p hj hlj e he hb => ?_, ?_, ?_, fun t hn => ?_, fun j p V' d hj hV' hlj hd => ?_, hC, fun j hj => ?_, htr _ _ _ hI.base hR, ?_⟩
    · rw [getD_set _ _ _ (by rw [hI.size]; exact hlt)] at hlj ⊢
      simp only [Bool.or_eq_true, decide_eq_true_eq] at hlj ⊢
      rcases hlj with rfl | hlj
      · rw [ho] at hj; cases hj; exact .inr (haft e he hb)
      · exact .inr (hI.closed j p hj hlj e he hb)
    · rw [← hI.defers]; cases o.dst <;> rfl
    · rw [← hI.tsize]; cases o.dst <;> simp [Act.put]
    · have hne : o.dst ≠ some t := hn i o ho (by rw [getD_set _ _ _ (by rw [hI.size]; exact hlt)]; simp)
      rw [eval_put_ne _ _ _ _ hne]
      exact hI.old t fun j p hj hlj => hn j p hj (by rw [getD_set _ _ _ (by rw [hI.size]; exact hlt), hlj]; simp)
    · rw [getD_set _ _ _ (by rw [hI.size]; exact hlt)] at hlj
      by_cases hij : i = j
      · subst hij
        rw [ho] at hj; cases hj
        rw [hV] at hV'; cases hV'
        rw [hd, eval_put_same _ _ _ (by rw [hI.tsize]; exact hds i o d ho hd)]
        exact hv
      · simp only [hij, decide_false, Bool.false_or] at hlj
        have hne : o.dst ≠ some d := by
          intro e
          -- two operations that write one slot
          have h1 : (ops.toList.filterMap (·.dst)).Nodup := hBn
          obtain ⟨hi1, hi2⟩ := Array.getElem?_eq_some_iff.1 ho
          obtain ⟨hj1, hj2⟩ := Array.getElem?_eq_some_iff.1 hj
          exact nodup_dst _ h1 i j o p d (by simpa using ho) (by simpa using hj) e hd hij
        rw [eval_put_ne _ _ _ _ hne]
        exact V'.st _ _ _ (hI.new j p V' d hj hV' hlj hd) hR
    · rw [getD_set _ _ _ (by rw [hI.size]; exact hlt)]
      simp only [Bool.or_eq_true, decide_eq_true_eq]
      have hu := hI.upto j hj
      cases s with
      | true =>
        rw [hk1 rfl]
        by_cases hij : i = j
        · subst hij; have := hrk rfl; simp; omega
        · have : rank st j ≠ k := by
            rw [← hrk rfl]
            rcases Nat.lt_or_gt_of_ne hij with h | h
            · have := rank_lt st h hs; omega
            · have := rank_lt st h hj; omega
          simp only [hij, false_or, hu]; omega
      | false =>
        rw [hk0 rfl]
        have hij : i ≠ j := by rintro rfl; rw [hs] at hj; cases hj
        simp only [hij, false_or, hu]
    · cases s with
      | true =>
        rw [hk1 rfl, ← hrk rfl]
        have := rank_mono st (show i + 1 ≤ ops.size by omega)
        rw [rank_succ, if_pos hs] at this; exact this
      | false => rw [hk0 rfl]; exact hI.kle
  cases s with
  | true =>
    have hrk : rank st i = k := by
      have h1 := hI.upto i hs
      rw [hun'] at h1
      have h2 : ¬ rank st i < k := fun h => by simpa using h1.2 h
      have := hBs listed k i o ho hs hI.closed haft hI.upto
      omega
    rw [if_pos rfl, Nat.zero_add, Nat.zero_add, hrk] at hop
    exact hop a w K hI.state deps (key (k + 1) (fun _ => rfl) (fun h => by cases h) (fun _ => hrk))
  | false =>
    simp only [Bool.false_eq_true, if_false] at hop
    rw [Nat.zero_add] at hop
    exact hop k a w K hI.state deps (key k (fun h => by cases h) (fun _ => rfl) (fun h => by cases h))


theorem calm_any {gs : Tmp} {C : Nat → Value → World → Prop} {Vs : List (Stb R)} {a0 : Act} {st : List Bool} {w0 : World} (hB : CalmOK ops st) (hall : CalmAll P ops Q gs C Vs a0 0 0 ops.toList Vs st)
    (htr : ∀ a b c, R a b → R b c → R a c) (hds : ∀ (i : Nat) o d, ops[i]? = some o → o.dst = some d → d < a0.tmps.size)
    (hQ : ∀ listed a w k, CalmInv ops gs C Vs a0 st w0 listed a w k → (∀ i, i < ops.size → listed.getD i false = true) → Q .normal a w) :
    ∀ (fuel : Nat) (listed : Array Bool) (a : Act) (w : World) (k : Nat), CalmInv ops gs C Vs a0 st w0 listed a w k →
      ((List.range ops.size).filter fun i => !listed.getD i false).length ≤ fuel → wpAny P .any ops Q fuel listed a w := by
  have hfull : ∀ listed : Array Bool, listed.size = ops.size → Region.ready .any ops listed = [] → ∀ i, i < ops.size → listed.getD i false = true := by
    intro listed hsz hr i
    induction i using Nat.strongRecOn with
    | _ i ih =>
      intro hi
      rcases hl : listed.getD i false with _ | _
      · exfalso
        have : i ∈ Region.ready .any ops listed := mem_ready.2 ⟨by
            have h2 : i < listed.size := by rw [hsz]; exact hi
            simp [h2] at hl ⊢; exact hl, ops[i], by simp [hi], fun e he hb => by
            have h3 := hB.bl i ops[i] (by simp [hi]) e he hb
            exact ih e.on h3 (by omega)⟩
        rw [hr] at this; cases this
      · rfl
  intro fuel
  induction fuel with
  | zero =>
    intro listed a w k hI hlen
    have hnone : ∀ i, i < ops.size → listed.getD i false = true := fun i hi => by
      have h0 := List.eq_nil_of_length_eq_zero (Nat.le_zero.1 hlen)
      have := List.filter_eq_nil_iff.1 h0 i (List.mem_range.2 hi)
      simpa using this
    refine ⟨?_, hQ listed a w k hI hnone⟩
    rw [List.eq_nil_iff_forall_not_mem]
    intro i hi
    obtain ⟨h1, o, ho, _⟩ := mem_ready.1 hi
    have hlt : i < ops.size := (Array.getElem?_eq_some_iff.1 ho).1
    have h2 := hnone i hlt
    have h3 : i < listed.size := by rw [hI.size]; exact hlt
    simp [h3] at h1 h2; rw [h1] at h2; cases h2
  | succ fuel ih =>
    intro listed a w k hI hlen
    refine ⟨fun hr => hQ listed a w k hI (hfull listed hI.size hr), fun i hi => ?_⟩
    refine calm_step hB hall htr hds hI hi fun a' w' k' hI' => ih _ a' w' k' hI' ?_
    obtain ⟨h1, o, ho, _⟩ := mem_ready.1 hi
    have hlt : i < ops.size := (Array.getElem?_eq_some_iff.1 ho).1
    have hsz : i < listed.size := by rw [hI.size]; exact hlt
    have hne : listed.getD i false = false := by simp [hsz] at h1 ⊢; exact h1
    have : ((List.range ops.size).filter fun j => !(listed.setIfInBounds i true).getD j false).length < ((List.range ops.size).filter fun j => !listed.getD j false).length := by
      have e : ((List.range ops.size).filter fun j => !(listed.setIfInBounds i true).getD j false) = ((List.range ops.size).filter fun j => !listed.getD j false).filter fun j => !decide (i = j) := by
        rw [List.filter_filter]
        congr 1; funext j
        rw [getD_set _ _ _ hsz, Bool.not_or]
      rw [e]
      refine List.length_filter_lt_length_iff_exists.2 ⟨i, List.mem_filter.2 ⟨List.mem_range.2 hlt, by rw [hne]; rfl⟩, by simp⟩
    omega


/-- THE RULE: a region that draws its order. -/
theorem wp_region_calm' {id : Nat} {l : List Oper} {gs : Tmp} {C : Nat → Value → World → Prop} {a : Act} {w : World} (st : List Bool) (Vs : List (Stb R)) (hm : P.follows .mixedOrders = true) (hB : CalmOK l.toArray st)
    (htr : ∀ a b c, R a b → R b c → R a c) (h0 : R w w.drew) (hC : C 0 (a.eval (.tmp gs)) w.drew) (hds : l.all (fun o => (o.dst.map fun d => decide (d < a.tmps.size)).getD true) = true)
    (hall : CalmAll P l.toArray Q gs C Vs a 0 0 l Vs st)
    (hfin : ∀ (vs : Nat → Value) (w' : World), R w w' → (∃ g, C (rank st l.length) g w') → (∀ (i : Nat) o V, l[i]? = some o → Vs[i]? = some V → o.dst ≠ none → V.V (vs i) w') → Q .normal (putL l vs 0 a) w') :
    (Code.region id l.toArray true).wp P Q a w := by
  have hds' : ∀ (i : Nat) o d, l.toArray[i]? = some o → o.dst = some d → d < a.tmps.size := fun i o d hi hd => by
    have := List.all_eq_true.1 hds o (List.mem_of_getElem? (by simpa using hi))
    rw [hd] at this; simpa using this
  have hall' : CalmAll P l.toArray Q gs C Vs a 0 0 l.toArray.toList Vs st := hall
  have hrep : ∀ i, (Array.replicate l.toArray.size false).getD i false = false := fun i => by
    rw [Array.getD_eq_getD_getElem?, Array.getElem?_replicate]; split <;> rfl
  refine wp_region_any hm (calm_any (w0 := w) (k := 0) hB hall' htr hds' ?_ _ _ _ _ ⟨by simp, ?_, rfl, rfl, fun _ _ => rfl, ?_, hC, ?_, h0, Nat.zero_le _⟩ ?_)
  · intro listed a' w' k hI hfull
    obtain ⟨hl1, hl2, hget⟩ := calmAll_get l Vs st 0 0 hall
    have hBn : (l.filterMap (·.dst)).Nodup := hB.bn
    have hk : k = rank st l.length := by
      have h1 := hI.kle
      simp only [List.size_toArray] at h1
      rcases Nat.lt_or_ge k (rank st l.length) with h | h
      · obtain ⟨j, hj1, hj2, hj3⟩ := rank_hit st l.length k h
        have := (hI.upto j hj2).1 (hfull j (by simpa using hj1)); omega
      · omega
    obtain ⟨p1, p2, p3, p4⟩ := putL_spec l (fun i => ((l[i]?).bind (·.dst)).elim undef fun d => a'.eval (.tmp d)) 0 a hBn (fun j o d hj hd => hds' j o d (by simpa using hj) hd)
    have hlist : ∀ {j : Nat} {o : Oper}, l[j]? = some o → listed.getD j false = true := fun hj => hfull _ (by simpa using (List.getElem?_eq_some_iff.1 hj).1)
    have e : a' = putL l (fun i => ((l[i]?).bind (·.dst)).elim undef fun d => a'.eval (.tmp d)) 0 a := by
      refine act_ext (hI.defers.trans p1.symm) (hI.tsize.trans p2.symm) fun t => ?_
      by_cases ht : ∃ (j : Nat) (o : Oper), l[j]? = some o ∧ o.dst = some t
      · obtain ⟨j, o, hj, hd⟩ := ht
        rw [p3 j o t hj hd, Nat.zero_add, hj]
        simp [hd]
      · have hn : ∀ (j : Nat) (o : Oper), l[j]? = some o → o.dst ≠ some t := fun j o hj hd => ht ⟨j, o, hj, hd⟩
        rw [p4 t hn]
        exact hI.old t fun j o hj _ => hn j o (by simpa using hj)
    rw [e]
    refine hfin _ w' hI.base ⟨_, hk ▸ hI.state⟩ fun i o V hi hV hne => ?_
    cases hd : o.dst with
    | none => exact absurd hd hne
    | some d =>
      have := hI.new i o V d (by simpa using hi) hV (hlist hi) hd
      simpa [hi, hd] using this
  · intro i o _ h; rw [hrep] at h; cases h
  · intro i o V d _ _ h; rw [hrep] at h; cases h
  · intro j _; rw [hrep]; simp
  · simpa using List.length_filter_le _ (List.range l.length)


/-- The rule with levels. -/
theorem wp_region_calmL {id : Nat} {l : List Oper} {gs : Tmp} {C : Nat → Value → World → Prop} {a : Act} {w : World} (st : List Bool) (lv : List Nat) (Vs : List (Stb R)) (hm : P.follows .mixedOrders = true) (hB : calmL l.toArray st lv = true)
    (htr : ∀ a b c, R a b → R b c → R a c) (h0 : R w w.drew) (hC : C 0 (a.eval (.tmp gs)) w.drew) (hds : l.all (fun o => (o.dst.map fun d => decide (d < a.tmps.size)).getD true) = true)
    (hall : CalmAll P l.toArray Q gs C Vs a 0 0 l Vs st)
    (hfin : ∀ (vs : Nat → Value) (w' : World), R w w' → (∃ g, C (rank st l.length) g w') → (∀ (i : Nat) o V, l[i]? = some o → Vs[i]? = some V → o.dst ≠ none → V.V (vs i) w') → Q .normal (putL l vs 0 a) w') :
    (Code.region id l.toArray true).wp P Q a w :=
  wp_region_calm' st Vs hm (calmL_ok hB) htr h0 hC hds hall hfin


theorem calm_mv {gs : Tmp} {C : Nat → Value → World → Prop} {Vs : List (Stb R)} {a0 : Act} {i k : Nat} {V : Stb R} {o : Oper} (t : Tmp) (hi : ops[i]? = some o) (hg : o.guard = none) (ho : o.op = .move (.tmp t) ∨ o.op = .assign (.tmp t)) (hng : o.dst ≠ some gs) (hR : ∀ w, R w w) (ht : t ∈ o.looksAt ops)
    (hV : ∀ (v : Value) (w : World), slotD ops.toList Vs a0 t v w → V.V v w) : CalmOp P ops Q gs C Vs a0 i V o k k := by
  intro a w K hC hd hK
  refine calm_run hi hg (a.eval (.tmp t)) (w' := w) ?_ (hK _ _ (hR w) (by rw [if_neg hng]; exact hC) (hV _ w (by rw [eval_get]; exact hd t ht)))
  rcases ho with ho | ho <;> simp [execOp, ho]
end
end Go.Proofs.Ytpkdcbfhacgklaa.G
/- interrexlaw01.put: an item is written, by both. -/
namespace Go.Proofs.Ytpkdcbfhacgklaa
open Go.RowKit

/-- An item's bytes. -/
def Item.bytes (i : Item) : List UInt8 :=
  match i.k % 9 with
  | 0 => leB 1 i.x
  | 1 => leB 2 i.x
  | 2 => leB 4 i.x
  | 3 => leB 8 i.x
  | 4 => leB 1 (if i.is then 1 else 0)
  | 5 => textB i.s
  | 6 => rowB i.L
  | 7 => i.s.data.toList
  | _ => []

theorem leB_mod (n x : Nat) : leB n (x % 256 ^ n) = leB n x := by
  induction n generalizing x with
  | zero => rfl
  | succ n ih =>
    have h1 : UInt8.ofNat (x % 256 ^ (n + 1)) = UInt8.ofNat x := by
      apply UInt8.toNat_inj.1
      simp only [UInt8.toNat_ofNat']
      rw [Nat.pow_succ, Nat.mul_comm, Nat.mod_mul_right_mod]
    have h2 : x % 256 ^ (n + 1) / 256 = (x / 256) % 256 ^ n := by
      rw [Nat.pow_succ, Nat.mul_comm, Nat.mod_mul_right_div_self]
    simp only [leB]
    rw [h1, h2, ih]

theorem u16_wrap (x : Nat) : IntKind.u16.wrap (x : Int) = ((x % 65536 : Nat) : Int) := by simp [IntKind.wrap, IntKind.signed, IntKind.bits]
def PutPost (w : World) (S : Nat → Prop) (p : Nat) (bs xs : List UInt8) (e : Ending) (w' : World) : Prop :=
  e = .returned (.tuple #[.pointer (some ⟨p, 0, none⟩), .string (mkS xs)]) ∧ WrAt w' (andNew S w) p (bs ++ xs) ∧ Fr S w w'

/-- The blocks of S that are there. -/
def cutB (S : Nat → Prop) (w : World) : Nat → Prop := fun k => S k ∧ k < w.heap.size
theorem WrAt.cut {w : World} {S : Nat → Prop} {p : Nat} {bs : List UInt8} (h : WrAt w S p bs) : WrAt w (cutB S w) p bs := h.mono fun _ hk hs => ⟨hs, hk⟩
theorem WrAt.drew {w : World} {S : Nat → Prop} {p : Nat} {bs : List UInt8} (h : WrAt w S p bs) : WrAt w.drew S p bs := h.fr ((Fr.refl noB _).drew) (fun _ _ _ => id)
/-- A []byte that was made from a text since wa. -/
def RowIn (wa : World) (n : Nat) (R : World → World → Prop) (hR : ∀ a b, R a b → a.heap.size ≤ b.heap.size) : Stb R :=
  ⟨fun v w => ∃ g c, v = .slice (some ⟨g, 0, none⟩) n c ∧ wa.heap.size ≤ g ∧ g < w.heap.size, fun _ _ _ ⟨g, c, e, h1, h2⟩ f => ⟨g, c, e, h1, Nat.lt_of_lt_of_le h2 (hR _ _ f)⟩⟩
/-- What a region with one such text has besides, ahead of the call that takes it. -/
def RawC (wa : World) (xs : List UInt8) (k : Nat) (w' : World) : Prop := k = 0 → ∀ g, wa.heap.size ≤ g → g < w'.heap.size → RowAt w' (some ⟨g, 0, none⟩) (bcells xs)
theorem RawC.bytes {wa w : World} {s : ByteArray} {k : Nat} (h : RawC wa s.data.toList k w) : RawC wa s.data.toList k (Lib.bytesWorld w 5 s) := fun hk g h1 h2 => by
  by_cases e : g < w.heap.size
  · exact (h hk g h1 e).fr0 (bytesW_fr w s)
  · rw [Lib.bytesWorld_size] at h2
    have : g = w.heap.size := by omega
    subst this
    exact bytesW_row w s
/-- A Writer at p in a region: bs, and xs once its call has come up; the box at b keeps its cells. -/
def PutC (U : Nat → Prop) (wa : World) (p : Nat) (bs xs : List UInt8) (k : Nat) (w' : World) : Prop := WrAt w' U p (if k = 0 then bs else bs ++ xs) ∧ Fr U wa w'
theorem PutC.ref {U : Nat → Prop} {wa : World} {p : Nat} {bs xs : List UInt8} {k : Nat} {w w' : World} (h : PutC U wa p bs xs k w) (f : Fr noB w w') : PutC U wa p bs xs k w' :=
  ⟨h.1.fr f (fun _ _ _ => id), h.2.then' (f.mono fun _ _ h => h.elim)⟩
theorem PutC.wr {S : Nat → Prop} {wa : World} {p : Nat} {bs xs : List UInt8} {w w' : World} (h : PutC (andNew S wa) wa p bs xs 0 w) (h1 : WrAt w' (andNew (andNew S wa) w) p (bs ++ xs)) (f : Fr (andNew S wa) w w') : PutC (andNew S wa) wa p bs xs 1 w' :=
  ⟨h1.mono (fun i _ hi => hi.elim id fun q => Or.inr (by have := h.2.size; omega)), h.2.then' f⟩

theorem sumSz_50 {l : List ByteArray} (h1 : l.length ≤ 10) (h2 : ∀ s ∈ l, s.size ≤ 50) : sumSz l ≤ 520 := by
  have : ∀ l : List ByteArray, (∀ s ∈ l, s.size ≤ 50) → sumSz l ≤ 52 * l.length := by
    intro l
    induction l with
    | nil => simp [sumSz]
    | cons s l ih =>
      intro h
      have := ih fun s hs => h s (List.mem_cons_of_mem _ hs)
      have := h s (List.mem_cons_self ..)
      simp only [sumSz, List.map_cons, List.sum_cons, List.length_cons] at *
      omega
  have := this l h2
  omega

end Go.Proofs.Ytpkdcbfhacgklaa
/- A Writer's blocks, as a function of the world: a relation for regions with many writes. -/
namespace Go.Proofs.Ytpkdcbfhacgklaa
open Go.RowKit

/-- The blocks of the Writer at p. -/
def footW (p : Nat) (w : World) (k : Nat) : Prop := k = p ∨ ∃ v T, w.heap[p]? = some (.cells #[v] T (0, 0)) ∧ v.ownBlock = some k
/-- Only the Writer's blocks were turned, and new ones. -/
structure RW (p : Nat) (w w' : World) : Prop where
  fr : Fr (footW p w) w w'
  foot : ∀ k, footW p w' k → footW p w k ∨ w.heap.size ≤ k
theorem WrAt.foot {w : World} {S : Nat → Prop} {p : Nat} {bs : List UInt8} (h : WrAt w S p bs) : WrAt w (footW p w) p bs := by
  obtain ⟨A, c, ty, h1, h2, h3, h4, h5⟩ := h.ex
  exact ⟨A, c, ty, h1, h2, h3, Or.inl rfl, fun k hk => Or.inr ⟨_, _, h2, hk⟩⟩
theorem WrAt.foot_le {w : World} {S : Nat → Prop} {p : Nat} {bs : List UInt8} (h : WrAt w S p bs) {k : Nat} (hk : footW p w k) : S k := by
  obtain ⟨A, c, ty, h1, h2, h3, h4, h5⟩ := h.ex
  rcases hk with rfl | ⟨v, T, e1, e2⟩
  · exact h4
  · rw [h2] at e1
    injection e1 with e1
    injection e1 with e1 _ _
    have : v = .slice A bs.length c := by simpa using e1.symm
    subst this
    exact h5 k e2
theorem WrAt.foot_lt {w : World} {S : Nat → Prop} {p : Nat} {bs : List UInt8} (h : WrAt w S p bs) {k : Nat} (hk : footW p w k) : k < w.heap.size :=
  (h.cut.foot_le hk).2
theorem RW.refl (p : Nat) (w : World) : RW p w w := ⟨Fr.refl _ _, fun _ h => Or.inl h⟩
theorem RW.trans {p : Nat} {a b c : World} (h : RW p a b) (k : RW p b c) : RW p a c :=
  ⟨h.fr.trans k.fr fun i hi hf => (h.foot i hf).elim id fun h => by omega,
   fun i hi => (k.foot i hi).elim (fun h' => h.foot i h') fun h' => Or.inr (Nat.le_trans h.fr.size h')⟩
theorem RW.drew (p : Nat) (w : World) : RW p w w.drew := ⟨(Fr.refl _ _).drew, fun _ h => Or.inl h⟩
theorem RW.wr {p : Nat} {w w' : World} {bs : List UInt8} (h : WrAt w' (andNew (footW p w) w) p bs) (f : Fr (footW p w) w w') : RW p w w' := ⟨f, fun _ hk => h.foot_le hk⟩
theorem RW.quiet {p : Nat} {w w' : World} {S : Nat → Prop} {bs : List UInt8} (h : WrAt w S p bs) (f : Fr noB w w') : RW p w w' :=
  ⟨f.mono fun _ _ h => h.elim, fun _ hk => Or.inl ((h.foot.fr f fun _ _ _ => id).foot_le hk)⟩
/-- A []byte in a block that is not the Writer's. -/
def OutV (p : Nat) (bs : List UInt8) : Stb (RW p) :=
  ⟨fun v w => ∃ g c, v = .slice (some ⟨g, 0, none⟩) bs.length c ∧ g < w.heap.size ∧ ¬ footW p w g ∧ RowAt w (some ⟨g, 0, none⟩) (bcells bs),
   fun _ _ _ ⟨g, c, e, h1, h2, h3⟩ f => ⟨g, c, e, Nat.lt_of_lt_of_le h1 f.fr.size, fun h => (f.foot g h).elim h2 (fun h => by omega), h3.fr f.fr (fun a e _ _ hf => by cases e; exact h2 hf)⟩⟩
/-- A chain of writes: q of the parts are written. -/
def BackC (p : Nat) (wa : World) (bs : List UInt8) (P : List (List UInt8)) (q : Nat) (W : World) : Prop := RW p wa W ∧ WrAt W (footW p W) p (bs ++ (P.take q).flatten)
theorem BackC.step {p : Nat} {wa W w' : World} {bs x : List UInt8} {P : List (List UInt8)} {q : Nat} (h : BackC p wa bs P q W) (hq : P[q]? = some x) (h1 : WrAt w' (andNew (footW p W) W) p (bs ++ (P.take q).flatten ++ x)) (f1 : Fr (footW p W) W w') :
    RW p W w' ∧ BackC p wa bs P (q + 1) w' := by
  have r := RW.wr h1 f1
  refine ⟨r, h.1.trans r, ?_⟩
  have e : (P.take (q + 1)).flatten = (P.take q).flatten ++ x := by rw [take_snoc' hq, List.flatten_append]; simp
  rw [e, ← List.append_assoc]
  exact h1.foot
theorem BackC.quiet {p : Nat} {wa W w' : World} {bs : List UInt8} {P : List (List UInt8)} {q : Nat} (h : BackC p wa bs P q W) (f : Fr noB W w') : RW p W w' ∧ BackC p wa bs P q w' :=
  ⟨RW.quiet h.2 f, h.1.trans (RW.quiet h.2 f), (h.2.fr f fun _ _ _ => id).foot⟩
theorem BackC.start {p : Nat} {w : World} {S : Nat → Prop} {bs : List UInt8} {P : List (List UInt8)} (h : WrAt w S p bs) : BackC p w bs P 0 w.drew := ⟨RW.drew _ _, by
  rw [List.take_zero, List.flatten_nil, List.append_nil]; exact h.drew.foot⟩
theorem parts_length (P : List (List UInt8)) (q : Nat) : (P.take q).flatten.length ≤ P.flatten.length := by
  have h : P.flatten = (P.take q).flatten ++ (P.drop q).flatten := by rw [← List.flatten_append, List.take_append_drop]
  rw [h, List.length_append]; omega
/-- All of an item, as OctetBack writes it. -/
def Item.parts (i : Item) : List (List UInt8) := [leB 1 i.k, leB 2 i.x, leB 4 i.x, leB 8 i.x, leB 1 (if i.is then 1 else 0), textB i.s, rowB i.L, i.s.data.toList]
def Item.all (i : Item) : List UInt8 := i.parts.flatten
def allB (l : List Item) : List UInt8 := l.flatMap Item.all
end Go.Proofs.Ytpkdcbfhacgklaa
/- octet.Reader: what it holds, and its contracts. -/
namespace Go.Proofs.Ytpkdcbfhacgklaa
open Go.RowKit

/-- A Reader: what is left, and the first error. -/
structure Rd where
  bs : List UInt8
  e : Nat
def rFail (r : Rd) (k : Nat) : Rd := if r.e = 0 ∧ k ≠ 0 then ⟨[], k⟩ else r
def rTake (r : Rd) (n : Nat) : Rd × List UInt8 := if r.bs.length < n then (rFail r 2, []) else (⟨r.bs.drop n, r.e⟩, r.bs.take n)
/-- The number of bytes, lowest first. -/
def leV : List UInt8 → Nat
  | [] => 0
  | b :: bs => b.toNat + 256 * leV bs
def rNum (r : Rd) (n : Nat) : Rd × Nat := ((rTake r n).1, leV (rTake r n).2)
def rTruth (r : Rd) : Rd × Bool := (if 1 < (rNum r 1).2 then rFail (rNum r 1).1 4 else (rNum r 1).1, (rNum r 1).2 == 1)
def rCount (r : Rd) (most : Int) : Rd × Nat := if max 0 most < ((rNum r 2).2 : Int) then (rFail (rNum r 2).1 3, 0) else rNum r 2
def rText (r : Rd) (most : Int) : Rd × List UInt8 := rTake (rCount r most).1 (rCount r most).2
def rEnd (r : Rd) : Nat := if r.e = 0 ∧ 0 < r.bs.length then 3 else r.e

structure RdV (w : World) (S : Nat → Prop) (p : Nat) (A : Option Addr) (n c : Nat) (T : TypeId) (r : Rd) : Prop where
  len : Hid (r.bs.length = n)
  heap : w.heap[p]? = some (.cells #[.slice A n c, .int .i64 (r.e : Nat)] T (0, 0))
  row : RowAt w A (bcells r.bs)
  cap : n ≤ c
  max : c ≤ 9223372036854775807
  nil : A = none → n = 0 ∧ c = 0
  inS : S p
  rowS : 0 < n → ∀ a, A = some a → S a.block ∧ a.block ≠ p
  err : Hid (r.e ≠ 0 → r.bs = [])
/-- At p a Reader, in blocks of S. -/
def RdAt (w : World) (S : Nat → Prop) (p : Nat) (r : Rd) : Prop := ∃ A n c T, RdV w S p A n c T r

theorem RdV.fr {w w' : World} {S T : Nat → Prop} {p : Nat} {A : Option Addr} {n c : Nat} {ty : TypeId} {r : Rd} (h : RdV w S p A n c ty r) (f : Fr T w w') (hd : ∀ k, k < w.heap.size → S k → ¬ T k) : RdV w' S p A n c ty r :=
  ⟨h.len, f.heap h.heap (hd p (Array.getElem?_eq_some_iff.1 h.heap).1 h.inS), h.row.fr f (fun a e h0 hb => hd _ hb (h.rowS (by rw [bcells_length, h.len.out] at h0; exact h0) a e).1), h.cap, h.max, h.nil, h.inS, h.rowS, h.err⟩
theorem RdAt.fr {w w' : World} {S T : Nat → Prop} {p : Nat} {r : Rd} (h : RdAt w S p r) (f : Fr T w w') (hd : ∀ k, k < w.heap.size → S k → ¬ T k) : RdAt w' S p r := by
  obtain ⟨A, n, c, ty, h⟩ := h
  exact ⟨A, n, c, ty, h.fr f hd⟩
theorem RdAt.mono {w : World} {S T : Nat → Prop} {p : Nat} {r : Rd} (h : RdAt w S p r) (hd : ∀ k, S k → T k) : RdAt w T p r := by
  obtain ⟨A, n, c, ty, h⟩ := h
  exact ⟨A, n, c, ty, h.len, h.heap, h.row, h.cap, h.max, h.nil, hd _ h.inS, fun h0 a e => ⟨hd _ (h.rowS h0 a e).1, (h.rowS h0 a e).2⟩, h.err⟩
theorem RdV.cells {w : World} {S : Nat → Prop} {p : Nat} {A : Option Addr} {n c : Nat} {ty : TypeId} {r : Rd} (h : RdV w S p A n c ty r) :
    w.cell? ⟨p, 0, none⟩ = some (.slice A n c) ∧ w.cell? ⟨p, 1, none⟩ = some (.int .i64 (r.e : Nat)) ∧ w.frozen? ⟨p, 0, none⟩ = false ∧ w.frozen? ⟨p, 1, none⟩ = false := by
  have := h.heap
  refine ⟨?_, ?_, ?_, ?_⟩ <;> simp [World.cell?, World.frozen?, this]
theorem RdV.rowTake {w : World} {S : Nat → Prop} {p : Nat} {A : Option Addr} {n c : Nat} {ty : TypeId} {r : Rd} (h : RdV w S p A n c ty r) (k : Nat) (u : Value) : RowAt (w.setCell ⟨p, 0, none⟩ u) A (bcells (r.bs.take k)) := fun j v hv => by
  have hj : (bcells r.bs)[j]? = some v := by
    simp only [bcells, List.map_take, List.getElem?_take] at hv ⊢
    split at hv
    · exact hv
    · cases hv
  obtain ⟨a, e, hc⟩ := h.row j v hj
  have h0 : 0 < n := by have := (List.getElem?_eq_some_iff.1 hj).1; rw [bcells_length, h.len.out] at this; omega
  have hf2 : Fr (fun b => b = p) w (w.setCell ⟨p, 0, none⟩ u) := Fr.setCell (S := fun b => b = p) (Fr.refl _ w) (p := ⟨p, 0, none⟩) (Or.inl rfl) _
  exact ⟨a, e, hf2.cell hc (by rw [add_block]; exact (h.rowS h0 a e).2)⟩
theorem two_set0 {w : World} {b : Nat} {x y u : Value} {t : TypeId} (h : w.heap[b]? = some (.cells #[x, y] t (0, 0))) : (w.setCell ⟨b, 0, none⟩ u).heap[b]? = some (.cells #[u, y] t (0, 0)) := by
  simp [World.setCell, Array.getElem?_modify, h]
theorem two_set1 {w : World} {b : Nat} {x y u : Value} {t : TypeId} (h : w.heap[b]? = some (.cells #[x, y] t (0, 0))) : (w.setCell ⟨b, 1, none⟩ u).heap[b]? = some (.cells #[x, u] t (0, 0)) := by
  simp [World.setCell, Array.getElem?_modify, h]

def RPost (w : World) (S : Nat → Prop) (p : Nat) (r : Rd) (v : Value) (e : Ending) (w' : World) : Prop := e = .returned v ∧ RdAt w' S p r ∧ Fr S w w'

theorem fail_calls (w : World) (S : Nat → Prop) (p : Nat) (r : Rd) (k : Nat) (h : RdAt w S p r) : Calls Try.prog 75 #[.pointer (some ⟨p, 0, none⟩), .int .i64 k] w (RPost w S p (rFail r k) (.tuple #[])) := by
  obtain ⟨A, n, c, T, h⟩ := h
  obtain ⟨c0, c1, z0, z1⟩ := h.cells
  by_cases e0 : r.e = 0
  · by_cases k0 : k = 0
    · have t0 : ((r.e : Int) == 0) = true := by simp; exact e0
      have t1 : ((k : Int) != 0) = false := by simp; exact k0
      have HF : Hid (rFail r k = r) := by unfold Hid rFail; rw [if_neg (by simp [k0])]
      go_enter Try.func75, Try.ntmps75
      go_wp2_with fail
      go_end0
      exact ⟨rfl, by rw [HF.out]; exact ⟨_, _, _, _, h⟩, Fr.refl _ _⟩
    · have t0 : ((r.e : Int) == 0) = true := by simp; exact e0
      have t1 : ((k : Int) != 0) = true := by simp; exact k0
      have HF : Hid (rFail r k = ⟨[], k⟩) := by unfold Hid rFail; rw [if_pos ⟨e0, k0⟩]
      have HK := hid k0
      clear e0 k0
      go_enter Try.func75, Try.ntmps75
      go_wp2_with fail
      go_end0
      refine ⟨rfl, ?_, ((Fr.refl S w).setCell (Or.inl h.inS) _).setCell (p := ⟨p, 1, none⟩) (Or.inl h.inS) _⟩
      rw [HF.out]
      exact ⟨none, 0, 0, T, rfl, two_set1 (two_set0 h.heap), RowAt.nil _ _, Nat.le_refl _, by omega, fun _ => ⟨rfl, rfl⟩, h.inS, fun h0 => absurd h0 (by omega), fun _ => rfl⟩
  · have t0 : ((r.e : Int) == 0) = false := by simp; exact e0
    have HF : Hid (rFail r k = r) := by unfold Hid rFail; rw [if_neg (by simp [e0])]
    go_enter Try.func75, Try.ntmps75
    go_wp2_with fail
    go_end0
    exact ⟨rfl, by rw [HF.out]; exact ⟨_, _, _, _, h⟩, Fr.refl _ _⟩

/-- What take hands back: bytes that can be read. -/
def TakePost (w : World) (S : Nat → Prop) (p : Nat) (r : Rd) (xs : List UInt8) (e : Ending) (w' : World) : Prop :=
  ∃ A n c, e = .returned (.slice A n c) ∧ Hid (xs.length = n) ∧ RowAt w' A (bcells xs) ∧ (A = none → n = 0 ∧ c = 0) ∧ n ≤ 9223372036854775807 ∧ RdAt w' S p r ∧ Fr S w w'
theorem take_calls (w : World) (S : Nat → Prop) (p : Nat) (r : Rd) (k : Nat) (h : RdAt w S p r) : Calls Try.prog 104 #[.pointer (some ⟨p, 0, none⟩), .int .i64 k] w (TakePost w S p (rTake r k).1 (rTake r k).2) := by
  have hf := fail_calls w S p r 2 h
  obtain ⟨A, n, c, T, h⟩ := h
  obtain ⟨c0, c1, z0, z1⟩ := h.cells
  by_cases hn : n < k
  · have HF : Hid (rTake r k = (rFail r 2, [])) := by unfold Hid rTake; rw [if_pos (by rw [h.len.out]; exact hn)]
    go_enter Try.func104, Try.ntmps104
    go_wp2_with fail
    refine hf.mono ?_
    rintro e w1 ⟨rfl, h1, f1⟩
    go_wp2_with fail
    go_ret
    refine ⟨none, 0, 0, rfl, by rw [HF.out]; rfl, by rw [HF.out]; exact RowAt.nil _ _, fun _ => ⟨rfl, rfl⟩, by omega, by rw [HF.out]; exact h1, f1⟩
  · have HF : Hid (rTake r k = (⟨r.bs.drop k, r.e⟩, r.bs.take k)) := by unfold Hid rTake; rw [if_neg (by rw [h.len.out]; exact hn)]
    have hk : k ≤ n := by omega
    have hcap := h.cap
    have hmax := h.max
    clear hf
    by_cases hck : c = k
    · subst hck
      have hnk : n = c := by omega
      subst hnk
      go_enter Try.func104, Try.ntmps104
      go_wp2_with fail
      go_ret
      have hs : Fr S w (w.setCell ⟨p, 0, none⟩ (.slice A 0 0)) := (Fr.refl S w).setCell (Or.inl h.inS) _
      refine ⟨A, n, n, rfl, by rw [HF.out]; unfold Hid; rw [List.length_take, h.len.out]; omega, ?_, fun e => h.nil e, hmax, ?_, hs⟩
      · rw [HF.out]; exact h.rowTake n _
      · rw [HF.out]
        have hd : r.bs.drop n = [] := List.drop_eq_nil_of_le (by rw [h.len.out]; exact Nat.le_refl _)
        refine ⟨A, 0, 0, T, by unfold Hid; rw [hd]; rfl, ?_, by simp only [hd]; exact RowAt.nil _ _, Nat.le_refl _, by omega, fun _ => ⟨rfl, rfl⟩, h.inS, fun h0 => absurd h0 (by omega), fun _ => hd⟩
        exact two_set0 (u := .slice A 0 0) h.heap
    · go_enter Try.func104, Try.ntmps104
      go_wp2_with fail
      go_ret
      have hs : Fr S w (w.setCell ⟨p, 0, none⟩ (.slice (A.map (·.add k)) (n - k) (c - k))) := (Fr.refl S w).setCell (Or.inl h.inS) _
      have hne : A ≠ none := fun e => by have := h.nil e; omega
      obtain ⟨a, rfl⟩ := Option.ne_none_iff_exists'.1 hne
      refine ⟨some a, k, c, rfl, by rw [HF.out]; unfold Hid; rw [List.length_take, h.len.out]; omega, ?_, fun e => (by cases e), by omega, ?_, hs⟩
      · rw [HF.out]; exact h.rowTake k _
      · rw [HF.out]
        refine ⟨some (a.add k), n - k, c - k, T, by unfold Hid; rw [List.length_drop, h.len.out], two_set0 h.heap, ?_, by omega, by omega, fun e => (by cases e), h.inS, fun h0 b e => ?_, fun e => ?_⟩
        · intro j u hu
          refine ⟨_, rfl, ?_⟩
          rw [add_add']
          have hj : (bcells r.bs)[k + j]? = some u := by
            rw [← hu]; simp only [bcells, List.map_drop, List.getElem?_drop]
          have h0 : 0 < n := by have := (List.getElem?_eq_some_iff.1 hj).1; rw [bcells_length, h.len.out] at this; omega
          have hf2 : Fr (fun b => b = p) w (w.setCell ⟨p, 0, none⟩ (.slice (some (a.add k)) (n - k) (c - k))) := Fr.setCell (S := fun b => b = p) (Fr.refl _ w) (p := ⟨p, 0, none⟩) (Or.inl rfl) _
          exact hf2.cell (h.row.cell hj) (by rw [add_block]; exact (h.rowS h0 a rfl).2)
        · cases e
          rw [add_block]
          exact h.rowS (by omega) a rfl
        · show r.bs.drop k = []
          rw [h.err.out e]; simp
end Go.Proofs.Ytpkdcbfhacgklaa
/- octet.Reader's methods. -/
namespace Go.Proofs.Ytpkdcbfhacgklaa
open Go.RowKit

theorem leV_lt (xs : List UInt8) : leV xs < 256 ^ xs.length := by
  induction xs with
  | nil => simp [leV]
  | cons b xs ih =>
    have := b.toNat_lt
    simp only [leV, List.length_cons, Nat.pow_succ]
    omega
theorem leV_snoc (xs : List UInt8) (b : UInt8) : leV (xs ++ [b]) = leV xs + b.toNat * 256 ^ xs.length := by
  induction xs with
  | nil => simp [leV]
  | cons c xs ih =>
    simp only [List.cons_append, leV, ih, List.length_cons, Nat.pow_succ, Nat.mul_add]
    rw [← Nat.mul_assoc, Nat.mul_comm (256 ^ xs.length) 256, ← Nat.mul_assoc, Nat.mul_comm b.toNat 256, Nat.add_assoc]
theorem rTake_len (r : Rd) (n : Nat) : (rTake r n).2.length ≤ n := by
  unfold rTake
  split
  · simp
  · simp; omega

theorem or_step (x b j : Nat) (hx : x < 256 ^ j) (hb : b < 256) (hj : j < 8) : bits .or .u64 (x : Int) (IntKind.u64.wrap ((b : Int) * 2 ^ (8 * j))) = ((x + b * 256 ^ j : Nat) : Int) := by
  have hp : (256 : Nat) ^ j = 2 ^ (8 * j) := by rw [Nat.pow_mul]
  have hle : (256 : Nat) ^ (j + 1) ≤ 256 ^ 8 := Nat.pow_le_pow_right (by omega) (by omega)
  have hm : b * 256 ^ j < 256 ^ (j + 1) := by rw [Nat.pow_succ, Nat.mul_comm (256 ^ j)]; exact Nat.mul_lt_mul_of_pos_right hb (Nat.pow_pos (by omega))
  have h64 : (256 : Nat) ^ 8 = 18446744073709551616 := by decide
  have e1 : (b : Int) * 2 ^ (8 * j) = ((b * 256 ^ j : Nat) : Int) := by rw [hp]; push_cast; rfl
  have e2 : IntKind.u64.wrap ((b * 256 ^ j : Nat) : Int) = ((b * 256 ^ j : Nat) : Int) := by
    generalize b * 256 ^ j = m at *
    simp [IntKind.wrap, IntKind.bits, IntKind.signed]
    omega
  have hx2 : x < 18446744073709551616 := by
    have : 256 ^ j ≤ 256 ^ (j + 1) := Nat.pow_le_pow_right (by omega) (by omega)
    omega
  rw [e1, e2, bits_or_u64_nat x _ hx2 (by omega)]
  congr 1
  rw [hp] at hx ⊢
  have := Nat.two_pow_add_eq_or_of_lt hx b
  rw [Nat.or_comm, Nat.mul_comm b, ← this, Nat.add_comm]
set_option maxRecDepth 100000 in
set_option maxHeartbeats 1600000 in
theorem numRd_calls (w : World) (S : Nat → Prop) (p : Nat) (r : Rd) (k : Nat) (h : RdAt w S p r) (hk : k ≤ 8) :
    Calls Try.prog 103 #[.pointer (some ⟨p, 0, none⟩), .int .i64 k] w (RPost w S p (rNum r k).1 (.int .u64 ((rNum r k).2 : Nat))) := by
  have hl := rTake_len r k
  go_enter Try.func103, Try.ntmps103
  go_wp2_with fail
  refine (take_calls w S p r k h).mono ?_
  rintro e w1 ⟨A, n, c, rfl, hn, hr, hA, hm, h1, f1⟩
  have HF : Hid (rNum r k = ((rTake r k).1, leV (rTake r k).2)) := rfl
  generalize (rTake r k).1 = r1 at *
  generalize (rTake r k).2 = xs at *
  rw [hn.out] at hl
  go_wp2_with fail
  go_loop [5, 12] (fun y i => ∃ j : Nat, j ≤ n ∧ i = .int .i64 j ∧ y = .int .u64 (leV (xs.take j) : Nat)) (fun _ i => n - (intOf i).toNat)
  case atStart => exact ⟨0, Nat.zero_le _, rfl, rfl⟩
  case round =>
    obtain ⟨j, hj, rfl, rfl⟩ := hrel
    by_cases hjn : j < n
    · obtain ⟨b, hb⟩ : ∃ b, xs[j]? = some b := ⟨_, List.getElem?_eq_getElem (by rw [hn.out]; exact hjn)⟩
      obtain ⟨a, rfl⟩ := hr.some_of (by rw [bcells_length, hn.out]; omega)
      have hc := hr.cell (j := j) (u := .int .u8 b.toNat) (by simp only [bcells, List.getElem?_map, hb]; rfl)
      have hb1 := b.toNat_lt
      have HB := hid hb; clear hb
      go_wp2_with fail
      have hlt : leV (xs.take j) < 256 ^ j := by
        have := leV_lt (xs.take j)
        rw [List.length_take, hn.out, Nat.min_eq_left (by omega)] at this; exact this
      have hst := or_step (leV (xs.take j)) b.toNat j hlt hb1 (by omega)
      have hsn : leV (xs.take (j + 1)) = leV (xs.take j) + b.toNat * 256 ^ j := by
        rw [take_snoc' HB.out, leV_snoc, List.length_take, hn.out, Nat.min_eq_left (by omega)]
      go_round
      case rel => exact ⟨j + 1, by omega, by go_num, by rw [hst, hsn]⟩
      case measure => simp [intOf]; omega
    · have : j = n := by omega
      subst this
      go_wp2_with fail
      go_ret
      rw [HF.out]
      refine ⟨?_, h1, f1⟩
      rw [List.take_of_length_le (by rw [hn.out]; exact Nat.le_refl _)]
      rfl

theorem rNum_lt (r : Rd) (n : Nat) : (rNum r n).2 < 256 ^ n := by
  have h1 := leV_lt (rTake r n).2
  have h3 : 256 ^ (rTake r n).2.length ≤ 256 ^ n := Nat.pow_le_pow_right (by omega) (rTake_len r n)
  unfold rNum; simp only; omega
theorem byteRd_calls (w : World) (S : Nat → Prop) (p : Nat) (r : Rd) (h : RdAt w S p r) :
    Calls Try.prog 106 #[.pointer (some ⟨p, 0, none⟩)] w (RPost w S p (rNum r 1).1 (.int .u8 ((rNum r 1).2 : Nat))) := by
  have hb : (rNum r 1).2 < 256 := rNum_lt r 1
  go_enter Try.func106, Try.ntmps106
  go_wp2_with fail
  refine (numRd_calls w S p r 1 h (by omega)).mono ?_
  rintro e w1 ⟨rfl, h1, f1⟩
  go_wp2_with fail
  go_ret
  exact ⟨rfl, h1, f1⟩
theorem twoRd_calls (w : World) (S : Nat → Prop) (p : Nat) (r : Rd) (h : RdAt w S p r) :
    Calls Try.prog 116 #[.pointer (some ⟨p, 0, none⟩)] w (RPost w S p (rNum r 2).1 (.int .u16 ((rNum r 2).2 : Nat))) := by
  have hb : (rNum r 2).2 < 65536 := rNum_lt r 2
  go_enter Try.func116, Try.ntmps116
  go_wp2_with fail
  refine (numRd_calls w S p r 2 h (by omega)).mono ?_
  rintro e w1 ⟨rfl, h1, f1⟩
  go_wp2_with fail
  go_ret
  exact ⟨rfl, h1, f1⟩
theorem fourRd_calls (w : World) (S : Nat → Prop) (p : Nat) (r : Rd) (h : RdAt w S p r) :
    Calls Try.prog 102 #[.pointer (some ⟨p, 0, none⟩)] w (RPost w S p (rNum r 4).1 (.int .u32 ((rNum r 4).2 : Nat))) := by
  have hb : (rNum r 4).2 < 4294967296 := rNum_lt r 4
  go_enter Try.func102, Try.ntmps102
  go_wp2_with fail
  refine (numRd_calls w S p r 4 h (by omega)).mono ?_
  rintro e w1 ⟨rfl, h1, f1⟩
  go_wp2_with fail
  go_ret
  exact ⟨rfl, h1, f1⟩
theorem eightRd_calls (w : World) (S : Nat → Prop) (p : Nat) (r : Rd) (h : RdAt w S p r) :
    Calls Try.prog 74 #[.pointer (some ⟨p, 0, none⟩)] w (RPost w S p (rNum r 8).1 (.int .u64 ((rNum r 8).2 : Nat))) := by
  go_enter Try.func74, Try.ntmps74
  go_wp2_with fail
  refine (numRd_calls w S p r 8 h (by omega)).mono ?_
  rintro e w1 ⟨rfl, h1, f1⟩
  go_wp2_with fail
  go_ret
  exact ⟨rfl, h1, f1⟩
theorem countRd_calls (w : World) (S : Nat → Prop) (p : Nat) (r : Rd) (most : Int) (h : RdAt w S p r) (hm1 : -9223372036854775808 ≤ most) (hm2 : most ≤ 9223372036854775807) :
    Calls Try.prog 105 #[.pointer (some ⟨p, 0, none⟩), .int .i64 most] w (RPost w S p (rCount r most).1 (.int .i64 ((rCount r most).2 : Nat))) := by
  have hb : (rNum r 2).2 < 65536 := rNum_lt r 2
  have HF : Hid (rCount r most = if max 0 most < ((rNum r 2).2 : Int) then (rFail (rNum r 2).1 3, 0) else ((rNum r 2).1, (rNum r 2).2)) := rfl
  have hc := twoRd_calls w S p r h
  generalize (rNum r 2).1 = r1 at *
  generalize (rNum r 2).2 = x at *
  by_cases hx : max 0 most < (x : Int)
  · rw [if_pos hx] at HF
    go_enter Try.func105, Try.ntmps105
    go_wp2_with fail
    refine hc.mono ?_
    rintro e w1 ⟨rfl, h1, f1⟩
    go_wp2_with fail
    all_goals
      refine (fail_calls w1 S p r1 3 h1).mono ?_
      rintro e w2 ⟨rfl, h2, f2⟩
      go_wp2_with fail
      go_ret
      rw [HF.out]
      exact ⟨rfl, h2, f1.then' f2⟩
  · rw [if_neg hx] at HF
    go_enter Try.func105, Try.ntmps105
    go_wp2_with fail
    refine hc.mono ?_
    rintro e w1 ⟨rfl, h1, f1⟩
    go_wp2_with fail
    all_goals
      go_ret
      rw [HF.out]
      exact ⟨rfl, h1, f1⟩
theorem textRd_calls (w : World) (S : Nat → Prop) (p : Nat) (r : Rd) (most : Int) (h : RdAt w S p r) (hm1 : -9223372036854775808 ≤ most) (hm2 : most ≤ 9223372036854775807) :
    Calls Try.prog 77 #[.pointer (some ⟨p, 0, none⟩), .int .i64 most] w (RPost w S p (rText r most).1 (.string (mkS (rText r most).2))) := by
  have hc := countRd_calls w S p r most h hm1 hm2
  have HF : Hid (rText r most = ((rTake (rCount r most).1 (rCount r most).2).1, (rTake (rCount r most).1 (rCount r most).2).2)) := rfl
  generalize (rCount r most).1 = r1 at *
  generalize (rCount r most).2 = x at *
  go_enter Try.func77, Try.ntmps77
  go_wp2_with fail
  refine hc.mono ?_
  rintro e w1 ⟨rfl, h1, f1⟩
  go_wp2_with fail
  refine (take_calls w1 S p r1 x h1).mono ?_
  rintro e w2 ⟨A, n, c, rfl, hn, hr, hA, hm, h2, f2⟩
  have hcv := Try.toStr hr hn.out c
  clear hr hA
  go_wp2_with fail
  go_ret
  rw [HF.out]
  exact ⟨rfl, h2, f1.then' f2⟩
/-- Raw hands back new bytes. -/
def RawPost (w : World) (S : Nat → Prop) (p : Nat) (r : Rd) (xs : List UInt8) (e : Ending) (w' : World) : Prop :=
  ∃ A n c, e = .returned (.slice A n c) ∧ Hid (xs.length = n) ∧ w'.ownsRow w.heap.size 5 1 (.slice A n c) n (bcells xs) ∧ RdAt w' S p r ∧ Fr S w w'
theorem errRd_calls (w : World) (S : Nat → Prop) (p : Nat) (r : Rd) (h : RdAt w S p r) :
    Calls Try.prog 76 #[.pointer (some ⟨p, 0, none⟩)] w (fun e w' => e = .returned (.int .i64 (r.e : Nat)) ∧ w = w') := by
  obtain ⟨A, n, c, T, h⟩ := h
  obtain ⟨c0, c1, z0, z1⟩ := h.cells
  go_enter Try.func76, Try.ntmps76
  go_wp2_with fail
  go_ret
  exact ⟨rfl, rfl⟩
theorem endRd_calls (w : World) (S : Nat → Prop) (p : Nat) (r : Rd) (h : RdAt w S p r) :
    Calls Try.prog 35 #[.pointer (some ⟨p, 0, none⟩)] w (fun e w' => e = .returned (.int .i64 (rEnd r : Nat)) ∧ w = w') := by
  obtain ⟨A, n, c, T, h⟩ := h
  obtain ⟨c0, c1, z0, z1⟩ := h.cells
  have hmx := h.max
  have hcp := h.cap
  have HL := h.len
  by_cases e0 : r.e = 0
  · have t0 : ((r.e : Int) == 0) = true := by simp; exact e0
    by_cases n0 : 0 < n
    · have HF : Hid (rEnd r = 3) := by unfold Hid rEnd; rw [if_pos ⟨e0, by rw [HL.out]; exact n0⟩]
      have E0 := hid e0; clear e0
      go_enter Try.func35, Try.ntmps35
      go_wp2_with fail
      go_ret
      exact ⟨by rw [HF.out]; rfl, rfl⟩
    · have HF : Hid (rEnd r = r.e) := by unfold Hid rEnd; rw [if_neg (fun h => n0 (by rw [← HL.out]; exact h.2))]
      have E0 := hid e0; clear e0
      go_enter Try.func35, Try.ntmps35
      go_wp2_with fail
      go_ret
      exact ⟨by rw [HF.out]; rfl, rfl⟩
  · have t0 : ((r.e : Int) == 0) = false := by simp; exact e0
    have HF : Hid (rEnd r = r.e) := by unfold Hid rEnd; rw [if_neg (fun h => e0 h.1)]
    have E0 := hid e0; clear e0
    go_enter Try.func35, Try.ntmps35
    go_wp2_with fail
    go_ret
    exact ⟨by rw [HF.out]; rfl, rfl⟩
end Go.Proofs.Ytpkdcbfhacgklaa
/- octet.Of, and a Reader's Row. -/
namespace Go.Proofs.Ytpkdcbfhacgklaa
open Go.RowKit

theorem Try.appS : AppTy Try.prog 29 9 (.string ⟨#[]⟩) 1 16 := ⟨Try.underlying29, by kernel_rfl, rfl, by decide⟩
def rTexts (r : Rd) (long : Int) : Nat → Rd × List ByteArray
  | 0 => (r, [])
  | n + 1 => ((rText (rTexts r long n).1 long).1, (rTexts r long n).2 ++ [mkS (rText (rTexts r long n).1 long).2])
theorem rTexts_len (r : Rd) (long : Int) (n : Nat) : (rTexts r long n).2.length = n := by induction n <;> simp [rTexts, *]
def rRow (r : Rd) (most long : Int) : Rd × List ByteArray :=
  ((rTexts (rCount r most).1 long (rCount r most).2).1, if (rTexts (rCount r most).1 long (rCount r most).2).1.e = 0 then (rTexts (rCount r most).1 long (rCount r most).2).2 else [])

def OfPost (w : World) (bs : List UInt8) (e : Ending) (w' : World) : Prop := ∃ p, e = .returned (.pointer (some ⟨p, 0, none⟩)) ∧ w.heap.size ≤ p ∧ p < w'.heap.size ∧ RdAt w' (upB w.heap.size) p ⟨bs, 0⟩ ∧ Fr noB w w'
theorem of_calls (w : World) (B : Option Addr) (n cap : Nat) (xs : List UInt8) (hx : RowAt w B (bcells xs)) (hn : xs.length = n) (hB : B = none → n = 0 ∧ cap = 0) (hl : n ≤ 1000000000000) :
    Calls Try.prog 33 #[.slice B n cap] w (OfPost w xs) := by
  have HL := hid hl; clear hl
  have HN := hid hn; clear hn
  go_enter Try.func33, Try.ntmps33
  go_wp2_with fail
  refine (clone_calls w B n cap xs hx HN.out hB HL.out).mono ?_
  rintro e w1 ⟨A, c, rfl, h1, f1, hA⟩
  go_wp2_with fail
  go_ret
  have hz := f1.size
  refine ⟨w1.heap.size, rfl, hz, by simp, ⟨A, n, c, _, HN.out, heap_alloc_new w1 _, (own_row h1).fr0 ((Fr.refl noB _).alloc _), ?_, ?_, fun e => ?_, hz, fun h0 a e => ?_, fun h => absurd rfl h⟩, f1.alloc _⟩
  · rcases h1.2 with ⟨e, e2⟩ | ⟨g, cp, cur, e, _, _, h2, _⟩
    · omega
    · cases e; exact h2
  · rcases h1.2 with ⟨e, e2⟩ | ⟨g, cp, cur, e, _, _, _, h2, _⟩
    · cases e; omega
    · cases e; unfold maxLen at h2; omega
  · subst e
    rcases h1.2 with ⟨e, e2⟩ | ⟨g, cp, cur, e, _⟩
    · cases e; exact ⟨rfl, rfl⟩
    · cases e
  · subst e
    have := h1.lt a.block rfl
    exact ⟨this.1, by omega⟩

def RowPost (w : World) (S : Nat → Prop) (p : Nat) (r : Rd) (ss : List ByteArray) (e : Ending) (w' : World) : Prop :=
  ∃ A n c, e = .returned (.slice A n c) ∧ Hid (ss.length = n) ∧ w'.ownsRow w.heap.size 9 1 (.slice A n c) n (strs ss) ∧ RdAt w' S p r ∧ Fr S w w'
set_option maxRecDepth 100000 in
set_option maxHeartbeats 1600000 in
theorem rowRd_calls (w : World) (S : Nat → Prop) (p : Nat) (r : Rd) (most long : Int) (h : RdAt w S p r) (hS : ∀ k, S k → k < w.heap.size) (hm1 : -9223372036854775808 ≤ most) (hm2 : most ≤ 9223372036854775807) (hl1 : -9223372036854775808 ≤ long) (hl2 : long ≤ 9223372036854775807) :
    Calls Try.prog 107 #[.pointer (some ⟨p, 0, none⟩), .int .i64 most, .int .i64 long] w (RowPost w S p (rRow r most long).1 (rRow r most long).2) := by
  have hc := countRd_calls w S p r most h hm1 hm2
  have hx : (rCount r most).2 < 65536 := by
    have := rNum_lt r 2
    unfold rCount
    split
    · exact Nat.zero_lt_succ _
    · exact this
  have HF : Hid (rRow r most long = ((rTexts (rCount r most).1 long (rCount r most).2).1, if (rTexts (rCount r most).1 long (rCount r most).2).1.e = 0 then (rTexts (rCount r most).1 long (rCount r most).2).2 else [])) := rfl
  generalize (rCount r most).1 = r1 at *
  generalize (rCount r most).2 = x at *
  go_enter Try.func107, Try.ntmps107
  go_wp2_with fail
  refine hc.mono ?_
  rintro e w1 ⟨rfl, h1, f1⟩
  clear hc
  have hw1 := f1.size
  go_wp2_with fail
  go_loopw [7, 11] (fun v i wr => ∃ k : Nat, k ≤ x ∧ i = .int .i64 k ∧ (∃ A c, v = .slice A k c ∧ wr.ownsRow w.heap.size 9 1 v k (strs (rTexts r1 long k).2)) ∧ RdAt wr S p (rTexts r1 long k).1 ∧ Fr S w wr) (fun _ i _ => x - (intOf i).toNat)
  case atStart => exact ⟨0, Nat.zero_le _, rfl, ⟨none, 0, rfl, World.ownsRow_nil _ _ _ _⟩, h1, f1⟩
  case round =>
    obtain ⟨k, hk, rfl, ⟨A, c, rfl, hown⟩, hr, hf⟩ := hrel
    by_cases hkx : k < x
    · have HS : Hid (rTexts r1 long (k + 1) = ((rText (rTexts r1 long k).1 long).1, (rTexts r1 long k).2 ++ [mkS (rText (rTexts r1 long k).1 long).2])) := rfl
      have hct := textRd_calls wr S p (rTexts r1 long k).1 long hr hl1 hl2
      generalize rTexts r1 long k = rk at *
      go_wp2_with fail
      refine hct.mono ?_
      rintro e w2 ⟨rfl, h2, f2⟩
      clear hct
      have hown2 : w2.ownsRow 0 9 1 (.slice A k c) k (strs rk.2) := own_mono (own_fr hown f2 (fun g hg hs => by have := (hown.lt g hg).1; have := hS g hs; omega)) (fun _ _ => Nat.zero_le _)
      have hbase : ∀ g, (Value.slice A k c).ownBlock = some g → w.heap.size ≤ g := fun g hg => (hown.lt g hg).1
      have hz2 : w.heap.size ≤ w2.heap.size := Nat.le_trans hf.size f2.size
      generalize mkS (rText rk.1 long).2 = t at *
      go_wp2_with (at_builtin; refine wpList_app Try.appS rfl (.tmp 13) (.tmp 17) rfl _ k (strs rk.2) rfl (hown2.alloc _) _ 1 1 [.string t] rfl rfl (cell_one_row _ _ _) (fun u hu => by simp at hu; subst hu; rfl) (by simp) (by omega) (by omega) ?_)
      intro A' c' w3 hown3 hg hat
      have f3 : Fr S w w3 := Fr.grown ((hf.then' f2).alloc _) hg (fun g hg => Or.inr (hbase g hg))
      have h3 : RdAt w3 S p (rText rk.1 long).1 := (h2.fr ((Fr.refl noB _).alloc _) (fun _ _ _ => id)).fr (Fr.grown (Fr.refl (fun k => w.heap.size ≤ k) _) hg (fun g hg => Or.inl (hbase g hg))) (fun g _ h1 h2 => by have := hS g h1; omega)
      have hown4 : w3.ownsRow w.heap.size 9 1 (.slice A' (k + 1) c') (k + 1) (strs (rk.2 ++ [t])) := by
        have : strs (rk.2 ++ [t]) = strs rk.2 ++ [.string t] := by simp [strs]
        rw [this]
        refine own_mono hown3 (fun g hg => ?_)
        rcases hat with e | e
        · exact hbase g (e ▸ hg)
        · rw [hg] at e; simp at e; omega
      clear hg hat hown3 hown2 hown hf f2 h2 hr
      go_wp2_with fail
      go_roundw
      case rel => exact ⟨k + 1, by omega, by go_num, ⟨A', c', rfl, by rw [HS.out]; exact hown4⟩, by rw [HS.out]; exact h3, f3⟩
      case measure => simp [intOf]; omega
    · have : k = x := by omega
      subst this
      have HR := hid hr
      have hlen := rTexts_len r1 long k
      generalize rTexts r1 long k = rk at *
      have HL := hid hlen; clear hlen
      obtain ⟨B, n, cp, T, hv⟩ := hr
      obtain ⟨c0, c1, z0, z1⟩ := hv.cells
      by_cases e0 : rk.1.e = 0
      · have t0 : ((rk.1.e : Int) != 0) = false := by simp; exact e0
        rw [if_pos e0] at HF
        have E0 := hid e0; clear e0
        go_wp2_with fail
        go_ret
        rw [HF.out]
        exact ⟨A, k, c, rfl, HL.out, hown, HR.out, hf⟩
      · have t0 : ((rk.1.e : Int) != 0) = true := by simp; exact e0
        rw [if_neg e0] at HF
        have E0 := hid e0; clear e0
        go_wp2_with fail
        go_ret
        rw [HF.out]
        exact ⟨none, 0, 0, rfl, rfl, World.ownsRow_nil _ _ _ _, HR.out, hf⟩
end Go.Proofs.Ytpkdcbfhacgklaa
/- What is written is read: plain laws. -/
namespace Go.Proofs.Ytpkdcbfhacgklaa
open Go.RowKit

theorem leV_leB (n x : Nat) : leV (leB n x) = x % 256 ^ n := by
  induction n generalizing x with
  | zero => simp [leB, leV, Nat.mod_one]
  | succ n ih =>
    simp only [leB, leV, ih]
    rw [show (UInt8.ofNat x).toNat = x % 256 from by simp, Nat.pow_succ, Nat.mul_comm (256 ^ n) 256, Nat.mod_mul]
theorem rTake_app (xs ys : List UInt8) (e n : Nat) (hn : xs.length = n) : rTake ⟨xs ++ ys, e⟩ n = (⟨ys, e⟩, xs) := by
  subst hn
  unfold rTake
  rw [if_neg (by simp)]
  simp
theorem rNum_app (n x : Nat) (ys : List UInt8) : rNum ⟨leB n x ++ ys, 0⟩ n = (⟨ys, 0⟩, x % 256 ^ n) := by
  unfold rNum
  rw [rTake_app _ _ _ _ (leB_length n x), leV_leB]
theorem rTruth_app (b : Bool) (ys : List UInt8) (t : Nat) (ht : t = if b then 1 else 0) : rTruth ⟨leB 1 t ++ ys, 0⟩ = (⟨ys, 0⟩, b) := by
  unfold rTruth
  rw [rNum_app]
  cases b <;> simp at ht <;> subst ht <;> simp
theorem rCount_app (n : Nat) (ys : List UInt8) (most : Int) (hn : n < 65536) (hm : (n : Int) ≤ most) : rCount ⟨leB 2 n ++ ys, 0⟩ most = (⟨ys, 0⟩, n) := by
  unfold rCount
  rw [rNum_app, Nat.mod_eq_of_lt (by simpa using hn), if_neg (by simp only; omega)]
theorem rText_app (s : ByteArray) (ys : List UInt8) (most : Int) (h1 : s.size ≤ 65535) (h2 : (s.size : Int) ≤ most) : rText ⟨textB s ++ ys, 0⟩ most = (⟨ys, 0⟩, s.data.toList) := by
  have hs : s.data.toList.length = s.size := by simp
  unfold rText textB
  rw [Nat.min_eq_left h1, List.take_of_length_le (by omega), List.append_assoc, rCount_app _ _ _ (by omega) h2, rTake_app _ _ _ _ hs]
theorem rTexts_app (long : Int) (ys : List UInt8) : ∀ (M : List ByteArray), (∀ s ∈ M, s.size ≤ 65535 ∧ (s.size : Int) ≤ long) → ∀ k, k ≤ M.length → rTexts ⟨M.flatMap textB ++ ys, 0⟩ long k = (⟨(M.drop k).flatMap textB ++ ys, 0⟩, M.take k) := by
  intro M hM k
  induction k with
  | zero => intro _; simp [rTexts]
  | succ k ih =>
    intro hk
    have hk' : k < M.length := by omega
    have hd : M.drop k = M[k] :: M.drop (k + 1) := List.drop_eq_getElem_cons hk'
    have hm := hM M[k] (List.getElem_mem hk')
    unfold rTexts
    rw [ih (by omega), hd, List.flatMap_cons, List.append_assoc, rText_app _ _ _ hm.1 hm.2]
    simp only [mkS_of]
    rw [List.take_succ_eq_append_getElem hk']
theorem rRow_app (L : List ByteArray) (ys : List UInt8) (most long : Int) (h1 : L.length ≤ 65535) (h2 : (L.length : Int) ≤ most) (h3 : ∀ s ∈ L, s.size ≤ 65535 ∧ (s.size : Int) ≤ long) : rRow ⟨rowB L ++ ys, 0⟩ most long = (⟨ys, 0⟩, L) := by
  unfold rRow rowB
  rw [Nat.min_eq_left h1, List.take_of_length_le h1, List.append_assoc, rCount_app _ _ _ (by omega) h2, rTexts_app long ys L h3 _ (Nat.le_refl _)]
  simp
theorem rRaw_app (s : ByteArray) (ys : List UInt8) : rTake ⟨s.data.toList ++ ys, 0⟩ (max 0 (s.size : Int)).toNat = (⟨ys, 0⟩, s.data.toList) := by
  have hs : s.data.toList.length = s.size := by simp
  rw [show (max 0 (s.size : Int)).toNat = s.size by omega]
  exact rTake_app _ _ _ _ hs
/-- A chain of reads: q of the parts are read. -/
def BackR (S : Nat → Prop) (p : Nat) (wa : World) (P : List (List UInt8)) (ys : List UInt8) (q : Nat) (W : World) : Prop := Fr S wa W ∧ RdAt W S p ⟨(P.drop q).flatten ++ ys, 0⟩
theorem BackR.step {S : Nat → Prop} {p : Nat} {wa W w' : World} {P : List (List UInt8)} {ys : List UInt8} {q : Nat} {r : Rd} (h : BackR S p wa P ys q W) (hr : r = ⟨(P.drop (q + 1)).flatten ++ ys, 0⟩) (h1 : RdAt w' S p r) (f1 : Fr S W w') : BackR S p wa P ys (q + 1) w' :=
  ⟨h.1.then' f1, hr ▸ h1⟩
theorem BackR.quiet {S : Nat → Prop} {p : Nat} {wa W w' : World} {P : List (List UInt8)} {ys : List UInt8} {q : Nat} (h : BackR S p wa P ys q W) (f : Fr noB W w') : BackR S p wa P ys q w' :=
  ⟨h.1.then' (f.mono fun _ _ h => h.elim), h.2.fr f (fun _ _ _ => id)⟩
theorem BackR.start {S : Nat → Prop} {p : Nat} {wa : World} {P : List (List UInt8)} {ys zs : List UInt8} (h : RdAt wa S p ⟨zs, 0⟩) (hz : P.flatten ++ ys = zs) : BackR S p wa P ys 0 wa.drew :=
  ⟨(Fr.refl _ _).drew, by rw [List.drop_zero, hz]; exact h.fr ((Fr.refl noB _).drew) (fun _ _ _ => id)⟩
/-- A []string in blocks outside of U. -/
def StrsU (U : Nat → Prop) (ss : List ByteArray) : Stb (Fr U) :=
  ⟨fun v w => ∃ A m c, v = .slice A m c ∧ Hid (ss.length = m) ∧ RowAt w A (strs ss) ∧ (∀ ad, A = some ad → ¬ U ad.block),
   fun _ _ _ ⟨A, m, c, e, hm, h, hb⟩ f => ⟨A, m, c, e, hm, h.fr f (fun ad e _ _ hu => hb ad e hu), hb⟩⟩
def BytsU (U : Nat → Prop) (bs : List UInt8) : Stb (Fr U) :=
  ⟨fun v w => ∃ A m c, v = .slice A m c ∧ bs.length = m ∧ RowAt w A (bcells bs) ∧ (∀ ad, A = some ad → ¬ U ad.block),
   fun _ _ _ ⟨A, m, c, e, hm, h, hb⟩ f => ⟨A, m, c, e, hm, h.fr f (fun ad e _ _ hu => hb ad e hu), hb⟩⟩
theorem allB_snoc {l : List Item} {k : Nat} {i : Item} (h : l[k]? = some i) : allB (l.take (k + 1)) = allB (l.take k) ++ i.all := by
  unfold allB; rw [take_snoc' h, List.flatMap_append]; simp only [List.flatMap_cons, List.flatMap_nil, List.append_nil]
theorem allB_drop {l : List Item} {k : Nat} {i : Item} (h : l[k]? = some i) : allB (l.drop k) = i.all ++ allB (l.drop (k + 1)) := by
  obtain ⟨hk, rfl⟩ := List.getElem?_eq_some_iff.1 h
  unfold allB; rw [List.drop_eq_getElem_cons hk]; simp only [List.flatMap_cons]
theorem Item.all_length {i : Item} (h : i.ok = true) : i.all.length ≤ 2000 := by
  simp only [Item.ok, Bool.and_eq_true, decide_eq_true_eq, List.all_eq_true] at h
  obtain ⟨⟨h1, h2⟩, h3⟩ := h
  have h4 := sumSz_50 h2 h3
  have h5 := textB_length i.s
  have h6 : (rowB i.L).length ≤ sumSz i.L + 2 := by
    unfold rowB
    have := rows_length (i.L.take 65535)
    have := sumSz_take_le i.L 65535
    rw [List.length_append, leB_length]; omega
  have h7 : i.s.data.toList.length = i.s.size := by simp
  simp only [Item.all, Item.parts, List.flatten_cons, List.flatten_nil, List.length_append, List.length_nil, leB_length]
  omega
theorem allB_length (l : List Item) (h : ∀ i ∈ l, i.ok = true) : (allB l).length ≤ 2000 * l.length := by
  induction l with
  | nil => simp [allB]
  | cons i l ih =>
    have h1 := Item.all_length (h i (List.mem_cons_self ..))
    have h2 := ih fun j hj => h j (List.mem_cons_of_mem _ hj)
    simp only [allB, List.flatMap_cons, List.length_append, List.length_cons] at *
    omega
end Go.Proofs.Ytpkdcbfhacgklaa
/- crc.Table's Open. -/
namespace Go.Proofs.Ytpkdcbfhacgklaa
open Go.RowKit

/-- What was sealed, and the error's number. -/
def openB (b : List UInt8) : List UInt8 × Nat := if b.length < 4 then ([], 2) else if leV (b.drop (b.length - 4)) = crcSum (b.take (b.length - 4)) then (b.take (b.length - 4), 0) else ([], 5)
def OpenC (wa : World) (p : Nat) (m : Bool) (tail : List UInt8) (k : Nat) (g : Value) (W : World) : Prop :=
  match k with
  | 0 => Fr (fun x => x = p ∨ wa.heap.size ≤ x) wa W ∧ TabAt W p m
  | 1 => Fr (fun x => x = p ∨ wa.heap.size ≤ x) wa W ∧ TabAt W p m ∧ ∃ q, g = .pointer (some ⟨q, 0, none⟩) ∧ RdAt W (upB wa.heap.size) q ⟨tail, 0⟩
  | 2 => Fr (fun x => x = p ∨ wa.heap.size ≤ x) wa W ∧ TabAt W p m
  | _ => Fr (fun x => x = p ∨ wa.heap.size ≤ x) wa W ∧ TabAt W p true
def OpenPost (w : World) (p : Nat) (m : Bool) (r : List UInt8 × Nat) (e : Ending) (w' : World) : Prop :=
  ∃ B k d, e = .returned (.tuple #[.slice B k d, .int .i64 (r.2 : Nat)]) ∧ Hid (r.1.length = k) ∧ RowAt w' B (bcells r.1) ∧ (∀ a, B = some a → w.heap.size ≤ a.block) ∧ TabAt w' p m ∧ Fr (eqB p) w w'
theorem own_nilB {w : World} {base n : Nat} {e : TypeId} {size : Nat} {A : Option Addr} {m c : Nat} {xs : List Value} (h : w.ownsRow base e size (.slice A m c) n xs) : A = none → m = 0 ∧ c = 0 := by
  rintro rfl
  rcases h.2 with ⟨e1, _⟩ | ⟨g, cap, cur, e1, _⟩
  · injection e1 with _ h1 h2; exact ⟨h1, h2⟩
  · injection e1 with h1; cases h1
theorem own_base {w : World} {base n : Nat} {e : TypeId} {size : Nat} {A : Option Addr} {m c : Nat} {xs : List Value} (h : w.ownsRow base e size (.slice A m c) n xs) : ∀ a, A = some a → base ≤ a.block := by
  rintro a rfl
  rcases h.2 with ⟨e1, _⟩ | ⟨g, cap, cur, e1, hb, _⟩
  · injection e1 with h1; cases h1
  · injection e1 with h1; cases h1; exact hb
theorem own_capB {w : World} {base n : Nat} {e : TypeId} {size : Nat} {A : Option Addr} {m c : Nat} {xs : List Value} (h : w.ownsRow base e size (.slice A m c) n xs) : m ≤ c ∧ c ≤ 9223372036854775807 := by
  rcases h.2 with ⟨e1, _⟩ | ⟨g, cap, cur, e1, _, _, hc, hm, _⟩
  · injection e1 with _ h1 h2; subst h1 h2; exact ⟨Nat.le_refl _, by decide⟩
  · injection e1 with _ h1 h2; subst h1 h2; exact ⟨hc, Nat.le_trans hm (by decide)⟩
def OpenPost2 (w : World) (p : Nat) (m : Bool) (r : List UInt8 × Nat) (e : Ending) (w' : World) : Prop :=
  ∃ B k d, e = .returned (.tuple #[.slice B k d, .int .i64 (r.2 : Nat)]) ∧ Hid (r.1.length = k) ∧ RowAt w' B (bcells r.1) ∧ (∀ a, B = some a → w.heap.size ≤ a.block) ∧ TabAt w' p m ∧ Fr (eqB p) w w' ∧ k ≤ d ∧ d ≤ 9223372036854775807
set_option maxRecDepth 100000 in
set_option maxHeartbeats 3200000 in
theorem open2_calls (w : World) (p : Nat) (m : Bool) (A : Option Addr) (n c : Nat) (b : List UInt8) (htab : TabAt w p m) (hr : RowAt w A (bcells b)) (HN : Hid (b.length = n)) (hn : n ≤ 100000000000) (hnc : n ≤ c) (hc : c ≤ 9223372036854775807) (hA : ∀ a, A = some a → 0 < n → a.block ≠ p) :
    Calls Try.prog 70 #[.pointer (some ⟨p, 0, none⟩), .slice A n c] w (OpenPost2 w p (if n < 4 then m else true) (openB b)) := by
  by_cases h4 : n < 4
  · have HO : Hid (openB b = ([], 2)) := by unfold Hid openB; rw [if_pos (by rw [HN.out]; exact h4)]
    rw [HO.out, if_pos h4]
    have hm4 : ((n : Int) - 4 < 0) := by omega
    have t4 : decide ((n : Int) - 4 < 0) = true := by simp; omega
    have HT := hid htab; clear htab
    go_enter Try.func70, Try.ntmps70
    go_wp2_with fail
    go_ret2
    exact ⟨none, 0, 0, rfl, rfl, RowAt.nil _ _, (fun a e => by cases e), HT.out, Fr.refl _ _, Nat.le_refl _, by decide⟩
  · obtain ⟨k, rfl⟩ : ∃ k, n = k + 4 := ⟨n - 4, by omega⟩
    have hm4 : (((k + 4 : Nat) : Int) - 4) = (k : Int) := by omega
    obtain ⟨ad, rfl⟩ := hr.some_of (by rw [bcells_length, HN.out]; omega)
    have hap : ad.block ≠ p := hA ad rfl (by omega)
    have halt : ad.block < w.heap.size := hr.lt (by rw [bcells_length, HN.out]; omega)
    have hpl := htab.lt
    have HTL : Hid ((b.drop k).length = 4) := by unfold Hid; rw [List.length_drop, HN.out]; omega
    have HTN : Hid ((b.drop k).length = k + 4 - k) := by unfold Hid; rw [List.length_drop, HN.out]
    have HBL : Hid ((b.take k).length = k) := by unfold Hid; rw [List.length_take, HN.out]; omega
    have hrw : ∀ W, Fr (fun x => x = p ∨ w.heap.size ≤ x) w W → RowAt W (some ad) (bcells b) := fun W f => hr.fr f (fun a' e _ _ hx => by cases e; omega)
    have htail : ∀ W, Fr (fun x => x = p ∨ w.heap.size ≤ x) w W → RowAt W (some (ad.add k)) (bcells (b.drop k)) := fun W f j u hu => by
      refine ⟨_, rfl, ?_⟩
      rw [add_add']
      refine (hrw W f).cell ?_
      rw [← hu]; simp only [bcells, List.map_drop, List.getElem?_drop]
    have hbody : ∀ W, Fr (fun x => x = p ∨ w.heap.size ≤ x) w W → RowAt W (some ad) (bcells (b.take k)) := fun W f j u hu => (hrw W f) j u (by
      simp only [bcells, List.map_take, List.getElem?_take] at hu ⊢
      split at hu
      · exact hu
      · cases hu)
    obtain ⟨lv, HLV⟩ : ∃ lv, Hid (leV (b.drop k) = lv) := ⟨_, rfl⟩
    obtain ⟨sm, HSM⟩ : ∃ sm, Hid (crcSum (b.take k) = sm) := ⟨_, rfl⟩
    have HNUM : Hid (rNum ⟨b.drop k, 0⟩ 4 = (⟨[], 0⟩, lv)) := by
      unfold Hid rNum
      have := rTake_app (b.drop k) [] 0 4 HTL.out
      rw [List.append_nil] at this
      rw [this, HLV.out]
    have HO : Hid (openB b = if lv = sm then (b.take k, 0) else ([], 5)) := by
      unfold Hid openB; rw [if_neg (by rw [HN.out]; omega), HN.out, show k + 4 - 4 = k by omega, HLV.out, HSM.out]
    rw [if_neg (by omega)]
    generalize openB b = ob at *
    clear hr hA h4
    go_enter Try.func70, Try.ntmps70
    go_wp2_with fail
    generalize hnn : k + 4 = n at *
    have HNN := hid hnn; clear hnn
    refine G.wp_region_calmL (gs := 15) (R := Fr (fun x => x = p ∨ w.heap.size ≤ x)) (C := OpenC w p m (b.drop k)) [false, false, false, true, true, false, false, false, false, true, false] [0, 0, 0, 0, 1, 0, 0, 0, 0, 2, 3]
      [eqv (.slice (some ad) n c), eqv (.int .i64 k), eqv (.slice (some (ad.add k)) (n - k) (c - k)), anyv, eqv (.int .u32 lv), eqv (.pointer (some ⟨p, 0, none⟩)), eqv (.slice (some ad) n c), eqv (.int .i64 k), eqv (.slice (some ad) k c), eqv (.int .u32 sm), eqv (.bool ((lv : Int) != (sm : Int)))]
      (by kernel_rfl) (by kernel_rfl) (fun _ _ _ h1 h2 => h1.then' h2) ((Fr.refl _ _).drew) ⟨(Fr.refl _ _).drew, htab.fr ((Fr.refl noB _).drew) id⟩ (by kernel_rfl) ?_ ?_
    · refine ⟨?_, ?_, ?_, ?_, ?_, ?_, ?_, ?_, ?_, ?_, ?_, trivial⟩
      · rw [if_neg (by decide)]; intro kq
        exact G.calm_mv 1 rfl rfl (Or.inl rfl) (by decide) (Fr.refl _) (by decide) fun v w hd => hd
      · rw [if_neg (by decide)]; intro kq
        exact G.calm_mv 6 rfl rfl (Or.inl rfl) (by decide) (Fr.refl _) (by decide) fun v w hd => hd
      · rw [if_neg (by decide)]; intro kq
        intro a W K hC hd hK
        have d12 : a.tmps[12]?.getD undef = .slice (some ad) n c := hd 12 (by decide)
        have d13 : a.tmps[13]?.getD undef = .int .i64 k := hd 13 (by decide)
        refine wpOp_plain rfl rfl ?_
        go_wp2_with fail
        exact hK _ _ (Fr.refl _ _) hC rfl
      · rw [if_pos (by decide)]
        intro a W K hC hd hK
        replace hC : (OpenC w p m (b.drop k)) 0 (a.eval (.tmp 15)) W := hC
        have d14 : a.tmps[14]?.getD undef = .slice (some (ad.add k)) (n - k) (c - k) := hd 14 (by decide)
        refine wpOp_plain rfl rfl ?_
        have hcl := of_calls W (some (ad.add k)) (n - k) (c - k) (b.drop k) (htail W hC.1) HTN.out (fun e => by cases e) (by omega)
        go_wp2_with fail
        refine hcl.mono ?_
        rintro e w' ⟨q, rfl, q1, q2, q3, q4⟩
        have hz := hC.1.size
        exact hK _ _ (q4.mono fun _ _ h => h.elim) ⟨hC.1.then' (q4.mono fun _ _ h => h.elim), hC.2.fr q4 id, q, rfl, q3.mono fun x hx => by unfold upB at *; omega⟩ trivial
      · rw [if_pos (by decide)]
        intro a W K hC hd hK
        replace hC : (OpenC w p m (b.drop k)) 1 (a.eval (.tmp 15)) W := hC
        have d15 : (anyv).V (a.tmps[15]?.getD undef) W := hd 15 (by decide)
        refine wpOp_plain rfl rfl ?_
        obtain ⟨g1, g2, q, g3, g4⟩ := hC
        rw [eval_get] at g3
        have hcl := fourRd_calls W (upB w.heap.size) q ⟨b.drop k, 0⟩ g4
        rw [HNUM.out] at hcl
        go_wp2_with fail
        refine hcl.mono ?_
        rintro e w' ⟨rfl, h1, f1⟩
        exact hK _ _ (f1.mono fun x _ hx => Or.inr hx) ⟨g1.then' (f1.mono fun x _ hx => Or.inr hx), g2.fr f1 (fun hx => by unfold upB at hx; omega)⟩ rfl
      · rw [if_neg (by decide)]; intro kq
        exact G.calm_mv 0 rfl rfl (Or.inl rfl) (by decide) (Fr.refl _) (by decide) fun v w hd => hd
      · rw [if_neg (by decide)]; intro kq
        exact G.calm_mv 1 rfl rfl (Or.inl rfl) (by decide) (Fr.refl _) (by decide) fun v w hd => hd
      · rw [if_neg (by decide)]; intro kq
        exact G.calm_mv 6 rfl rfl (Or.inl rfl) (by decide) (Fr.refl _) (by decide) fun v w hd => hd
      · rw [if_neg (by decide)]; intro kq
        intro a W K hC hd hK
        have d18 : a.tmps[18]?.getD undef = .slice (some ad) n c := hd 18 (by decide)
        have d19 : a.tmps[19]?.getD undef = .int .i64 k := hd 19 (by decide)
        refine wpOp_plain rfl rfl ?_
        go_wp2_with fail
        exact hK _ _ (Fr.refl _ _) hC rfl
      · rw [if_pos (by decide)]
        intro a W K hC hd hK
        replace hC : (OpenC w p m (b.drop k)) 2 (a.eval (.tmp 15)) W := hC
        have d17 : a.tmps[17]?.getD undef = .pointer (some ⟨p, 0, none⟩) := hd 17 (by decide)
        have d20 : a.tmps[20]?.getD undef = .slice (some ad) k c := hd 20 (by decide)
        refine wpOp_plain rfl rfl ?_
        have hcl := sumT_calls W p m (some ad) k c (b.take k) hC.2 (hbody W hC.1) HBL.out (by omega) (fun a' e _ he => by cases e; omega)
        rw [HSM.out] at hcl
        go_wp2_with fail
        refine hcl.mono ?_
        rintro e w' ⟨rfl, h1, f1⟩
        exact hK _ _ (f1.mono fun x _ hx => Or.inl hx) ⟨hC.1.then' (f1.mono fun x _ hx => Or.inl hx), h1⟩ rfl
      · rw [if_neg (by decide)]; intro kq
        intro a W K hC hd hK
        have d16 : a.tmps[16]?.getD undef = .int .u32 lv := hd 16 (by decide)
        have d21 : a.tmps[21]?.getD undef = .int .u32 sm := hd 21 (by decide)
        refine wpOp_plain rfl rfl ?_
        go_wp2_with fail
        exact hK _ _ (Fr.refl _ _) hC (by first | rfl | (show _ = _; simp))
    · intro vs w9 fw9 cw9 hV
      have v22 : vs 10 = .bool ((lv : Int) != (sm : Int)) := hV 10 _ _ rfl rfl (by decide)
      clear hV
      simp only [putL, Act.put, Nat.reduceAdd, List.setIfInBounds_toArray, List.set_cons_zero, List.set_cons_succ, v22]
      obtain ⟨g9, cw1, cw2⟩ := cw9
      have HF : Hid (Fr (eqB p) w w9) := fw9.mono fun x hx h => h.elim id fun h => by omega
      have hb9 := hbody w9 fw9
      clear fw9
      by_cases hls : lv = sm
      · have t22 : ((lv : Int) != (sm : Int)) = false := by simp; omega
        rw [if_pos hls] at HO
        have HLS := hid hls; clear hls
        have hcl := clone_calls w9 (some ad) k c (b.take k) hb9 HBL.out (fun e => by cases e) (by omega)
        clear hb9 hrw htail hbody htab
        go_wp2_with fail
        refine hcl.mono ?_
        clear hcl
        rintro e w10 ⟨B, d, rfl, h10, f10, _⟩
        have HOW := hid h10
        have HF2 := hid f10
        have HT9 : Hid (TabAt w10 p true) := (show TabAt w9 p true from cw2).fr f10 id
        clear h10 f10
        go_wp2_with fail
        go_ret2
        rw [HO.out]
        exact ⟨B, k, d, rfl, HBL.out, own_row HOW.out, (fun a' e => by have := (HOW.out.lt a'.block (by rw [e]; rfl)).1; have := HF.out.size; omega), HT9.out, HF.out.then' (HF2.out.mono fun _ _ h => h.elim), (own_capB HOW.out).1, (own_capB HOW.out).2⟩
      · have t22 : ((lv : Int) != (sm : Int)) = true := by simp; omega
        rw [if_neg hls] at HO
        have HLS := hid hls; clear hls
        have HT9 : Hid (TabAt w9 p true) := cw2
        clear hb9 hrw htail hbody htab
        go_wp2_with fail
        go_ret2
        rw [HO.out]
        exact ⟨none, 0, 0, rfl, rfl, RowAt.nil _ _, (fun a' e => by cases e), HT9.out, HF.out, Nat.le_refl _, by decide⟩
theorem open_calls (w : World) (p : Nat) (m : Bool) (A : Option Addr) (n c : Nat) (b : List UInt8) (htab : TabAt w p m) (hr : RowAt w A (bcells b)) (HN : Hid (b.length = n)) (hn : n ≤ 100000000000) (hnc : n ≤ c) (hc : c ≤ 9223372036854775807) (hA : ∀ a, A = some a → 0 < n → a.block ≠ p) :
    Calls Try.prog 70 #[.pointer (some ⟨p, 0, none⟩), .slice A n c] w (OpenPost w p (if n < 4 then m else true) (openB b)) :=
  (open2_calls w p m A n c b htab hr HN hn hnc hc hA).mono fun _ _ ⟨B, k, d, h1, h2, h3, h4, h5, h6, _⟩ => ⟨B, k, d, h1, h2, h3, h4, h5, h6⟩
end Go.Proofs.Ytpkdcbfhacgklaa
/- frame.New, Framer.Put. -/
namespace Go.Proofs.Ytpkdcbfhacgklaa
open Go.RowKit

def frB (kind : Nat) (b : List UInt8) : List UInt8 := leB 1 1 ++ leB 1 kind ++ leB 4 b.length ++ b
def frameB (kind : Nat) (b : List UInt8) : List UInt8 := sealB (frB kind b)
theorem frB_length (k : Nat) (b : List UInt8) : (frB k b).length = b.length + 6 := by unfold frB; simp only [List.length_append, leB_length]; omega
theorem frameB_length (k : Nat) (b : List UInt8) : (frameB k b).length = b.length + 10 := by unfold frameB; rw [sealB_length, frB_length]
set_option maxRecDepth 100000 in
theorem newF_calls (w : World) : Calls Try.prog 24 #[] w (fun e w' => e = .returned (.pointer (some ⟨w.heap.size, 0, none⟩)) ∧ TabAt w' w.heap.size false ∧ Fr noB w w' ∧ w'.heap.size = w.heap.size + 1) := by
  have hsz : Try.zeroCells140.size = 260 := by kernel_rfl
  have h0 : Try.zeroCells140[0]? = some (.int .u32 0) := by kernel_rfl
  have h1 : Try.zeroCells140[1]? = some (.int .i32 0) := by kernel_rfl
  have h3 : Try.zeroCells140[3]? = some (.int .u32 0) := by kernel_rfl
  have hT : TabAt (w.alloc (.cells Try.zeroCells140 140)) w.heap.size false :=
    ⟨_, _, heap_alloc_new w _, ⟨hsz, h0, h1, h3, fun i hi => ⟨_, Array.getElem?_eq_getElem (by omega)⟩, fun i _ x hx => by simp at hx⟩⟩
  have HT := hid hT
  clear hsz h0 h1 h3 hT
  go_enter Try.func24, Try.ntmps24
  go_wp2_with fail
  go_ret
  exact ⟨rfl, HT.out, (Fr.refl noB w).alloc _, by simp⟩
/-- Bytes that a region has made, in blocks other than p. -/
def OwnS (w0 : World) (p : Nat) (hp : p < w0.heap.size) (bs : List UInt8) : Stb (Fr (eqB p)) :=
  ⟨fun v W => ∃ A c, v = .slice A bs.length c ∧ W.ownsRow w0.heap.size 5 1 (.slice A bs.length c) bs.length (bcells bs),
   fun _ _ _ ⟨A, c, e, h⟩ f => ⟨A, c, e, own_fr h f (fun g hg h2 => by have := (h.lt g hg).1; unfold eqB at h2; omega)⟩⟩
def PutFC (p : Nat) (m : Bool) : Nat → World → Prop
  | 0, W => TabAt W p m
  | _, W => TabAt W p true
theorem PutFC.fr0 {p : Nat} {m : Bool} {q : Nat} {W W' : World} (h : PutFC p m q W) (f : Fr noB W W') : PutFC p m q W' := by
  cases q with
  | zero => exact TabAt.fr h f id
  | succ q => exact TabAt.fr h f id
def FPut (w : World) (p : Nat) (bs : List UInt8) (e : Ending) (w' : World) : Prop :=
  ∃ A c, e = .returned (.tuple #[.slice A bs.length c, .int .i64 0]) ∧ w'.ownsRow w.heap.size 5 1 (.slice A bs.length c) bs.length (bcells bs) ∧ TabAt w' p true ∧ Fr (eqB p) w w'
theorem putF_long (w : World) (p k : Nat) (A : Option Addr) (n c : Nat) (h : 65526 < n) :
    Calls Try.prog 25 #[.pointer (some ⟨p, 0, none⟩), .int .u8 k, .slice A n c] w (fun e w' => e = .returned (.tuple #[.slice none 0 0, .int .i64 3]) ∧ w = w') := by
  obtain ⟨b0, hb0⟩ : ∃ b : Int, b = 65526 := ⟨_, rfl⟩
  have d1 : decide ((65526 : Int) < n) = true := decide_eq_true (by omega)
  go_enter Try.func25, Try.ntmps25
  go_wp2_with fail
  go_ret2
  exact ⟨rfl, rfl⟩
set_option maxRecDepth 100000 in
set_option maxHeartbeats 1600000 in
theorem putF_calls (w : World) (p k : Nat) (m : Bool) (A : Option Addr) (n c : Nat) (b : List UInt8) (h : TabAt w p m) (hk : k < 256) (hr : RowAt w A (bcells b)) (HN : Hid (b.length = n)) (hn : n ≤ 65526) (hnil : A = none → n = 0 ∧ c = 0) :
    Calls Try.prog 25 #[.pointer (some ⟨p, 0, none⟩), .int .u8 k, .slice A n c] w (FPut w p (frameB k b)) := by
  have d1 : decide ((65526 : Int) < n) = false := decide_eq_false (by omega)
  have hw0 := WrAt.newQ w
  have f0 : Fr noB w (w.alloc (.cells #[.slice none 0 0] 123)) := (Fr.refl noB w).alloc _
  have hp := h.lt
  have ht := h.fr f0 id
  have hr0 := hr.fr0 f0
  have hs0 := al_size w (.cells #[.slice none 0 0] 123)
  have hlt : ∀ a, A = some a → 0 < n → a.block < w.heap.size := fun a e h0 => by
    subst e; exact hr.lt (by rw [bcells_length, HN.out]; exact h0)
  have hwrap : IntKind.u32.wrap (n : Int) = n := by rw [IntKind.wrap_u32]; omega
  have HFB : Hid (leB 1 1 ++ leB 1 k ++ leB 4 n ++ b = frB k b) := by unfold Hid frB; rw [HN.out]
  have HFL : Hid ((frB k b).length = n + 6) := by unfold Hid; rw [frB_length, HN.out]
  have HSL : Hid ((frameB k b).length = n + 10) := by unfold Hid; rw [frameB_length, HN.out]
  have hk' := hid hk
  clear h hr hk
  go_enter Try.func25, Try.ntmps25
  go_wp2_with fail
  generalize (w.alloc (.cells #[.slice none 0 0] 123)) = wa at *
  have hwa := hw0.mono (T := upB w.heap.size) (fun k _ h => by unfold eqB at h; unfold upB; omega)
  refine (byte_calls wa (upB w.heap.size) w.heap.size [] 1 hwa (by decide) (by simp)).mono ?_
  rintro e w1 ⟨rfl, h1, f1⟩
  have hw1 := h1.mono (T := upB w.heap.size) (fun k _ h => h.elim id fun h => by unfold upB; omega)
  have ht1 := ht.fr f1 (fun h => by unfold upB at h; omega)
  have hr1 := hr0.fr f1 (fun a e h0 _ h => by have := hlt a e (by rw [bcells_length, HN.out] at h0; exact h0); unfold upB at h; omega)
  have F1 := f0.trans f1 (fun i hi h => by unfold upB at h; omega)
  have hs1 := f1.size
  clear h1 f1 hwa hw0 ht hr0 f0
  go_wp2_with fail
  refine (byte_calls w1 (upB w.heap.size) w.heap.size _ k hw1 hk'.out (by simp [leB_length])).mono ?_
  rintro e w2 ⟨rfl, h2, f2⟩
  have hw2 := h2.mono (T := upB w.heap.size) (fun k _ h => h.elim id fun h => by unfold upB; omega)
  have ht2 := ht1.fr f2 (fun h => by unfold upB at h; omega)
  have hr2 := hr1.fr f2 (fun a e h0 _ h => by have := hlt a e (by rw [bcells_length, HN.out] at h0; exact h0); unfold upB at h; omega)
  have F2 := F1.trans f2 (fun i hi h => by unfold upB at h; omega)
  have hs2 := f2.size
  clear h2 f2 hw1 ht1 hr1 F1
  go_wp2_with fail
  refine (four_calls w2 (upB w.heap.size) w.heap.size _ n hw2 (by omega) (by simp [leB_length])).mono ?_
  rintro e w3 ⟨rfl, h3, f3⟩
  have hw3 := h3.mono (T := upB w.heap.size) (fun k _ h => h.elim id fun h => by unfold upB; omega)
  have ht3 := ht2.fr f3 (fun h => by unfold upB at h; omega)
  have hr3 := hr2.fr f3 (fun a e h0 _ h => by have := hlt a e (by rw [bcells_length, HN.out] at h0; exact h0); unfold upB at h; omega)
  have F3 := F2.trans f3 (fun i hi h => by unfold upB at h; omega)
  have hs3 := f3.size
  clear h3 f3 hw2 ht2 hr2 F2
  go_wp2_with fail
  refine (raw_calls w3 (upB w.heap.size) w.heap.size _ A n c b hw3 hr3 HN.out hnil (by simp [leB_length]; omega)).mono ?_
  rintro e w4 ⟨rfl, h4, f4⟩
  have hw4 := h4.mono (T := upB w.heap.size) (fun k _ h => h.elim id fun h => by unfold upB; omega)
  rw [List.nil_append, HFB.out] at hw4
  have ht4 := ht3.fr f4 (fun h => by unfold upB at h; omega)
  have F4 := F3.trans f4 (fun i hi h => by unfold upB at h; omega)
  have hs4 := f4.size
  clear h4 f4 hw3 ht3 hr3 F3 HFB
  go_wp2_with fail
  have hpw : p < w4.heap.size := by omega
  have hl4 : (frB k b).length ≤ 1000000 := by rw [HFL.out]; omega
  apply wp_region_calm (R := Fr (eqB p)) (C := fun q W => Fr (eqB p) w4 W ∧ WrAt W (upB w.heap.size) w.heap.size (frB k b) ∧ PutFC p m q W) [false, false, false, false, false, true, false, false]
    [eqv _, eqv _, eqv _, eqv _, OwnS w4 p hpw (frB k b), OwnS w4 p hpw (frameB k b), OwnS w4 p hpw (frameB k b), eqv _]
    (by kernel_rfl) (by kernel_rfl) (fun _ _ _ h1 h2 => h1.then' h2) ((Fr.refl _ _).drew) ⟨(Fr.refl _ _).drew, hw4.fr ((Fr.refl noB _).drew) (fun _ _ _ => id), ht4.fr ((Fr.refl noB _).drew) id⟩ (by kernel_rfl)
  · refine ⟨?_, ?_, ?_, ?_, ?_, ?_, ?_, ?_, trivial⟩
    · rw [if_neg (by decide)]; intro kq
      exact calm_mv 0 rfl rfl (Or.inl rfl) (Fr.refl _) (by decide) fun v w hd => hd
    · rw [if_neg (by decide)]; intro kq
      intro a W K hC hd hK
      have d23 : _ = _ := hd 23 (by decide)
      refine wpOp_plain rfl rfl ?_
      go_wp2_with fail
      exact hK _ _ (Fr.refl _ _) hC rfl
    · rw [if_neg (by decide)]; intro kq
      intro a W K hC hd hK
      have d24 : _ = _ := hd 24 (by decide)
      refine wpOp_plain rfl rfl ?_
      go_wp2_with fail
      exact hK _ _ (Fr.refl _ _) hC rfl
    · rw [if_neg (by decide)]; intro kq
      exact calm_mv 8 rfl rfl (Or.inl rfl) (Fr.refl _) (by decide) fun v w hd => hd
    · rw [if_neg (by decide)]; intro kq
      intro a W K hC hd hK
      have d26 : _ = _ := hd 26 (by decide)
      refine wpOp_plain rfl rfl ?_
      go_wp2_with fail
      refine (bytes_calls W _ _ _ hC.2.1 (by omega)).mono ?_
      rintro e9 w9 ⟨A9, c9, rfl, h9, f9⟩
      exact hK _ _ (f9.mono fun _ _ h => h.elim) ⟨hC.1.then' (f9.mono fun _ _ h => h.elim), hC.2.1.fr f9 (fun _ _ _ => id), hC.2.2.fr0 f9⟩ ⟨A9, c9, rfl, own_mono h9 (fun g hg => by have := (h9.lt g hg).1; have := hC.1.size; omega)⟩
    · rw [if_pos (by decide)]
      intro a W K hC hd hK
      replace hC : (fun q W => Fr (eqB p) w4 W ∧ WrAt W (upB w.heap.size) w.heap.size (frB k b) ∧ PutFC p m q W) 0 W := hC
      have d25 : _ = _ := hd 25 (by decide)
      have d27 : (OwnS w4 p hpw (frB k b)).V (a.tmps[27]?.getD undef) W := hd 27 (by decide)
      refine wpOp_plain rfl rfl ?_
      obtain ⟨A9, c9, d27, h9⟩ := d27
      go_wp2_with fail
      refine (seal_calls W p m A9 (frB k b).length c9 (frB k b) hC.2.2 (own_row h9) rfl (by omega) (own_nilB h9) (fun a ea hn => by have := own_base h9 a ea; omega)).mono ?_
      rintro e9 w9 ⟨B9, d9, rfl, g9, t9, f9⟩
      exact hK _ _ f9 ⟨hC.1.then' f9, hC.2.1.fr f9 (fun j _ h h2 => by unfold upB at h; unfold eqB at h2; omega), t9⟩ ⟨B9, d9, rfl, own_mono g9 (fun g hg => by have := (g9.lt g hg).1; have := hC.1.size; omega)⟩
    · rw [if_neg (by decide)]; intro kq
      exact calm_mv 28 rfl rfl (Or.inr rfl) (Fr.refl _) (by decide) fun v w hd => hd
    · rw [if_neg (by decide)]; intro kq
      intro a W K hC hd hK
      refine wpOp_plain rfl rfl ?_
      go_wp2_with fail
      exact hK _ _ (Fr.refl _ _) hC rfl
  · intro vs w8 fw8 cw8 hV
    have v23 : vs 0 = _ := hV 0 _ _ rfl rfl (by decide)
    have v24 : vs 1 = _ := hV 1 _ _ rfl rfl (by decide)
    have v25 : vs 2 = _ := hV 2 _ _ rfl rfl (by decide)
    have v26 : vs 3 = _ := hV 3 _ _ rfl rfl (by decide)
    have v27 : (OwnS w4 p hpw (frB k b)).V (vs 4) w8 := hV 4 _ _ rfl rfl (by decide)
    have v28 : (OwnS w4 p hpw (frameB k b)).V (vs 5) w8 := hV 5 _ _ rfl rfl (by decide)
    have v6 : (OwnS w4 p hpw (frameB k b)).V (vs 6) w8 := hV 6 _ _ rfl rfl (by decide)
    have v7 : vs 7 = _ := hV 7 _ _ rfl rfl (by decide)
    clear hV
    simp only [putL, Act.put, Nat.reduceAdd, List.setIfInBounds_toArray, List.set_cons_zero, List.set_cons_succ, v23, v24, v25, v26, v7]
    obtain ⟨A9, c9, v6', h9⟩ := v6
    have ht9 : TabAt w8 p true := cw8.2.2
    have F8 := (F4.mono (T := eqB p) fun _ _ h => h.elim).then' fw8
    rw [v6']
    clear cw8 v27 v28 hw4 ht4
    go_wp2_with fail
    go_ret2
    exact ⟨A9, c9, rfl, own_mono h9 (fun g hg => by have := (h9.lt g hg).1; omega), ht9, F8⟩
end Go.Proofs.Ytpkdcbfhacgklaa
/- frame.size, Framer.Get. -/
namespace Go.Proofs.Ytpkdcbfhacgklaa
open Go.RowKit

theorem RowAt.sub {w : World} {ad : Addr} {xs : List Value} (h : RowAt w (some ad) xs) (k m : Nat) : RowAt w (some (ad.add k)) ((xs.drop k).take m) := fun j u hu => by
  refine ⟨_, rfl, ?_⟩
  rw [List.getElem?_take] at hu
  split at hu
  · rw [List.getElem?_drop] at hu
    rw [add_add']; exact h.cell hu
  · cases hu
theorem bcells_sub (b : List UInt8) (k m : Nat) : bcells ((b.drop k).take m) = ((bcells b).drop k).take m := by simp [bcells, List.map_take, List.map_drop]
theorem add_zero' (a : Addr) : a.add 0 = a := by unfold Addr.add; simp
def sizeV (b : List UInt8) : Nat × Nat := if b.length < 10 then (0, 2) else if b.headD 0 ≠ 1 then (0, 6) else (leV ((b.drop 2).take 4) + 10, 0)
theorem leV4_lt (b : List UInt8) : leV ((b.drop 2).take 4) < 4294967296 := by
  have h1 := leV_lt ((b.drop 2).take 4)
  have h2 : ((b.drop 2).take 4).length ≤ 4 := by rw [List.length_take]; omega
  have h3 : 256 ^ ((b.drop 2).take 4).length ≤ 256 ^ 4 := Nat.pow_le_pow_right (by decide) h2
  have : (256 : Nat) ^ 4 = 4294967296 := by decide
  omega
theorem sizeV_lt (b : List UInt8) : (sizeV b).1 < 4294967400 := by
  unfold sizeV
  split
  · simp
  · split
    · simp
    · have := leV4_lt b; simp only []; omega
set_option maxRecDepth 100000 in
set_option maxHeartbeats 1600000 in
theorem size_calls (w : World) (A : Option Addr) (n c : Nat) (b : List UInt8) (hr : RowAt w A (bcells b)) (HN : Hid (b.length = n)) (hnc : n ≤ c) (hc : c ≤ 9223372036854775807) (hn : n ≤ 1000000000000) :
    Calls Try.prog 69 #[.slice A n c] w (fun e w' => e = .returned (.tuple #[.int .u64 ((sizeV b).1 : Nat), .int .i64 ((sizeV b).2 : Nat)]) ∧ Fr noB w w') := by
  by_cases h10 : n < 10
  · have d1 : decide ((n : Int) < 10) = true := decide_eq_true (by omega)
    have HV : Hid (sizeV b = (0, 2)) := by unfold Hid sizeV; rw [if_pos (by rw [HN.out]; exact h10)]
    clear h10
    go_enter Try.func69, Try.ntmps69
    go_wp2_with fail
    go_ret2
    exact ⟨by rw [HV.out]; rfl, Fr.refl _ _⟩
  · have d1 : decide ((n : Int) < 10) = false := decide_eq_false (by omega)
    obtain ⟨ad, rfl⟩ := hr.some_of (by rw [bcells_length, HN.out]; omega)
    obtain ⟨x, hx⟩ : ∃ x, b[0]? = some x := ⟨_, List.getElem?_eq_getElem (by rw [HN.out]; omega)⟩
    have hh : b.headD 0 = x := by
      cases b with
      | nil => simp at hx
      | cons y b => simp at hx; exact hx
    have c0 : w.cell? ad = some (.int .u8 x.toNat) := by
      have := hr.cell (j := 0) (u := .int .u8 x.toNat) (by unfold bcells; rw [List.getElem?_map, hx]; rfl)
      rwa [add_zero'] at this
    have hn0 : 0 < n := by omega
    by_cases h1 : x = 1
    · have t1 : ((x.toNat : Int) != 1) = false := by rw [bne_eq_false_iff_eq, h1]; rfl
      have HV : Hid (sizeV b = (leV ((b.drop 2).take 4) + 10, 0)) := by unfold Hid sizeV; rw [if_neg (by rw [HN.out]; exact h10), if_neg (by rw [hh]; simp [h1])]
      have hsub := hr.sub 2 4
      rw [← bcells_sub] at hsub
      have hsl : ((b.drop 2).take 4).length = 4 := by rw [List.length_take, List.length_drop, HN.out]; omega
      have hoc := of_calls w (some (ad.add 2)) 4 (c - 2) _ hsub hsl (fun e => by cases e) (by decide)
      have h4 := leV4_lt b
      have hnum : rNum ⟨(b.drop 2).take 4, 0⟩ 4 = (⟨[], 0⟩, leV ((b.drop 2).take 4)) := by
        have := rTake_app ((b.drop 2).take 4) [] 0 4 hsl
        rw [List.append_nil] at this
        unfold rNum; rw [this]
      generalize leV ((b.drop 2).take 4) = v at *
      have hw1 : IntKind.u64.wrap (v : Int) = v := by rw [IntKind.wrap_u64]; omega
      have hw2 : IntKind.u64.wrap ((v : Int) + 6) = (v : Int) + 6 := by rw [IntKind.wrap_u64]; omega
      have hw3 : IntKind.u64.wrap ((v : Int) + 6 + 4) = ((v + 10 : Nat) : Int) := by rw [IntKind.wrap_u64]; omega
      have HU := hid hnum
      have h6c : 6 ≤ c := by omega
      have h2c : 2 ≤ c := by omega
      clear hh hx h1 hsub hnum h4 h10 hr
      go_enter Try.func69, Try.ntmps69
      go_wp2_with fail
      refine hoc.mono ?_
      rintro e w1 ⟨p, rfl, hp1, hp2, h1, f1⟩
      clear hoc
      have hfr := fourRd_calls w1 (upB w.heap.size) p _ h1
      rw [HU.out] at hfr
      go_wp2_with fail
      refine hfr.mono ?_
      rintro e w2 ⟨rfl, h2, f2⟩
      have F2 : Fr noB w w2 := f1.trans f2 (fun i hi h => by unfold upB at h; omega)
      clear hfr h1 h2 f1 f2
      go_wp2_with fail
      go_ret2
      exact ⟨by rw [HV.out]; rfl, F2⟩
    · have t1 : ((x.toNat : Int) != 1) = true := by
        rw [bne_iff_ne]; intro h; exact h1 (UInt8.toNat_inj.1 (by simpa using (by omega : x.toNat = 1)))
      have HV : Hid (sizeV b = (0, 6)) := by unfold Hid sizeV; rw [if_neg (by rw [HN.out]; exact h10), if_pos (by rw [hh]; exact h1)]
      clear hh hx h1 h10 hr
      go_enter Try.func69, Try.ntmps69
      go_wp2_with fail
      go_ret2
      exact ⟨by rw [HV.out]; rfl, Fr.refl _ _⟩

/-! ### Get -/
theorem openB_len {b : List UInt8} (h0 : (openB b).2 = 0) (h4 : 4 ≤ b.length) : (openB b).1.length = b.length - 4 := by
  unfold openB at *
  rw [if_neg (by omega)] at h0 ⊢
  split at h0
  · rw [if_pos (by assumption), List.length_take]; omega
  · cases h0
def frGet (b : List UInt8) : (Nat × List UInt8) × Nat :=
  if 65536 < b.length then ((0, []), 3) else if (sizeV b).2 ≠ 0 then ((0, []), (sizeV b).2) else if b.length < (sizeV b).1 then ((0, []), 2) else if (sizeV b).1 < b.length then ((0, []), 3)
  else if (openB b).2 ≠ 0 then ((0, []), (openB b).2) else ((((openB b).1.getD 1 0).toNat, (openB b).1.drop 6), 0)
def SubB (blk : Nat) (bs : List UInt8) : Stb (Fr noB) :=
  ⟨fun v W => ∃ A m c, v = .slice A m c ∧ bs.length = m ∧ RowAt W A (bcells bs) ∧ ∀ a, A = some a → a.block = blk, fun _ _ _ ⟨A, m, c, h1, h2, h3, h4⟩ f => ⟨A, m, c, h1, h2, h3.fr0 f, h4⟩⟩
def FGet (w : World) (p : Nat) (q : (Nat × List UInt8) × Nat) (e : Ending) (w' : World) : Prop :=
  ∃ B m d, e = .returned (.tuple #[.int .u8 (q.1.1 : Nat), .slice B m d, .int .i64 (q.2 : Nat)]) ∧ Hid (q.1.2.length = m) ∧ RowAt w' B (bcells q.1.2) ∧ (∃ mk, TabAt w' p mk) ∧ (∀ a, B = some a → w.heap.size ≤ a.block) ∧ Fr (eqB p) w w'
theorem FGet.none {w w' : World} {p : Nat} {m : Bool} {k : Nat} (h : TabAt w' p m) (f : Fr (eqB p) w w') : FGet w p ((0, []), k) (.returned (.tuple #[.int .u8 0, .slice none 0 0, .int .i64 k])) w' :=
  ⟨Option.none, 0, 0, rfl, rfl, RowAt.nil _ _, ⟨m, h⟩, fun a e => (by cases e), f⟩
set_option maxRecDepth 100000 in
set_option maxHeartbeats 1600000 in
theorem getF_calls (w : World) (p : Nat) (m : Bool) (A : Option Addr) (n c : Nat) (b : List UInt8) (h : TabAt w p m) (hr : RowAt w A (bcells b)) (HN : Hid (b.length = n)) (hnc : n ≤ c) (hc : c ≤ 9223372036854775807) (hA : ∀ a, A = some a → 0 < n → a.block ≠ p) :
    Calls Try.prog 27 #[.pointer (some ⟨p, 0, none⟩), .slice A n c] w (FGet w p (frGet b)) := by
  by_cases hl : 65536 < n
  · have d1 : decide ((65536 : Int) < n) = true := decide_eq_true (by omega)
    have HV : Hid (frGet b = ((0, []), 3)) := by unfold Hid frGet; rw [if_pos (by rw [HN.out]; exact hl)]
    have HT := hid h
    clear hl h hr
    go_enter Try.func27, Try.ntmps27
    go_wp2_with fail
    go_ret3
    rw [HV.out]
    exact FGet.none HT.out (Fr.refl _ _)
  · have d1 : decide ((65536 : Int) < n) = false := decide_eq_false (by omega)
    have hsz := size_calls w A n c b hr HN hnc hc (by omega)
    have HV : Hid (frGet b = if (sizeV b).2 ≠ 0 then ((0, []), (sizeV b).2) else if b.length < (sizeV b).1 then ((0, []), 2) else if (sizeV b).1 < b.length then ((0, []), 3) else if (openB b).2 ≠ 0 then ((0, []), (openB b).2) else ((((openB b).1.getD 1 0).toNat, (openB b).1.drop 6), 0)) := by
      show frGet b = _
      conv => lhs; unfold frGet
      rw [if_neg (by rw [HN.out]; exact hl)]
    have hz := sizeV_lt b
    have hz10 : (sizeV b).2 = 0 → 10 ≤ n := fun h0 => by
      unfold sizeV at h0
      rw [HN.out] at h0
      split at h0
      · cases h0
      · omega
    generalize frGet b = res at *
    generalize sizeV b = sv at *
    obtain ⟨v, ev⟩ := sv
    simp only [] at *
    have HZ := hid hz
    have HL := hid hl
    clear hz hl
    go_enter Try.func27, Try.ntmps27
    go_wp2_with fail
    refine hsz.mono ?_
    rintro e w1 ⟨rfl, f1⟩
    have ht1 := h.fr f1 id
    have hr1 := hr.fr0 f1
    clear hsz h hr
    by_cases he : ev = 0
    · have t1 : ((ev : Int) != 0) = false := by rw [bne_eq_false_iff_eq]; omega
      have hn10 := hz10 he
      rw [if_neg (by rw [he]; decide)] at HV
      have hw1 : IntKind.u64.wrap (n : Int) = n := by rw [IntKind.wrap_u64]; have := HL.out; omega
      clear he hz10
      rw [HN.out] at HV
      by_cases h1 : n < v
      · have d2 : decide (n < v) = true := decide_eq_true h1
        rw [if_pos h1] at HV
        clear h1
        go_wp2_with fail
        go_ret3
        rw [HV.out]
        exact FGet.none ht1 (f1.mono fun _ _ h => h.elim)
      · have d2 : decide (n < v) = false := decide_eq_false h1
        rw [if_neg h1] at HV
        by_cases h2 : v < n
        · have d3 : decide (v < n) = true := decide_eq_true h2
          rw [if_pos h2] at HV
          clear h1 h2
          go_wp2_with fail
          go_ret3
          rw [HV.out]
          exact FGet.none ht1 (f1.mono fun _ _ h => h.elim)
        · have d3 : decide (v < n) = false := decide_eq_false h2
          rw [if_neg h2] at HV
          have hop := open2_calls w1 p m A n c b ht1 hr1 HN (by have := HL.out; omega) hnc hc hA
          rw [if_neg (by omega)] at hop
          have hob : (openB b).2 = 0 → (openB b).1.length = n - 4 := fun h0 => by rw [openB_len h0 (by rw [HN.out]; omega), HN.out]
          generalize openB b = ob at *
          obtain ⟨al, ae⟩ := ob
          simp only [] at hob HV
          clear h1 h2
          go_wp2_with fail
          refine hop.mono ?_
          rintro e w2 ⟨B, k, d, rfl, HK, hrB, hB, ht2, f2, hkd, hdm⟩
          simp only [] at HK hrB
          have F2 := (f1.mono (T := eqB p) fun _ _ h => h.elim).then' f2
          have hs1 := f1.size
          clear hop ht1 hr1 f1 f2
          by_cases ha : ae = 0
          · have t2 : ((ae : Int) != 0) = false := by rw [bne_eq_false_iff_eq]; omega
            have hk := hob ha
            rw [HK.out] at hk
            rw [if_neg (by rw [ha]; decide)] at HV
            clear ha hob
            obtain ⟨ad, rfl⟩ := hrB.some_of (by rw [bcells_length, HK.out]; omega)
            obtain ⟨x, hx⟩ : ∃ x, al[1]? = some x := ⟨_, List.getElem?_eq_getElem (by rw [HK.out]; omega)⟩
            have hc1 : w2.cell? (ad.add 1) = some (.int .u8 x.toNat) := hrB.cell (by unfold bcells; rw [List.getElem?_map, hx]; rfl)
            have HHK := hid hk
            have hgx : al.getD 1 0 = x := by rw [List.getD_eq_getElem?_getD, hx]; rfl
            rw [hgx] at HV
            have h6k : 6 ≤ k := by omega
            have h1k : 1 < k := by omega
            clear hx hgx hk
            go_wp2_with fail
            apply wp_region_calm (R := Fr noB) (C := fun q W => Fr noB w2 W) [false, false, false, false, false, false, false, false]
              [eqv _, eqv _, eqv _, eqv _, SubB ad.block (al.drop 6), eqv _, SubB ad.block (al.drop 6), eqv _]
              (by kernel_rfl) (by kernel_rfl) (fun _ _ _ h1 h2 => h1.then' h2) ((Fr.refl _ _).drew) ((Fr.refl _ _).drew) (by kernel_rfl)
            · refine ⟨?_, ?_, ?_, ?_, ?_, ?_, ?_, ?_, trivial⟩
              · rw [if_neg (by decide)]; intro kq
                exact calm_mv 8 rfl rfl (Or.inl rfl) (Fr.refl _) (by decide) fun v w hd => hd
              · rw [if_neg (by decide)]; intro kq
                intro a W K hC hd hK
                have d44 : _ = _ := hd 44 (by decide)
                refine wpOp_plain rfl rfl ?_
                have hcx := hC.cell hc1 id
                have hcy : W.cell? ⟨ad.block, ad.off + 1, none⟩ = some (.int .u8 x.toNat) := hcx
                go_wp2_with fail
                exact hK _ _ (Fr.refl _ _) hC rfl
              · rw [if_neg (by decide)]; intro kq
                intro a W K hC hd hK
                have d45 : _ = _ := hd 45 (by decide)
                refine wpOp_plain rfl rfl ?_
                have hcx := hC.cell hc1 id
                have hcy : W.cell? ⟨ad.block, ad.off + 1, none⟩ = some (.int .u8 x.toNat) := hcx
                go_wp2_with fail
                exact hK _ _ (Fr.refl _ _) hC rfl
              · rw [if_neg (by decide)]; intro kq
                exact calm_mv 8 rfl rfl (Or.inl rfl) (Fr.refl _) (by decide) fun v w hd => hd
              · rw [if_neg (by decide)]; intro kq
                intro a W K hC hd hK
                have d47 : _ = _ := hd 47 (by decide)
                refine wpOp_plain rfl rfl ?_
                have hr8 := (hrB.fr0 hC).sub 6 (k - 6)
                rw [← bcells_sub, List.take_of_length_le (by rw [List.length_drop, HK.out]; exact Nat.le_refl _)] at hr8
                by_cases h6 : d = 6
                · have h60 : k = 6 := by omega
                  have hal : al.drop 6 = [] := List.drop_eq_nil_of_le (by rw [HK.out]; omega)
                  have HAL := hid hal
                  clear hal h60
                  subst h6
                  go_wp2_with fail
                  exact hK _ _ (Fr.refl _ _) hC ⟨some ad, 0, 0, rfl, by rw [HAL.out]; rfl, by rw [HAL.out]; exact RowAt.nil _ _, fun a e => by cases e; rfl⟩
                · go_wp2_with fail
                  exact hK _ _ (Fr.refl _ _) hC ⟨some (ad.add 6), k - 6, d - 6, rfl, by rw [List.length_drop, HK.out], hr8, fun a e => by cases e; rw [add_block]⟩
              · rw [if_neg (by decide)]; intro kq
                exact calm_mv 46 rfl rfl (Or.inr rfl) (Fr.refl _) (by decide) fun v w hd => hd
              · rw [if_neg (by decide)]; intro kq
                exact calm_mv 48 rfl rfl (Or.inr rfl) (Fr.refl _) (by decide) fun v w hd => hd
              · rw [if_neg (by decide)]; intro kq
                intro a W K hC hd hK
                refine wpOp_plain rfl rfl ?_
                go_wp2_with fail
                exact hK _ _ (Fr.refl _ _) hC rfl
            · intro vs w8 fw8 cw8 hV
              have v44 : vs 0 = _ := hV 0 _ _ rfl rfl (by decide)
              have v45 : vs 1 = _ := hV 1 _ _ rfl rfl (by decide)
              have v46 : vs 2 = _ := hV 2 _ _ rfl rfl (by decide)
              have v47 : vs 3 = _ := hV 3 _ _ rfl rfl (by decide)
              have v48 : (SubB ad.block (al.drop 6)).V (vs 4) w8 := hV 4 _ _ rfl rfl (by decide)
              have v4 : vs 5 = _ := hV 5 _ _ rfl rfl (by decide)
              have v5 : (SubB ad.block (al.drop 6)).V (vs 6) w8 := hV 6 _ _ rfl rfl (by decide)
              have v6 : vs 7 = _ := hV 7 _ _ rfl rfl (by decide)
              clear hV
              simp only [putL, Act.put, Nat.reduceAdd, List.setIfInBounds_toArray, List.set_cons_zero, List.set_cons_succ, v44, v45, v46, v47, v4, v6]
              obtain ⟨A8, m8, c8, e8, hm8, hr8, hb8⟩ := v5
              have hb9 := hB ad rfl
              have ht8 := ht2.fr fw8 id
              have F8 := F2.then' (fw8.mono (T := eqB p) fun _ _ h => h.elim)
              rw [e8]
              clear hc1 cw8 v48 e8
              go_wp2_with fail
              go_ret3
              rw [HV.out]
              exact ⟨A8, m8, c8, rfl, hm8, hr8, ⟨_, ht8⟩, fun a e => by rw [hb8 a e]; omega, F8⟩
          · have t2 : ((ae : Int) != 0) = true := by rw [bne_iff_ne]; omega
            rw [if_pos ha] at HV
            clear ha hob
            go_wp2_with fail
            go_ret3
            rw [HV.out]
            exact FGet.none ht2 F2
    · have t1 : ((ev : Int) != 0) = true := by rw [bne_iff_ne]; omega
      rw [if_pos he] at HV
      clear he hz10
      go_wp2_with fail
      go_ret3
      rw [HV.out]
      exact FGet.none ht1 (f1.mono fun _ _ h => h.elim)
end Go.Proofs.Ytpkdcbfhacgklaa
/- Arguments that are read as data, as rows in memory. -/
namespace Go.Proofs.Ytpkdcbfhacgklaa
open Go.RowKit Go.ChangeShapes Go.WideShapes

theorem list1 {α : Type} {l : List α} (h : l.length = 1) : ∃ a0, l = [a0] :=
  match l, h with | [a0], _ => ⟨a0, rfl⟩
theorem list2 {α : Type} {l : List α} (h : l.length = 2) : ∃ a0 a1, l = [a0, a1] :=
  match l, h with | [a0, a1], _ => ⟨a0, a1, rfl⟩
theorem list3 {α : Type} {l : List α} (h : l.length = 3) : ∃ a0 a1 a2, l = [a0, a1, a2] :=
  match l, h with | [a0, a1, a2], _ => ⟨a0, a1, a2, rfl⟩
theorem list4 {α : Type} {l : List α} (h : l.length = 4) : ∃ a0 a1 a2 a3, l = [a0, a1, a2, a3] :=
  match l, h with | [a0, a1, a2, a3], _ => ⟨a0, a1, a2, a3, rfl⟩
theorem list5 {α : Type} {l : List α} (h : l.length = 5) : ∃ a0 a1 a2 a3 a4, l = [a0, a1, a2, a3, a4] :=
  match l, h with | [a0, a1, a2, a3, a4], _ => ⟨a0, a1, a2, a3, a4, rfl⟩
theorem list6 {α : Type} {l : List α} (h : l.length = 6) : ∃ a0 a1 a2 a3 a4 a5, l = [a0, a1, a2, a3, a4, a5] :=
  match l, h with | [a0, a1, a2, a3, a4, a5], _ => ⟨a0, a1, a2, a3, a4, a5, rfl⟩
theorem list7 {α : Type} {l : List α} (h : l.length = 7) : ∃ a0 a1 a2 a3 a4 a5 a6, l = [a0, a1, a2, a3, a4, a5, a6] :=
  match l, h with | [a0, a1, a2, a3, a4, a5, a6], _ => ⟨a0, a1, a2, a3, a4, a5, a6, rfl⟩
theorem list8 {α : Type} {l : List α} (h : l.length = 8) : ∃ a0 a1 a2 a3 a4 a5 a6 a7, l = [a0, a1, a2, a3, a4, a5, a6, a7] :=
  match l, h with | [a0, a1, a2, a3, a4, a5, a6, a7], _ => ⟨a0, a1, a2, a3, a4, a5, a6, a7, rfl⟩
theorem list9 {α : Type} {l : List α} (h : l.length = 9) : ∃ a0 a1 a2 a3 a4 a5 a6 a7 a8, l = [a0, a1, a2, a3, a4, a5, a6, a7, a8] :=
  match l, h with | [a0, a1, a2, a3, a4, a5, a6, a7, a8], _ => ⟨a0, a1, a2, a3, a4, a5, a6, a7, a8, rfl⟩
theorem list10 {α : Type} {l : List α} (h : l.length = 10) : ∃ a0 a1 a2 a3 a4 a5 a6 a7 a8 a9, l = [a0, a1, a2, a3, a4, a5, a6, a7, a8, a9] :=
  match l, h with | [a0, a1, a2, a3, a4, a5, a6, a7, a8, a9], _ => ⟨a0, a1, a2, a3, a4, a5, a6, a7, a8, a9, rfl⟩
theorem list11 {α : Type} {l : List α} (h : l.length = 11) : ∃ a0 a1 a2 a3 a4 a5 a6 a7 a8 a9 a10, l = [a0, a1, a2, a3, a4, a5, a6, a7, a8, a9, a10] :=
  match l, h with | [a0, a1, a2, a3, a4, a5, a6, a7, a8, a9, a10], _ => ⟨a0, a1, a2, a3, a4, a5, a6, a7, a8, a9, a10, rfl⟩
theorem list12 {α : Type} {l : List α} (h : l.length = 12) : ∃ a0 a1 a2 a3 a4 a5 a6 a7 a8 a9 a10 a11, l = [a0, a1, a2, a3, a4, a5, a6, a7, a8, a9, a10, a11] :=
  match l, h with | [a0, a1, a2, a3, a4, a5, a6, a7, a8, a9, a10, a11], _ => ⟨a0, a1, a2, a3, a4, a5, a6, a7, a8, a9, a10, a11, rfl⟩
theorem list13 {α : Type} {l : List α} (h : l.length = 13) : ∃ a0 a1 a2 a3 a4 a5 a6 a7 a8 a9 a10 a11 a12, l = [a0, a1, a2, a3, a4, a5, a6, a7, a8, a9, a10, a11, a12] :=
  match l, h with | [a0, a1, a2, a3, a4, a5, a6, a7, a8, a9, a10, a11, a12], _ => ⟨a0, a1, a2, a3, a4, a5, a6, a7, a8, a9, a10, a11, a12, rfl⟩
theorem list14 {α : Type} {l : List α} (h : l.length = 14) : ∃ a0 a1 a2 a3 a4 a5 a6 a7 a8 a9 a10 a11 a12 a13, l = [a0, a1, a2, a3, a4, a5, a6, a7, a8, a9, a10, a11, a12, a13] :=
  match l, h with | [a0, a1, a2, a3, a4, a5, a6, a7, a8, a9, a10, a11, a12, a13], _ => ⟨a0, a1, a2, a3, a4, a5, a6, a7, a8, a9, a10, a11, a12, a13, rfl⟩
theorem list15 {α : Type} {l : List α} (h : l.length = 15) : ∃ a0 a1 a2 a3 a4 a5 a6 a7 a8 a9 a10 a11 a12 a13 a14, l = [a0, a1, a2, a3, a4, a5, a6, a7, a8, a9, a10, a11, a12, a13, a14] :=
  match l, h with | [a0, a1, a2, a3, a4, a5, a6, a7, a8, a9, a10, a11, a12, a13, a14], _ => ⟨a0, a1, a2, a3, a4, a5, a6, a7, a8, a9, a10, a11, a12, a13, a14, rfl⟩
theorem list16 {α : Type} {l : List α} (h : l.length = 16) : ∃ a0 a1 a2 a3 a4 a5 a6 a7 a8 a9 a10 a11 a12 a13 a14 a15, l = [a0, a1, a2, a3, a4, a5, a6, a7, a8, a9, a10, a11, a12, a13, a14, a15] :=
  match l, h with | [a0, a1, a2, a3, a4, a5, a6, a7, a8, a9, a10, a11, a12, a13, a14, a15], _ => ⟨a0, a1, a2, a3, a4, a5, a6, a7, a8, a9, a10, a11, a12, a13, a14, a15, rfl⟩
section
variable {H : Type} {enc : TypeId × Value → H} {P : Program} {w : World}
theorem open_strs {t e : TypeId} {A : Option Addr} {len cap : Nat} {d : DataW H} {ps : List MemPlace} (ht : P.underlying t = some (.slice e)) (he : P.underlying e = some .string) (hc : P.cellsOf e = 1)
    (h : DataW.Trod enc P w 0 (fun _ => true) true t (.slice A len cap) d ps) :
    ∃ ss : List ByteArray, RowAt w A (strs ss) ∧ ss.length = len ∧ len ≤ cap ∧ cap ≤ maxLen ∧ (∀ s ∈ ss, s.size ≤ maxLen) ∧ (A = none → len = 0 ∧ cap = 0) := by
  obtain ⟨fuel, hf⟩ := h
  rcases open_strings ht he hc hf with ⟨hcs, _⟩ | ⟨a, l, c, ss, hcs, _, hl, hm, hz, _, hcell, hsz⟩
  · simp [Value.cells] at hcs
    obtain ⟨rfl, rfl, rfl⟩ := hcs
    exact ⟨[], RowAt.nil _ _, rfl, Nat.le_refl _, Nat.zero_le _, by simp, fun _ => ⟨rfl, rfl⟩⟩
  · simp [Value.cells] at hcs
    obtain ⟨rfl, rfl, rfl⟩ := hcs
    simp only [if_true] at hz
    refine ⟨ss.take len, fun j u hu => ⟨a, rfl, ?_⟩, by rw [List.length_take]; omega, hl, hm, fun s hs => hsz s (List.mem_of_mem_take hs), fun e => by cases e⟩
    have hj : j < (ss.take len).length := by have := (List.getElem?_eq_some_iff.1 hu).1; simpa [strs] using this
    have hj2 : j < ss.length := by rw [List.length_take] at hj; omega
    rw [hcell j hj2]
    simp only [strs, List.getElem?_map] at hu
    rw [List.getElem?_take, if_pos (by rw [List.length_take] at hj; omega), List.getElem?_eq_getElem hj2] at hu
    simp at hu
    rw [← hu, List.getD_eq_getElem?_getD, List.getElem?_eq_getElem hj2]
    rfl
theorem flat_inv {α β : Type} (f : α → List β) (m : Nat) : ∀ (l : List α), (∀ a ∈ l, (f a).length = m) → ∀ (j : Nat) (u : β), (l.flatMap f)[j]? = some u → ∃ i a k, l[i]? = some a ∧ (f a)[k]? = some u ∧ j = i * m + k
  | [], _, j, u, h => by simp at h
  | c :: l, hf, j, u, h => by
    have hc := hf c (List.mem_cons_self ..)
    rw [List.flatMap_cons] at h
    by_cases hj : j < m
    · rw [List.getElem?_append_left (by rw [hc]; exact hj)] at h
      exact ⟨0, c, j, rfl, h, by omega⟩
    · rw [List.getElem?_append_right (by rw [hc]; omega), hc] at h
      obtain ⟨i, a, k, h1, h2, h3⟩ := flat_inv f m l (fun a ha => hf a (List.mem_cons_of_mem _ ha)) _ _ h
      exact ⟨i + 1, a, k, by simpa using h1, h2, by rw [Nat.succ_mul]; omega⟩
/-- A slice of structs (or of whatever), each element by a lemma of its own. -/
theorem open_rows {t e : TypeId} {A : Option Addr} {len cap : Nat} {d : DataW H} {ps : List MemPlace} {α : Type} [Inhabited α] (f : α → List Value) (good : α → Prop) (ht : P.underlying t = some (.slice e))
    (each : ∀ n cs y, DataW.trod enc P w 0 (fun _ => true) true n e cs = some y → ∃ a, cs = f a ∧ good a)
    (h : DataW.Trod enc P w 0 (fun _ => true) true t (.slice A len cap) d ps) :
    ∃ l : List α, RowAt w A (l.flatMap f) ∧ l.length = len ∧ len ≤ cap ∧ cap ≤ maxLen ∧ (∀ a ∈ l, good a) ∧ (A = none → len = 0 ∧ cap = 0) := by
  obtain ⟨fuel, hf⟩ := h
  rcases Deep.open_slice ht hf with ⟨hcs, _⟩ | ⟨ad, l, c, m, n, D, Pl, hcs, _, hl, hm, hmm, _, hx⟩
  · simp [Value.cells] at hcs
    obtain ⟨rfl, rfl, rfl⟩ := hcs
    exact ⟨[], by simpa using RowAt.nil _ _, rfl, Nat.le_refl _, Nat.zero_le _, by simp, fun _ => ⟨rfl, rfl⟩⟩
  · simp [Value.cells] at hcs
    obtain ⟨rfl, rfl, rfl⟩ := hcs
    simp only [if_true] at hmm
    subst hmm
    obtain ⟨F, hF⟩ := Deep.choose_lt (α := α) (n := len) (p := fun i a => w.cells? 0 (ad.add (i * P.cellsOf e)) (P.cellsOf e) = some (f a) ∧ good a) (fun i hi => by
      obtain ⟨cs', h1, h2⟩ := hx i (by omega)
      obtain ⟨a, rfl, hg⟩ := each n cs' _ h2
      exact ⟨a, h1, hg⟩)
    have hlen : ∀ a ∈ (List.range len).map F, (f a).length = P.cellsOf e := by
      intro a ha
      obtain ⟨i, hi, rfl⟩ := List.mem_map.1 ha
      exact (World.cells?_some (hF i (List.mem_range.1 hi)).1).2.1
    refine ⟨(List.range len).map F, fun j u hu => ?_, by simp, hl, hm, fun a ha => ?_, fun e => by cases e⟩
    · obtain ⟨i, a, k, h1, h2, rfl⟩ := flat_inv f _ _ hlen j u hu
      obtain ⟨hi, h3⟩ : i < len ∧ F i = a := by
        rw [List.getElem?_map] at h1
        cases hr : (List.range len)[i]? with
        | none => rw [hr] at h1; simp at h1
        | some x =>
          rw [hr] at h1
          obtain ⟨hx1, hx2⟩ := List.getElem?_eq_some_iff.1 hr
          simp at hx1 hx2 h1
          subst hx2
          exact ⟨hx1, h1⟩
      subst h3
      obtain ⟨_, h4, h5⟩ := World.cells?_some (hF i hi).1
      have hk : k < P.cellsOf e := by rw [← h4]; exact (List.getElem?_eq_some_iff.1 h2).1
      refine ⟨ad, rfl, ?_⟩
      rw [← add_add', h5 k hk, h2]
    · obtain ⟨i, hi, rfl⟩ := List.mem_map.1 ha
      exact (hF i (List.mem_range.1 hi)).2
end
end Go.Proofs.Ytpkdcbfhacgklaa
/- A []byte among the arguments. -/
namespace Go.Proofs.Ytpkdcbfhacgklaa
open Go.RowKit Go.ChangeShapes Go.WideShapes
section
variable {H : Type} {enc : TypeId × Value → H} {w : World}
theorem open_byte (n : Nat) (cs : List Value) (y : DataW H × List MemPlace) (h : DataW.trod enc Try.prog w 0 (fun _ => true) true n 5 cs = some y) :
    ∃ b : UInt8, cs = [Value.int .u8 (b.toNat : Nat)] ∧ True := by
  obtain ⟨n0, e0, _, w0⟩ := DataW.trod_int Try.underlying5 h
  simp [Lit.wf, IntKind.min, IntKind.max, IntKind.bits, IntKind.signed] at w0
  obtain ⟨m, rfl⟩ := Int.eq_ofNat_of_zero_le w0.1
  refine ⟨UInt8.ofNat m, ?_, trivial⟩
  rw [e0]
  have : (UInt8.ofNat m).toNat = m := by simp; omega
  rw [this]
theorem open_bytes {A : Option Addr} {len cap : Nat} {d : DataW H} {ps : List MemPlace} (h : DataW.Trod enc Try.prog w 0 (fun _ => true) true 46 (.slice A len cap) d ps) :
    ∃ l : List UInt8, RowAt w A (bcells l) ∧ l.length = len ∧ len ≤ cap ∧ cap ≤ maxLen ∧ (A = none → len = 0 ∧ cap = 0) := by
  obtain ⟨l, h1, h2, h3, h4, _, h6⟩ := open_rows (fun b : UInt8 => [Value.int .u8 (b.toNat : Nat)]) (fun _ => True) Try.underlying46 open_byte h
  refine ⟨l, ?_, h2, h3, h4, h6⟩
  have e : ∀ l : List UInt8, bcells l = l.flatMap (fun b : UInt8 => [Value.int .u8 (b.toNat : Nat)]) := fun l => by
    induction l with
    | nil => rfl
    | cons b l ih =>
      rw [List.flatMap_cons, ← ih]
      rfl
  rw [e]
  exact h1
end
end Go.Proofs.Ytpkdcbfhacgklaa
/- interrexref02.Open; interrexlaw02.CrcOpens: the walk. -/
namespace Go.Proofs.Ytpkdcbfhacgklaa
open Go.RowKit

theorem leB_leV (xs : List UInt8) : leB xs.length (leV xs) = xs := by
  induction xs with
  | nil => rfl
  | cons b xs ih =>
    have h := b.toNat_lt
    rw [leV, List.length_cons, leB]
    have e1 : UInt8.ofNat (b.toNat + 256 * leV xs) = b := by
      apply UInt8.toNat_inj.1
      rw [UInt8.toNat_ofNat']
      omega
    have e2 : (b.toNat + 256 * leV xs) / 256 = leV xs := by omega
    rw [e1, e2, ih]
theorem seal_eq {b : List UInt8} {k : Nat} (hb : b.length = k + 4) : (sealB (b.take k) = b) ↔ leV (b.drop k) = crcSum (b.take k) := by
  have hl : (b.drop k).length = 4 := by rw [List.length_drop, hb]; omega
  unfold sealB
  have hs := crcSum_lt (b.take k)
  generalize crcSum (b.take k) = sm at *
  constructor
  · intro h
    have h2 : b.take k ++ leB 4 sm = b.take k ++ b.drop k := by rw [h, List.take_append_drop]
    have h3 := List.append_cancel_left h2
    rw [← h3, leV_leB]
    exact Nat.mod_eq_of_lt hs
  · intro h
    rw [← h, ← hl, leB_leV, List.take_append_drop]
theorem openR_calls (w : World) (s : ByteArray) (hs : s.size ≤ 100000000000) :
    Calls Try.prog 71 #[.string s] w (fun e w' => e = .returned (.tuple #[.string (mkS (openB s.data.toList).1), .int .i64 ((openB s.data.toList).2 : Nat)]) ∧ Fr noB w w') := by
  have hsz : s.data.toList.length = s.size := by simp
  by_cases h4 : s.size < 4
  · have HO : Hid (openB s.data.toList = ([], 2)) := by unfold Hid openB; rw [if_pos (by rw [hsz]; exact h4)]
    rw [HO.out]
    have t4 : decide ((s.size : Int) - 4 < 0) = true := by simp; omega
    have hm4 : (s.size : Int) - 4 < 0 := by omega
    go_enter Try.func71, Try.ntmps71
    go_wp2_with fail
    go_ret2
    exact ⟨rfl, Fr.refl _ _⟩
  · obtain ⟨k, hk⟩ : ∃ k, s.size = k + 4 := ⟨s.size - 4, by omega⟩
    have hm4 : ((s.size : Nat) : Int) - 4 = (k : Int) := by omega
    have hex : (s.extract 0 k).data.toList = s.data.toList.take k := extract_take s k
    have hsl := fun W => sealR_calls W (s.extract 0 k) (by rw [ByteArray.size_extract]; omega)
    rw [hex] at hsl
    have hiff := seal_eq (b := s.data.toList) (k := k) (by rw [hsz, hk])
    have HO : Hid (openB s.data.toList = if leV (s.data.toList.drop k) = crcSum (s.data.toList.take k) then (s.data.toList.take k, 0) else ([], 5)) := by
      unfold Hid openB; rw [if_neg (by rw [hsz]; omega), hsz, hk, show k + 4 - 4 = k by omega]
    have HK : Hid (mkS (s.data.toList.take k) = s.extract 0 k) := by unfold Hid; rw [← hex, mkS_of]
    have hks : k ≤ s.size := by omega
    have hz : s.size ≤ 100000000000 := hs
    generalize openB s.data.toList = ob at *
    by_cases hls : leV (s.data.toList.drop k) = crcSum (s.data.toList.take k)
    · rw [if_pos hls] at HO
      have hse := hiff.2 hls
      rw [hse] at hsl
      unfold StrPost at hsl
      rw [mkS_of] at hsl
      have hself : (s.toList == s.toList) = true := by simp
      have HH := hid (And.intro hk (And.intro hls hse))
      clear hk hls hse hiff hex h4
      go_enter Try.func71, Try.ntmps71
      go_wp2_with fail
      refine (hsl _).mono ?_
      rintro e w1 ⟨rfl, f1⟩
      go_wp2_with fail
      go_ret2
      rw [HO.out]
      exact ⟨by rw [HK.out]; rfl, f1⟩
    · rw [if_neg hls] at HO
      have hne : ((mkS (sealB (s.data.toList.take k))).toList == s.toList) = false := by
        rw [mkS_toList, beq_eq_false_iff_ne]
        intro e
        exact hls (hiff.1 (by rw [e, ByteArray.toList_eq]))
      have HH := hid (And.intro hk hls)
      unfold StrPost at hsl
      generalize mkS (sealB (s.data.toList.take k)) = T at *
      clear hk hls hiff hex h4
      go_enter Try.func71, Try.ntmps71
      go_wp2_with fail
      refine (hsl _).mono ?_
      rintro e w1 ⟨rfl, f1⟩
      go_wp2_with fail
      go_ret2
      rw [HO.out]
      exact ⟨rfl, f1⟩
end Go.Proofs.Ytpkdcbfhacgklaa
