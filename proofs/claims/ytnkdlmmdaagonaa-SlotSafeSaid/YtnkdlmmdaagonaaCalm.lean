/- A region that draws its order, op by op: what each operation leaves holds whatever else has come up before it. -/
import Derived.Test.YtnkdlmmdaagonaaMem
namespace Go.Proofs.Ytnkdlmmdaagonaa
open Go.RowKit

/-- What a slot may hold, kept by every step of R. -/
structure Stb (R : World → World → Prop) where
  V : Value → World → Prop
  st : ∀ v w w', V v w → R w w' → V v w'
def eqv {R : World → World → Prop} (x : Value) : Stb R := ⟨fun v _ => v = x, fun _ _ _ h _ => h⟩
def anyv {R : World → World → Prop} : Stb R := ⟨fun _ _ => True, fun _ _ _ _ _ => trivial⟩

section
variable {P : Program} {ops : Array Oper} {Q : Exit → Act → World → Prop} {R : World → World → Prop}

/-- What slot t may hold while the region runs: what its operation leaves, or what it held. -/
def slotD (l : List Oper) (Vs : List (Stb R)) (a0 : Act) (t : Tmp) (v : Value) (w : World) : Prop :=
  match l, Vs with
  | o :: l, V :: Vs => if o.dst = some t then V.V v w else slotD l Vs a0 t v w
  | _, _ => v = a0.tmps[t]?.getD undef

/-- One operation's part. -/
def CalmOp (P : Program) (ops : Array Oper) (Q : Exit → Act → World → Prop) (C : Nat → World → Prop) (Vs : List (Stb R)) (a0 : Act) (i : Nat) (V : Stb R) (o : Oper) (k k' : Nat) : Prop :=
  ∀ (a : Act) (w : World) (K : Act → World → Prop), C k w → (∀ t, t ∈ o.looksAt ops → slotD ops.toList Vs a0 t (a.tmps[t]?.getD undef) w) →
    (∀ v w', R w w' → C k' w' → V.V v w' → K (a.put o.dst v) w') → wpOp P ops Q i K a w

/-- The state's number behind an operation. -/
def stepR : Bool → Nat → Nat
  | true, r => r + 1
  | false, r => r
/-- All operations' parts; st: which of them turn the state C. -/
def CalmAll (P : Program) (ops : Array Oper) (Q : Exit → Act → World → Prop) (C : Nat → World → Prop) (Vs : List (Stb R)) (a0 : Act) : Nat → Nat → List Oper → List (Stb R) → List Bool → Prop
  | i, r, o :: l, V :: Ws, s :: st => (if s = true then CalmOp P ops Q C Vs a0 i V o r (r + 1) else ∀ k, CalmOp P ops Q C Vs a0 i V o k k) ∧ CalmAll P ops Q C Vs a0 (i + 1) (stepR s r) l Ws st
  | _, _, [], [], [] => True
  | _, _, _, _, _ => False

def rank (st : List Bool) (i : Nat) : Nat := (st.take i).count true

theorem calmAll_get {C : Nat → World → Prop} {Vs : List (Stb R)} {a0 : Act} : ∀ (l : List Oper) (Ws : List (Stb R)) (st : List Bool) (i r : Nat), CalmAll P ops Q C Vs a0 i r l Ws st →
    l.length = Ws.length ∧ l.length = st.length ∧ ∀ j o, l[j]? = some o → ∃ V s, Ws[j]? = some V ∧ st[j]? = some s ∧
      (if s = true then CalmOp P ops Q C Vs a0 (i + j) V o (r + rank st j) (r + rank st j + 1) else ∀ k, CalmOp P ops Q C Vs a0 (i + j) V o k k)
  | [], [], [], i, r, _ => ⟨rfl, rfl, fun j o h => by simp at h⟩
  | o :: l, V :: Ws, s :: st, i, r, h => by
    obtain ⟨h1, h2⟩ := h
    obtain ⟨e1, e2, e3⟩ := calmAll_get l Ws st (i + 1) _ h2
    refine ⟨by simp [e1], by simp [e2], fun j o' hj => ?_⟩
    cases j with
    | zero =>
      simp at hj; subst hj
      exact ⟨V, s, rfl, rfl, by simpa [rank] using h1⟩
    | succ j =>
      obtain ⟨V', s', g1, g2, g3⟩ := e3 j o' (by simpa using hj)
      refine ⟨V', s', by simpa using g1, by simpa using g2, ?_⟩
      have er : rank (s :: st) (j + 1) = (if s = true then 1 else 0) + rank st j := by
        unfold rank; rw [List.take_succ_cons, List.count_cons]; cases s <;> simp <;> omega
      rw [er, show i + (j + 1) = i + 1 + j from by omega]
      cases s
      · simpa [stepR] using g3
      · rw [if_pos rfl, ← Nat.add_assoc]; exact g3
  | [], _ :: _, _, _, _, h => h.elim
  | [], [], _ :: _, _, _, h => h.elim
  | _ :: _, [], _, _, _, h => h.elim
  | _ :: _, _ :: _, [], _, _, h => h.elim

theorem rank_succ (st : List Bool) (i : Nat) : rank st (i + 1) = rank st i + if st[i]? = some true then 1 else 0 := by
  unfold rank
  rw [List.take_add_one, List.count_append]
  cases h : st[i]? with
  | none => simp
  | some b => cases b <;> simp
theorem rank_mono (st : List Bool) {i j : Nat} (h : i ≤ j) : rank st i ≤ rank st j := by
  induction j with
  | zero => rw [Nat.le_zero.1 h]; exact Nat.le_refl _
  | succ j ih =>
    rcases Nat.lt_or_ge j i with hlt | hge
    · rw [show i = j + 1 from by omega]; exact Nat.le_refl _
    · have := ih hge; rw [rank_succ]; omega
theorem rank_lt (st : List Bool) {i j : Nat} (h : i < j) (hi : st[i]? = some true) : rank st i < rank st j := by
  have := rank_mono st (show i + 1 ≤ j by omega)
  rw [rank_succ, if_pos hi] at this; omega
theorem rank_hit (st : List Bool) : ∀ i k, k < rank st i → ∃ j, j < i ∧ st[j]? = some true ∧ rank st j = k
  | 0, k, h => by simp [rank] at h
  | i + 1, k, h => by
    rw [rank_succ] at h
    by_cases hk : k < rank st i
    · obtain ⟨j, h1, h2, h3⟩ := rank_hit st i k hk
      exact ⟨j, by omega, h2, h3⟩
    · by_cases hi : st[i]? = some true
      · rw [if_pos hi] at h; exact ⟨i, by omega, hi, by omega⟩
      · rw [if_neg hi] at h; omega

/-- Each operation waits for those that it looks at; the state's operations wait for one another; no two write one slot. -/
def calmB (ops : Array Oper) (st : List Bool) : Bool :=
  (List.range ops.size).all (fun i => ((ops[i]?).map fun o =>
    o.after.all (fun e => !Region.binds .any e || decide (e.on < i)) &&
    (List.range ops.size).all (fun j => (((ops[j]?).bind (·.dst)).map fun d => !(o.looksAt ops).contains d || o.after.any fun e => Region.binds .any e && e.on == j).getD true) &&
    (!(st[i]? == some true) || (List.range i).all fun j => !(st[j]? == some true) || o.after.any fun e => Region.binds .any e && (e.on == j || ((ops[e.on]?).map fun p => p.after.any fun e' => Region.binds .any e' && e'.on == j).getD false))).getD true) &&
  decide ((ops.toList.filterMap (·.dst)).Nodup)

theorem calmB_spec {st : List Bool} (h : calmB ops st = true) :
    (∀ (i : Nat) o, ops[i]? = some o → ∀ e ∈ o.after, Region.binds .any e = true → e.on < i) ∧
    (∀ (i j : Nat) o p d, ops[i]? = some o → ops[j]? = some p → p.dst = some d → d ∈ o.looksAt ops → ∃ e ∈ o.after, Region.binds .any e = true ∧ e.on = j) ∧
    (∀ (i j : Nat) o, ops[i]? = some o → st[i]? = some true → st[j]? = some true → j < i → ∃ e ∈ o.after, Region.binds .any e = true ∧ (e.on = j ∨ ∃ p, ops[e.on]? = some p ∧ ∃ e' ∈ p.after, Region.binds .any e' = true ∧ e'.on = j)) ∧
    (ops.toList.filterMap (·.dst)).Nodup := by
  simp only [calmB, Bool.and_eq_true, List.all_eq_true, List.mem_range, decide_eq_true_eq] at h
  obtain ⟨h1, h2⟩ := h
  have hs : ∀ {i : Nat} {o : Oper}, ops[i]? = some o → i < ops.size := fun hi => (Array.getElem?_eq_some_iff.1 hi).1
  refine ⟨fun i o hi e he hb => ?_, fun i j o p d hi hj hd hm => ?_, fun i j o hi si sj hji => ?_, h2⟩
  · have := h1 i (hs hi)
    rw [hi] at this
    simp only [Option.map_some, Option.getD_some, Bool.and_eq_true, Array.all_eq_true'] at this
    have := this.1.1 e (by simpa using he)
    simpa [hb] using this
  · have := h1 i (hs hi)
    rw [hi] at this
    simp only [Option.map_some, Option.getD_some, Bool.and_eq_true, List.all_eq_true, List.mem_range] at this
    have := this.1.2 j (hs hj)
    rw [hj] at this
    simp only [Option.bind_some, hd, Option.map_some, Option.getD_some, Bool.or_eq_true, Bool.not_eq_true'] at this
    rcases this with h | h
    · rw [List.contains_eq_mem, decide_eq_false_iff_not] at h; exact absurd hm h
    · obtain ⟨e, he, hb⟩ := Array.any_eq_true'.1 h
      simp only [Bool.and_eq_true, beq_iff_eq] at hb
      exact ⟨e, he, hb⟩
  · have := h1 i (hs hi)
    rw [hi] at this
    simp only [Option.map_some, Option.getD_some, Bool.and_eq_true, Bool.or_eq_true, List.all_eq_true, List.mem_range] at this
    rcases this.2 with h | h
    · simp [si] at h
    · rcases h j hji with h | h
      · simp [sj] at h
      · obtain ⟨e, he, hb⟩ := Array.any_eq_true'.1 h
        simp only [Bool.and_eq_true, Bool.or_eq_true, beq_iff_eq] at hb
        refine ⟨e, he, hb.1, ?_⟩
        rcases hb.2 with h2 | h2
        · exact .inl h2
        · cases hp : ops[e.on]? with
          | none => rw [hp] at h2; cases h2
          | some p =>
            rw [hp] at h2
            simp only [Option.map_some, Option.getD_some] at h2
            obtain ⟨e', he', hb'⟩ := Array.any_eq_true'.1 h2
            simp only [Bool.and_eq_true, beq_iff_eq] at hb'
            exact .inr ⟨p, rfl, e', he', hb'⟩

theorem nodup_dst : ∀ (l : List Oper), (l.filterMap (·.dst)).Nodup → ∀ (i j : Nat) (o p : Oper) (d : Tmp), l[i]? = some o → l[j]? = some p → o.dst = some d → p.dst = some d → i ≠ j → False
  | [], _, i, j, o, p, d, hi, _, _, _, _ => by simp at hi
  | q :: l, hn, i, j, o, p, d, hi, hj, ho, hp, hne => by
    have hn' : (l.filterMap (·.dst)).Nodup := by
      cases h : q.dst <;> simp [List.filterMap_cons, h] at hn
      · exact hn
      · exact hn.2
    cases i with
    | zero =>
      cases j with
      | zero => exact hne rfl
      | succ j =>
        simp at hi; subst hi
        simp only [List.filterMap_cons, ho, List.nodup_cons, List.mem_filterMap] at hn
        exact hn.1 ⟨p, List.mem_of_getElem? (by simpa using hj), hp⟩
    | succ i =>
      cases j with
      | zero =>
        simp at hj; subst hj
        simp only [List.filterMap_cons, hp, List.nodup_cons, List.mem_filterMap] at hn
        exact hn.1 ⟨o, List.mem_of_getElem? (by simpa using hi), ho⟩
      | succ j => exact nodup_dst l hn' i j o p d (by simpa using hi) (by simpa using hj) ho hp (by omega)

structure CalmInv (ops : Array Oper) (C : Nat → World → Prop) (Vs : List (Stb R)) (a0 : Act) (st : List Bool) (w0 : World) (listed : Array Bool) (a : Act) (w : World) (k : Nat) : Prop where
  size : listed.size = ops.size
  closed : ∀ i o, ops[i]? = some o → listed.getD i false = true → ∀ e ∈ o.after, Region.binds .any e = true → listed.getD e.on false = true
  defers : a.defers = a0.defers
  tsize : a.tmps.size = a0.tmps.size
  old : ∀ t, (∀ i o, ops[i]? = some o → listed.getD i false = true → o.dst ≠ some t) → a.eval (.tmp t) = a0.eval (.tmp t)
  new : ∀ i o V d, ops[i]? = some o → Vs[i]? = some V → listed.getD i false = true → o.dst = some d → V.V (a.eval (.tmp d)) w
  state : C k w
  upto : ∀ j, st[j]? = some true → (listed.getD j false = true ↔ rank st j < k)
  base : R w0 w
  kle : k ≤ rank st ops.size

/-- What the rule asks of a region's operations and of the choice of those that turn the state. -/
structure CalmOK (ops : Array Oper) (st : List Bool) : Prop where
  bl : ∀ (i : Nat) o, ops[i]? = some o → ∀ e ∈ o.after, Region.binds .any e = true → e.on < i
  bd : ∀ (i j : Nat) o p d, ops[i]? = some o → ops[j]? = some p → p.dst = some d → d ∈ o.looksAt ops → ∃ e ∈ o.after, Region.binds .any e = true ∧ e.on = j
  bs : ∀ (listed : Array Bool) (k i : Nat) o, ops[i]? = some o → st[i]? = some true →
    (∀ i o, ops[i]? = some o → listed.getD i false = true → ∀ e ∈ o.after, Region.binds .any e = true → listed.getD e.on false = true) →
    (∀ e ∈ o.after, Region.binds .any e = true → listed.getD e.on false = true) → (∀ j, st[j]? = some true → (listed.getD j false = true ↔ rank st j < k)) → rank st i ≤ k
  bn : (ops.toList.filterMap (·.dst)).Nodup
theorem calmB_ok {st : List Bool} (h : calmB ops st = true) : CalmOK ops st := by
  obtain ⟨h1, h2, h3, h4⟩ := calmB_spec h
  refine ⟨h1, h2, fun listed k i o ho hs hcl haft hup => ?_, h4⟩
  rcases Nat.lt_or_ge k (rank st i) with h | h
  · obtain ⟨j, hj1, hj2, hj3⟩ := rank_hit st i k h
    obtain ⟨e, he, hb, hej⟩ := h3 i j o ho hs hj2 hj1
    have := haft e he hb
    rcases hej with hej | ⟨p, hp, e', he', hb', hej'⟩
    · rw [hej, hup j hj2] at this; omega
    · have h3 := hcl e.on p hp this e' he' hb'
      rw [hej', hup j hj2] at h3; omega
  · exact h
/-- The same with levels: an operation's level is that of one that it waits for (one more than the rank of one that turns the state), and no operation that turns the state has a level below its rank. -/
def calmL (ops : Array Oper) (st : List Bool) (lv : List Nat) : Bool :=
  (List.range ops.size).all (fun i => ((ops[i]?).map fun o =>
    o.after.all (fun e => !Region.binds .any e || decide (e.on < i)) &&
    (List.range ops.size).all (fun j => (((ops[j]?).bind (·.dst)).map fun d => !(o.looksAt ops).contains d || o.after.any fun e => Region.binds .any e && e.on == j).getD true) &&
    ((lv.getD i 0 == 0 || o.after.any fun e => Region.binds .any e && (if st[e.on]? == some true then decide (lv.getD i 0 ≤ rank st e.on + 1) else ((ops[e.on]?).isSome && decide (lv.getD i 0 ≤ lv.getD e.on 0)))) &&
     (!(st[i]? == some true) || decide (rank st i ≤ lv.getD i 0)))).getD true) &&
  decide ((ops.toList.filterMap (·.dst)).Nodup)
theorem calmL_ok {st : List Bool} {lv : List Nat} (h : calmL ops st lv = true) : CalmOK ops st := by
  simp only [calmL, Bool.and_eq_true, List.all_eq_true, List.mem_range, decide_eq_true_eq] at h
  obtain ⟨h1, h2⟩ := h
  have hs : ∀ {i : Nat} {o : Oper}, ops[i]? = some o → i < ops.size := fun hi => (Array.getElem?_eq_some_iff.1 hi).1
  have hbl : ∀ (i : Nat) o, ops[i]? = some o → ∀ e ∈ o.after, Region.binds .any e = true → e.on < i := fun i o hi e he hb => by
    have := h1 i (hs hi)
    rw [hi] at this
    simp only [Option.map_some, Option.getD_some, Bool.and_eq_true, Array.all_eq_true'] at this
    have := this.1.1 e (by simpa using he)
    simpa [hb] using this
  have hlv : ∀ (i : Nat) o, ops[i]? = some o → (lv.getD i 0 = 0 ∨ ∃ e ∈ o.after, Region.binds .any e = true ∧ ((st[e.on]? = some true ∧ lv.getD i 0 ≤ rank st e.on + 1) ∨ ((∃ p, ops[e.on]? = some p) ∧ lv.getD i 0 ≤ lv.getD e.on 0))) ∧ (st[i]? = some true → rank st i ≤ lv.getD i 0) := fun i o hi => by
    have := h1 i (hs hi)
    rw [hi] at this
    simp only [Option.map_some, Option.getD_some, Bool.and_eq_true, Bool.or_eq_true] at this
    obtain ⟨ha, hb⟩ := this.2
    refine ⟨?_, fun hst => ?_⟩
    · rcases ha with h | h
      · exact .inl (by simpa using h)
      · obtain ⟨e, he, hb⟩ := Array.any_eq_true'.1 h
        simp only [Bool.and_eq_true] at hb
        refine .inr ⟨e, he, hb.1, ?_⟩
        have h3 := hb.2
        split at h3
        · rename_i hst; exact .inl ⟨by simpa using hst, by simpa using h3⟩
        · simp only [Bool.and_eq_true, decide_eq_true_eq] at h3
          exact .inr ⟨Option.isSome_iff_exists.1 h3.1, h3.2⟩
    · rcases hb with h | h
      · simp [hst] at h
      · simpa using h
  refine ⟨hbl, fun i j o p d hi hj hd hm => ?_, fun listed k i o ho hst hcl haft hup => ?_, h2⟩
  · have := h1 i (hs hi)
    rw [hi] at this
    simp only [Option.map_some, Option.getD_some, Bool.and_eq_true, List.all_eq_true, List.mem_range] at this
    have := this.1.2 j (hs hj)
    rw [hj] at this
    simp only [Option.bind_some, hd, Option.map_some, Option.getD_some, Bool.or_eq_true, Bool.not_eq_true'] at this
    rcases this with h | h
    · rw [List.contains_eq_mem, decide_eq_false_iff_not] at h; exact absurd hm h
    · obtain ⟨e, he, hb⟩ := Array.any_eq_true'.1 h
      simp only [Bool.and_eq_true, beq_iff_eq] at hb
      exact ⟨e, he, hb⟩
  · have key : ∀ (n i : Nat) o, i ≤ n → ops[i]? = some o → (∀ e ∈ o.after, Region.binds .any e = true → listed.getD e.on false = true) → lv.getD i 0 ≤ k := by
      intro n
      induction n with
      | zero =>
        intro i o hin hi ha
        rcases (hlv i o hi).1 with h | ⟨e, he, hb, _⟩
        · omega
        · have := hbl i o hi e he hb; omega
      | succ n ih =>
        intro i o hin hi ha
        rcases (hlv i o hi).1 with h | ⟨e, he, hb, ⟨h3, h4⟩ | ⟨⟨p, hp⟩, h4⟩⟩
        · omega
        · have := (hup e.on h3).1 (ha e he hb); omega
        · have h5 := hbl i o hi e he hb
          have h6 := ih e.on p (by omega) hp (hcl e.on p hp (ha e he hb))
          omega
    have h7 := (hlv i o ho).2 hst
    have h8 := key i i o (Nat.le_refl _) ho haft
    omega

theorem slotD_of {a0 : Act} {t : Tmp} {v : Value} {w : World} : ∀ (l : List Oper) (Vs : List (Stb R)), l.length = Vs.length →
    (∀ (j : Nat) o V, l[j]? = some o → Vs[j]? = some V → o.dst = some t → V.V v w) → ((∀ (j : Nat) o, l[j]? = some o → o.dst ≠ some t) → v = a0.tmps[t]?.getD undef) → slotD l Vs a0 t v w
  | [], [], _, _, h2 => h2 fun j o h => by simp at h
  | o :: l, V :: Vs, hl, h1, h2 => by
    unfold slotD
    split
    · rename_i ho; exact h1 0 o V rfl rfl ho
    · rename_i ho
      refine slotD_of l Vs (by simpa using hl) (fun j o' V' hj hV hd => h1 (j + 1) o' V' (by simpa using hj) (by simpa using hV) hd) (fun hn => h2 fun j o' hj => ?_)
      cases j with
      | zero => simp at hj; subst hj; exact ho
      | succ j => exact hn j o' (by simpa using hj)
  | [], _ :: _, hl, _, _ => by simp at hl
  | _ :: _, [], hl, _, _ => by simp at hl

theorem eval_get (a : Act) (t : Tmp) : a.eval (.tmp t) = a.tmps[t]?.getD undef := by simp [Act.eval]
theorem getD_set (listed : Array Bool) (i j : Nat) (hi : i < listed.size) : (listed.setIfInBounds i true).getD j false = (decide (i = j) || listed.getD j false) := by
  by_cases h : i = j
  · subst h; simp [hi]
  · rw [Go.getD_set_ne false h]; simp [h]

theorem eval_put_same (a : Act) (d : Tmp) (v : Value) (h : d < a.tmps.size) : (a.put (some d) v).eval (.tmp d) = v := by
  simp [Act.eval, Act.put, h]
theorem eval_put_ne (a : Act) (o : Option Tmp) (t : Tmp) (v : Value) (h : o ≠ some t) : (a.put o v).eval (.tmp t) = a.eval (.tmp t) :=
  Act.eval_put fun d hd e => h (by cases e; exact hd)

theorem calm_step {C : Nat → World → Prop} {Vs : List (Stb R)} {a0 : Act} {st : List Bool} {w0 : World} (hB : CalmOK ops st) (hall : CalmAll P ops Q C Vs a0 0 0 ops.toList Vs st)
    (htr : ∀ a b c, R a b → R b c → R a c) (hds : ∀ (i : Nat) o d, ops[i]? = some o → o.dst = some d → d < a0.tmps.size)
    {listed : Array Bool} {a : Act} {w : World} {k : Nat} (hI : CalmInv ops C Vs a0 st w0 listed a w k) {i : Nat} (hi : i ∈ Region.ready .any ops listed)
    {K : Act → World → Prop} (hK : ∀ a' w' k', CalmInv ops C Vs a0 st w0 (listed.setIfInBounds i true) a' w' k' → K a' w') : wpOp P ops Q i K a w := by
  obtain ⟨_, hBd, hBs, hBn⟩ := hB
  obtain ⟨hl1, hl2, hget⟩ := calmAll_get ops.toList Vs st 0 0 hall
  obtain ⟨hun, o, ho, haft⟩ := mem_ready.1 hi
  have hlt : i < ops.size := (Array.getElem?_eq_some_iff.1 ho).1
  have hun' : listed.getD i false = false := by
    have : i < listed.size := by rw [hI.size]; exact hlt
    simp [this] at hun ⊢; exact hun
  obtain ⟨V, s, hV, hs, hop⟩ := hget i o (by simpa using ho)
  have deps : ∀ t, t ∈ o.looksAt ops → slotD ops.toList Vs a0 t (a.tmps[t]?.getD undef) w := fun t ht => by
    rw [← eval_get]
    refine slotD_of _ _ hl1 (fun j p V' hj hV' hd => ?_) (fun hn => ?_)
    · obtain ⟨e, he, hb, hej⟩ := hBd i j o p t ho (by simpa using hj) hd ht
      exact hI.new j p V' t (by simpa using hj) hV' (by rw [← hej]; exact haft e he hb) hd
    · rw [← eval_get]; exact hI.old t fun j p hj _ => hn j p (by simpa using hj)
  have key : ∀ k', (s = true → k' = k + 1) → (s = false → k' = k) → (s = true → rank st i = k) → ∀ v w', R w w' → C k' w' → V.V v w' → K (a.put o.dst v) w' := by
    intro k' hk1 hk0 hrk v w' hR hC hv
    refine hK _ _ k' ⟨by simp [hI.size], fun j p hj hlj e he hb => ?_, ?_, ?_, fun t hn => ?_, fun j p V' d hj hV' hlj hd => ?_, hC, fun j hj => ?_, htr _ _ _ hI.base hR, ?_⟩
    · rw [getD_set _ _ _ (by rw [hI.size]; exact hlt)] at hlj ⊢
      simp only [Bool.or_eq_true, decide_eq_true_eq] at hlj ⊢
      rcases hlj with rfl | hlj
      · rw [ho] at hj; cases hj; exact .inr (haft e he hb)
      · exact .inr (hI.closed j p hj hlj e he hb)
    · rw [← hI.defers]; cases o.dst <;> rfl
    · rw [← hI.tsize]; cases o.dst <;> simp [Act.put]
    · have hne : o.dst ≠ some t := hn i o ho (by rw [getD_set _ _ _ (by rw [hI.size]; exact hlt)]; simp)
      rw [eval_put_ne _ _ _ _ hne]
      exact hI.old t fun j p hj hlj => hn j p hj (by rw [getD_set _ _ _ (by rw [hI.size]; exact hlt), hlj]; simp)
    · rw [getD_set _ _ _ (by rw [hI.size]; exact hlt)] at hlj
      by_cases hij : i = j
      · subst hij
        rw [ho] at hj; cases hj
        rw [hV] at hV'; cases hV'
        rw [hd, eval_put_same _ _ _ (by rw [hI.tsize]; exact hds i o d ho hd)]
        exact hv
      · simp only [hij, decide_false, Bool.false_or] at hlj
        have hne : o.dst ≠ some d := by
          intro e
          -- two operations that write one slot
          have h1 : (ops.toList.filterMap (·.dst)).Nodup := hBn
          obtain ⟨hi1, hi2⟩ := Array.getElem?_eq_some_iff.1 ho
          obtain ⟨hj1, hj2⟩ := Array.getElem?_eq_some_iff.1 hj
          exact nodup_dst _ h1 i j o p d (by simpa using ho) (by simpa using hj) e hd hij
        rw [eval_put_ne _ _ _ _ hne]
        exact V'.st _ _ _ (hI.new j p V' d hj hV' hlj hd) hR
    · rw [getD_set _ _ _ (by rw [hI.size]; exact hlt)]
      simp only [Bool.or_eq_true, decide_eq_true_eq]
      have hu := hI.upto j hj
      cases s with
      | true =>
        rw [hk1 rfl]
        by_cases hij : i = j
        · subst hij; have := hrk rfl; simp; omega
        · have : rank st j ≠ k := by
            rw [← hrk rfl]
            rcases Nat.lt_or_gt_of_ne hij with h | h
            · have := rank_lt st h hs; omega
            · have := rank_lt st h hj; omega
          simp only [hij, false_or, hu]; omega
      | false =>
        rw [hk0 rfl]
        have hij : i ≠ j := by rintro rfl; rw [hs] at hj; cases hj
        simp only [hij, false_or, hu]
    · cases s with
      | true =>
        rw [hk1 rfl, ← hrk rfl]
        have := rank_mono st (show i + 1 ≤ ops.size by omega)
        rw [rank_succ, if_pos hs] at this; exact this
      | false => rw [hk0 rfl]; exact hI.kle
  cases s with
  | true =>
    have hrk : rank st i = k := by
      have h1 := hI.upto i hs
      rw [hun'] at h1
      have h2 : ¬ rank st i < k := fun h => by simpa using h1.2 h
      have := hBs listed k i o ho hs hI.closed haft hI.upto
      omega
    rw [if_pos rfl, Nat.zero_add, Nat.zero_add, hrk] at hop
    exact hop a w K hI.state deps (key (k + 1) (fun _ => rfl) (fun h => by cases h) (fun _ => hrk))
  | false =>
    simp only [Bool.false_eq_true, if_false] at hop
    rw [Nat.zero_add] at hop
    exact hop k a w K hI.state deps (key k (fun h => by cases h) (fun _ => rfl) (fun h => by cases h))

theorem calm_any {C : Nat → World → Prop} {Vs : List (Stb R)} {a0 : Act} {st : List Bool} {w0 : World} (hB : CalmOK ops st) (hall : CalmAll P ops Q C Vs a0 0 0 ops.toList Vs st)
    (htr : ∀ a b c, R a b → R b c → R a c) (hds : ∀ (i : Nat) o d, ops[i]? = some o → o.dst = some d → d < a0.tmps.size)
    (hQ : ∀ listed a w k, CalmInv ops C Vs a0 st w0 listed a w k → (∀ i, i < ops.size → listed.getD i false = true) → Q .normal a w) :
    ∀ (fuel : Nat) (listed : Array Bool) (a : Act) (w : World) (k : Nat), CalmInv ops C Vs a0 st w0 listed a w k →
      ((List.range ops.size).filter fun i => !listed.getD i false).length ≤ fuel → wpAny P .any ops Q fuel listed a w := by
  have hfull : ∀ listed : Array Bool, listed.size = ops.size → Region.ready .any ops listed = [] → ∀ i, i < ops.size → listed.getD i false = true := by
    intro listed hsz hr i
    induction i using Nat.strongRecOn with
    | _ i ih =>
      intro hi
      rcases hl : listed.getD i false with _ | _
      · exfalso
        have : i ∈ Region.ready .any ops listed := mem_ready.2 ⟨by
            have h2 : i < listed.size := by rw [hsz]; exact hi
            simp [h2] at hl ⊢; exact hl, ops[i], by simp [hi], fun e he hb => by
            have h3 := hB.bl i ops[i] (by simp [hi]) e he hb
            exact ih e.on h3 (by omega)⟩
        rw [hr] at this; cases this
      · rfl
  intro fuel
  induction fuel with
  | zero =>
    intro listed a w k hI hlen
    have hnone : ∀ i, i < ops.size → listed.getD i false = true := fun i hi => by
      have h0 := List.eq_nil_of_length_eq_zero (Nat.le_zero.1 hlen)
      have := List.filter_eq_nil_iff.1 h0 i (List.mem_range.2 hi)
      simpa using this
    refine ⟨?_, hQ listed a w k hI hnone⟩
    rw [List.eq_nil_iff_forall_not_mem]
    intro i hi
    obtain ⟨h1, o, ho, _⟩ := mem_ready.1 hi
    have hlt : i < ops.size := (Array.getElem?_eq_some_iff.1 ho).1
    have h2 := hnone i hlt
    have h3 : i < listed.size := by rw [hI.size]; exact hlt
    simp [h3] at h1 h2; rw [h1] at h2; cases h2
  | succ fuel ih =>
    intro listed a w k hI hlen
    refine ⟨fun hr => hQ listed a w k hI (hfull listed hI.size hr), fun i hi => ?_⟩
    refine calm_step hB hall htr hds hI hi fun a' w' k' hI' => ih _ a' w' k' hI' ?_
    obtain ⟨h1, o, ho, _⟩ := mem_ready.1 hi
    have hlt : i < ops.size := (Array.getElem?_eq_some_iff.1 ho).1
    have hsz : i < listed.size := by rw [hI.size]; exact hlt
    have hne : listed.getD i false = false := by simp [hsz] at h1 ⊢; exact h1
    have : ((List.range ops.size).filter fun j => !(listed.setIfInBounds i true).getD j false).length < ((List.range ops.size).filter fun j => !listed.getD j false).length := by
      have e : ((List.range ops.size).filter fun j => !(listed.setIfInBounds i true).getD j false) = ((List.range ops.size).filter fun j => !listed.getD j false).filter fun j => !decide (i = j) := by
        rw [List.filter_filter]
        congr 1; funext j
        rw [getD_set _ _ _ hsz, Bool.not_or]
      rw [e]
      refine List.length_filter_lt_length_iff_exists.2 ⟨i, List.mem_filter.2 ⟨List.mem_range.2 hlt, by rw [hne]; rfl⟩, by simp⟩
    omega

def putL : List Oper → (Nat → Value) → Nat → Act → Act
  | [], _, _, a => a
  | o :: l, vs, i, a => putL l vs (i + 1) (a.put o.dst (vs i))

theorem putL_spec : ∀ (l : List Oper) (vs : Nat → Value) (i : Nat) (a : Act), (l.filterMap (·.dst)).Nodup → (∀ (j : Nat) o d, l[j]? = some o → o.dst = some d → d < a.tmps.size) →
    (putL l vs i a).defers = a.defers ∧ (putL l vs i a).tmps.size = a.tmps.size ∧ (∀ (j : Nat) o d, l[j]? = some o → o.dst = some d → (putL l vs i a).eval (.tmp d) = vs (i + j)) ∧
    (∀ t, (∀ (j : Nat) o, l[j]? = some o → o.dst ≠ some t) → (putL l vs i a).eval (.tmp t) = a.eval (.tmp t))
  | [], vs, i, a, _, _ => ⟨rfl, rfl, fun j o d h => by simp at h, fun _ _ => rfl⟩
  | o :: l, vs, i, a, hn, hd => by
    have hsz : (a.put o.dst (vs i)).tmps.size = a.tmps.size := by cases o.dst <;> simp [Act.put]
    have hn' : (l.filterMap (·.dst)).Nodup := by
      cases h : o.dst <;> simp [List.filterMap_cons, h] at hn
      · exact hn
      · exact hn.2
    obtain ⟨h1, h2, h3, h4⟩ := putL_spec l vs (i + 1) (a.put o.dst (vs i)) hn' (fun j o' d hj hd' => by rw [hsz]; exact hd (j + 1) o' d (by simpa using hj) hd')
    refine ⟨by unfold putL; rw [h1]; cases o.dst <;> rfl, by unfold putL; rw [h2, hsz], fun j o' d hj hdd => ?_, fun t ht => ?_⟩
    · cases j with
      | zero =>
        simp at hj; subst hj
        unfold putL
        rw [h4 d, hdd, eval_put_same _ _ _ (hd 0 o d rfl hdd)]
        · rfl
        · intro j p hp e
          simp only [List.filterMap_cons, hdd, List.nodup_cons, List.mem_filterMap] at hn
          exact hn.1 ⟨p, List.mem_of_getElem? hp, e⟩
      | succ j =>
        unfold putL
        rw [h3 j o' d (by simpa using hj) hdd]
        congr 1; omega
    · unfold putL
      rw [h4 t (fun j p hp => ht (j + 1) p (by simpa using hp)), eval_put_ne _ _ _ _ (ht 0 o rfl)]

theorem act_ext {a b : Act} (h1 : a.defers = b.defers) (h2 : a.tmps.size = b.tmps.size) (h3 : ∀ t, a.eval (.tmp t) = b.eval (.tmp t)) : a = b := by
  obtain ⟨ta, da⟩ := a; obtain ⟨tb, db⟩ := b
  cases h1
  congr
  refine Array.ext h2 fun i hi hj => ?_
  have := h3 i
  simpa [Act.eval, hi, hj] using this

/-- THE RULE: a region that draws its order. -/
theorem wp_region_calm' {id : Nat} {l : List Oper} {C : Nat → World → Prop} {a : Act} {w : World} (st : List Bool) (Vs : List (Stb R)) (hm : P.follows .mixedOrders = true) (hB : CalmOK l.toArray st)
    (htr : ∀ a b c, R a b → R b c → R a c) (h0 : R w w.drew) (hC : C 0 w.drew) (hds : l.all (fun o => (o.dst.map fun d => decide (d < a.tmps.size)).getD true) = true)
    (hall : CalmAll P l.toArray Q C Vs a 0 0 l Vs st)
    (hfin : ∀ (vs : Nat → Value) (w' : World), R w w' → C (rank st l.length) w' → (∀ (i : Nat) o V, l[i]? = some o → Vs[i]? = some V → o.dst ≠ none → V.V (vs i) w') → Q .normal (putL l vs 0 a) w') :
    (Code.region id l.toArray true).wp P Q a w := by
  have hds' : ∀ (i : Nat) o d, l.toArray[i]? = some o → o.dst = some d → d < a.tmps.size := fun i o d hi hd => by
    have := List.all_eq_true.1 hds o (List.mem_of_getElem? (by simpa using hi))
    rw [hd] at this; simpa using this
  have hall' : CalmAll P l.toArray Q C Vs a 0 0 l.toArray.toList Vs st := hall
  have hrep : ∀ i, (Array.replicate l.toArray.size false).getD i false = false := fun i => by
    rw [Array.getD_eq_getD_getElem?, Array.getElem?_replicate]; split <;> rfl
  refine wp_region_any hm (calm_any (w0 := w) (k := 0) hB hall' htr hds' ?_ _ _ _ _ ⟨by simp, ?_, rfl, rfl, fun _ _ => rfl, ?_, hC, ?_, h0, Nat.zero_le _⟩ ?_)
  · intro listed a' w' k hI hfull
    obtain ⟨hl1, hl2, hget⟩ := calmAll_get l Vs st 0 0 hall
    have hBn : (l.filterMap (·.dst)).Nodup := hB.bn
    have hk : k = rank st l.length := by
      have h1 := hI.kle
      simp only [List.size_toArray] at h1
      rcases Nat.lt_or_ge k (rank st l.length) with h | h
      · obtain ⟨j, hj1, hj2, hj3⟩ := rank_hit st l.length k h
        have := (hI.upto j hj2).1 (hfull j (by simpa using hj1)); omega
      · omega
    obtain ⟨p1, p2, p3, p4⟩ := putL_spec l (fun i => ((l[i]?).bind (·.dst)).elim undef fun d => a'.eval (.tmp d)) 0 a hBn (fun j o d hj hd => hds' j o d (by simpa using hj) hd)
    have hlist : ∀ {j : Nat} {o : Oper}, l[j]? = some o → listed.getD j false = true := fun hj => hfull _ (by simpa using (List.getElem?_eq_some_iff.1 hj).1)
    have e : a' = putL l (fun i => ((l[i]?).bind (·.dst)).elim undef fun d => a'.eval (.tmp d)) 0 a := by
      refine act_ext (hI.defers.trans p1.symm) (hI.tsize.trans p2.symm) fun t => ?_
      by_cases ht : ∃ (j : Nat) (o : Oper), l[j]? = some o ∧ o.dst = some t
      · obtain ⟨j, o, hj, hd⟩ := ht
        rw [p3 j o t hj hd, Nat.zero_add, hj]
        simp [hd]
      · have hn : ∀ (j : Nat) (o : Oper), l[j]? = some o → o.dst ≠ some t := fun j o hj hd => ht ⟨j, o, hj, hd⟩
        rw [p4 t hn]
        exact hI.old t fun j o hj _ => hn j o (by simpa using hj)
    rw [e]
    refine hfin _ w' hI.base (hk ▸ hI.state) fun i o V hi hV hne => ?_
    cases hd : o.dst with
    | none => exact absurd hd hne
    | some d =>
      have := hI.new i o V d (by simpa using hi) hV (hlist hi) hd
      simpa [hi, hd] using this
  · intro i o _ h; rw [hrep] at h; cases h
  · intro i o V d _ _ h; rw [hrep] at h; cases h
  · intro j _; rw [hrep]; simp
  · simpa using List.length_filter_le _ (List.range l.length)

theorem wp_region_calm {id : Nat} {l : List Oper} {C : Nat → World → Prop} {a : Act} {w : World} (st : List Bool) (Vs : List (Stb R)) (hm : P.follows .mixedOrders = true) (hB : calmB l.toArray st = true)
    (htr : ∀ a b c, R a b → R b c → R a c) (h0 : R w w.drew) (hC : C 0 w.drew) (hds : l.all (fun o => (o.dst.map fun d => decide (d < a.tmps.size)).getD true) = true)
    (hall : CalmAll P l.toArray Q C Vs a 0 0 l Vs st)
    (hfin : ∀ (vs : Nat → Value) (w' : World), R w w' → C (rank st l.length) w' → (∀ (i : Nat) o V, l[i]? = some o → Vs[i]? = some V → o.dst ≠ none → V.V (vs i) w') → Q .normal (putL l vs 0 a) w') :
    (Code.region id l.toArray true).wp P Q a w :=
  wp_region_calm' st Vs hm (calmB_ok hB) htr h0 hC hds hall hfin
/-- The rule with levels. -/
theorem wp_region_calmL {id : Nat} {l : List Oper} {C : Nat → World → Prop} {a : Act} {w : World} (st : List Bool) (lv : List Nat) (Vs : List (Stb R)) (hm : P.follows .mixedOrders = true) (hB : calmL l.toArray st lv = true)
    (htr : ∀ a b c, R a b → R b c → R a c) (h0 : R w w.drew) (hC : C 0 w.drew) (hds : l.all (fun o => (o.dst.map fun d => decide (d < a.tmps.size)).getD true) = true)
    (hall : CalmAll P l.toArray Q C Vs a 0 0 l Vs st)
    (hfin : ∀ (vs : Nat → Value) (w' : World), R w w' → C (rank st l.length) w' → (∀ (i : Nat) o V, l[i]? = some o → Vs[i]? = some V → o.dst ≠ none → V.V (vs i) w') → Q .normal (putL l vs 0 a) w') :
    (Code.region id l.toArray true).wp P Q a w :=
  wp_region_calm' st Vs hm (calmL_ok hB) htr h0 hC hds hall hfin

theorem wpOp_want {i : Nat} {o : Oper} {a : Act} {w : World} {K : Act → World → Prop} (hi : ops[i]? = some o) (hw : Region.wanted o (yielded ops a.tmps) = true) (h : o.wp P a w K Q) : wpOp P ops Q i K a w := by
  unfold wpOp; rw [hi]; simp only [hw, if_true]; exact .inl h
theorem wpOp_plain {i : Nat} {o : Oper} {a : Act} {w : World} {K : Act → World → Prop} (hi : ops[i]? = some o) (hw : o.guard = none) (h : o.wp P a w K Q) : wpOp P ops Q i K a w :=
  wpOp_want hi (by simp [Region.wanted, hw]) h
theorem wpOp_skip {i : Nat} {o : Oper} {a : Act} {w : World} {K : Act → World → Prop} (hi : ops[i]? = some o) (hw : Region.wanted o (yielded ops a.tmps) = false) (h : K (a.put o.dst undef) w) : wpOp P ops Q i K a w := by
  unfold wpOp; rw [hi]; simp only [hw]; exact h
theorem wanted_of {o : Oper} {a : Act} {g t : Nat} {want b : Bool} (hg : o.guard = some (g, want)) (ht : (ops[g]?).bind (·.dst) = some t) (hv : a.eval (.tmp t) = .bool b) : Region.wanted o (yielded ops a.tmps) = (b == want) := by
  have : a.tmps[t]? = some (.bool b) := by
    simp only [Act.eval, Array.getD_eq_getD_getElem?] at hv
    cases h : a.tmps[t]? with
    | none => rw [h] at hv; simp [undef] at hv
    | some v => rw [h] at hv; simp at hv; rw [hv]
  unfold Region.wanted
  rw [hg]
  simp only [yielded, ht, Option.bind_some, this]
  cases b <;> cases want <;> rfl
theorem calm_run {i : Nat} {o : Oper} {a : Act} {w w' : World} {K : Act → World → Prop} (hi : ops[i]? = some o) (hg : o.guard = none) (v : Value) (hr : (execOp a.eval o).run P w = .ok (.value v) w') (h : K (a.put o.dst v) w') : wpOp P ops Q i K a w :=
  wpOp_plain hi hg (by unfold Oper.wp; rw [hr]; exact h)
theorem calm_mv {C : Nat → World → Prop} {Vs : List (Stb R)} {a0 : Act} {i k : Nat} {V : Stb R} {o : Oper} (t : Tmp) (hi : ops[i]? = some o) (hg : o.guard = none) (ho : o.op = .move (.tmp t) ∨ o.op = .assign (.tmp t)) (hR : ∀ w, R w w) (ht : t ∈ o.looksAt ops)
    (hV : ∀ (v : Value) (w : World), slotD ops.toList Vs a0 t v w → V.V v w) : CalmOp P ops Q C Vs a0 i V o k k := by
  intro a w K hC hd hK
  refine calm_run hi hg (a.eval (.tmp t)) (w' := w) ?_ (hK _ _ (hR w) hC (hV _ w (by rw [eval_get]; exact hd t ht)))
  rcases ho with ho | ho <;> simp [execOp, ho]
theorem calm_move {C : Nat → World → Prop} {Vs : List (Stb R)} {a0 : Act} {i k : Nat} {V : Stb R} {o : Oper} (x : Operand) (hi : ops[i]? = some o) (hg : o.guard = none) (ho : o.op = .move x ∨ o.op = .assign x) (hR : ∀ w, R w w)
    (hV : ∀ (a : Act) (w : World), (∀ t, t ∈ o.looksAt ops → slotD ops.toList Vs a0 t (a.tmps[t]?.getD undef) w) → V.V (a.eval x) w) : CalmOp P ops Q C Vs a0 i V o k k := by
  intro a w K hC hd hK
  refine calm_run hi hg (a.eval x) (w' := w) ?_ (hK _ _ (hR w) hC (hV a w hd))
  rcases ho with ho | ho <;> simp [execOp, ho]
end
end Go.Proofs.Ytnkdlmmdaagonaa
