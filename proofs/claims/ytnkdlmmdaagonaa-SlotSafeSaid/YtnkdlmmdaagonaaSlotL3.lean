/- Contracts, several texts in one. -/
import Derived.Test.YtnkdlmmdaagonaaSlot5
/- Slots: plain laws (no program). -/
namespace Go.Proofs.Ytnkdlmmdaagonaa
open Go.RowKit
/-- So many parts as writes. -/
def partsW (f : Nat) (bs : List UInt8) (k : Nat) : List (Nat × List UInt8) := (List.range k).map fun t => (f + t, pad (partS bs t))
theorem partsW_succ (f : Nat) (bs : List UInt8) (k : Nat) : partsW f bs (k + 1) = partsW f bs k ++ [(f + k, pad (partS bs k))] := by
  unfold partsW; rw [List.range_succ, List.map_append]; rfl
theorem partS_le (bs : List UInt8) (t : Nat) : (partS bs t).length ≤ 128 := by unfold partS; rw [List.length_take]; omega
theorem burnD_same {d : DevV} (h : (burnD d).2 = 0) : (burnD d).1.kept = d.kept ∧ (burnD d).1.wait = d.wait ∧ (burnD d).1.down = d.down := by
  unfold burnD at h ⊢
  split
  · exact ⟨rfl, rfl, rfl⟩
  · split
    · exact ⟨rfl, rfl, rfl⟩
    · rename_i h1 h2; rw [if_neg h1, if_neg h2] at h; cases h
theorem writeD_good {d : DevV} {i : Nat} {b : List UInt8} (h : (writeD d (i : Int) b).2 = 0) : (writeD d (i : Int) b).1.kept = d.kept ∧ (writeD d (i : Int) b).1.wait = d.wait ++ [(i, pad b)] ∧ (writeD d (i : Int) b).1.down = d.down := by
  unfold writeD at h ⊢
  split at h
  · exact absurd h (by assumption)
  · split at h
    · cases h
    · split at h
      · exact absurd h (by assumption)
      · rename_i h1 h2 h3
        rw [if_neg h1, if_neg h2, if_neg h3]
        have hb := burnD_same (d := d) (by omega)
        exact ⟨hb.1, by simp only [hb.2.1, Int.toNat_natCast], hb.2.2⟩
/-- Where all parts are written, they wait. -/
theorem putQ_good {d : DevV} {f : Nat} {bs : List UInt8} : ∀ k, (putQ d f bs (List.range k)).2.1 = 0 → (putQ d f bs (List.range k)).1.kept = d.kept ∧ (putQ d f bs (List.range k)).1.wait = d.wait ++ partsW f bs k ∧ (putQ d f bs (List.range k)).1.down = d.down ∧ (putQ d f bs (List.range k)).2.2 = k
  | 0, _ => ⟨rfl, by simp [putQ, partsW], rfl, rfl⟩
  | k + 1, h => by
    rw [List.range_succ, putQ_snoc] at h ⊢
    unfold stepQ at h ⊢
    by_cases h0 : (putQ d f bs (List.range k)).2.1 ≠ 0
    · rw [if_pos h0] at h; exact absurd h h0
    · rw [if_neg h0] at h ⊢
      obtain ⟨i1, i2, i3, i4⟩ := putQ_good (d := d) (f := f) (bs := bs) k (by omega)
      rw [i4] at h ⊢
      obtain ⟨g1, g2, g3⟩ := writeD_good h
      exact ⟨g1.trans i1, by rw [g2, i2, partsW_succ, List.append_assoc], g3.trans i3, rfl⟩
/-- With power and without a fuse all parts are written. -/
theorem putQ_all {d : DevV} {f : Nat} {bs : List UInt8} (hd : d.down = false) (hf : d.fuse < 0) : ∀ k, f + k ≤ d.kept.length → (putQ d f bs (List.range k)).2.1 = 0 ∧ (putQ d f bs (List.range k)).1.fuse = d.fuse
  | 0, _ => ⟨rfl, rfl⟩
  | k + 1, hk => by
    obtain ⟨h1, h2⟩ := putQ_all (f := f) (bs := bs) hd hf k (by omega)
    obtain ⟨i1, i2, i3, i4⟩ := putQ_good (d := d) (f := f) (bs := bs) k h1
    rw [List.range_succ, putQ_snoc]
    unfold stepQ
    rw [if_neg (by omega), i4]
    generalize (putQ d f bs (List.range k)).1 = D at *
    have hth : thereE D ((f + k : Nat) : Int) = 0 := by
      unfold thereE
      rw [if_neg (by rw [i3, hd]; decide), if_neg (by rw [i1]; omega)]
    have hb : burnD D = (D, 0) := by unfold burnD; rw [if_pos (by omega)]
    unfold writeD
    rw [hth, if_neg (by decide), if_neg (by have := partS_le bs k; omega), hb, if_neg (by simp)]
    exact ⟨rfl, h2⟩
/-- Blocks of P are kept so, and nothing waits for them. -/
def SafeP (P : Nat → Prop) (K : Nat → Option (List UInt8)) (d : DevV) : Prop := (∀ i, P i → d.kept[i]? = K i) ∧ ∀ x ∈ d.wait, ¬ P x.1
theorem keepL_safe {P : Nat → Prop} (is : Nat → Bool) : ∀ (j : Nat) (l : List (Nat × List UInt8)) (K : List (List UInt8)), (∀ x ∈ l, ¬ P x.1) → ∀ i, P i → (keepL is j l K)[i]? = K[i]?
  | _, [], _, _, _, _ => rfl
  | j, x :: l, K, h, i, hi => by
    unfold keepL
    rw [keepL_safe is (j + 1) l _ (fun y hy => h y (List.mem_cons_of_mem _ hy)) i hi]
    split
    · rw [List.getElem?_set_ne (fun e => h x (List.mem_cons_self ..) (by rw [e]; exact hi))]
    · rfl
theorem SafeP.keep {P : Nat → Prop} {K : Nat → Option (List UInt8)} {d : DevV} (h : SafeP P K d) (is : Nat → Bool) : SafeP P K (keepD is d) :=
  ⟨fun i hi => by unfold keepD; simp only; rw [keepL_safe is 0 d.wait d.kept h.2 i hi]; exact h.1 i hi, fun x hx => by simp [keepD] at hx⟩
theorem SafeP.cut {P : Nat → Prop} {K : Nat → Option (List UInt8)} {d : DevV} (h : SafeP P K d) (m : Nat) : SafeP P K (cutD m d) := by
  unfold cutD
  split
  · exact h
  · have := h.keep (bitM m)
    exact ⟨this.1, this.2⟩
theorem SafeP.burn {P : Nat → Prop} {K : Nat → Option (List UInt8)} {d : DevV} (h : SafeP P K d) : SafeP P K (burnD d).1 := by
  unfold burnD
  split
  · exact h
  · split
    · exact ⟨h.1, h.2⟩
    · exact h.cut _
theorem SafeP.flush {P : Nat → Prop} {K : Nat → Option (List UInt8)} {d : DevV} (h : SafeP P K d) : SafeP P K (flushD d).1 := by
  unfold flushD
  split
  · exact h
  · split
    · exact h.burn.keep _
    · exact h.burn
theorem SafeP.write {P : Nat → Prop} {K : Nat → Option (List UInt8)} {d : DevV} (h : SafeP P K d) {i : Nat} (hi : ¬ P i) (b : List UInt8) : SafeP P K (writeD d (i : Int) b).1 := by
  unfold writeD
  split
  · exact h
  · split
    · exact h
    · split
      · exact h.burn
      · have := h.burn
        exact ⟨this.1, fun x hx => by
          simp only [List.mem_append, List.mem_singleton] at hx
          rcases hx with hx | rfl
          · exact this.2 x hx
          · simp only [Int.toNat_natCast]; exact hi⟩
theorem SafeP.put {P : Nat → Prop} {K : Nat → Option (List UInt8)} {d : DevV} (h : SafeP P K d) {f : Nat} {bs : List UInt8} : ∀ k, (∀ t, t < k → ¬ P (f + t)) → SafeP P K (putQ d f bs (List.range k)).1
  | 0, _ => h
  | k + 1, hP => by
    have ih := SafeP.put (f := f) (bs := bs) h k (fun t ht => hP t (by omega))
    rw [List.range_succ, putQ_snoc]
    unfold stepQ
    split
    · exact ih
    · have hi := putQ_idx d f bs (List.range k)
      rw [List.length_range] at hi
      exact ih.write (hP _ (by omega)) _
theorem SafeP.arm {P : Nat → Prop} {K : Nat → Option (List UInt8)} {d : DevV} (h : SafeP P K d) (n : Int) (m : Nat) : SafeP P K (armD d n m) := by
  unfold armD
  split
  · exact h
  · exact ⟨h.1, h.2⟩
/-- The parts, padded, begin with the bytes. -/
theorem pads_len (bs : List UInt8) (k : Nat) : ((List.range k).flatMap fun t => pad (partS bs t)).length = 128 * k := by
  induction k with
  | zero => rfl
  | succ k ih => rw [List.range_succ, List.flatMap_append, List.length_append, ih]; simp [pad_len (partS_le bs k)]; omega
theorem pads_take (bs : List UInt8) (k : Nat) : ((List.range k).flatMap fun t => pad (partS bs t)).take (min bs.length (128 * k)) = bs.take (128 * k) := by
  induction k with
  | zero => simp
  | succ k ih =>
    rw [List.range_succ, List.flatMap_append]
    have hl := pads_len bs k
    by_cases h : bs.length ≤ 128 * k
    · rw [Nat.min_eq_left (by omega), List.take_append_of_le_length (by rw [hl]; exact h)]
      rw [Nat.min_eq_left h] at ih
      rw [ih, List.take_of_length_le h, List.take_of_length_le (by omega)]
    · rw [Nat.min_eq_right (by omega), List.take_of_length_le (by rw [hl]; exact Nat.le_refl _)] at ih
      rw [List.take_append, hl, ih, List.take_of_length_le (by rw [← ih, hl]; omega)]
      have e : 128 * (k + 1) = 128 * k + 128 := by omega
      rw [e, List.take_add]
      congr 1
      simp only [List.flatMap_cons, List.flatMap_nil, List.append_nil]
      unfold pad
      rw [List.take_append_of_le_length (by unfold partS; rw [List.length_take, List.length_drop]; omega)]
      unfold partS
      rw [List.take_take]
      by_cases h2 : bs.length ≤ 128 * k + 128
      · rw [Nat.min_eq_left h2, List.take_of_length_le (by rw [List.length_drop]; omega), List.take_of_length_le (by rw [List.length_drop]; omega)]
      · rw [Nat.min_eq_right (by omega)]
end Go.Proofs.Ytnkdlmmdaagonaa
/- Slots: what is put and flushed is got (no program). -/
namespace Go.Proofs.Ytnkdlmmdaagonaa
open Go.RowKit
theorem keepL_app (is : Nat → Bool) : ∀ (l m : List (Nat × List UInt8)) (j : Nat) (K : List (List UInt8)), keepL is j (l ++ m) K = keepL is (j + l.length) m (keepL is j l K)
  | [], m, j, K => rfl
  | x :: l, m, j, K => by
    show keepL is (j + 1) (l ++ m) (if is j then K.set x.1 x.2 else K) = _
    rw [keepL_app is l m (j + 1), List.length_cons, show j + 1 + l.length = j + (l.length + 1) by omega]
    rfl
/-- Parts that are kept lie in their blocks. -/
theorem keep_parts (f : Nat) (bs : List UInt8) (K : List (List UInt8)) : ∀ k, f + k ≤ K.length → ∀ t, t < k → (keepL (fun _ => true) 0 (partsW f bs k) K)[f + t]? = some (pad (partS bs t))
  | 0, _, t, ht => by omega
  | k + 1, hk, t, ht => by
    rw [partsW_succ, keepL_app]
    unfold keepL
    simp only [if_true]
    unfold keepL
    by_cases e : t = k
    · subst e
      rw [List.getElem?_set_self (by rw [keepL_len]; omega)]
    · rw [List.getElem?_set_ne (by omega)]
      exact keep_parts f bs K k (by omega) t (by omega)
/-- What is got of a slot that holds so many parts. -/
theorem getS_parts {d : DevV} {s : Nat} {x : List UInt8} (hs : s ≤ 1) (hx : x.length ≤ 5632) (hd : d.down = false) (hw : d.wait = []) (hk : ∀ t, t < (x.length + 127) / 128 → d.kept[firstS s + t]? = some (pad (partS x t))) :
    getS d s x.length (crcSum x) = (x, 0) := by
  have hc : checkT s x.length = 0 := by unfold checkT; rw [if_neg (by omega), if_neg (by omega)]
  have ho : outB d (firstS s) ((x.length + 127) / 128) = (List.range ((x.length + 127) / 128)).flatMap fun t => pad (partS x t) := by
    unfold outB
    have : ∀ l : List Nat, (∀ t ∈ l, t < (x.length + 127) / 128) → (l.flatMap fun t => blockD d (firstS s + t)) = l.flatMap fun t => pad (partS x t) := by
      intro l
      induction l with
      | nil => intro _; rfl
      | cons t l ih =>
        intro h
        rw [List.flatMap_cons, List.flatMap_cons, ih (fun u hu => h u (List.mem_cons_of_mem _ hu))]
        congr 1
        unfold blockD
        rw [hw, List.getD_eq_getElem?_getD, hk t (h t (List.mem_cons_self ..))]
        rfl
    exact this _ (fun t ht => List.mem_range.1 ht)
  have ht : (outB d (firstS s) ((x.length + 127) / 128)).take x.length = x := by
    have h := pads_take x ((x.length + 127) / 128)
    rw [Nat.min_eq_left (by omega)] at h
    rw [ho, h, List.take_of_length_le (by omega)]
  unfold getS
  rw [hc, if_neg (by decide), if_neg (by rw [hd]; simp), ht, if_neg (by simp)]
theorem putA_ok {d : DevV} {s : Nat} {x : List UInt8} (hs : s ≤ 1) (hx : x.length ≤ 5632) : putA d s x = putS d s x := by
  unfold putA checkT
  rw [if_neg (show ¬ 1 < s by omega), if_neg (show ¬ 5632 < x.length by omega), if_neg (by decide)]
theorem putA_long {d : DevV} {s : Nat} {x : List UInt8} (hs : s ≤ 1) (hx : 5632 < x.length) : putA d s x = (d, 0, 0, 3) := by
  unfold putA checkT
  rw [if_neg (show ¬ 1 < s by omega), if_pos hx, if_pos (by decide)]
/-- Where Put answers no error: the parts wait. -/
theorem putS_good {d : DevV} {s : Nat} {x : List UInt8} (h : (putS d s x).2.2.2 = 0) : (putS d s x).1.kept = d.kept ∧ (putS d s x).1.wait = d.wait ++ partsW (firstS s) x ((x.length + 127) / 128) ∧ (putS d s x).1.down = d.down ∧ (putS d s x).2.1 = x.length ∧ (putS d s x).2.2.1 = crcSum x := by
  unfold putS at h ⊢
  by_cases h0 : (putQ d (firstS s) x (List.range ((x.length + 127) / 128))).2.1 ≠ 0
  · rw [if_pos h0] at h; exact absurd h h0
  · rw [if_neg h0] at h ⊢
    obtain ⟨i1, i2, i3, _⟩ := putQ_good (d := d) (f := firstS s) (bs := x) ((x.length + 127) / 128) (by omega)
    exact ⟨i1, i2, i3, rfl, rfl⟩
/-- With power and without a fuse Put works. -/
theorem putS_all {d : DevV} {s : Nat} {x : List UInt8} (hs : s ≤ 1) (hx : x.length ≤ 5632) (hd : d.down = false) (hf : d.fuse < 0) (hk : d.kept.length = 122) : (putS d s x).2.2.2 = 0 ∧ (putS d s x).1.fuse = d.fuse := by
  obtain ⟨h1, h2⟩ := putQ_all (f := firstS s) (bs := x) hd hf ((x.length + 127) / 128) (by unfold firstS; omega)
  unfold putS
  rw [if_neg (by omega)]
  exact ⟨rfl, h2⟩
/-- A flush that works keeps all. -/
theorem flushD_good {d : DevV} (h : (flushD d).2 = 0) : (flushD d).1.kept = keepL (fun _ => true) 0 d.wait d.kept ∧ (flushD d).1.wait = [] ∧ (flushD d).1.down = d.down := by
  unfold flushD at h ⊢
  by_cases hd : d.down = true
  · rw [if_pos hd] at h; cases h
  · rw [if_neg hd] at h ⊢
    by_cases hb : (burnD d).2 = 0
    · rw [if_pos hb]
      obtain ⟨b1, b2, b3⟩ := burnD_same hb
      exact ⟨by simp only [keepD]; rw [b1, b2], rfl, by simp only [keepD]; exact b3⟩
    · rw [if_neg hb] at h; exact absurd h hb
/-- A device without power has nothing that waits. -/
def DownW (d : DevV) : Prop := d.down = true → d.wait = []
theorem DownW.cut {d : DevV} (h : DownW d) (m : Nat) : DownW (cutD m d) ∧ (cutD m d).down = true := by
  unfold cutD
  by_cases hd : d.down = true
  · rw [if_pos hd]; exact ⟨h, hd⟩
  · rw [if_neg hd]; exact ⟨fun _ => rfl, rfl⟩
theorem DownW.burn {d : DevV} (h : DownW d) : DownW (burnD d).1 := by
  unfold burnD
  split
  · exact h
  · split
    · exact h
    · exact (h.cut _).1
theorem DownW.flush {d : DevV} (h : DownW d) : DownW (flushD d).1 := by
  unfold flushD
  split
  · exact h
  · split
    · exact fun _ => rfl
    · exact h.burn
theorem DownW.write {d : DevV} (h : DownW d) (i : Int) (b : List UInt8) : DownW (writeD d i b).1 := by
  unfold writeD
  split
  · exact h
  · rename_i h0
    split
    · exact h
    · split
      · exact h.burn
      · rename_i _ h2
        intro hd
        exfalso
        have := (burnD_same (d := d) (by omega)).2.2
        simp only at hd
        rw [this] at hd
        have h00 : thereE d i = 0 := by omega
        unfold thereE at h00
        rw [if_pos hd] at h00
        cases h00
theorem DownW.put {d : DevV} (h : DownW d) {f : Nat} {bs : List UInt8} : ∀ k, DownW (putQ d f bs (List.range k)).1
  | 0 => h
  | k + 1 => by
    rw [List.range_succ, putQ_snoc]
    unfold stepQ
    split
    · exact DownW.put (f := f) (bs := bs) h k
    · exact (DownW.put (f := f) (bs := bs) h k).write _ _
end Go.Proofs.Ytnkdlmmdaagonaa
/- SlotSafe's plain law (no program). -/
namespace Go.Proofs.Ytnkdlmmdaagonaa
open Go.RowKit
theorem keepD_len (is : Nat → Bool) (d : DevV) : (keepD is d).kept.length = d.kept.length := by unfold keepD; exact keepL_len _ _ _ _
theorem cutD_len (m : Nat) (d : DevV) : (cutD m d).kept.length = d.kept.length := by
  unfold cutD
  split
  · rfl
  · exact keepD_len _ _
theorem burnD_len (d : DevV) : (burnD d).1.kept.length = d.kept.length := by
  unfold burnD
  split
  · rfl
  · split
    · rfl
    · exact cutD_len _ _
theorem flushD_len (d : DevV) : (flushD d).1.kept.length = d.kept.length := by
  unfold flushD
  split
  · rfl
  · split
    · simp only; rw [keepD_len]; exact burnD_len d
    · exact burnD_len d
theorem writeD_len (d : DevV) (i : Int) (b : List UInt8) : (writeD d i b).1.kept.length = d.kept.length := by
  unfold writeD
  split
  · rfl
  · split
    · rfl
    · split
      · exact burnD_len d
      · exact burnD_len d
theorem putQ_len (d : DevV) (f : Nat) (bs : List UInt8) : ∀ k, (putQ d f bs (List.range k)).1.kept.length = d.kept.length
  | 0 => rfl
  | k + 1 => by
    rw [List.range_succ, putQ_snoc]
    unfold stepQ
    split
    · exact putQ_len d f bs k
    · rw [writeD_len]; exact putQ_len d f bs k
theorem putA_dev (d : DevV) (s : Nat) (x : List UInt8) : (putA d s x).1 = d ∨ (putA d s x).1 = (putQ d (firstS s) x (List.range ((x.length + 127) / 128))).1 := by
  unfold putA putS
  split
  · exact .inl rfl
  · split
    · exact .inr rfl
    · exact .inr rfl
theorem flushD_all {d : DevV} (hd : d.down = false) (hf : d.fuse < 0) : (flushD d).2 = 0 := by
  unfold flushD burnD
  rw [if_neg (by rw [hd]; decide), if_pos hf, if_pos rfl]
theorem putA_vals {d : DevV} {s : Nat} {x : List UInt8} (hs : s ≤ 1) (h : (putA d s x).2.2.2 = 0) : (putA d s x).2.1 = x.length ∧ (putA d s x).2.2.1 = crcSum x := by
  by_cases hx : 5632 < x.length
  · rw [putA_long hs hx] at h; cases h
  · rw [putA_ok hs (by omega)] at h ⊢
    exact (putS_good h).2.2.2
/-- The device behind the other slot's put, a flush, a cut and a start. -/
def laterD (d : DevV) (af : Int) (mk s : Nat) (y : List UInt8) : DevV := { cutD mk (flushD (putA (armD d af mk) s y).1).1 with down := false }
theorem slotSafe_law {sw : Nat} {X Y : List UInt8} {af : Int} {mk : Nat} (hs : sw ≤ 1) (hX : X.length ≤ 5632) :
    (putA (newD 122) sw X).2 = (X.length, crcSum X, 0) ∧ (flushD (putA (newD 122) sw X).1).2 = 0 ∧ (putA (newD 122) sw X).1.wait.length ≤ 44 ∧ (flushD (putA (newD 122) sw X).1).1.wait = [] ∧
    (laterD (flushD (putA (newD 122) sw X).1).1 af mk (1 - sw) Y).kept.length = 122 ∧ (laterD (flushD (putA (newD 122) sw X).1).1 af mk (1 - sw) Y).wait = [] ∧
    getS (laterD (flushD (putA (newD 122) sw X).1).1 af mk (1 - sw) Y) sw X.length (crcSum X) = (X, 0) ∧
    ((putA (armD (flushD (putA (newD 122) sw X).1).1 af mk) (1 - sw) Y).2.2.2 = 0 → (flushD (putA (armD (flushD (putA (newD 122) sw X).1).1 af mk) (1 - sw) Y).1).2 = 0 →
      getS (laterD (flushD (putA (newD 122) sw X).1).1 af mk (1 - sw) Y) (1 - sw) (putA (armD (flushD (putA (newD 122) sw X).1).1 af mk) (1 - sw) Y).2.1 (putA (armD (flushD (putA (newD 122) sw X).1).1 af mk) (1 - sw) Y).2.2.1 = (Y, 0)) := by
  have hN : (newD 122).kept.length = 122 := by simp [newD]
  rw [putA_ok hs hX]
  obtain ⟨he, hfu⟩ := putS_all (d := newD 122) hs hX rfl (by decide) hN
  obtain ⟨g1, g2, g3, g4, g5⟩ := putS_good he
  have hD1l : (putS (newD 122) sw X).1.kept.length = 122 := by rw [g1, hN]
  have hP : (putS (newD 122) sw X).2 = (X.length, crcSum X, 0) := by
    generalize putS (newD 122) sw X = q at *
    obtain ⟨q1, q2, q3, q4⟩ := q
    simp only at he g4 g5
    rw [he, g4, g5]
  have hwl : (putS (newD 122) sw X).1.wait.length ≤ 44 := by
    rw [g2]; simp [newD, partsW]; omega
  have hd1 : (putS (newD 122) sw X).1.down = false := g3
  have hf1 : (putS (newD 122) sw X).1.fuse < 0 := by rw [hfu]; decide
  generalize (putS (newD 122) sw X).1 = D1 at *
  have hfl := flushD_all hd1 hf1
  obtain ⟨k1, k2, k3⟩ := flushD_good hfl
  have hl2 := flushD_len D1
  rw [hD1l] at hl2
  generalize (flushD D1).1 = D2 at *
  have hw1 : D1.wait = partsW (firstS sw) X ((X.length + 127) / 128) := by rw [g2]; rfl
  rw [hw1] at k1
  have hkp : ∀ t, t < (X.length + 127) / 128 → D2.kept[firstS sw + t]? = some (pad (partS X t)) := fun t ht => by
    rw [k1]; exact keep_parts _ _ _ _ (by rw [hD1l]; unfold firstS; omega) t ht
  -- the blocks of the slot stay
  have hsafe : SafeP (fun i => firstS sw ≤ i ∧ i < firstS sw + 44) (fun i => D2.kept[i]?) D2 := ⟨fun i _ => rfl, fun x hx => by rw [k2] at hx; cases hx⟩
  have hdw2 : DownW D2 := fun _ => k2
  have hdw3 : DownW (armD D2 af mk) := by
    unfold armD
    split
    · exact hdw2
    · exact hdw2
  have hs3 := hsafe.arm af mk
  have hl3 : (armD D2 af mk).kept.length = 122 := by unfold armD; split <;> exact hl2
  have hw3 : (armD D2 af mk).wait = [] := by unfold armD; split <;> exact k2
  unfold laterD
  generalize armD D2 af mk = D3 at *
  have hsf : ∀ t, t < 44 → ¬ (firstS sw ≤ firstS (1 - sw) + t ∧ firstS (1 - sw) + t < firstS sw + 44) := fun t ht => by unfold firstS; omega
  have h4 : SafeP (fun i => firstS sw ≤ i ∧ i < firstS sw + 44) (fun i => D2.kept[i]?) (putA D3 (1 - sw) Y).1 ∧ DownW (putA D3 (1 - sw) Y).1 ∧ (putA D3 (1 - sw) Y).1.kept.length = 122 := by
    by_cases hY : 5632 < Y.length
    · rw [putA_long (by omega) hY]; exact ⟨hs3, hdw3, hl3⟩
    · rcases putA_dev D3 (1 - sw) Y with e | e
      · rw [e]; exact ⟨hs3, hdw3, hl3⟩
      · rw [e]; exact ⟨hs3.put _ (fun t ht => hsf t (by omega)), hdw3.put _, by rw [putQ_len]; exact hl3⟩
  have hgood : (putA D3 (1 - sw) Y).2.2.2 = 0 → Y.length ≤ 5632 ∧ (putA D3 (1 - sw) Y).1.kept = D3.kept ∧ (putA D3 (1 - sw) Y).1.wait = partsW (firstS (1 - sw)) Y ((Y.length + 127) / 128) ∧ (putA D3 (1 - sw) Y).2.1 = Y.length ∧ (putA D3 (1 - sw) Y).2.2.1 = crcSum Y := fun h => by
    by_cases hY : 5632 < Y.length
    · rw [putA_long (by omega) hY] at h; cases h
    · rw [putA_ok (by omega) (by omega)] at h ⊢
      obtain ⟨i1, i2, i3, i4, i5⟩ := putS_good h
      rw [hw3] at i2
      exact ⟨by omega, i1, i2, i4, i5⟩
  generalize putA D3 (1 - sw) Y = P4 at *
  obtain ⟨h4s, h4d, h4l⟩ := h4
  have h5s := h4s.flush
  have h5d := h4d.flush
  have h5l := flushD_len P4.1
  rw [h4l] at h5l
  have hfg := fun h => flushD_good (d := P4.1) h
  generalize flushD P4.1 = P5 at *
  have h6s := h5s.cut mk
  have h6d := h5d.cut mk
  have h6l := cutD_len mk P5.1
  rw [h5l] at h6l
  have h6w : (cutD mk P5.1).wait = [] := h6d.1 h6d.2
  refine ⟨hP, hfl, hwl, k2, h6l, h6w, ?_, fun e1 e2 => ?_⟩
  · refine getS_parts hs hX rfl h6w (fun t ht => ?_)
    have := h6s.1 (firstS sw + t) ⟨by omega, by omega⟩
    simp only
    rw [this]
    exact hkp t ht
  · obtain ⟨hY, i1, i2, i4, i5⟩ := hgood e1
    obtain ⟨j1, j2, j3⟩ := hfg e2
    rw [i4, i5]
    have hcut : (cutD mk P5.1).kept = P5.1.kept := by
      unfold cutD
      split
      · rfl
      · unfold keepD; simp only; rw [j2]; rfl
    refine getS_parts (by omega) hY rfl h6w (fun t ht => ?_)
    simp only
    rw [hcut, j1, i2]
    exact keep_parts _ _ _ _ (by rw [h4l]; unfold firstS; omega) t ht
end Go.Proofs.Ytnkdlmmdaagonaa
