/- What is written is read: plain laws. -/
import Derived.Test.YtnkdlmmdaagonaaFoot
import Derived.Test.YtnkdlmmdaagonaaRd3
namespace Go.Proofs.Ytnkdlmmdaagonaa
open Go.RowKit

theorem leV_leB (n x : Nat) : leV (leB n x) = x % 256 ^ n := by
  induction n generalizing x with
  | zero => simp [leB, leV, Nat.mod_one]
  | succ n ih =>
    simp only [leB, leV, ih]
    rw [show (UInt8.ofNat x).toNat = x % 256 from by simp, Nat.pow_succ, Nat.mul_comm (256 ^ n) 256, Nat.mod_mul]
theorem rTake_app (xs ys : List UInt8) (e n : Nat) (hn : xs.length = n) : rTake ⟨xs ++ ys, e⟩ n = (⟨ys, e⟩, xs) := by
  subst hn
  unfold rTake
  rw [if_neg (by simp)]
  simp
theorem rNum_app (n x : Nat) (ys : List UInt8) : rNum ⟨leB n x ++ ys, 0⟩ n = (⟨ys, 0⟩, x % 256 ^ n) := by
  unfold rNum
  rw [rTake_app _ _ _ _ (leB_length n x), leV_leB]
theorem rTruth_app (b : Bool) (ys : List UInt8) (t : Nat) (ht : t = if b then 1 else 0) : rTruth ⟨leB 1 t ++ ys, 0⟩ = (⟨ys, 0⟩, b) := by
  unfold rTruth
  rw [rNum_app]
  cases b <;> simp at ht <;> subst ht <;> simp
theorem rCount_app (n : Nat) (ys : List UInt8) (most : Int) (hn : n < 65536) (hm : (n : Int) ≤ most) : rCount ⟨leB 2 n ++ ys, 0⟩ most = (⟨ys, 0⟩, n) := by
  unfold rCount
  rw [rNum_app, Nat.mod_eq_of_lt (by simpa using hn), if_neg (by simp only; omega)]
theorem rText_app (s : ByteArray) (ys : List UInt8) (most : Int) (h1 : s.size ≤ 65535) (h2 : (s.size : Int) ≤ most) : rText ⟨textB s ++ ys, 0⟩ most = (⟨ys, 0⟩, s.data.toList) := by
  have hs : s.data.toList.length = s.size := by simp
  unfold rText textB
  rw [Nat.min_eq_left h1, List.take_of_length_le (by omega), List.append_assoc, rCount_app _ _ _ (by omega) h2, rTake_app _ _ _ _ hs]
theorem rTexts_app (long : Int) (ys : List UInt8) : ∀ (M : List ByteArray), (∀ s ∈ M, s.size ≤ 65535 ∧ (s.size : Int) ≤ long) → ∀ k, k ≤ M.length → rTexts ⟨M.flatMap textB ++ ys, 0⟩ long k = (⟨(M.drop k).flatMap textB ++ ys, 0⟩, M.take k) := by
  intro M hM k
  induction k with
  | zero => intro _; simp [rTexts]
  | succ k ih =>
    intro hk
    have hk' : k < M.length := by omega
    have hd : M.drop k = M[k] :: M.drop (k + 1) := List.drop_eq_getElem_cons hk'
    have hm := hM M[k] (List.getElem_mem hk')
    unfold rTexts
    rw [ih (by omega), hd, List.flatMap_cons, List.append_assoc, rText_app _ _ _ hm.1 hm.2]
    simp only [mkS_of]
    rw [List.take_succ_eq_append_getElem hk']
theorem rRow_app (L : List ByteArray) (ys : List UInt8) (most long : Int) (h1 : L.length ≤ 65535) (h2 : (L.length : Int) ≤ most) (h3 : ∀ s ∈ L, s.size ≤ 65535 ∧ (s.size : Int) ≤ long) : rRow ⟨rowB L ++ ys, 0⟩ most long = (⟨ys, 0⟩, L) := by
  unfold rRow rowB
  rw [Nat.min_eq_left h1, List.take_of_length_le h1, List.append_assoc, rCount_app _ _ _ (by omega) h2, rTexts_app long ys L h3 _ (Nat.le_refl _)]
  simp
theorem rRaw_app (s : ByteArray) (ys : List UInt8) : rTake ⟨s.data.toList ++ ys, 0⟩ (max 0 (s.size : Int)).toNat = (⟨ys, 0⟩, s.data.toList) := by
  have hs : s.data.toList.length = s.size := by simp
  rw [show (max 0 (s.size : Int)).toNat = s.size by omega]
  exact rTake_app _ _ _ _ hs
/-- A chain of reads: q of the parts are read. -/
def BackR (S : Nat → Prop) (p : Nat) (wa : World) (P : List (List UInt8)) (ys : List UInt8) (q : Nat) (W : World) : Prop := Fr S wa W ∧ RdAt W S p ⟨(P.drop q).flatten ++ ys, 0⟩
theorem BackR.step {S : Nat → Prop} {p : Nat} {wa W w' : World} {P : List (List UInt8)} {ys : List UInt8} {q : Nat} {r : Rd} (h : BackR S p wa P ys q W) (hr : r = ⟨(P.drop (q + 1)).flatten ++ ys, 0⟩) (h1 : RdAt w' S p r) (f1 : Fr S W w') : BackR S p wa P ys (q + 1) w' :=
  ⟨h.1.then' f1, hr ▸ h1⟩
theorem BackR.quiet {S : Nat → Prop} {p : Nat} {wa W w' : World} {P : List (List UInt8)} {ys : List UInt8} {q : Nat} (h : BackR S p wa P ys q W) (f : Fr noB W w') : BackR S p wa P ys q w' :=
  ⟨h.1.then' (f.mono fun _ _ h => h.elim), h.2.fr f (fun _ _ _ => id)⟩
theorem BackR.start {S : Nat → Prop} {p : Nat} {wa : World} {P : List (List UInt8)} {ys zs : List UInt8} (h : RdAt wa S p ⟨zs, 0⟩) (hz : P.flatten ++ ys = zs) : BackR S p wa P ys 0 wa.drew :=
  ⟨(Fr.refl _ _).drew, by rw [List.drop_zero, hz]; exact h.fr ((Fr.refl noB _).drew) (fun _ _ _ => id)⟩
/-- A []string in blocks outside of U. -/
def StrsU (U : Nat → Prop) (ss : List ByteArray) : Stb (Fr U) :=
  ⟨fun v w => ∃ A m c, v = .slice A m c ∧ Hid (ss.length = m) ∧ RowAt w A (strs ss) ∧ (∀ ad, A = some ad → ¬ U ad.block),
   fun _ _ _ ⟨A, m, c, e, hm, h, hb⟩ f => ⟨A, m, c, e, hm, h.fr f (fun ad e _ _ hu => hb ad e hu), hb⟩⟩
def BytsU (U : Nat → Prop) (bs : List UInt8) : Stb (Fr U) :=
  ⟨fun v w => ∃ A m c, v = .slice A m c ∧ bs.length = m ∧ RowAt w A (bcells bs) ∧ (∀ ad, A = some ad → ¬ U ad.block),
   fun _ _ _ ⟨A, m, c, e, hm, h, hb⟩ f => ⟨A, m, c, e, hm, h.fr f (fun ad e _ _ hu => hb ad e hu), hb⟩⟩
theorem allB_snoc {l : List Item} {k : Nat} {i : Item} (h : l[k]? = some i) : allB (l.take (k + 1)) = allB (l.take k) ++ i.all := by
  unfold allB; rw [take_snoc' h, List.flatMap_append]; simp only [List.flatMap_cons, List.flatMap_nil, List.append_nil]
theorem allB_drop {l : List Item} {k : Nat} {i : Item} (h : l[k]? = some i) : allB (l.drop k) = i.all ++ allB (l.drop (k + 1)) := by
  obtain ⟨hk, rfl⟩ := List.getElem?_eq_some_iff.1 h
  unfold allB; rw [List.drop_eq_getElem_cons hk]; simp only [List.flatMap_cons]
theorem Item.all_length {i : Item} (h : i.ok = true) : i.all.length ≤ 2000 := by
  simp only [Item.ok, Bool.and_eq_true, decide_eq_true_eq, List.all_eq_true] at h
  obtain ⟨⟨h1, h2⟩, h3⟩ := h
  have h4 := sumSz_50 h2 h3
  have h5 := textB_length i.s
  have h6 : (rowB i.L).length ≤ sumSz i.L + 2 := by
    unfold rowB
    have := rows_length (i.L.take 65535)
    have := sumSz_take_le i.L 65535
    rw [List.length_append, leB_length]; omega
  have h7 : i.s.data.toList.length = i.s.size := by simp
  simp only [Item.all, Item.parts, List.flatten_cons, List.flatten_nil, List.length_append, List.length_nil, leB_length]
  omega
theorem allB_length (l : List Item) (h : ∀ i ∈ l, i.ok = true) : (allB l).length ≤ 2000 * l.length := by
  induction l with
  | nil => simp [allB]
  | cons i l ih =>
    have h1 := Item.all_length (h i (List.mem_cons_self ..))
    have h2 := ih fun j hj => h j (List.mem_cons_of_mem _ hj)
    simp only [allB, List.flatMap_cons, List.length_append, List.length_cons] at *
    omega
end Go.Proofs.Ytnkdlmmdaagonaa
