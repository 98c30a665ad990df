/- The device and the reference's device are the same (no program). -/
import Derived.Test.YtnkdlmmdaagonaaDvR7
import Derived.Test.YtnkdlmmdaagonaaDvR7
import Derived.Test.YtnkdlmmdaagonaaDev12
namespace Go.Proofs.Ytnkdlmmdaagonaa
open Go.RowKit
def wv (x : RWr) : Nat × List UInt8 := (x.i, pad x.b.data.toList)
/-- What is kept, block by block, as so many writes say. -/
def KeptIs (n : Nat) (K : List RWr) (kept : List (List UInt8)) : Prop :=
  kept.length = n ∧ ∀ i, i < n → kept[i]? = some (K.foldl (blkF i) (List.replicate 128 0))
structure SameD (d : DevV) (r : RefD) : Prop where
  down : d.down = r.down
  fuse : d.fuse = r.fuse
  mask : d.mask = r.mask
  parts : ∃ K U, r.l = K ++ U ∧ (∀ x ∈ K, x.k = true) ∧ (∀ x ∈ U, x.k = false) ∧ (∀ x ∈ r.l, x.i < r.n ∧ x.b.size ≤ 128) ∧ d.wait = U.map wv ∧ KeptIs r.n K d.kept
theorem KeptIs.step {n : Nat} {K : List RWr} {kept : List (List UInt8)} (h : KeptIs n K kept) (x : RWr) (k : Bool) : KeptIs n (K ++ [⟨x.i, x.b, k⟩]) (kept.set x.i (pad x.b.data.toList)) := by
  refine ⟨by rw [List.length_set]; exact h.1, fun i hi => ?_⟩
  rw [List.foldl_append, List.getElem?_set]
  simp only [List.foldl_cons, List.foldl_nil, blkF]
  by_cases e : x.i = i
  · subst e; simp [h.1, hi]
  · rw [if_neg e, if_neg e]; exact h.2 i hi
theorem keep_cut (m : Nat) {n : Nat} : ∀ (U : List RWr) (j : Nat) (K : List RWr) (kept : List (List UInt8)), (∀ x ∈ U, x.k = false) → KeptIs n K kept → KeptIs n (U.foldl (cutF m) (K, j)).1 (keepL (bitM m) j (U.map wv) kept)
  | [], j, K, kept, _, h => h
  | x :: U, j, K, kept, hu, h => by
    rw [List.foldl_cons, List.map_cons]
    unfold keepL
    have hx := hu x (List.mem_cons_self ..)
    have e : cutF m (K, j) x = (if bitM m j then K ++ [⟨x.i, x.b, true⟩] else K, j + 1) := by unfold cutF; rw [hx]; rfl
    rw [e]
    refine keep_cut m U (j + 1) _ _ (fun y hy => hu y (List.mem_cons_of_mem _ hy)) ?_
    cases bitM m j
    · exact h
    · exact h.step x true
theorem cut_all (m : Nat) : ∀ (U : List RWr) (q : List RWr × Nat), (∀ x ∈ q.1, x.k = true) → ∀ x ∈ (U.foldl (cutF m) q).1, x.k = true
  | [], _, h => h
  | y :: U, q, h => by
    rw [List.foldl_cons]
    refine cut_all m U _ ?_
    unfold cutF
    split
    · intro x hx
      simp only [List.mem_append, List.mem_singleton] at hx
      rcases hx with hx | rfl
      · exact h x hx
      · assumption
    · intro x hx
      simp only at hx
      split at hx
      · simp only [List.mem_append, List.mem_singleton] at hx
        rcases hx with hx | rfl
        · exact h x hx
        · rfl
      · exact h x hx
theorem cut_mem (m : Nat) (P : Nat → ByteArray → Prop) : ∀ (U : List RWr) (q : List RWr × Nat), (∀ x ∈ q.1, P x.i x.b) → (∀ x ∈ U, P x.i x.b) → ∀ x ∈ (U.foldl (cutF m) q).1, P x.i x.b
  | [], _, h, _ => h
  | y :: U, q, h, hU => by
    rw [List.foldl_cons]
    have hy := hU y (List.mem_cons_self ..)
    refine cut_mem m P U _ ?_ (fun x hx => hU x (List.mem_cons_of_mem _ hx))
    unfold cutF
    split
    · intro x hx
      simp only [List.mem_append, List.mem_singleton] at hx
      rcases hx with hx | rfl
      · exact h x hx
      · exact hy
    · intro x hx
      simp only at hx
      split at hx
      · simp only [List.mem_append, List.mem_singleton] at hx
        rcases hx with hx | rfl
        · exact h x hx
        · exact hy
      · exact h x hx
theorem cut_kept (m : Nat) : ∀ (K : List RWr) (q : List RWr × Nat), (∀ x ∈ K, x.k = true) → K.foldl (cutF m) q = (q.1 ++ K, q.2)
  | [], q, _ => by simp
  | x :: K, q, h => by
    rw [List.foldl_cons]
    have e : cutF m q x = (q.1 ++ [x], q.2) := by unfold cutF; rw [if_pos (h x (List.mem_cons_self ..))]
    rw [e, cut_kept m K _ (fun y hy => h y (List.mem_cons_of_mem _ hy))]
    simp
theorem SameD.cut {d : DevV} {r : RefD} (h : SameD d r) (m : Nat) : SameD (cutD m d) (cutR m r) := by
  obtain ⟨h1, h2, h3, K, U, hl, hK, hU, hb, hw, hk⟩ := h
  unfold cutD cutR
  by_cases hd : d.down = true
  · rw [if_pos hd, if_pos (by rw [← h1]; exact hd)]
    exact ⟨h1, h2, h3, K, U, hl, hK, hU, hb, hw, hk⟩
  · rw [if_neg hd, if_neg (by rw [← h1]; exact hd)]
    have hc : cutP m r.l = U.foldl (cutF m) (K, 0) := by
      unfold cutP; rw [hl, List.foldl_append, cut_kept m K _ hK]; simp
    refine ⟨rfl, rfl, h3, (cutP m r.l).1, [], by simp, ?_, by simp, ?_, rfl, ?_⟩
    · rw [hc]; exact cut_all m U _ hK
    · rw [hc]
      refine cut_mem m (fun i b => i < r.n ∧ b.size ≤ 128) U _ (fun x hx => hb x (by rw [hl]; exact List.mem_append_left _ hx)) (fun x hx => hb x (by rw [hl]; exact List.mem_append_right _ hx))
    · simp only [keepD]
      rw [hc, hw]
      exact keep_cut m U 0 K _ hU hk
theorem keep_flush {n : Nat} : ∀ (U : List RWr) (j : Nat) (K : List RWr) (kept : List (List UInt8)), KeptIs n K kept → KeptIs n (K ++ U.map keptW) (keepL (fun _ => true) j (U.map wv) kept)
  | [], j, K, kept, h => by simpa [keepL] using h
  | x :: U, j, K, kept, h => by
    rw [List.map_cons, List.map_cons]
    unfold keepL
    have := keep_flush U (j + 1) (K ++ [keptW x]) _ (h.step x true)
    simpa [keptW, wv] using this
theorem map_kept {K : List RWr} (h : ∀ x ∈ K, x.k = true) : K.map keptW = K := by
  induction K with
  | nil => rfl
  | cons x K ih =>
    rw [List.map_cons, ih (fun y hy => h y (List.mem_cons_of_mem _ hy))]
    have := h x (List.mem_cons_self ..)
    obtain ⟨i, b, k⟩ := x
    simp only at this
    subst this
    rfl
theorem SameD.burn {d : DevV} {r : RefD} (h : SameD d r) : SameD (burnD d).1 (burnR r).1 ∧ (burnD d).2 = (burnR r).2 := by
  unfold burnD burnR
  rw [h.fuse, h.mask]
  by_cases h1 : r.fuse < 0
  · rw [if_pos h1, if_pos h1]; exact ⟨h, rfl⟩
  · rw [if_neg h1, if_neg h1]
    by_cases h2 : r.fuse = 0
    · rw [if_neg (by omega), if_pos h2]; exact ⟨h.cut _, rfl⟩
    · rw [if_pos (by omega), if_neg h2]
      obtain ⟨g1, g2, g3, g4⟩ := h
      exact ⟨⟨g1, rfl, rfl, g4⟩, rfl⟩
theorem burnR_same {r : RefD} (h : (burnR r).2 = 0) : (burnR r).1.l = r.l ∧ (burnR r).1.n = r.n := by
  unfold burnR at *
  split
  · exact ⟨rfl, rfl⟩
  · split
    · rename_i h1 h2; rw [if_neg h1, if_pos h2] at h; cases h
    · exact ⟨rfl, rfl⟩
theorem bytes_len (b : ByteArray) : b.data.toList.length = b.size := by simp
theorem SameD.len {d : DevV} {r : RefD} (h : SameD d r) : d.kept.length = r.n := by
  obtain ⟨_, _, _, K, U, _, _, _, _, _, hk⟩ := h
  exact hk.1
theorem SameD.put {d : DevV} {r : RefD} (h : SameD d r) (i : Int) (b : ByteArray) : SameD (writeD d i b.data.toList).1 (putR r i b).1 ∧ (writeD d i b.data.toList).2 = (putR r i b).2 := by
  have hlen := h.len
  unfold writeD putR thereE
  by_cases hd : d.down = true
  · rw [if_pos hd, if_pos (by decide), if_pos (by rw [← h.down]; exact hd)]
    exact ⟨h, rfl⟩
  · rw [if_neg hd, if_neg (show ¬ r.down = true by rw [← h.down]; exact hd), hlen]
    by_cases hi : i < 0 ∨ (r.n : Int) ≤ i
    · rw [if_pos hi, if_pos (by decide), if_pos hi]; exact ⟨h, rfl⟩
    · rw [if_neg hi, if_neg (by decide), if_neg hi, bytes_len]
      by_cases hb : 128 < b.size
      · rw [if_pos hb, if_pos hb]; exact ⟨h, rfl⟩
      · rw [if_neg hb, if_neg hb]
        obtain ⟨hs, he⟩ := h.burn
        rw [he]
        by_cases h0 : (burnR r).2 ≠ 0
        · rw [if_pos h0, if_pos h0]; exact ⟨hs, he⟩
        · rw [if_neg h0, if_neg h0]
          have h0' : (burnR r).2 = 0 := by omega
          obtain ⟨el, en⟩ := burnR_same h0'
          refine ⟨?_, rfl⟩
          obtain ⟨g1, g2, g3, K, U, hl, hK, hU, hbd, hw, hk⟩ := hs
          rw [el] at hl hbd
          refine ⟨g1, g2, g3, K, U ++ [⟨i.toNat, b, false⟩], by simp only; rw [hl, List.append_assoc], hK, ?_, ?_, ?_, hk⟩
          · intro x hx
            simp only [List.mem_append, List.mem_singleton] at hx
            rcases hx with hx | rfl
            · exact hU x hx
            · rfl
          · intro x hx
            simp only [List.mem_append, List.mem_singleton] at hx
            rcases hx with hx | rfl
            · exact hbd x hx
            · simp only; rw [en]; omega
          · simp only; rw [hw, List.map_append]; rfl
theorem SameD.flush {d : DevV} {r : RefD} (h : SameD d r) : SameD (flushD d).1 (flushR r).1 ∧ (flushD d).2 = (flushR r).2 := by
  unfold flushD flushR
  by_cases hd : d.down = true
  · rw [if_pos hd, if_pos (by rw [← h.down]; exact hd)]; exact ⟨h, rfl⟩
  · rw [if_neg hd, if_neg (show ¬ r.down = true by rw [← h.down]; exact hd)]
    obtain ⟨hs, he⟩ := h.burn
    rw [he]
    by_cases h0 : (burnR r).2 = 0
    · rw [if_pos h0, if_neg (by omega)]
      obtain ⟨el, en⟩ := burnR_same h0
      refine ⟨?_, rfl⟩
      obtain ⟨g1, g2, g3, K, U, hl, hK, hU, hbd, hw, hk⟩ := hs
      rw [el] at hl hbd
      refine ⟨g1, g2, g3, K ++ U.map keptW, [], ?_, ?_, by simp, ?_, rfl, ?_⟩
      · simp only; rw [hl, List.map_append, map_kept hK, List.append_nil]
      · intro x hx
        rw [List.mem_append, List.mem_map] at hx
        rcases hx with hx | ⟨y, _, rfl⟩
        · exact hK x hx
        · rfl
      · intro x hx
        simp only [List.mem_map] at hx
        obtain ⟨y, hy, rfl⟩ := hx
        exact hbd y hy
      · simp only [keepD]
        rw [hw]
        exact keep_flush U 0 K _ hk
    · rw [if_neg h0, if_pos h0]; exact ⟨hs, he⟩
theorem find_wait (i : Nat) : ∀ (V : List RWr) (o : List UInt8), V.reverse.foldl (blkF i) o = (((V.map wv).find? fun x => x.1 == i).map (·.2)).getD o
  | [], o => rfl
  | x :: V, o => by
    rw [List.reverse_cons, List.foldl_append, List.map_cons, List.find?_cons]
    simp only [List.foldl_cons, List.foldl_nil]
    unfold blkF wv
    by_cases e : x.i = i
    · simp [e]
    · simp only [if_neg e]
      have : (x.i == i) = false := by simp [e]
      rw [this]
      exact find_wait i V o
theorem SameD.block {d : DevV} {r : RefD} (h : SameD d r) {i : Nat} (hi : i < r.n) : blockD d i = blockR r i := by
  obtain ⟨_, _, _, K, U, hl, _, _, _, hw, hk⟩ := h
  unfold blockD blockR
  rw [hl, List.foldl_append, hw, ← List.map_reverse]
  have hg : d.kept.getD i [] = K.foldl (blkF i) (List.replicate 128 0) := by
    rw [List.getD_eq_getElem?_getD, hk.2 i hi]; rfl
  rw [hg, ← find_wait i U.reverse, List.reverse_reverse]
theorem same_new (n : Nat) : SameD (newD n) (newR n) := by
  refine ⟨rfl, rfl, rfl, [], [], rfl, by simp, by simp, by simp [newR], rfl, by simp [newD, newR], fun i hi => ?_⟩
  simp only [newD, newR] at *
  rw [List.getElem?_replicate, if_pos hi]
  rfl
theorem SameD.start {d : DevV} {r : RefD} (h : SameD d r) : SameD { d with down := false } { r with down := false } := by
  obtain ⟨_, h2, h3, h4⟩ := h
  exact ⟨rfl, h2, h3, h4⟩
def armR (r : RefD) (n : Int) (m : Nat) : RefD := if r.down then r else { r with fuse := max 0 n, mask := m }
theorem SameD.arm {d : DevV} {r : RefD} (h : SameD d r) (n : Int) (m : Nat) : SameD (armD d n m) (armR r n m) := by
  unfold armD armR
  by_cases hd : d.down = true
  · rw [if_pos hd, if_pos (by rw [← h.down]; exact hd)]; exact h
  · rw [if_neg hd, if_neg (by rw [← h.down]; exact hd)]
    obtain ⟨h1, h2, h3, h4⟩ := h
    exact ⟨h1, rfl, rfl, h4⟩
end Go.Proofs.Ytnkdlmmdaagonaa
