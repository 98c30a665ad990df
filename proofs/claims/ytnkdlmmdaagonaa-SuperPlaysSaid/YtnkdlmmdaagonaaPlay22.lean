/- SuperPlays: what one act does (no program). -/
import Derived.Test.YtnkdlmmdaagonaaSupR4
import Derived.Test.YtnkdlmmdaagonaaSupR5
import Derived.Test.YtnkdlmmdaagonaaOpenActS
namespace Go.Proofs.Ytnkdlmmdaagonaa
open Go.RowKit
theorem SameD.save {d : DevV} {r : RefD} (h : SameD d r) (s : SuV) : SameD (saveD d s).1 (saveR r s).1 ∧ (saveD d s).2 = (saveR r s).2 := by
  unfold saveD saveR
  by_cases hc : checkS s ≠ 0
  · rw [if_pos hc, if_pos hc]; exact ⟨h, rfl⟩
  · rw [if_neg hc, if_neg hc]
    obtain ⟨h1, h2⟩ := h.put (s.seq % 2 : Nat) (mkS (superB s))
    rw [mkS_data] at h1 h2
    rw [h2]
    by_cases h0 : (putR r (s.seq % 2 : Nat) (mkS (superB s))).2 ≠ 0
    · rw [if_pos h0, if_pos h0]; exact ⟨h1, h2⟩
    · rw [if_neg h0, if_neg h0]; exact h1.flush
/-- Bounds of the reference's device. -/
structure RefB (k : Nat) (r : RefD) : Prop where
  len : r.l.length ≤ k
  fuse : r.fuse ≤ 9223372036854775807
  mask : r.mask ≤ 18446744073709551615
theorem RefB.up {k m : Nat} {r : RefD} (h : RefB k r) (hk : k ≤ m) : RefB m r := ⟨Nat.le_trans h.len hk, h.fuse, h.mask⟩
theorem RefB.cut {k : Nat} {r : RefD} (h : RefB k r) (m : Nat) : RefB k (cutR m r) := by
  unfold cutR
  split
  · exact h
  · exact ⟨Nat.le_trans (cutP_le m r.l).1 h.len, by simp only; omega, h.mask⟩
theorem RefB.burn {k : Nat} {r : RefD} (h : RefB k r) : RefB k (burnR r).1 := by
  unfold burnR
  split
  · exact h
  · split
    · exact h.cut _
    · exact ⟨h.len, by have := h.fuse; simp only; omega, h.mask⟩
theorem RefB.put {k : Nat} {r : RefD} (h : RefB k r) (i : Int) (b : ByteArray) : RefB (k + 1) (putR r i b).1 := by
  unfold putR
  split
  · exact h.up (by omega)
  · split
    · exact h.up (by omega)
    · split
      · exact h.up (by omega)
      · split
        · exact h.burn.up (by omega)
        · have := h.burn
          exact ⟨by simp only [List.length_append, List.length_cons, List.length_nil]; have := h.len; omega, this.fuse, this.mask⟩
theorem RefB.flush {k : Nat} {r : RefD} (h : RefB k r) : RefB k (flushR r).1 := by
  unfold flushR
  split
  · exact h
  · split
    · exact h.burn
    · exact ⟨by simp only [List.length_map]; exact h.len, h.burn.fuse, h.burn.mask⟩
theorem RefB.save {k : Nat} {r : RefD} (h : RefB k r) (s : SuV) : RefB (k + 1) (saveR r s).1 := by
  unfold saveR
  split
  · exact h.up (by omega)
  · split
    · exact h.put _ _
    · exact (h.put _ _).flush
theorem RefB.arm {k : Nat} {r : RefD} (h : RefB k r) (n : Int) (m : Nat) (hn : n ≤ 9223372036854775807) (hm : m ≤ 18446744073709551615) : RefB k (armR r n m) := by
  unfold armR
  split
  · exact h
  · exact ⟨h.len, by simp only; omega, hm⟩
theorem RefB.start {k : Nat} {r : RefD} (h : RefB k r) : RefB k { r with down := false } := ⟨h.len, h.fuse, h.mask⟩
theorem SameD.wait {d : DevV} {r : RefD} (h : SameD d r) : d.wait.length ≤ r.l.length := by
  obtain ⟨_, _, _, K, U, hl, _, _, _, hw, _⟩ := h
  rw [hl, hw, List.length_map, List.length_append]; omega
end Go.Proofs.Ytnkdlmmdaagonaa
