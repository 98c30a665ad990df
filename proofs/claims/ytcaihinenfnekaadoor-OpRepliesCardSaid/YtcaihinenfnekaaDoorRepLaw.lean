/- Replies: what is written is read, and what is read is written (no program). -/
import Derived.Test.YtcaihinenfnekaaDoorOpRefG
import Derived.Test.YtcaihinenfnekaaDoorOpLaw
namespace Go.Proofs.YtcaihinenfnekaaDoor
open Go.RowKit

theorem rTexts_ok {r : Rd} {long : Int} : ∀ (n : Nat), (rTexts r long n).1.e = 0 → r.e = 0 ∧ r.bs = (rTexts r long n).2.flatMap textB ++ (rTexts r long n).1.bs ∧ ∀ s ∈ (rTexts r long n).2, s.size < 65536 ∧ (s.size : Int) ≤ max 0 long
  | 0, h => ⟨h, by simp [rTexts], fun s hs => by simp [rTexts] at hs⟩
  | n + 1, h => by
    simp only [rTexts] at h ⊢
    cases hq : rText (rTexts r long n).1 long with
    | mk r1 x =>
      rw [hq] at h
      obtain ⟨h1, h2, h3, h4⟩ := rText_ok hq h
      obtain ⟨g1, g2, g3⟩ := rTexts_ok n h1
      refine ⟨g1, ?_, ?_⟩
      · rw [List.flatMap_append, List.append_assoc]
        simp only [List.flatMap_cons, List.flatMap_nil, List.append_nil]
        rw [← h2]; exact g2
      · intro s hs
        rw [List.mem_append] at hs
        rcases hs with hs | hs
        · exact g3 s hs
        · simp at hs; subst hs; rw [mkS_size]; exact ⟨h3, h4⟩
theorem rRow_back {r r1 : Rd} {most long : Int} {l : List ByteArray} (h : rRow r most long = (r1, l)) (h0 : r1.e = 0) : r.e = 0 ∧ r.bs = rowB l ++ r1.bs ∧ (l.length : Int) ≤ max 0 most ∧ l.length < 65536 ∧ ∀ s ∈ l, s.size < 65536 ∧ (s.size : Int) ≤ max 0 long := by
  unfold rRow at h
  cases hq : rCount r most with
  | mk q n =>
    rw [hq] at h
    simp only [] at h
    have e1 : (rTexts q long n).1 = r1 := congrArg Prod.fst h
    rw [e1, if_pos h0] at h
    have e2 : (rTexts q long n).2 = l := congrArg Prod.snd h
    obtain ⟨g1, g2, g3⟩ := rTexts_ok n (by rw [e1]; exact h0)
    have hlen := rTexts_len q long n
    rw [e2] at g2 g3 hlen
    rw [e1] at g2
    obtain ⟨k1, k2, k3, k4⟩ := rCount_ok hq g1
    refine ⟨k1, ?_, by rw [hlen]; exact k4, by omega, g3⟩
    rw [k2, g2]
    unfold rowB
    rw [hlen, Nat.min_eq_left (by omega), List.take_of_length_le (by omega), List.append_assoc]
theorem repGet_ok {b : List UInt8} {e : Nat} {l : List ByteArray} (h : repGet b = ((e, l), 0)) : e < 256 ∧ repB e l = b ∧ l.length ≤ 400 ∧ ∀ s ∈ l, s.size ≤ 400 := by
  unfold repGet at h
  split at h
  · rename_i h0
    obtain ⟨h1, h2⟩ := rEnd_zero h0
    unfold repR3 at h1 h2
    cases hq : rNum ⟨b, 0⟩ 1 with
    | mk q k =>
      have hr1 : repR1 b = if 18 < k then rFail q 4 else q := by unfold repR1; rw [hq]
      rw [hq] at h h1 h2
      simp only [] at h1 h2
      cases hw : rRow (repR1 b) 400 400 with
      | mk r2 l2 =>
        rw [hw] at h h1 h2
        cases h
        simp only [] at h1 h2
        show k < 256 ∧ repB k l2 = b ∧ l2.length ≤ 400 ∧ ∀ s ∈ l2, s.size ≤ 400
        by_cases hc : k ≠ 0 ∧ 0 < l2.length
        · rw [if_pos hc] at h1; exact absurd h1 (rFail_e _ (by decide))
        · rw [if_neg hc] at h1 h2
          obtain ⟨g1, g2, g3, _, g5⟩ := rRow_back hw h1
          rw [hr1] at g1 g2
          by_cases h18 : 18 < k
          · rw [if_pos h18] at g1; exact absurd g1 (rFail_e _ (by decide))
          · rw [if_neg h18] at g1 g2
            obtain ⟨_, k2, _⟩ := rNum_ok hq g1
            simp only [] at k2
            refine ⟨by omega, ?_, by omega, fun s hs => by have := (g5 s hs).2; omega⟩
            rw [k2, g2, h2, List.append_nil]
            unfold repB
            by_cases he : k = 0
            · rw [if_pos he]
            · rw [if_neg he]
              have : l2 = [] := by
                rcases l2 with _ | ⟨x, l2⟩
                · rfl
                · exact absurd ⟨he, by simp⟩ hc
              rw [this]
  · rename_i h0
    exact absurd (congrArg Prod.snd h) h0
theorem repGet_put {e : Nat} {l : List ByteArray} (he : e < 19) (hl : l.length ≤ 400) (hs : ∀ s ∈ l, s.size ≤ 400) : repGet (repB e l) = ((e, if e = 0 then l else []), 0) := by
  have h1 : rNum ⟨repB e l, 0⟩ 1 = (⟨rowB (if e = 0 then l else []), 0⟩, e) := by
    unfold repB
    rw [rNum_app]
    rw [show e % 256 ^ 1 = e by omega]
  have h2 : repR1 (repB e l) = ⟨rowB (if e = 0 then l else []), 0⟩ := by unfold repR1; rw [h1, if_neg (by simp only []; omega)]
  have h3 : rRow (repR1 (repB e l)) 400 400 = (⟨[], 0⟩, if e = 0 then l else []) := by
    rw [h2]
    have := rRow_app (if e = 0 then l else []) [] 400 400 (by split; omega; simp) (by split; omega; simp) (fun s hs' => by
      split at hs'
      · have := hs s hs'; omega
      · simp at hs')
    rwa [List.append_nil] at this
  have h4 : repR3 (repB e l) = ⟨[], 0⟩ := by
    unfold repR3
    rw [h1, h3, if_neg]
    rintro ⟨h5, h6⟩
    simp only [] at h5 h6
    rw [if_neg h5] at h6; simp at h6
  unfold repGet
  rw [h4, if_pos (show rEnd ⟨[], 0⟩ = 0 from rfl), h1, h3]
theorem repB_repR {e : Nat} {l : List ByteArray} (hl : l.length ≤ 65535) (hs : ∀ s ∈ l, s.size ≤ 65535) : repR e l = repB e l := by
  unfold repR repB
  rw [rowR_eq (by split; exact hl; simp) (fun s hs' => by
    split at hs'
    · exact hs s hs'
    · simp at hs')]
theorem sumSz_few : ∀ (l : List ByteArray) (k : Nat), (∀ s ∈ l, s.size ≤ k) → sumSz l ≤ (k + 2) * l.length
  | [], k, _ => by simp [sumSz]
  | s :: l, k, h => by
    have h1 := h s (by simp)
    have h2 := sumSz_few l k (fun x hx => h x (by simp [hx]))
    simp only [sumSz, List.map_cons, List.sum_cons, List.length_cons, Nat.mul_add] at *
    omega
end Go.Proofs.YtcaihinenfnekaaDoor
