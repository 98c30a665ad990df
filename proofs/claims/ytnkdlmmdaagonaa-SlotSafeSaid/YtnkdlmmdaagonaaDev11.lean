/- block.Device: what Read answers, over the writes that wait. -/
import Derived.Test.YtnkdlmmdaagonaaDev9
import Derived.Test.YtnkdlmmdaagonaaDev10
namespace Go.Proofs.Ytnkdlmmdaagonaa
open Go.RowKit
/-- A write that waits, with its block: number, block, bytes. -/
abbrev WrE (W0 : World) := { x : Nat × Nat × List UInt8 // BlkAt W0 x.2.1 5 (bcells x.2.2).toArray ∧ x.2.2.length = 128 }
def fiE {W0 : World} (e : WrE W0) : Nat := e.1.1
def fvE {W0 : World} (e : WrE W0) : Value := .slice (some ⟨e.1.2.1, 0, none⟩) 128 128
theorem elemsE {W0 : World} : ∀ (wait : List (Nat × List UInt8)) (ws : List (Nat × Value)), ws.length = wait.length → (∀ (j : Nat) (x : Nat × List UInt8), wait[j]? = some x → ∃ v, ws[j]? = some (x.1, v) ∧ slotB W0 v x.2) →
    ∃ es : List (WrE W0), waitC ws = es.flatMap (wC fiE fvE) ∧ es.map (fun e => (e.1.1, e.1.2.2)) = wait
  | [], [], _, _ => ⟨[], rfl, rfl⟩
  | [], _ :: _, h, _ => by simp at h
  | _ :: _, [], h, _ => by simp at h
  | x :: l, y :: ws, h, hw => by
    obtain ⟨es, h1, h2⟩ := elemsE l ws (by simpa using h) fun j u hj => by simpa using hw (j + 1) u (by simpa using hj)
    obtain ⟨v, e1, a, e2, e3, e4⟩ := hw 0 x rfl
    simp at e1
    refine ⟨⟨(x.1, a, x.2), e3, e4⟩ :: es, ?_, ?_⟩
    · unfold waitC at h1 ⊢
      rw [List.flatMap_cons, List.flatMap_cons, h1, e1, e2]
      rfl
    · rw [List.map_cons, h2]
theorem take_snocD {α : Type} {l : List α} {k : Nat} {x : α} (h : l[k]? = some x) : l.take (k + 1) = l.take k ++ [x] := by
  obtain ⟨hk, rfl⟩ := List.getElem?_eq_some_iff.1 h
  exact List.take_succ_eq_append_getElem hk
theorem backW_rev {E : Type} (z : E) (es : List E) : ∀ k, k ≤ es.length → (backW z es k).map (·.2) = es.reverse.take k
  | 0, _ => by simp [backW]
  | k + 1, h => by
    have hg : es.reverse[k]? = some (es.getD (es.length - 1 - k) z) := by
      rw [List.getElem?_reverse (by omega), List.getD_eq_getElem?_getD, List.getElem?_eq_getElem (by omega)]; rfl
    rw [backW_succ, List.map_append, backW_rev z es k (by omega), take_snocD hg]
    rfl
theorem find_skipD {α : Type} {p : α → Bool} : ∀ {l m : List α}, l.all (fun y => !p y) = true → (l ++ m).find? p = m.find? p
  | [], _, _ => rfl
  | x :: l, m, h => by
    simp only [List.all_cons, Bool.and_eq_true, Bool.not_eq_true'] at h
    rw [List.cons_append, List.find?_cons, h.1]
    exact find_skipD h.2
theorem find_map {W0 : World} (j : Nat) : ∀ es : List (WrE W0), ((es.map fun e => (e.1.1, e.1.2.2)).find? fun x => x.1 == j).map (·.2) = (es.find? fun e => fiE e == j).map fun e => e.1.2.2
  | [] => rfl
  | e :: l => by
    rw [List.map_cons, List.find?_cons, List.find?_cons]
    have ih := find_map j l
    by_cases h : e.1.1 == j
    · have h2 : (fiE e == j) = true := h
      rw [h2]; simp [h]
    · have h2 : (fiE e == j) = false := by rw [Bool.eq_false_iff]; exact h
      have h3 : (e.1.1 == j) = false := h2
      rw [h2, h3]; exact ih
/-- A round has found one: it is what Read answers. -/
def hitE {W0 : World} (j : Nat) (pre : List (Nat × WrE W0)) : Prop := ∃ q x, pre = q ++ [x] ∧ q.all (fun y => !(fiE y.2 == j)) = true ∧ (fiE x.2 == j) = true
def lastE {W0 : World} (pre : List (Nat × WrE W0)) : List UInt8 := (pre.getLast?.map fun x => x.2.1.2.2).getD []
theorem block_hit {W0 : World} {d : DevV} {z : WrE W0} {es : List (WrE W0)} {j k : Nat} (he : es.map (fun e => (e.1.1, e.1.2.2)) = d.wait) (hk : k ≤ es.length) (h : hitE j (backW z es k)) : blockD d j = lastE (backW z es k) := by
  obtain ⟨q, x, h1, h2, h3⟩ := h
  have hm := backW_rev z es k hk
  rw [h1] at hm ⊢
  have hl : lastE (q ++ [x]) = x.2.1.2.2 := by unfold lastE; simp
  rw [hl]
  unfold blockD
  rw [← he, ← List.map_reverse, find_map]
  have hr : es.reverse = q.map (·.2) ++ (x.2 :: es.reverse.drop k) := by
    have := (List.take_append_drop k es.reverse).symm
    rw [← hm] at this
    simpa using this
  rw [hr, find_skipD (by rw [List.all_map]; exact h2), List.find?_cons, h3]
  rfl
theorem block_miss {W0 : World} {d : DevV} {z : WrE W0} {es : List (WrE W0)} {j : Nat} (he : es.map (fun e => (e.1.1, e.1.2.2)) = d.wait) (h : (backW z es es.length).all (fun y => !(fiE y.2 == j)) = true) : blockD d j = d.kept.getD j [] := by
  have hm := backW_rev z es es.length (Nat.le_refl _)
  rw [List.take_of_length_le (by simp)] at hm
  unfold blockD
  rw [← he, ← List.map_reverse, find_map]
  have := find_skipD (p := fun e : WrE W0 => fiE e == j) (l := (backW z es es.length).map (·.2)) (m := []) (by rw [List.all_map]; exact h)
  rw [List.append_nil, hm] at this
  rw [this]
  rfl
end Go.Proofs.Ytnkdlmmdaagonaa
