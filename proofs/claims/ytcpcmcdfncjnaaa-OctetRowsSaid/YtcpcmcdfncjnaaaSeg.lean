/- The cells of a struct of so many cells, one by one. Written by a small program. -/
import Derived.Test.YtcpcmcdfncjnaaaMem
namespace Go.Proofs.Ytcpcmcdfncjnaaa
open Go.RowKit
def SegAt (w : World) (a : Addr) (xs : List Value) : Prop := ∀ j u, xs[j]? = some u → w.cell? (a.add j) = some u
theorem add_add' (a : Addr) (i j : Nat) : (a.add i).add j = a.add (i + j) := by
  unfold Addr.add
  by_cases hi : i = 0 <;> by_cases hj : j = 0 <;> simp [hi, hj, Nat.add_assoc]
theorem flat_get {α β : Type} (f : α → List β) (m : Nat) (hf : ∀ a, (f a).length = m) : ∀ (l : List α) (k j : Nat) (a : α) (b : β), l[k]? = some a → (f a)[j]? = some b → (l.flatMap f)[k * m + j]? = some b
  | [], k, j, a, b, h, _ => by simp at h
  | c :: l, 0, j, a, b, h, hb => by
    simp at h; subst h
    have : j < (f c).length := (List.getElem?_eq_some_iff.1 hb).1
    rw [List.flatMap_cons, Nat.zero_mul, Nat.zero_add, List.getElem?_append_left this]; exact hb
  | c :: l, k + 1, j, a, b, h, hb => by
    rw [List.flatMap_cons, List.getElem?_append_right (by rw [hf]; rw [Nat.succ_mul]; omega), hf, show (k + 1) * m + j - m = k * m + j from by rw [Nat.succ_mul]; omega]
    exact flat_get f m hf l k j a b (by simpa using h) hb
theorem RowAt.seg {α : Type} {w : World} {ad : Addr} {l : List α} {f : α → List Value} (h : RowAt w (some ad) (l.flatMap f)) (m : Nat) (hf : ∀ a, (f a).length = m) {k : Nat} {a : α} (hk : l[k]? = some a) : SegAt w (ad.add (k * m)) (f a) := fun j u hu => by
  rw [add_add']
  exact h.cell (flat_get f m hf l k j a u hk hu)
theorem RowAt.some_flat {α : Type} {w : World} {A : Option Addr} {l : List α} {f : α → List Value} (h : RowAt w A (l.flatMap f)) (hf : ∀ a, f a ≠ []) {k : Nat} {a : α} (hk : l[k]? = some a) : ∃ ad, A = some ad := by
  have hm := List.mem_of_getElem? hk
  refine h.some_of ?_
  rcases l with _ | ⟨b, l⟩
  · simp at hm
  · have := hf b
    rw [List.flatMap_cons, List.length_append]
    have : 0 < (f b).length := List.length_pos_iff.2 this
    omega
theorem SegAt.fr {S : Nat → Prop} {w w' : World} {a : Addr} {xs : List Value} (h : SegAt w a xs) (f : Fr S w w') (hS : ¬ S a.block) : SegAt w' a xs := fun j u hu => f.cell (h j u hu) (by rw [add_block]; exact hS)
theorem SegAt.c1 {w : World} {a : Addr} {v0 : Value} (R : SegAt w a [v0]) : w.cell? a = some v0 :=
  R 0 _ rfl
theorem SegAt.c2 {w : World} {a : Addr} {v0 v1 : Value} (R : SegAt w a [v0, v1]) : w.cell? a = some v0 ∧ w.cell? ⟨a.block, a.off + 1, none⟩ = some v1 :=
  ⟨R 0 _ rfl, R 1 _ rfl⟩
theorem SegAt.c3 {w : World} {a : Addr} {v0 v1 v2 : Value} (R : SegAt w a [v0, v1, v2]) : w.cell? a = some v0 ∧ w.cell? ⟨a.block, a.off + 1, none⟩ = some v1 ∧ w.cell? ⟨a.block, a.off + 2, none⟩ = some v2 :=
  ⟨R 0 _ rfl, R 1 _ rfl, R 2 _ rfl⟩
theorem SegAt.c4 {w : World} {a : Addr} {v0 v1 v2 v3 : Value} (R : SegAt w a [v0, v1, v2, v3]) : w.cell? a = some v0 ∧ w.cell? ⟨a.block, a.off + 1, none⟩ = some v1 ∧ w.cell? ⟨a.block, a.off + 2, none⟩ = some v2 ∧ w.cell? ⟨a.block, a.off + 3, none⟩ = some v3 :=
  ⟨R 0 _ rfl, R 1 _ rfl, R 2 _ rfl, R 3 _ rfl⟩
theorem SegAt.c5 {w : World} {a : Addr} {v0 v1 v2 v3 v4 : Value} (R : SegAt w a [v0, v1, v2, v3, v4]) : w.cell? a = some v0 ∧ w.cell? ⟨a.block, a.off + 1, none⟩ = some v1 ∧ w.cell? ⟨a.block, a.off + 2, none⟩ = some v2 ∧ w.cell? ⟨a.block, a.off + 3, none⟩ = some v3 ∧ w.cell? ⟨a.block, a.off + 4, none⟩ = some v4 :=
  ⟨R 0 _ rfl, R 1 _ rfl, R 2 _ rfl, R 3 _ rfl, R 4 _ rfl⟩
theorem SegAt.c6 {w : World} {a : Addr} {v0 v1 v2 v3 v4 v5 : Value} (R : SegAt w a [v0, v1, v2, v3, v4, v5]) : w.cell? a = some v0 ∧ w.cell? ⟨a.block, a.off + 1, none⟩ = some v1 ∧ w.cell? ⟨a.block, a.off + 2, none⟩ = some v2 ∧ w.cell? ⟨a.block, a.off + 3, none⟩ = some v3 ∧ w.cell? ⟨a.block, a.off + 4, none⟩ = some v4 ∧ w.cell? ⟨a.block, a.off + 5, none⟩ = some v5 :=
  ⟨R 0 _ rfl, R 1 _ rfl, R 2 _ rfl, R 3 _ rfl, R 4 _ rfl, R 5 _ rfl⟩
theorem SegAt.c7 {w : World} {a : Addr} {v0 v1 v2 v3 v4 v5 v6 : Value} (R : SegAt w a [v0, v1, v2, v3, v4, v5, v6]) : w.cell? a = some v0 ∧ w.cell? ⟨a.block, a.off + 1, none⟩ = some v1 ∧ w.cell? ⟨a.block, a.off + 2, none⟩ = some v2 ∧ w.cell? ⟨a.block, a.off + 3, none⟩ = some v3 ∧ w.cell? ⟨a.block, a.off + 4, none⟩ = some v4 ∧ w.cell? ⟨a.block, a.off + 5, none⟩ = some v5 ∧ w.cell? ⟨a.block, a.off + 6, none⟩ = some v6 :=
  ⟨R 0 _ rfl, R 1 _ rfl, R 2 _ rfl, R 3 _ rfl, R 4 _ rfl, R 5 _ rfl, R 6 _ rfl⟩
theorem SegAt.c8 {w : World} {a : Addr} {v0 v1 v2 v3 v4 v5 v6 v7 : Value} (R : SegAt w a [v0, v1, v2, v3, v4, v5, v6, v7]) : w.cell? a = some v0 ∧ w.cell? ⟨a.block, a.off + 1, none⟩ = some v1 ∧ w.cell? ⟨a.block, a.off + 2, none⟩ = some v2 ∧ w.cell? ⟨a.block, a.off + 3, none⟩ = some v3 ∧ w.cell? ⟨a.block, a.off + 4, none⟩ = some v4 ∧ w.cell? ⟨a.block, a.off + 5, none⟩ = some v5 ∧ w.cell? ⟨a.block, a.off + 6, none⟩ = some v6 ∧ w.cell? ⟨a.block, a.off + 7, none⟩ = some v7 :=
  ⟨R 0 _ rfl, R 1 _ rfl, R 2 _ rfl, R 3 _ rfl, R 4 _ rfl, R 5 _ rfl, R 6 _ rfl, R 7 _ rfl⟩
theorem SegAt.c9 {w : World} {a : Addr} {v0 v1 v2 v3 v4 v5 v6 v7 v8 : Value} (R : SegAt w a [v0, v1, v2, v3, v4, v5, v6, v7, v8]) : w.cell? a = some v0 ∧ w.cell? ⟨a.block, a.off + 1, none⟩ = some v1 ∧ w.cell? ⟨a.block, a.off + 2, none⟩ = some v2 ∧ w.cell? ⟨a.block, a.off + 3, none⟩ = some v3 ∧ w.cell? ⟨a.block, a.off + 4, none⟩ = some v4 ∧ w.cell? ⟨a.block, a.off + 5, none⟩ = some v5 ∧ w.cell? ⟨a.block, a.off + 6, none⟩ = some v6 ∧ w.cell? ⟨a.block, a.off + 7, none⟩ = some v7 ∧ w.cell? ⟨a.block, a.off + 8, none⟩ = some v8 :=
  ⟨R 0 _ rfl, R 1 _ rfl, R 2 _ rfl, R 3 _ rfl, R 4 _ rfl, R 5 _ rfl, R 6 _ rfl, R 7 _ rfl, R 8 _ rfl⟩
theorem SegAt.c10 {w : World} {a : Addr} {v0 v1 v2 v3 v4 v5 v6 v7 v8 v9 : Value} (R : SegAt w a [v0, v1, v2, v3, v4, v5, v6, v7, v8, v9]) : w.cell? a = some v0 ∧ w.cell? ⟨a.block, a.off + 1, none⟩ = some v1 ∧ w.cell? ⟨a.block, a.off + 2, none⟩ = some v2 ∧ w.cell? ⟨a.block, a.off + 3, none⟩ = some v3 ∧ w.cell? ⟨a.block, a.off + 4, none⟩ = some v4 ∧ w.cell? ⟨a.block, a.off + 5, none⟩ = some v5 ∧ w.cell? ⟨a.block, a.off + 6, none⟩ = some v6 ∧ w.cell? ⟨a.block, a.off + 7, none⟩ = some v7 ∧ w.cell? ⟨a.block, a.off + 8, none⟩ = some v8 ∧ w.cell? ⟨a.block, a.off + 9, none⟩ = some v9 :=
  ⟨R 0 _ rfl, R 1 _ rfl, R 2 _ rfl, R 3 _ rfl, R 4 _ rfl, R 5 _ rfl, R 6 _ rfl, R 7 _ rfl, R 8 _ rfl, R 9 _ rfl⟩
theorem SegAt.c11 {w : World} {a : Addr} {v0 v1 v2 v3 v4 v5 v6 v7 v8 v9 v10 : Value} (R : SegAt w a [v0, v1, v2, v3, v4, v5, v6, v7, v8, v9, v10]) : w.cell? a = some v0 ∧ w.cell? ⟨a.block, a.off + 1, none⟩ = some v1 ∧ w.cell? ⟨a.block, a.off + 2, none⟩ = some v2 ∧ w.cell? ⟨a.block, a.off + 3, none⟩ = some v3 ∧ w.cell? ⟨a.block, a.off + 4, none⟩ = some v4 ∧ w.cell? ⟨a.block, a.off + 5, none⟩ = some v5 ∧ w.cell? ⟨a.block, a.off + 6, none⟩ = some v6 ∧ w.cell? ⟨a.block, a.off + 7, none⟩ = some v7 ∧ w.cell? ⟨a.block, a.off + 8, none⟩ = some v8 ∧ w.cell? ⟨a.block, a.off + 9, none⟩ = some v9 ∧ w.cell? ⟨a.block, a.off + 10, none⟩ = some v10 :=
  ⟨R 0 _ rfl, R 1 _ rfl, R 2 _ rfl, R 3 _ rfl, R 4 _ rfl, R 5 _ rfl, R 6 _ rfl, R 7 _ rfl, R 8 _ rfl, R 9 _ rfl, R 10 _ rfl⟩
theorem SegAt.c12 {w : World} {a : Addr} {v0 v1 v2 v3 v4 v5 v6 v7 v8 v9 v10 v11 : Value} (R : SegAt w a [v0, v1, v2, v3, v4, v5, v6, v7, v8, v9, v10, v11]) : w.cell? a = some v0 ∧ w.cell? ⟨a.block, a.off + 1, none⟩ = some v1 ∧ w.cell? ⟨a.block, a.off + 2, none⟩ = some v2 ∧ w.cell? ⟨a.block, a.off + 3, none⟩ = some v3 ∧ w.cell? ⟨a.block, a.off + 4, none⟩ = some v4 ∧ w.cell? ⟨a.block, a.off + 5, none⟩ = some v5 ∧ w.cell? ⟨a.block, a.off + 6, none⟩ = some v6 ∧ w.cell? ⟨a.block, a.off + 7, none⟩ = some v7 ∧ w.cell? ⟨a.block, a.off + 8, none⟩ = some v8 ∧ w.cell? ⟨a.block, a.off + 9, none⟩ = some v9 ∧ w.cell? ⟨a.block, a.off + 10, none⟩ = some v10 ∧ w.cell? ⟨a.block, a.off + 11, none⟩ = some v11 :=
  ⟨R 0 _ rfl, R 1 _ rfl, R 2 _ rfl, R 3 _ rfl, R 4 _ rfl, R 5 _ rfl, R 6 _ rfl, R 7 _ rfl, R 8 _ rfl, R 9 _ rfl, R 10 _ rfl, R 11 _ rfl⟩
theorem SegAt.c13 {w : World} {a : Addr} {v0 v1 v2 v3 v4 v5 v6 v7 v8 v9 v10 v11 v12 : Value} (R : SegAt w a [v0, v1, v2, v3, v4, v5, v6, v7, v8, v9, v10, v11, v12]) : w.cell? a = some v0 ∧ w.cell? ⟨a.block, a.off + 1, none⟩ = some v1 ∧ w.cell? ⟨a.block, a.off + 2, none⟩ = some v2 ∧ w.cell? ⟨a.block, a.off + 3, none⟩ = some v3 ∧ w.cell? ⟨a.block, a.off + 4, none⟩ = some v4 ∧ w.cell? ⟨a.block, a.off + 5, none⟩ = some v5 ∧ w.cell? ⟨a.block, a.off + 6, none⟩ = some v6 ∧ w.cell? ⟨a.block, a.off + 7, none⟩ = some v7 ∧ w.cell? ⟨a.block, a.off + 8, none⟩ = some v8 ∧ w.cell? ⟨a.block, a.off + 9, none⟩ = some v9 ∧ w.cell? ⟨a.block, a.off + 10, none⟩ = some v10 ∧ w.cell? ⟨a.block, a.off + 11, none⟩ = some v11 ∧ w.cell? ⟨a.block, a.off + 12, none⟩ = some v12 :=
  ⟨R 0 _ rfl, R 1 _ rfl, R 2 _ rfl, R 3 _ rfl, R 4 _ rfl, R 5 _ rfl, R 6 _ rfl, R 7 _ rfl, R 8 _ rfl, R 9 _ rfl, R 10 _ rfl, R 11 _ rfl, R 12 _ rfl⟩
theorem SegAt.c14 {w : World} {a : Addr} {v0 v1 v2 v3 v4 v5 v6 v7 v8 v9 v10 v11 v12 v13 : Value} (R : SegAt w a [v0, v1, v2, v3, v4, v5, v6, v7, v8, v9, v10, v11, v12, v13]) : w.cell? a = some v0 ∧ w.cell? ⟨a.block, a.off + 1, none⟩ = some v1 ∧ w.cell? ⟨a.block, a.off + 2, none⟩ = some v2 ∧ w.cell? ⟨a.block, a.off + 3, none⟩ = some v3 ∧ w.cell? ⟨a.block, a.off + 4, none⟩ = some v4 ∧ w.cell? ⟨a.block, a.off + 5, none⟩ = some v5 ∧ w.cell? ⟨a.block, a.off + 6, none⟩ = some v6 ∧ w.cell? ⟨a.block, a.off + 7, none⟩ = some v7 ∧ w.cell? ⟨a.block, a.off + 8, none⟩ = some v8 ∧ w.cell? ⟨a.block, a.off + 9, none⟩ = some v9 ∧ w.cell? ⟨a.block, a.off + 10, none⟩ = some v10 ∧ w.cell? ⟨a.block, a.off + 11, none⟩ = some v11 ∧ w.cell? ⟨a.block, a.off + 12, none⟩ = some v12 ∧ w.cell? ⟨a.block, a.off + 13, none⟩ = some v13 :=
  ⟨R 0 _ rfl, R 1 _ rfl, R 2 _ rfl, R 3 _ rfl, R 4 _ rfl, R 5 _ rfl, R 6 _ rfl, R 7 _ rfl, R 8 _ rfl, R 9 _ rfl, R 10 _ rfl, R 11 _ rfl, R 12 _ rfl, R 13 _ rfl⟩
theorem SegAt.c15 {w : World} {a : Addr} {v0 v1 v2 v3 v4 v5 v6 v7 v8 v9 v10 v11 v12 v13 v14 : Value} (R : SegAt w a [v0, v1, v2, v3, v4, v5, v6, v7, v8, v9, v10, v11, v12, v13, v14]) : w.cell? a = some v0 ∧ w.cell? ⟨a.block, a.off + 1, none⟩ = some v1 ∧ w.cell? ⟨a.block, a.off + 2, none⟩ = some v2 ∧ w.cell? ⟨a.block, a.off + 3, none⟩ = some v3 ∧ w.cell? ⟨a.block, a.off + 4, none⟩ = some v4 ∧ w.cell? ⟨a.block, a.off + 5, none⟩ = some v5 ∧ w.cell? ⟨a.block, a.off + 6, none⟩ = some v6 ∧ w.cell? ⟨a.block, a.off + 7, none⟩ = some v7 ∧ w.cell? ⟨a.block, a.off + 8, none⟩ = some v8 ∧ w.cell? ⟨a.block, a.off + 9, none⟩ = some v9 ∧ w.cell? ⟨a.block, a.off + 10, none⟩ = some v10 ∧ w.cell? ⟨a.block, a.off + 11, none⟩ = some v11 ∧ w.cell? ⟨a.block, a.off + 12, none⟩ = some v12 ∧ w.cell? ⟨a.block, a.off + 13, none⟩ = some v13 ∧ w.cell? ⟨a.block, a.off + 14, none⟩ = some v14 :=
  ⟨R 0 _ rfl, R 1 _ rfl, R 2 _ rfl, R 3 _ rfl, R 4 _ rfl, R 5 _ rfl, R 6 _ rfl, R 7 _ rfl, R 8 _ rfl, R 9 _ rfl, R 10 _ rfl, R 11 _ rfl, R 12 _ rfl, R 13 _ rfl, R 14 _ rfl⟩
theorem SegAt.c16 {w : World} {a : Addr} {v0 v1 v2 v3 v4 v5 v6 v7 v8 v9 v10 v11 v12 v13 v14 v15 : Value} (R : SegAt w a [v0, v1, v2, v3, v4, v5, v6, v7, v8, v9, v10, v11, v12, v13, v14, v15]) : w.cell? a = some v0 ∧ w.cell? ⟨a.block, a.off + 1, none⟩ = some v1 ∧ w.cell? ⟨a.block, a.off + 2, none⟩ = some v2 ∧ w.cell? ⟨a.block, a.off + 3, none⟩ = some v3 ∧ w.cell? ⟨a.block, a.off + 4, none⟩ = some v4 ∧ w.cell? ⟨a.block, a.off + 5, none⟩ = some v5 ∧ w.cell? ⟨a.block, a.off + 6, none⟩ = some v6 ∧ w.cell? ⟨a.block, a.off + 7, none⟩ = some v7 ∧ w.cell? ⟨a.block, a.off + 8, none⟩ = some v8 ∧ w.cell? ⟨a.block, a.off + 9, none⟩ = some v9 ∧ w.cell? ⟨a.block, a.off + 10, none⟩ = some v10 ∧ w.cell? ⟨a.block, a.off + 11, none⟩ = some v11 ∧ w.cell? ⟨a.block, a.off + 12, none⟩ = some v12 ∧ w.cell? ⟨a.block, a.off + 13, none⟩ = some v13 ∧ w.cell? ⟨a.block, a.off + 14, none⟩ = some v14 ∧ w.cell? ⟨a.block, a.off + 15, none⟩ = some v15 :=
  ⟨R 0 _ rfl, R 1 _ rfl, R 2 _ rfl, R 3 _ rfl, R 4 _ rfl, R 5 _ rfl, R 6 _ rfl, R 7 _ rfl, R 8 _ rfl, R 9 _ rfl, R 10 _ rfl, R 11 _ rfl, R 12 _ rfl, R 13 _ rfl, R 14 _ rfl, R 15 _ rfl⟩
end Go.Proofs.Ytcpcmcdfncjnaaa
