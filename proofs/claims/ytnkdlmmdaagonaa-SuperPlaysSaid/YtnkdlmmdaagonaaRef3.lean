/- Contracts, several texts in one. -/
import Derived.Test.YtnkdlmmdaagonaaRef1
import Derived.Test.YtnkdlmmdaagonaaRd3
import Derived.Test.YtnkdlmmdaagonaaCalmH
import Derived.Laws.ResultCell
/- Contracts of interrexref01's Reader. -/
namespace Go.Proofs.Ytnkdlmmdaagonaa
open Go.RowKit

def Rd.inv (r : Rd) : Prop := r.e ≠ 0 → r.bs = []
/-- A Reader of the reference, as a value. -/
def Rd.val (r : Rd) : Value := .agg #[.string (mkS r.bs), .int .i64 (r.e : Nat)]
theorem rFail_inv {r : Rd} (k : Nat) (h : r.inv) : (rFail r k).inv := by
  unfold rFail Rd.inv at *
  split
  · intro _; rfl
  · exact h
theorem rTake_inv {r : Rd} (n : Nat) (h : r.inv) : (rTake r n).1.inv := by
  unfold rTake
  split
  · exact rFail_inv 2 h
  · intro e; simp only at e ⊢; rw [h e]; simp
theorem fr_set2 (W : World) (b : Nat) (u v : Value) : Fr (eqB b) W ((W.setCell ⟨b, 0, none⟩ u).setCell ⟨b, 1, none⟩ v) :=
  Fr.setCell (S := eqB b) (Fr.setCell (S := eqB b) (Fr.refl _ W) (p := ⟨b, 0, none⟩) (Or.inl rfl) u) (p := ⟨b, 1, none⟩) (Or.inl rfl) v
theorem set2 {w : World} {b : Nat} {x y u v : Value} {t : TypeId} (h : w.heap[b]? = some (.cells #[x, y] t (0, 0))) : ((w.setCell ⟨b, 0, none⟩ u).setCell ⟨b, 1, none⟩ v).heap[b]? = some (.cells #[u, v] t (0, 0)) := two_set1 (two_set0 h)
theorem cells2 {W : World} {b : Nat} {x y : Value} {t : TypeId} (h : W.heap[b]? = some (.cells #[x, y] t (0, 0))) : W.cell? ⟨b, 0, none⟩ = some x ∧ W.cell? ⟨b, 1, none⟩ = some y := by
  constructor <;> simp [World.cell?, h]
theorem heap_al {W : World} {b : Nat} {o : Obj} (h : W.heap[b]? = some o) (o' : Obj) : (W.alloc o').heap[b]? = some o := ((Fr.refl noB W).alloc o').heap h id
theorem fr_cells {W w1 : World} {S : Nat → Prop} (f : Fr S W w1) {b : Nat} {c : Array Value} {t : TypeId} (h : W.heap[b]? = some (.cells c t (0, 0))) (hS : ¬ S b) :
    (∀ j v, c[j]? = some v → w1.cell? ⟨b, j, none⟩ = some v) ∧ ∀ j, w1.frozen? ⟨b, j, none⟩ = false := by
  have h1 := f.heap h hS
  exact ⟨fun j v hv => by simp [World.cell?, h1, hv], fun j => by simp [World.frozen?, h1]⟩
theorem heap_two (w : World) (A B : Obj) : ((w.alloc A).alloc B).heap[w.heap.size]? = some A ∧ ((w.alloc A).alloc B).heap[w.heap.size + 1]? = some B := by
  constructor
  · rw [Below.heap_alloc _ _ _ (by simp)]; exact heap_alloc_new w A
  · have := heap_alloc_new (w.alloc A) B
    rwa [World.size_alloc] at this
theorem mkS_from (bs : List UInt8) (k : Nat) : (mkS bs).extract k bs.length = mkS (bs.drop k) := by
  apply ByteArray.ext; apply Array.ext'
  simp [mkS]
  exact List.take_of_length_le (by simp)
theorem mkS_to (bs : List UInt8) (k : Nat) : (mkS bs).extract 0 k = mkS (bs.take k) := by
  apply ByteArray.ext; apply Array.ext'
  simp [mkS]

end Go.Proofs.Ytnkdlmmdaagonaa
/- Contracts of interrexref01: Value, Get, GetTruth. -/
namespace Go.Proofs.Ytnkdlmmdaagonaa
open Go.RowKit

theorem u64_wrap (x : Nat) (h : x < 18446744073709551616) : IntKind.u64.wrap (x : Int) = x := by
  rw [IntKind.wrap_u64]; omega
theorem leV_drop {bs : List UInt8} {m : Nat} (h : m < bs.length) : leV (bs.drop m) = (bs.getD m 0).toNat + 256 * leV (bs.drop (m + 1)) := by
  rw [List.drop_eq_getElem_cons h, leV, List.getD_eq_getElem?_getD, List.getElem?_eq_getElem h]
  rfl
theorem value_step {bs : List UInt8} {m : Nat} (hl : bs.length ≤ 8) (h : m < bs.length) :
    IntKind.u64.wrap (IntKind.u64.wrap ((leV (bs.drop (m + 1)) : Nat) * 256 : Int) + IntKind.u64.wrap (((bs[m]?.getD 0).toNat : Nat) : Int)) = ((leV (bs.drop m) : Nat) : Int) := by
  have h1 := leV_drop h
  have h2 := leV_lt (bs.drop m)
  have h3 : (256 : Nat) ^ (bs.drop m).length ≤ 256 ^ 8 := Nat.pow_le_pow_right (by omega) (by rw [List.length_drop]; omega)
  have h4 : (256 : Nat) ^ 8 = 18446744073709551616 := by decide
  rw [List.getD_eq_getElem?_getD] at h1
  have hb := (bs[m]?.getD 0).toNat_lt
  generalize (bs[m]?.getD 0).toNat = b at *
  generalize leV (bs.drop (m + 1)) = x at *
  generalize leV (bs.drop m) = y at *
  have e1 : ((x : Int) * 256) = ((x * 256 : Nat) : Int) := (Int.natCast_mul x 256).symm
  rw [e1, u64_wrap _ (by omega), u64_wrap _ (by omega), ← Int.natCast_add, u64_wrap _ (by omega)]
  omega
set_option maxRecDepth 100000 in
set_option maxHeartbeats 1600000 in
theorem valueR_calls (w : World) (bs : List UInt8) (hl : bs.length ≤ 8) : Calls Try.prog 70 #[.string (mkS bs)] w (fun e w' => e = .returned (.int .u64 (leV bs : Nat)) ∧ w = w') := by
  have hsz : (mkS bs).size = bs.length := mkS_size _
  have hx : ∀ (j : Nat) (h : j < (mkS bs).size), ((mkS bs)[j]'h).toNat = (bs.getD j 0).toNat := fun j h => by
    rw [hsz] at h
    rw [List.getD_eq_getElem?_getD, List.getElem?_eq_getElem h]
    simp [mkS]
    rfl
  generalize hS : mkS bs = s at *
  generalize hn : bs.length = n at *
  have HS := hid hS; clear hS
  have HN := hid hn; clear hn
  have HZ := hid hsz
  have h64 : s.size ≤ 8 := by omega
  clear hsz
  go_enter Try.func70, Try.ntmps70
  go_wp2_with fail
  go_loop [3, 4] (fun x i => ∃ j : Nat, j ≤ s.size ∧ i = .int .i64 ((j : Int) - 1) ∧ x = .int .u64 (leV (bs.drop j) : Nat)) (fun _ i => (intOf i + 1).toNat)
  case atStart =>
    refine ⟨s.size, Nat.le_refl _, rfl, ?_⟩
    rw [HZ.out, List.drop_eq_nil_of_le (by rw [HN.out]; exact Nat.le_refl _)]
    rfl
  case round =>
    obtain ⟨j, hj, rfl, rfl⟩ := hrel
    by_cases hj0 : j = 0
    · subst hj0
      go_wp2_with fail
      go_ret
      exact ⟨rfl, rfl⟩
    · obtain ⟨m, rfl⟩ : ∃ m, j = m + 1 := ⟨j - 1, by omega⟩
      have hst := value_step (bs := bs) (m := m) (by rw [HN.out]; exact hl) (by rw [HN.out, ← HZ.out]; omega)
      have HST := hid hst; clear hst
      go_wp2_with fail
      go_round
      case rel => exact ⟨m, by omega, rfl, by rw [HST.out]⟩
      case measure => simp [intOf]

end Go.Proofs.Ytnkdlmmdaagonaa
